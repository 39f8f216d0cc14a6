/-
  check.Format of a name without an end; check.Book.File of a plain text without a mark.
-/
import Derived.Test.YtfbbieecdenlbaaGreatDoorPlacP
import Derived.Test.YtfbbieecdenlbaaGreatDoorBookN
namespace Go.Proofs.YtfbbieecdenlbaaGreatDoor
open Go.RowKit

set_option maxRecDepth 100000 in
set_option maxHeartbeats 1000000 in
theorem lastdot_x (w : World) : Calls Tryz.prog 94 #[.string ⟨#[120]⟩, .int .u8 46] w fun e w' => e = .returned (.int .i64 (-1)) ∧ w = w' := by
  go_enter Tryz.func94, Tryz.ntmps94
  go_wp2_with fail
  refine wp_loop_rounds 2 ?_
  rw [rounds_succ]
  go_wp2_with fail
  rw [rounds_succ]
  go_wp2_with fail
  go_ret
  exact ⟨rfl, rfl⟩

set_option maxRecDepth 100000 in
theorem format_x (w : World) : Calls Tryz.prog 34 #[.string ⟨#[120]⟩] w fun e w' => e = .returned (.int .u8 0) ∧ w = w' := by
  have HL := Lib.hid (lastdot_x w)
  have HS : Hid (Calls Tryz.prog 58 #[.string ⟨#[120]⟩, .int .u8 46] w fun e w' => e = .returned (.int .i64 (-1)) ∧ w = w') := Lib.hid (by
    go_enter Tryz.func58, Tryz.ntmps58
    go_wp2_with fail
    refine HL.out.mono ?_
    rintro e w1 ⟨rfl, rfl⟩
    go_wp2_with fail
    go_ret
    exact ⟨rfl, rfl⟩)
  go_enter Tryz.func34, Tryz.ntmps34
  go_wp2_with fail
  refine HS.out.mono ?_
  rintro e w1 ⟨rfl, rfl⟩
  go_wp2_with fail
  go_ret
  exact ⟨rfl, rfl⟩

structure FindR where
  word : WordR
  line : Nat
  col : Nat
  fix : List UInt8
def findCells (num : Int) (l : List FindR) : List Value := l.flatMap fun x => [.int .i64 num, .string ⟨x.word.text.toArray⟩, .int .i64 x.word.at', .int .i64 x.word.len, .bool x.word.lit, .int .i64 (x.line : Int), .int .i64 (x.col : Int), .slice none 0 0, .string ⟨x.fix.toArray⟩]
theorem findCells_append (num : Int) (a b : List FindR) : findCells num (a ++ b) = findCells num a ++ findCells num b := by simp [findCells]
def findL (b : List UInt8) (F : List UInt8 → Option (List (List UInt8))) (x : WordR) : FindR := ⟨x, lineNo b x.at'.toNat, colNo b x.at'.toNat, fixL F x.text⟩
def fileL (b : List UInt8) (N : List Nd) (F : List UInt8 → Option (List (List UInt8))) (W : List WordR) : List FindR := (W.filter fun x => !knowsL N F x.text).map (findL b F)
theorem fileL_take (b : List UInt8) (N : List Nd) (F : List UInt8 → Option (List (List UInt8))) (W : List WordR) (j : Nat) (h : j < W.length) :
    fileL b N F (W.take (j + 1)) = fileL b N F (W.take j) ++ (if knowsL N F W[j].text then [] else [findL b F W[j]]) := by
  unfold fileL
  rw [List.take_succ_eq_append_getElem h, List.filter_append, List.map_append]
  congr 1
  simp only [List.filter_cons, List.filter_nil]
  cases knowsL N F W[j].text <;> simp
theorem fileL_len (b : List UInt8) (N : List Nd) (F : List UInt8 → Option (List (List UInt8))) (W : List WordR) : (fileL b N F W).length ≤ W.length := by
  unfold fileL
  rw [List.length_map]
  exact List.length_filter_le _ _
theorem words_at (b : List UInt8) (least most : Nat) : ∀ x ∈ wordsP b least most, ∃ a : Nat, x.at' = a ∧ a ≤ b.length := by
  intro x hx
  unfold wordsP wordsT at hx
  obtain ⟨r, hr, hx⟩ := List.mem_flatMap.1 hx
  have hrg := runsN_range (runesL (unitsP b)) _ _ r hr
  rw [runesL_length] at hrg
  unfold wordsRun at hx
  obtain ⟨p, hp, rfl⟩ := List.mem_map.1 hx
  have hpr := splitT_range (runesL (unitsP b)) r.1 r.2 (by omega) p (List.mem_filter.1 hp).1
  refine ⟨(unAt (partL (unitsP b) p) 0).2.1, rfl, ?_⟩
  have e : unAt (partL (unitsP b) p) 0 = unAt (unitsP b) p.1 := by
    unfold unAt partL
    rw [List.getD_eq_getElem?_getD, List.getD_eq_getElem?_getD, List.getElem?_take, if_pos (by omega), List.getElem?_drop, Nat.add_zero]
  rw [e]
  have := unitsP_at b p.1 (by omega)
  omega
theorem infoFind : (Tryz.prog.info? 54).map (fun i => (i.zero, i.size, i.bytes)) = some (some (.agg #[.int .i64 0, .string ⟨#[]⟩, .int .i64 0, .int .i64 0, .bool false, .int .i64 0, .int .i64 0, .slice none 0 0, .string ⟨#[]⟩]), 9, 104) := by kernel_rfl
end Go.Proofs.YtfbbieecdenlbaaGreatDoor
