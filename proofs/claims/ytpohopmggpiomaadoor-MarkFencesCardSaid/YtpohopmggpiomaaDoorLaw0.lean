/-
  redpenlaw12.Awake: the chapter's example.
-/
import Derived.Test.YtpohopmggpiomaaDoorLex
import Derived.Test.YtpohopmggpiomaaDoorSegs
import Derived.Lib.SlBytesConst
namespace Go.Proofs.YtpohopmggpiomaaDoor
open Go.RowKit

/-- Where nothing stands in pointed brackets. -/
def P0 (_to k : Nat) (L : List Int) : Nat × List Int := (k + 1, L)

theorem P0_ok (l : List UInt8) (to : Nat) : POk (P0 to) l to := fun k L hk _ => ⟨by simp [P0], by simp [P0]; omega, rfl⟩

theorem lex_plain (l : List UInt8) (v : Value) (w : World) (hE : Env w) (hv : BytesV w v l) (hl : l.length ≤ 65536) (hno : ∀ k, k < l.length → bt l k ≠ 60) :
    Calls Tryd.prog 8 #[v] w (SheetNew w (markL P0 l)) := by
  by_cases h0 : 0 < l.length
  · exact lex_some P0 l v w hE hv hl h0 (fun to _ => P0_ok l to) (fun bd bs bl b o c to k L' w' hto hk h60 => absurd h60 (hno k (by omega)))
  · have : l = [] := List.eq_nil_of_length_eq_zero (by omega)
    subst this
    exact lex_nil P0 v w hE hv

def awakeB : List UInt8 := [97, 32, 91, 98, 93, 40, 99, 41, 32, 96, 100, 96]

theorem awake_labels : markL P0 awakeB = [1, 1, 1, 1, 1, 2, 2, 2, 1, 4, 4, 4] := by decide +kernel
theorem awake_segs : segsTo [1, 1, 1, 1, 1, 2, 2, 2, 1, 4, 4, 4] 12 = [(1, 0, 5), (2, 5, 3), (1, 8, 1), (4, 9, 3)] := by decide +kernel


/-- The segments that a sheet hands out, as they lie in memory. -/
theorem segs_mem {w : World} {base : Nat} {v : Value} {l : List (Int × Nat × Nat)} (h : w.ownsRow base 35 3 v l.length (segCells l)) (hn : 0 < l.length) :
    ∃ g cap, v = .slice (some ⟨g, 0, none⟩) l.length cap ∧ base ≤ g ∧ l.length ≤ cap ∧ ∀ (k : Nat) (s : Int × Nat × Nat), l[k]? = some s → w.cell? ⟨g, k * 3, none⟩ = some (.int .u8 s.1) ∧ w.cell? ⟨g, k * 3 + 1, none⟩ = some (.int .i64 s.2.1) ∧ w.cell? ⟨g, k * 3 + 2, none⟩ = some (.int .i64 s.2.2) := by
  obtain ⟨g, cap, rfl, hg, hc, hm⟩ := ownsRow_some h hn
  refine ⟨g, cap, rfl, hg, hc, fun k s hs => ?_⟩
  have hk := (List.getElem?_eq_some_iff.1 hs).1
  have hsplit : segCells l = segCells (l.take k) ++ segCells [s] ++ segCells (l.drop (k + 1)) := by
    rw [← segCells_append, ← segCells_append]
    congr 1
    have hs' : l[k] = s := (List.getElem?_eq_some_iff.1 hs).2
    conv => lhs; rw [← List.take_append_drop k l, List.drop_eq_getElem_cons hk, hs']
    simp
  have hlen : (segCells (l.take k)).length = k * 3 := by rw [segCells_length, List.length_take]; congr 1; omega
  have key : ∀ j (hj : j < 3), (segCells l)[k * 3 + j]? = (segCells [s])[j]? := by
    intro j hj
    rw [hsplit, List.append_assoc, List.getElem?_append_right (by omega), hlen, List.getElem?_append_left (by simp [segCells]; omega)]
    congr 1; omega
  refine ⟨?_, ?_, ?_⟩
  · have := key 0 (by omega)
    rw [Nat.add_zero] at this
    rw [h.cellAt _ (by omega), this]; rfl
  · rw [h.cellAt _ (by omega), key 1 (by omega)]; rfl
  · rw [h.cellAt _ (by omega), key 2 (by omega)]; rfl

set_option maxRecDepth 100000 in
set_option maxHeartbeats 1000000 in
theorem awake_any (w : World) (hE : Env w) :
    Calls Tryd.prog 7 #[] w fun e w' => e = .returned (.bool true) ∧ Only [] w w' := by
  have kc := fun (w : World) (C : Array Value) (n c : Nat) => Lib.run_convert_bytes_const (P := Tryd.prog) w 22 5 C n c Tryd.underlying22 Tryd.underlying5
  have HE := Lib.hid hE
  clear hE
  go_enter Tryd.func7, Tryd.ntmps7
  go_wp2_with fail
  have hv : BytesV (w.alloc (.cells #[.int .u8 97, .int .u8 32, .int .u8 91, .int .u8 98, .int .u8 93, .int .u8 40, .int .u8 99, .int .u8 41, .int .u8 32, .int .u8 96, .int .u8 100, .int .u8 96] 5 (12, 13))) (.slice (some ⟨w.heap.size, 0, none⟩) 12 12) awakeB := by
    refine ⟨_, 12, rfl, by decide, by unfold maxLen; omega, fun _ => ⟨_, 0, rfl, fun k hk => ?_⟩⟩
    rw [Nat.zero_add, cell_blk (alloc_new w _)]
    have hk' : k < 12 := hk
    match k, hk' with
    | 0, _ => rfl
    | 1, _ => rfl
    | 2, _ => rfl
    | 3, _ => rfl
    | 4, _ => rfl
    | 5, _ => rfl
    | 6, _ => rfl
    | 7, _ => rfl
    | 8, _ => rfl
    | 9, _ => rfl
    | 10, _ => rfl
    | 11, _ => rfl
  have ho := (Only.refl [] w).alloc (.cells #[.int .u8 97, .int .u8 32, .int .u8 91, .int .u8 98, .int .u8 93, .int .u8 40, .int .u8 99, .int .u8 41, .int .u8 32, .int .u8 96, .int .u8 100, .int .u8 96] 5 (12, 13))
  generalize (w.alloc (.cells #[.int .u8 97, .int .u8 32, .int .u8 91, .int .u8 98, .int .u8 93, .int .u8 40, .int .u8 99, .int .u8 41, .int .u8 32, .int .u8 96, .int .u8 100, .int .u8 96] 5 (12, 13))) = w1 at hv ho ⊢
  refine (lex_plain awakeB _ w1 (HE.out.keep0 ho) hv (by decide) (by decide)).mono ?_
  rintro e w2 ⟨bs, bl, rfl, ho2, -, -, hs2⟩
  rw [awake_labels] at hs2
  have HO := Lib.hid (ho.trans ho2)
  have HS := Lib.hid hs2
  clear hv ho ho2 hs2 kc
  go_wp2_with fail
  refine (segs_any bs bl _ w2 HS.out).mono ?_
  rintro e w3 ⟨v, rfl, ho3, hv⟩
  rw [show segsTo [1, 1, 1, 1, 1, 2, 2, 2, 1, 4, 4, 4] ([1, 1, 1, 1, 1, 2, 2, 2, 1, 4, 4, 4] : List Int).length = [(1, 0, 5), (2, 5, 3), (1, 8, 1), (4, 9, 3)] from awake_segs] at hv
  obtain ⟨g, cap, rfl, -, hcap, hmem⟩ := segs_mem hv (by decide)
  obtain ⟨m0, m1, m2⟩ := hmem 1 (2, 5, 3) rfl
  obtain ⟨n0, n1, n2⟩ := hmem 3 (4, 9, 3) rfl
  have HO3 := Lib.hid (HO.out.trans ho3)
  have hcap' : 4 ≤ cap := hcap
  clear hmem hv ho3 hcap
  simp only [List.length_cons, List.length_nil, Nat.zero_add, Nat.reduceAdd, Nat.reduceMul] at m0 m1 m2 n0 n1 n2 ⊢
  go_wp2_with fail
  go_ret
  exact ⟨rfl, HO3.out⟩
end Go.Proofs.YtpohopmggpiomaaDoor
