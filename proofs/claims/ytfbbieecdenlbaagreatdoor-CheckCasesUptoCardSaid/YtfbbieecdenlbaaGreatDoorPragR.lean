/-
  pragma.asks, Read of bytes without a mark; Off, Knows of rules that say nothing.
  pragma.Read of bytes without a mark.
-/
import Derived.Test.YtfbbieecdenlbaaGreatDoorBookN
import Derived.Test.YtfbbieecdenlbaaGreatDoorLines
import Derived.Test.YtfbbieecdenlbaaGreatDoorLinesP
import Derived.Test.YtfbbieecdenlbaaGreatDoorShelf
import Derived.Deep.Cut
namespace Go.Proofs.YtfbbieecdenlbaaGreatDoor
open Go.RowKit

/-- What lies in the program's own variable of the longest search. -/
def EnvL (w : World) : Prop := ∃ m : Int, w.cell? ⟨0, 0, none⟩ = some (.int .i64 m)
theorem EnvL.only {w w' : World} {S : List Nat} (h : EnvL w) (ho : Only S w w') (h0 : 0 ∉ S) : EnvL w' := by
  obtain ⟨m, hm⟩ := h
  exact ⟨m, ho.cell_some hm h0⟩
def askM : List UInt8 := [115, 112, 101, 108, 108, 58]
/-- No mark stands in a text. -/
def NoAsk (s : List UInt8) : Prop := (Lib.cut s askM).2.2 = false

set_option maxRecDepth 100000 in
set_option maxHeartbeats 1000000 in
theorem asks_none (s : List UInt8) (w : World) (he : EnvL w) (hl : s.length ≤ 65536) (hn : NoAsk s) :
    Calls Tryz.prog 100 #[.string ⟨s.toArray⟩] w fun e w' => e = .returned (.slice none 0 0) ∧ Only [] w w' := by
  obtain ⟨m, hm⟩ := he
  have h := Tryz.strings_Cut ⟨s.toArray⟩ ⟨#[115, 112, 101, 108, 108, 58]⟩ m w (by rw [size_bytes]; omega) hm
  have HC := Lib.hid h
  have HN := Lib.hid hn
  clear h hn
  go_enter Tryz.func100, Tryz.ntmps100
  go_wp2_with fail
  refine wp_loop_rounds 1 ?_
  rw [rounds_succ]
  go_wp2_with fail
  refine HC.out.mono ?_
  rintro e w1 ⟨rfl, n, rfl⟩
  have hn2 : (Lib.cut s [115, 112, 101, 108, 108, 58]).2.2 = false := HN.out
  go_wp2_with fail
  go_ret
  exact ⟨rfl, (Only.refl _ _).drewN _⟩

theorem zeroBool (w : World) : (zeroValue 4).run Tryz.prog w = .ok (.bool false) w := by kernel_rfl
/-- Block b is a file's rules, that say nothing. -/
def QuietAt (w : World) (b : Nat) : Prop := ∃ mb, w.heap[b]? = some (.cells #[.slice none 0 0, .map (some mb)] 202 (0, 0)) ∧ MapAt w mb 0 (fun _ => none)
theorem QuietAt.only {w w' : World} {b : Nat} (h : QuietAt w b) (ho : Only [] w w') : QuietAt w' b := by
  obtain ⟨mb, h1, h2⟩ := h
  exact ⟨mb, ho.keep h1 (by simp), h2.only ho (by simp)⟩

set_option maxRecDepth 100000 in
theorem off_quiet (b : Nat) (i : Int) (w : World) (h : QuietAt w b) :
    Calls Tryz.prog 66 #[.pointer (some ⟨b, 0, none⟩), .int .i64 i] w fun e w' => e = .returned (.bool false) ∧ w = w' := by
  obtain ⟨mb, h1, h2⟩ := h
  have c0 : w.cell? ⟨b, 0, none⟩ = some (.slice none 0 0) := cell_blk h1 0
  clear h1 h2
  go_enter Tryz.func66, Tryz.ntmps66
  go_wp2_with fail
  refine wp_loop_rounds 1 ?_
  rw [rounds_succ]
  go_wp2_with fail
  go_ret
  exact ⟨rfl, rfl⟩

set_option maxRecDepth 100000 in
set_option maxHeartbeats 1000000 in
theorem knows_quiet (b : Nat) (s : List UInt8) (w : World) (h : QuietAt w b) (hl : s.length ≤ 10000) :
    Calls Tryz.prog 67 #[.pointer (some ⟨b, 0, none⟩), .string ⟨s.toArray⟩] w fun e w' => e = .returned (.bool false) ∧ Only [] w w' := by
  obtain ⟨mb, h1, h2⟩ := h
  have hfl := foldU_len s
  have c1 : w.cell? ⟨b, 1, none⟩ = some (.map (some mb)) := cell_blk h1 1
  have HFOLD : Hid (∀ w', Calls Tryz.prog 19 #[.string ⟨s.toArray⟩] w' fun e w'' => e = .returned (.string ⟨(foldU s).toArray⟩) ∧ Only [] w' w'') := Lib.hid fun w' => fold_any s w' (by omega)
  generalize foldU s = x at *
  have HLK : Hid (∀ w', Only [] w w' → (Instr.lookup 36 (.map (some mb)) (.string ⟨x.toArray⟩) false).run Tryz.prog w' = .ok (.bool false) w') := Lib.hid fun w' ho => lookup_run Tryz.underlying36 (zeroBool _) (h2.only ho (by simp)) x (by unfold maxLen; omega)
  clear h1 h2
  go_enter Tryz.func67, Tryz.ntmps67
  go_wp2_with fail
  refine wp_region_calm w [] (by kernel_rfl) (by kernel_rfl) (Only.refl _ w) ?_
  repeat (first | go_big_quiet_skip | (go_big_quiet_want; go_big_quiet_op; first | go_big_quiet_on | (refine ⟨_, fun _ _ => rfl, ?_⟩; go_big_quiet_on) | (apply Exists.intro; refine ⟨fun w' hw' => ?_, ?_⟩; (rw [hw'.cell_some c1 (by simp)]; exact ⟨rfl, rfl⟩); go_big_quiet_on) | (apply Exists.intro; refine ⟨fun w' hw' => ?_, ?_⟩; (rw [HLK.out w' hw']; exact ⟨rfl, rfl⟩); go_big_quiet_on) | go_big_quiet_call ((intro hw; go_at_call 19; refine (HFOLD.out _).mono ?_; rintro e w4 ⟨rfl, ho4⟩; exact ⟨rfl, hw.trans ho4⟩))))
  refine wpQuiet_nil ?_
  intro w3 ho3
  go_wp2_with fail
  go_ret
  exact ⟨rfl, ho3⟩
end Go.Proofs.YtfbbieecdenlbaaGreatDoor
namespace Go.Proofs.YtfbbieecdenlbaaGreatDoor
open Go.RowKit

def lineL (l : List UInt8) (j : Nat) : List UInt8 := (l.drop (bg l j)).take (lend l j - bg l j)
def NoAskL (l : List UInt8) : Prop := ∀ j, j < nLines l → NoAsk (lineL l j)

set_option maxRecDepth 100000 in
set_option maxHeartbeats 4000000 in
theorem read_quiet (l : List UInt8) (v : Value) (w : World) (hv : BytesV w v l) (hl : l.length ≤ 65536) (he : EnvL w) (hno : NoAskL l) :
    Calls Tryz.prog 62 #[v] w fun e w' => ∃ b, e = .returned (.pointer (some ⟨b, 0, none⟩)) ∧ QuietAt w' b ∧ Only [] w w' := by
  have HV := Lib.hid hv
  have HE := Lib.hid he
  have HNO := Lib.hid hno
  obtain ⟨pb, cb, rfl, hcb, hmb, hkb⟩ := hv
  have HKB := Lib.hid hkb
  have hmm := @run_makeMap Tryz.prog
  have hnl : nLines l ≤ l.length + 1 := by
    have := begs_length l l.length
    unfold nLines nb
    split <;> omega
  have hnl' : ((nLines l : Nat) : Int) ≤ 65537 := by omega
  have hline := line_ok l
  have HLN := Lib.hid hline
  clear hkb he hno hline
  go_enter Tryz.func62, Tryz.ntmps62
  go_upto_region 2 with (fail)
  have ho1 : Only [] w ((w.alloc (.map #[] 0)).alloc (.cells #[.slice none 0 0, .map (some w.heap.size)] 202)) := ((Only.refl _ _).alloc _).alloc _
  have hq1 : QuietAt ((w.alloc (.map #[] 0)).alloc (.cells #[.slice none 0 0, .map (some w.heap.size)] 202)) (w.heap.size + 1) :=
    ⟨_, alloc_new' _ (by simp), (MapAt.made w).only ((Only.refl [] _).alloc _) (by simp)⟩
  generalize hw1 : (w.alloc (.map #[] 0)).alloc (.cells #[.slice none 0 0, .map (some w.heap.size)] 202) = w1 at *
  have HO1 := Lib.hid ho1
  have HQ1 := Lib.hid hq1
  clear hw1 ho1 hq1 hmm
  go_wp2_with fail
  refine (lnew_any l _ w1 (HV.out.only HO1.out) (by omega)).mono ?_
  rintro e w2 ⟨bi, rfl, ho2, hi2⟩
  have HO2 := Lib.hid (HO1.out.trans ho2)
  have HQ2 := Lib.hid (HQ1.out.only ho2)
  have HI2 := Lib.hid hi2
  clear ho2 hi2
  go_wp2_with fail
  refine (lines_any w1.heap.size bi l w2 HI2.out (by omega)).mono ?_
  rintro e w3 ⟨rfl, ho3⟩
  have HO3 := Lib.hid (HO2.out.trans ho3)
  have HQ3 := Lib.hid (HQ2.out.only ho3)
  have HI3 := Lib.hid (HI2.out.keep ho3 (by simp))
  clear ho3
  go_wp2_with fail
  go_loopw [5, 6, 20] (fun ov nv iv wr => ov = .bool false ∧ nv = .bool false ∧ Only [] w3 wr ∧ ∃ k : Nat, k ≤ nLines l ∧ iv = .int .i64 k) (fun _ _ iv _ => nLines l - (intOf iv).toNat)
  case atStart => exact ⟨rfl, rfl, Only.refl _ _, 0, by omega, rfl⟩
  case round =>
    obtain ⟨rfl, rfl, ho, k, hk, rfl⟩ := hrel
    have HO := Lib.hid ho
    by_cases hlt : k < nLines l
    · obtain ⟨l1, l2⟩ := HLN.out k hlt
      obtain ⟨bb, ob, rfl, hcell⟩ := HKB.out (by omega)
      have HS := Lib.hid (span_any w1.heap.size bi l k wr (HI3.out.keep ho (by simp)) (by omega) hlt (by omega))
      have HN := Lib.hid (HNO.out k hlt)
      have hline : lineL l k = (l.drop (bg l k)).take (lend l k - bg l k) := rfl
      rw [hline] at HN
      have HCELL := Lib.hid hcell
      clear ho hcell hline
      obtain ⟨N, hN⟩ : ∃ N, lend l k = bg l k + (N + 1) := ⟨lend l k - bg l k - 1, by omega⟩
      rw [hN, Nat.add_sub_cancel_left] at HN HS
      rw [hN] at l1 l2
      clear hN
      generalize bg l k = A at *
      have hA : (A : Int) + (N + 1) ≤ l.length := by omega
      have hll : (l.length : Int) ≤ 65536 := by omega
      have hcbl : (l.length : Int) ≤ cb := by omega
      have hk1 : (k : Int) + 1 ≤ 65537 := by omega
      go_wp2_with fail
      refine HS.out.mono ?_
      rintro e w4 ⟨rfl, ho4⟩
      have HO4 := Lib.hid (HO.out.trans ho4)
      clear ho4
      go_upto_region 8 with (fail)
      have ho5 : Only [] w4 (w4.alloc (.cells #[.int .i64 A, .int .i64 ((N : Int) + 1)] 47)) := (Only.refl _ _).alloc _
      have hq5 := alloc_new w4 (.cells #[.int .i64 A, .int .i64 ((N : Int) + 1)] 47)
      generalize hw5 : w4.alloc (.cells #[.int .i64 A, .int .i64 ((N : Int) + 1)] 47) = w5 at *
      have q0 : w5.cell? ⟨w4.heap.size, 0, none⟩ = some (.int .i64 A) := cell_blk hq5 0
      have q1 : w5.cell? ⟨w4.heap.size, 1, none⟩ = some (.int .i64 ((N : Int) + 1)) := cell_blk hq5 1
      have HO5 := Lib.hid (HO4.out.trans ho5)
      clear hw5 hq5 ho5
      have hbv := BytesV.part (w := w5) (fun j hj => (HO3.out.trans HO5.out).cell_some (HCELL.out j hj) (by simp)) hmb A (n := N + 1) (by omega) (by omega)
      have hcv := conv_bytes (P := Tryz.prog) hbv 44 9 5 Tryz.underlying44 Tryz.underlying5 Tryz.underlying9
      have hsl : ((l.drop A).take (N + 1)).length ≤ 65536 := by rw [List.length_take]; omega
      have HASK := Lib.hid (asks_none ((l.drop A).take (N + 1)) w5 (HE.out.only (HO3.out.trans HO5.out) (by simp)) hsl HN.out)
      clear hbv hsl
      generalize (l.drop A).take (N + 1) = S at *
      go_wp2_with fail
      refine HASK.out.mono ?_
      rintro e w6 ⟨rfl, ho6⟩
      have HO6 := Lib.hid (HO5.out.trans ho6)
      clear ho6 hcv q0 q1
      go_wp2_with fail
      refine wp_loop_rounds 1 ?_
      rw [rounds_succ]
      go_wp2_with fail
      go_roundw
      case rel => exact ⟨rfl, rfl, HO6.out, k + 1, by omega, by go_num⟩
      case measure => simp [intOf]; omega
    · obtain rfl : k = nLines l := by omega
      clear ho
      go_wp2_with fail
      go_ret
      exact ⟨_, rfl, HQ3.out.only HO.out, HO3.out.trans HO.out⟩
end Go.Proofs.YtfbbieecdenlbaaGreatDoor
