/-
  redpenref01.tail, Next.
-/
import Derived.Test.YtagddjcjapgdaaaGreatDoorUtfR
import Derived.Deep.QuietTactic
import Derived.BigQuiet
namespace Go.Proofs.YtagddjcjapgdaaaGreatDoor
open Go.RowKit

/-- Does the byte at a place go on? -/
def tlB (s : List UInt8) (i : Nat) : Bool := decide (i < s.length) && (decide (128 ≤ bn s i) && decide (bn s i < 192))

set_option maxRecDepth 100000 in
set_option maxHeartbeats 1000000 in
theorem tail_any (b o c : Nat) (s : List UInt8) (w : World) (i : Nat) (hl : s.length ≤ 65536) (hcap : s.length ≤ c) (hcell : ∀ j, j < s.length → w.cell? ⟨b, o + j, none⟩ = some (.int .u8 (bt s j))) :
    Calls Tryz.prog 127 #[.slice (some ⟨b, o, none⟩) s.length c, .int .i64 (i : Int)] w fun e w' => e = .returned (.bool (tlB s i)) ∧ w = w' := by
  by_cases h : i < s.length
  · have k := hcell i h
    rw [bt_bn] at k
    have hd : tlB s i = (decide (128 ≤ bn s i) && decide (bn s i < 192)) := by simp [tlB, h]
    have HD := Lib.hid hd
    have hlen : (i : Int) < s.length := by omega
    have hlen2 : (s.length : Int) ≤ 65536 := by omega
    have hc2 : (i : Int) < c := by omega
    clear hd hcell h
    generalize bn s i = x at *
    by_cases a1 : (128 : Int) ≤ x <;> by_cases a2 : (x : Int) < 192
    all_goals
      have A : Hid ((128 ≤ x ↔ (128 : Int) ≤ x) ∧ (x < 192 ↔ (x : Int) < 192)) := Lib.hid (by omega)
      go_enter Tryz.func127, Tryz.ntmps127
      go_wp2_with fail
      go_ret
      exact ⟨ret_bool (by rw [HD.out]; simp [A.out, a1, a2]), rfl⟩
  · have hd : tlB s i = false := by simp [tlB, h]
    rw [hd]
    have hlen : ¬ (i : Int) < s.length := by omega
    have hlen2 : (s.length : Int) ≤ 65536 := by omega
    clear hd hcell h
    go_enter Tryz.func127, Tryz.ntmps127
    go_wp2_with fail
    go_ret
    exact ⟨rfl, rfl⟩

theorem ret_next {a : Int} {n : Int} {r : Int × Nat} (h : a = r.1) (h' : n = (r.2 : Int)) : Ending.returned (.tuple #[.int .i32 a, .int .i64 n]) = Ending.returned (nextV r) := by
  rw [h, h']; rfl

theorem nextR_nil (p : Option Addr) (c : Nat) (w : World) : Calls Tryz.prog 89 #[.slice p 0 c] w fun e w' => e = .returned (nextV (nextU [])) ∧ Only [] w w' := by
  go_enter Tryz.func89, Tryz.ntmps89
  go_wp2_with fail
  go_ret2
  exact ⟨rfl, Only.refl _ _⟩

set_option maxRecDepth 100000 in
set_option maxHeartbeats 2000000 in
theorem nextR_one (b o c : Nat) (s : List UInt8) (w : World) (hl : s.length ≤ 65536) (h0 : 0 < s.length) (hcap : s.length ≤ c) (hcell : ∀ j, j < s.length → w.cell? ⟨b, o + j, none⟩ = some (.int .u8 (bt s j))) (hb : bn s 0 < 128) :
    Calls Tryz.prog 89 #[.slice (some ⟨b, o, none⟩) s.length c] w fun e w' => e = .returned (nextV (nextU s)) ∧ Only [] w w' := by
  have hne : s ≠ [] := by intro e; rw [e] at h0; simp at h0
  have hl' : (s.length : Int) ≤ 65536 := by omega
  have h0' : (0 : Int) < s.length := by omega
  have hz : ((s.length : Int) == 0) = false := by simp; omega
  have hc0 : w.cell? ⟨b, o, none⟩ = some (.int .u8 (bn s 0 : Int)) := hcell 0 h0
  have k0 : (bn s 0 : Int) ≤ 255 := by have := bn_lt s 0; omega
  have T1 := Lib.hid (tail_any b o c s w 1 hl hcap hcell)
  have T2 := Lib.hid (tail_any b o c s w 2 hl hcap hcell)
  have T3 := Lib.hid (tail_any b o c s w 3 hl hcap hcell)
  have HNE := Lib.hid hne
  have HCELL := Lib.hid hcell
  clear hcell hne hcap
  have HR := Lib.hid (nx_ascii s HNE.out hb)
  have hb' : (bn s 0 : Int) < 128 := by omega
  clear hb
  go_enter Tryz.func89, Tryz.ntmps89
  go_wp2_with fail
  go_ret2
  exact ⟨ret_next (by rw [HR.out]) (by rw [HR.out]; rfl), by first | exact Only.refl _ _ | exact (Only.refl _ _).drewN _⟩

set_option maxRecDepth 100000 in
set_option maxHeartbeats 2000000 in
theorem nextR_bad (b o c : Nat) (s : List UInt8) (w : World) (hl : s.length ≤ 65536) (h0 : 0 < s.length) (hcap : s.length ≤ c) (hcell : ∀ j, j < s.length → w.cell? ⟨b, o + j, none⟩ = some (.int .u8 (bt s j))) (hb : 128 ≤ bn s 0 ∧ bn s 0 < 192 ∨ 248 ≤ bn s 0) :
    Calls Tryz.prog 89 #[.slice (some ⟨b, o, none⟩) s.length c] w fun e w' => e = .returned (nextV (nextU s)) ∧ Only [] w w' := by
  have hne : s ≠ [] := by intro e; rw [e] at h0; simp at h0
  have hl' : (s.length : Int) ≤ 65536 := by omega
  have h0' : (0 : Int) < s.length := by omega
  have hz : ((s.length : Int) == 0) = false := by simp; omega
  have hc0 : w.cell? ⟨b, o, none⟩ = some (.int .u8 (bn s 0 : Int)) := hcell 0 h0
  have k0 : (bn s 0 : Int) ≤ 255 := by have := bn_lt s 0; omega
  have T1 := Lib.hid (tail_any b o c s w 1 hl hcap hcell)
  have T2 := Lib.hid (tail_any b o c s w 2 hl hcap hcell)
  have T3 := Lib.hid (tail_any b o c s w 3 hl hcap hcell)
  have HNE := Lib.hid hne
  have HCELL := Lib.hid hcell
  clear hcell hne hcap
  have HR := Lib.hid (nx_bad s HNE.out (by omega) (by omega))
  have hb' : 128 ≤ (bn s 0 : Int) ∧ (bn s 0 : Int) < 192 ∨ 248 ≤ (bn s 0 : Int) := by omega
  clear hb
  rcases hb' with ⟨h1, h2⟩ | h1
  all_goals
    go_enter Tryz.func89, Tryz.ntmps89
    go_wp2_with fail
    go_ret2
    exact ⟨ret_next (by rw [HR.out]) (by rw [HR.out]; rfl), by first | exact Only.refl _ _ | exact (Only.refl _ _).drewN _⟩

theorem tl_false {s : List UInt8} {i : Nat} (h : tlB s i = false) : ¬ (i < s.length ∧ bn s i / 64 = 2) := by
  have := bn_lt s i
  unfold tlB at h
  simp at h
  intro ⟨h1, h2⟩
  have := h h1 (by omega)
  omega
theorem tl_true {s : List UInt8} {i : Nat} (h : tlB s i = true) : i < s.length ∧ 128 ≤ bn s i ∧ bn s i < 192 := by
  unfold tlB at h
  simpa using h

set_option maxRecDepth 100000 in
set_option maxHeartbeats 2000000 in
theorem nextR_2_no1 (b o c : Nat) (s : List UInt8) (w : World) (hl : s.length ≤ 65536) (h0 : 0 < s.length) (hcap : s.length ≤ c) (hcell : ∀ j, j < s.length → w.cell? ⟨b, o + j, none⟩ = some (.int .u8 (bt s j))) (hb : 192 ≤ bn s 0 ∧ bn s 0 < 224)  (t1 : tlB s 1 = false) :
    Calls Tryz.prog 89 #[.slice (some ⟨b, o, none⟩) s.length c] w fun e w' => e = .returned (nextV (nextU s)) ∧ Only [] w w' := by
  have hne : s ≠ [] := by intro e; rw [e] at h0; simp at h0
  have hl' : (s.length : Int) ≤ 65536 := by omega
  have h0' : (0 : Int) < s.length := by omega
  have hz : ((s.length : Int) == 0) = false := by simp; omega
  have hc0 : w.cell? ⟨b, o, none⟩ = some (.int .u8 (bn s 0 : Int)) := hcell 0 h0
  have k0 : (bn s 0 : Int) ≤ 255 := by have := bn_lt s 0; omega
  have T1 := Lib.hid (tail_any b o c s w 1 hl hcap hcell)
  have T2 := Lib.hid (tail_any b o c s w 2 hl hcap hcell)
  have T3 := Lib.hid (tail_any b o c s w 3 hl hcap hcell)
  have HNE := Lib.hid hne
  have HCELL := Lib.hid hcell
  clear hcell hne hcap
  have hlo : (192 : Int) ≤ bn s 0 := by omega
  have hhi : (bn s 0 : Int) < 224 := by omega
  have tf := tl_false t1
  have HR : Hid (nextU s = (-1, 1)) := Lib.hid (if h2 : 194 ≤ bn s 0 then nx_2n s HNE.out ⟨h2, hb.2⟩ tf else nx_bad s HNE.out (by omega) (by omega))
  have HT1 := Lib.hid t1
  clear tf hb t1
  go_enter Tryz.func89, Tryz.ntmps89
  go_wp2_with fail
  refine T1.out.mono ?_
  rw [HT1.out]
  rintro e w1 ⟨rfl, rfl⟩
  go_wp2_with fail
  go_ret2
  exact ⟨ret_next (by rw [HR.out]) (by rw [HR.out]; rfl), by first | exact Only.refl _ _ | exact (Only.refl _ _).drewN _⟩

set_option maxRecDepth 100000 in
set_option maxHeartbeats 2000000 in
theorem nextR_2_lo (b o c : Nat) (s : List UInt8) (w : World) (hl : s.length ≤ 65536) (h0 : 0 < s.length) (hcap : s.length ≤ c) (hcell : ∀ j, j < s.length → w.cell? ⟨b, o + j, none⟩ = some (.int .u8 (bt s j))) (hb : 192 ≤ bn s 0 ∧ bn s 0 < 224) (t1 : tlB s 1 = true) (hv : ((bn s 0 : Int) - 192) * 64 + (bn s 1 : Int) - 128 < 128) :
    Calls Tryz.prog 89 #[.slice (some ⟨b, o, none⟩) s.length c] w fun e w' => e = .returned (nextV (nextU s)) ∧ Only [] w w' := by
  have hne : s ≠ [] := by intro e; rw [e] at h0; simp at h0
  have hl' : (s.length : Int) ≤ 65536 := by omega
  have h0' : (0 : Int) < s.length := by omega
  have hz : ((s.length : Int) == 0) = false := by simp; omega
  have hc0 : w.cell? ⟨b, o, none⟩ = some (.int .u8 (bn s 0 : Int)) := hcell 0 h0
  have k0 : (bn s 0 : Int) ≤ 255 := by have := bn_lt s 0; omega
  have T1 := Lib.hid (tail_any b o c s w 1 hl hcap hcell)
  have T2 := Lib.hid (tail_any b o c s w 2 hl hcap hcell)
  have T3 := Lib.hid (tail_any b o c s w 3 hl hcap hcell)
  have HNE := Lib.hid hne
  have HCELL := Lib.hid hcell
  clear hcell hne hcap
  have u1 := tl_true t1
  have HR : Hid (nextU s = (-1, 1)) := Lib.hid (nx_bad s HNE.out (by omega) (by omega))
  have hlo : (192 : Int) ≤ bn s 0 := by omega
  have hhi : (bn s 0 : Int) < 224 := by omega
  have hc1 : w.cell? ⟨b, o + 1, none⟩ = some (.int .u8 (bn s 1 : Int)) := HCELL.out 1 u1.1
  have lo1 : (128 : Int) ≤ bn s 1 := by omega
  have hi1 : (bn s 1 : Int) < 192 := by omega
  have ln1 : (1 : Int) < s.length := by omega
  have HT1 := Lib.hid t1
  clear hb t1 u1
  generalize bn s 0 = x0 at *
  generalize bn s 1 = x1 at *
  go_enter Tryz.func89, Tryz.ntmps89
  go_wp2_with fail
  refine T1.out.mono ?_
  rw [HT1.out]
  rintro e w1 ⟨rfl, rfl⟩
  go_wp2_with fail
  go_ret2
  exact ⟨ret_next (by rw [HR.out]) (by rw [HR.out]; rfl), by first | exact Only.refl _ _ | exact (Only.refl _ _).drewN _⟩

set_option maxRecDepth 100000 in
set_option maxHeartbeats 2000000 in
theorem nextR_2_hi (b o c : Nat) (s : List UInt8) (w : World) (hl : s.length ≤ 65536) (h0 : 0 < s.length) (hcap : s.length ≤ c) (hcell : ∀ j, j < s.length → w.cell? ⟨b, o + j, none⟩ = some (.int .u8 (bt s j))) (hb : 192 ≤ bn s 0 ∧ bn s 0 < 224) (t1 : tlB s 1 = true) (hv : 128 ≤ ((bn s 0 : Int) - 192) * 64 + (bn s 1 : Int) - 128) :
    Calls Tryz.prog 89 #[.slice (some ⟨b, o, none⟩) s.length c] w fun e w' => e = .returned (nextV (nextU s)) ∧ Only [] w w' := by
  have hne : s ≠ [] := by intro e; rw [e] at h0; simp at h0
  have hl' : (s.length : Int) ≤ 65536 := by omega
  have h0' : (0 : Int) < s.length := by omega
  have hz : ((s.length : Int) == 0) = false := by simp; omega
  have hc0 : w.cell? ⟨b, o, none⟩ = some (.int .u8 (bn s 0 : Int)) := hcell 0 h0
  have k0 : (bn s 0 : Int) ≤ 255 := by have := bn_lt s 0; omega
  have T1 := Lib.hid (tail_any b o c s w 1 hl hcap hcell)
  have T2 := Lib.hid (tail_any b o c s w 2 hl hcap hcell)
  have T3 := Lib.hid (tail_any b o c s w 3 hl hcap hcell)
  have HNE := Lib.hid hne
  have HCELL := Lib.hid hcell
  clear hcell hne hcap
  have u1 := tl_true t1
  have HR : Hid (nextU s = (((bn s 0 : Int) - 192) * 64 + (bn s 1 : Int) - 128, 2)) := Lib.hid (by rw [nx_2 s HNE.out (by omega) (by omega) (by omega)]; simp only [Prod.mk.injEq, and_true]; omega)
  have hlo : (192 : Int) ≤ bn s 0 := by omega
  have hhi : (bn s 0 : Int) < 224 := by omega
  have hc1 : w.cell? ⟨b, o + 1, none⟩ = some (.int .u8 (bn s 1 : Int)) := HCELL.out 1 u1.1
  have lo1 : (128 : Int) ≤ bn s 1 := by omega
  have hi1 : (bn s 1 : Int) < 192 := by omega
  have ln1 : (1 : Int) < s.length := by omega
  have HT1 := Lib.hid t1
  clear hb t1 u1
  generalize bn s 0 = x0 at *
  generalize bn s 1 = x1 at *
  go_enter Tryz.func89, Tryz.ntmps89
  go_wp2_with fail
  refine T1.out.mono ?_
  rw [HT1.out]
  rintro e w1 ⟨rfl, rfl⟩
  go_wp2_with fail
  go_ret2
  exact ⟨ret_next (by rw [HR.out]) (by rw [HR.out]; rfl), by first | exact Only.refl _ _ | exact (Only.refl _ _).drewN _⟩

set_option maxRecDepth 100000 in
set_option maxHeartbeats 2000000 in
theorem nextR_3_no1 (b o c : Nat) (s : List UInt8) (w : World) (hl : s.length ≤ 65536) (h0 : 0 < s.length) (hcap : s.length ≤ c) (hcell : ∀ j, j < s.length → w.cell? ⟨b, o + j, none⟩ = some (.int .u8 (bt s j))) (hb : 224 ≤ bn s 0 ∧ bn s 0 < 240)  (t1 : tlB s 1 = false) :
    Calls Tryz.prog 89 #[.slice (some ⟨b, o, none⟩) s.length c] w fun e w' => e = .returned (nextV (nextU s)) ∧ Only [] w w' := by
  have hne : s ≠ [] := by intro e; rw [e] at h0; simp at h0
  have hl' : (s.length : Int) ≤ 65536 := by omega
  have h0' : (0 : Int) < s.length := by omega
  have hz : ((s.length : Int) == 0) = false := by simp; omega
  have hc0 : w.cell? ⟨b, o, none⟩ = some (.int .u8 (bn s 0 : Int)) := hcell 0 h0
  have k0 : (bn s 0 : Int) ≤ 255 := by have := bn_lt s 0; omega
  have T1 := Lib.hid (tail_any b o c s w 1 hl hcap hcell)
  have T2 := Lib.hid (tail_any b o c s w 2 hl hcap hcell)
  have T3 := Lib.hid (tail_any b o c s w 3 hl hcap hcell)
  have HNE := Lib.hid hne
  have HCELL := Lib.hid hcell
  clear hcell hne hcap
  have hlo : (224 : Int) ≤ bn s 0 := by omega
  have hhi : (bn s 0 : Int) < 240 := by omega
  have tf := tl_false t1
  have HR : Hid (nextU s = (-1, 1)) := Lib.hid (nx_3n s HNE.out hb (fun h => tf (by have := h.1; omega)))
  have HT1 := Lib.hid t1
  clear tf hb t1
  go_enter Tryz.func89, Tryz.ntmps89
  go_wp2_with fail
  refine T1.out.mono ?_
  rw [HT1.out]
  rintro e w1 ⟨rfl, rfl⟩
  go_wp2_with fail
  go_ret2
  exact ⟨ret_next (by rw [HR.out]) (by rw [HR.out]; rfl), by first | exact Only.refl _ _ | exact (Only.refl _ _).drewN _⟩

set_option maxRecDepth 100000 in
set_option maxHeartbeats 2000000 in
theorem nextR_3_no2 (b o c : Nat) (s : List UInt8) (w : World) (hl : s.length ≤ 65536) (h0 : 0 < s.length) (hcap : s.length ≤ c) (hcell : ∀ j, j < s.length → w.cell? ⟨b, o + j, none⟩ = some (.int .u8 (bt s j))) (hb : 224 ≤ bn s 0 ∧ bn s 0 < 240) (t1 : tlB s 1 = true) (t2 : tlB s 2 = false) :
    Calls Tryz.prog 89 #[.slice (some ⟨b, o, none⟩) s.length c] w fun e w' => e = .returned (nextV (nextU s)) ∧ Only [] w w' := by
  have hne : s ≠ [] := by intro e; rw [e] at h0; simp at h0
  have hl' : (s.length : Int) ≤ 65536 := by omega
  have h0' : (0 : Int) < s.length := by omega
  have hz : ((s.length : Int) == 0) = false := by simp; omega
  have hc0 : w.cell? ⟨b, o, none⟩ = some (.int .u8 (bn s 0 : Int)) := hcell 0 h0
  have k0 : (bn s 0 : Int) ≤ 255 := by have := bn_lt s 0; omega
  have T1 := Lib.hid (tail_any b o c s w 1 hl hcap hcell)
  have T2 := Lib.hid (tail_any b o c s w 2 hl hcap hcell)
  have T3 := Lib.hid (tail_any b o c s w 3 hl hcap hcell)
  have HNE := Lib.hid hne
  have HCELL := Lib.hid hcell
  clear hcell hne hcap
  have hlo : (224 : Int) ≤ bn s 0 := by omega
  have hhi : (bn s 0 : Int) < 240 := by omega
  have tf := tl_false t2
  have HR : Hid (nextU s = (-1, 1)) := Lib.hid (nx_3n s HNE.out hb (fun h => tf ⟨by omega, by omega⟩))
  have HT1 := Lib.hid t1
  have HT2 := Lib.hid t2
  clear tf hb t1 t2
  go_enter Tryz.func89, Tryz.ntmps89
  go_wp2_with fail
  refine T1.out.mono ?_
  rw [HT1.out]
  rintro e w1 ⟨rfl, rfl⟩
  go_wp2_with fail
  refine T2.out.mono ?_
  rw [HT2.out]
  rintro e w2 ⟨rfl, rfl⟩
  go_wp2_with fail
  go_ret2
  exact ⟨ret_next (by rw [HR.out]) (by rw [HR.out]; rfl), by first | exact Only.refl _ _ | exact (Only.refl _ _).drewN _⟩

set_option maxRecDepth 100000 in
set_option maxHeartbeats 2000000 in
theorem nextR_3_lo (b o c : Nat) (s : List UInt8) (w : World) (hl : s.length ≤ 65536) (h0 : 0 < s.length) (hcap : s.length ≤ c) (hcell : ∀ j, j < s.length → w.cell? ⟨b, o + j, none⟩ = some (.int .u8 (bt s j))) (hb : 224 ≤ bn s 0 ∧ bn s 0 < 240) (t1 : tlB s 1 = true) (t2 : tlB s 2 = true) (hv : ((bn s 0 : Int) - 224) * 4096 + ((bn s 1 : Int) - 128) * 64 + (bn s 2 : Int) - 128 < 2048) :
    Calls Tryz.prog 89 #[.slice (some ⟨b, o, none⟩) s.length c] w fun e w' => e = .returned (nextV (nextU s)) ∧ Only [] w w' := by
  have hne : s ≠ [] := by intro e; rw [e] at h0; simp at h0
  have hl' : (s.length : Int) ≤ 65536 := by omega
  have h0' : (0 : Int) < s.length := by omega
  have hz : ((s.length : Int) == 0) = false := by simp; omega
  have hc0 : w.cell? ⟨b, o, none⟩ = some (.int .u8 (bn s 0 : Int)) := hcell 0 h0
  have k0 : (bn s 0 : Int) ≤ 255 := by have := bn_lt s 0; omega
  have T1 := Lib.hid (tail_any b o c s w 1 hl hcap hcell)
  have T2 := Lib.hid (tail_any b o c s w 2 hl hcap hcell)
  have T3 := Lib.hid (tail_any b o c s w 3 hl hcap hcell)
  have HNE := Lib.hid hne
  have HCELL := Lib.hid hcell
  clear hcell hne hcap
  have u1 := tl_true t1
  have u2 := tl_true t2
  have HR : Hid (nextU s = (-1, 1)) := Lib.hid (nx_3n s HNE.out hb (fun h => by unfold v3 at h; omega))
  have hlo : (224 : Int) ≤ bn s 0 := by omega
  have hhi : (bn s 0 : Int) < 240 := by omega
  have hc1 : w.cell? ⟨b, o + 1, none⟩ = some (.int .u8 (bn s 1 : Int)) := HCELL.out 1 u1.1
  have lo1 : (128 : Int) ≤ bn s 1 := by omega
  have hi1 : (bn s 1 : Int) < 192 := by omega
  have ln1 : (1 : Int) < s.length := by omega
  have hc2 : w.cell? ⟨b, o + 2, none⟩ = some (.int .u8 (bn s 2 : Int)) := HCELL.out 2 u2.1
  have lo2 : (128 : Int) ≤ bn s 2 := by omega
  have hi2 : (bn s 2 : Int) < 192 := by omega
  have ln2 : (2 : Int) < s.length := by omega
  have HT1 := Lib.hid t1
  have HT2 := Lib.hid t2
  clear hb t1 t2 u1 u2
  generalize bn s 0 = x0 at *
  generalize bn s 1 = x1 at *
  generalize bn s 2 = x2 at *
  go_enter Tryz.func89, Tryz.ntmps89
  go_wp2_with fail
  refine T1.out.mono ?_
  rw [HT1.out]
  rintro e w1 ⟨rfl, rfl⟩
  go_wp2_with fail
  refine T2.out.mono ?_
  rw [HT2.out]
  rintro e w2 ⟨rfl, rfl⟩
  go_wp2_with fail
  go_quiet (fail)
  go_wp2_with fail
  go_ret2
  exact ⟨ret_next (by rw [HR.out]) (by rw [HR.out]; rfl), by first | exact Only.refl _ _ | exact (Only.refl _ _).drewN _⟩

set_option maxRecDepth 100000 in
set_option maxHeartbeats 2000000 in
theorem nextR_3_ok (b o c : Nat) (s : List UInt8) (w : World) (hl : s.length ≤ 65536) (h0 : 0 < s.length) (hcap : s.length ≤ c) (hcell : ∀ j, j < s.length → w.cell? ⟨b, o + j, none⟩ = some (.int .u8 (bt s j))) (hb : 224 ≤ bn s 0 ∧ bn s 0 < 240) (t1 : tlB s 1 = true) (t2 : tlB s 2 = true) (hv : 2048 ≤ ((bn s 0 : Int) - 224) * 4096 + ((bn s 1 : Int) - 128) * 64 + (bn s 2 : Int) - 128) (hv2 : ((bn s 0 : Int) - 224) * 4096 + ((bn s 1 : Int) - 128) * 64 + (bn s 2 : Int) - 128 < 55296) :
    Calls Tryz.prog 89 #[.slice (some ⟨b, o, none⟩) s.length c] w fun e w' => e = .returned (nextV (nextU s)) ∧ Only [] w w' := by
  have hne : s ≠ [] := by intro e; rw [e] at h0; simp at h0
  have hl' : (s.length : Int) ≤ 65536 := by omega
  have h0' : (0 : Int) < s.length := by omega
  have hz : ((s.length : Int) == 0) = false := by simp; omega
  have hc0 : w.cell? ⟨b, o, none⟩ = some (.int .u8 (bn s 0 : Int)) := hcell 0 h0
  have k0 : (bn s 0 : Int) ≤ 255 := by have := bn_lt s 0; omega
  have T1 := Lib.hid (tail_any b o c s w 1 hl hcap hcell)
  have T2 := Lib.hid (tail_any b o c s w 2 hl hcap hcell)
  have T3 := Lib.hid (tail_any b o c s w 3 hl hcap hcell)
  have HNE := Lib.hid hne
  have HCELL := Lib.hid hcell
  clear hcell hne hcap
  have u1 := tl_true t1
  have u2 := tl_true t2
  have HR : Hid (nextU s = (((bn s 0 : Int) - 224) * 4096 + ((bn s 1 : Int) - 128) * 64 + (bn s 2 : Int) - 128, 3)) := Lib.hid (by rw [nx_3 s HNE.out hb (by omega) (by omega) (by omega) (by unfold v3; omega)]; simp only [Prod.mk.injEq, and_true]; unfold v3; omega)
  have hlo : (224 : Int) ≤ bn s 0 := by omega
  have hhi : (bn s 0 : Int) < 240 := by omega
  have hc1 : w.cell? ⟨b, o + 1, none⟩ = some (.int .u8 (bn s 1 : Int)) := HCELL.out 1 u1.1
  have lo1 : (128 : Int) ≤ bn s 1 := by omega
  have hi1 : (bn s 1 : Int) < 192 := by omega
  have ln1 : (1 : Int) < s.length := by omega
  have hc2 : w.cell? ⟨b, o + 2, none⟩ = some (.int .u8 (bn s 2 : Int)) := HCELL.out 2 u2.1
  have lo2 : (128 : Int) ≤ bn s 2 := by omega
  have hi2 : (bn s 2 : Int) < 192 := by omega
  have ln2 : (2 : Int) < s.length := by omega
  have HT1 := Lib.hid t1
  have HT2 := Lib.hid t2
  clear hb t1 t2 u1 u2
  generalize bn s 0 = x0 at *
  generalize bn s 1 = x1 at *
  generalize bn s 2 = x2 at *
  go_enter Tryz.func89, Tryz.ntmps89
  go_wp2_with fail
  refine T1.out.mono ?_
  rw [HT1.out]
  rintro e w1 ⟨rfl, rfl⟩
  go_wp2_with fail
  refine T2.out.mono ?_
  rw [HT2.out]
  rintro e w2 ⟨rfl, rfl⟩
  go_wp2_with fail
  go_quiet (fail)
  go_wp2_with fail
  go_ret2
  exact ⟨ret_next (by rw [HR.out]) (by rw [HR.out]; rfl), by first | exact Only.refl _ _ | exact (Only.refl _ _).drewN _⟩

set_option maxRecDepth 100000 in
set_option maxHeartbeats 2000000 in
theorem nextR_3_su (b o c : Nat) (s : List UInt8) (w : World) (hl : s.length ≤ 65536) (h0 : 0 < s.length) (hcap : s.length ≤ c) (hcell : ∀ j, j < s.length → w.cell? ⟨b, o + j, none⟩ = some (.int .u8 (bt s j))) (hb : 224 ≤ bn s 0 ∧ bn s 0 < 240) (t1 : tlB s 1 = true) (t2 : tlB s 2 = true) (hv : 55296 ≤ ((bn s 0 : Int) - 224) * 4096 + ((bn s 1 : Int) - 128) * 64 + (bn s 2 : Int) - 128) (hv2 : ((bn s 0 : Int) - 224) * 4096 + ((bn s 1 : Int) - 128) * 64 + (bn s 2 : Int) - 128 ≤ 57343) :
    Calls Tryz.prog 89 #[.slice (some ⟨b, o, none⟩) s.length c] w fun e w' => e = .returned (nextV (nextU s)) ∧ Only [] w w' := by
  have hne : s ≠ [] := by intro e; rw [e] at h0; simp at h0
  have hl' : (s.length : Int) ≤ 65536 := by omega
  have h0' : (0 : Int) < s.length := by omega
  have hz : ((s.length : Int) == 0) = false := by simp; omega
  have hc0 : w.cell? ⟨b, o, none⟩ = some (.int .u8 (bn s 0 : Int)) := hcell 0 h0
  have k0 : (bn s 0 : Int) ≤ 255 := by have := bn_lt s 0; omega
  have T1 := Lib.hid (tail_any b o c s w 1 hl hcap hcell)
  have T2 := Lib.hid (tail_any b o c s w 2 hl hcap hcell)
  have T3 := Lib.hid (tail_any b o c s w 3 hl hcap hcell)
  have HNE := Lib.hid hne
  have HCELL := Lib.hid hcell
  clear hcell hne hcap
  have u1 := tl_true t1
  have u2 := tl_true t2
  have HR : Hid (nextU s = (-1, 1)) := Lib.hid (nx_3n s HNE.out hb (fun h => by unfold v3 at h; omega))
  have hlo : (224 : Int) ≤ bn s 0 := by omega
  have hhi : (bn s 0 : Int) < 240 := by omega
  have hc1 : w.cell? ⟨b, o + 1, none⟩ = some (.int .u8 (bn s 1 : Int)) := HCELL.out 1 u1.1
  have lo1 : (128 : Int) ≤ bn s 1 := by omega
  have hi1 : (bn s 1 : Int) < 192 := by omega
  have ln1 : (1 : Int) < s.length := by omega
  have hc2 : w.cell? ⟨b, o + 2, none⟩ = some (.int .u8 (bn s 2 : Int)) := HCELL.out 2 u2.1
  have lo2 : (128 : Int) ≤ bn s 2 := by omega
  have hi2 : (bn s 2 : Int) < 192 := by omega
  have ln2 : (2 : Int) < s.length := by omega
  have HT1 := Lib.hid t1
  have HT2 := Lib.hid t2
  clear hb t1 t2 u1 u2
  generalize bn s 0 = x0 at *
  generalize bn s 1 = x1 at *
  generalize bn s 2 = x2 at *
  go_enter Tryz.func89, Tryz.ntmps89
  go_wp2_with fail
  refine T1.out.mono ?_
  rw [HT1.out]
  rintro e w1 ⟨rfl, rfl⟩
  go_wp2_with fail
  refine T2.out.mono ?_
  rw [HT2.out]
  rintro e w2 ⟨rfl, rfl⟩
  go_wp2_with fail
  go_quiet (fail)
  go_wp2_with fail
  go_ret2
  exact ⟨ret_next (by rw [HR.out]) (by rw [HR.out]; rfl), by first | exact Only.refl _ _ | exact (Only.refl _ _).drewN _⟩

set_option maxRecDepth 100000 in
set_option maxHeartbeats 2000000 in
theorem nextR_3_hi (b o c : Nat) (s : List UInt8) (w : World) (hl : s.length ≤ 65536) (h0 : 0 < s.length) (hcap : s.length ≤ c) (hcell : ∀ j, j < s.length → w.cell? ⟨b, o + j, none⟩ = some (.int .u8 (bt s j))) (hb : 224 ≤ bn s 0 ∧ bn s 0 < 240) (t1 : tlB s 1 = true) (t2 : tlB s 2 = true) (hv : 57344 ≤ ((bn s 0 : Int) - 224) * 4096 + ((bn s 1 : Int) - 128) * 64 + (bn s 2 : Int) - 128) :
    Calls Tryz.prog 89 #[.slice (some ⟨b, o, none⟩) s.length c] w fun e w' => e = .returned (nextV (nextU s)) ∧ Only [] w w' := by
  have hne : s ≠ [] := by intro e; rw [e] at h0; simp at h0
  have hl' : (s.length : Int) ≤ 65536 := by omega
  have h0' : (0 : Int) < s.length := by omega
  have hz : ((s.length : Int) == 0) = false := by simp; omega
  have hc0 : w.cell? ⟨b, o, none⟩ = some (.int .u8 (bn s 0 : Int)) := hcell 0 h0
  have k0 : (bn s 0 : Int) ≤ 255 := by have := bn_lt s 0; omega
  have T1 := Lib.hid (tail_any b o c s w 1 hl hcap hcell)
  have T2 := Lib.hid (tail_any b o c s w 2 hl hcap hcell)
  have T3 := Lib.hid (tail_any b o c s w 3 hl hcap hcell)
  have HNE := Lib.hid hne
  have HCELL := Lib.hid hcell
  clear hcell hne hcap
  have u1 := tl_true t1
  have u2 := tl_true t2
  have HR : Hid (nextU s = (((bn s 0 : Int) - 224) * 4096 + ((bn s 1 : Int) - 128) * 64 + (bn s 2 : Int) - 128, 3)) := Lib.hid (by rw [nx_3 s HNE.out hb (by omega) (by omega) (by omega) (by unfold v3; omega)]; simp only [Prod.mk.injEq, and_true]; unfold v3; omega)
  have hlo : (224 : Int) ≤ bn s 0 := by omega
  have hhi : (bn s 0 : Int) < 240 := by omega
  have hc1 : w.cell? ⟨b, o + 1, none⟩ = some (.int .u8 (bn s 1 : Int)) := HCELL.out 1 u1.1
  have lo1 : (128 : Int) ≤ bn s 1 := by omega
  have hi1 : (bn s 1 : Int) < 192 := by omega
  have ln1 : (1 : Int) < s.length := by omega
  have hc2 : w.cell? ⟨b, o + 2, none⟩ = some (.int .u8 (bn s 2 : Int)) := HCELL.out 2 u2.1
  have lo2 : (128 : Int) ≤ bn s 2 := by omega
  have hi2 : (bn s 2 : Int) < 192 := by omega
  have ln2 : (2 : Int) < s.length := by omega
  have HT1 := Lib.hid t1
  have HT2 := Lib.hid t2
  clear hb t1 t2 u1 u2
  generalize bn s 0 = x0 at *
  generalize bn s 1 = x1 at *
  generalize bn s 2 = x2 at *
  go_enter Tryz.func89, Tryz.ntmps89
  go_wp2_with fail
  refine T1.out.mono ?_
  rw [HT1.out]
  rintro e w1 ⟨rfl, rfl⟩
  go_wp2_with fail
  refine T2.out.mono ?_
  rw [HT2.out]
  rintro e w2 ⟨rfl, rfl⟩
  go_wp2_with fail
  go_quiet (fail)
  go_wp2_with fail
  go_ret2
  exact ⟨ret_next (by rw [HR.out]) (by rw [HR.out]; rfl), by first | exact Only.refl _ _ | exact (Only.refl _ _).drewN _⟩

set_option maxRecDepth 100000 in
set_option maxHeartbeats 2000000 in
theorem nextR_4_no1 (b o c : Nat) (s : List UInt8) (w : World) (hl : s.length ≤ 65536) (h0 : 0 < s.length) (hcap : s.length ≤ c) (hcell : ∀ j, j < s.length → w.cell? ⟨b, o + j, none⟩ = some (.int .u8 (bt s j))) (hb : 240 ≤ bn s 0 ∧ bn s 0 < 248)  (t1 : tlB s 1 = false) :
    Calls Tryz.prog 89 #[.slice (some ⟨b, o, none⟩) s.length c] w fun e w' => e = .returned (nextV (nextU s)) ∧ Only [] w w' := by
  have hne : s ≠ [] := by intro e; rw [e] at h0; simp at h0
  have hl' : (s.length : Int) ≤ 65536 := by omega
  have h0' : (0 : Int) < s.length := by omega
  have hz : ((s.length : Int) == 0) = false := by simp; omega
  have hc0 : w.cell? ⟨b, o, none⟩ = some (.int .u8 (bn s 0 : Int)) := hcell 0 h0
  have k0 : (bn s 0 : Int) ≤ 255 := by have := bn_lt s 0; omega
  have T1 := Lib.hid (tail_any b o c s w 1 hl hcap hcell)
  have T2 := Lib.hid (tail_any b o c s w 2 hl hcap hcell)
  have T3 := Lib.hid (tail_any b o c s w 3 hl hcap hcell)
  have HNE := Lib.hid hne
  have HCELL := Lib.hid hcell
  clear hcell hne hcap
  have hlo : (240 : Int) ≤ bn s 0 := by omega
  have hhi : (bn s 0 : Int) < 248 := by omega
  have tf := tl_false t1
  have HR : Hid (nextU s = (-1, 1)) := Lib.hid (if h2 : bn s 0 < 245 then nx_4n s HNE.out ⟨hb.1, h2⟩ (fun h => tf ⟨by omega, by omega⟩) else nx_bad s HNE.out (by omega) (by omega))
  have HT1 := Lib.hid t1
  clear tf hb t1
  go_enter Tryz.func89, Tryz.ntmps89
  go_wp2_with fail
  refine T1.out.mono ?_
  rw [HT1.out]
  rintro e w1 ⟨rfl, rfl⟩
  go_wp2_with fail
  go_ret2
  exact ⟨ret_next (by rw [HR.out]) (by rw [HR.out]; rfl), by first | exact Only.refl _ _ | exact (Only.refl _ _).drewN _⟩

set_option maxRecDepth 100000 in
set_option maxHeartbeats 2000000 in
theorem nextR_4_no2 (b o c : Nat) (s : List UInt8) (w : World) (hl : s.length ≤ 65536) (h0 : 0 < s.length) (hcap : s.length ≤ c) (hcell : ∀ j, j < s.length → w.cell? ⟨b, o + j, none⟩ = some (.int .u8 (bt s j))) (hb : 240 ≤ bn s 0 ∧ bn s 0 < 248) (t1 : tlB s 1 = true) (t2 : tlB s 2 = false) :
    Calls Tryz.prog 89 #[.slice (some ⟨b, o, none⟩) s.length c] w fun e w' => e = .returned (nextV (nextU s)) ∧ Only [] w w' := by
  have hne : s ≠ [] := by intro e; rw [e] at h0; simp at h0
  have hl' : (s.length : Int) ≤ 65536 := by omega
  have h0' : (0 : Int) < s.length := by omega
  have hz : ((s.length : Int) == 0) = false := by simp; omega
  have hc0 : w.cell? ⟨b, o, none⟩ = some (.int .u8 (bn s 0 : Int)) := hcell 0 h0
  have k0 : (bn s 0 : Int) ≤ 255 := by have := bn_lt s 0; omega
  have T1 := Lib.hid (tail_any b o c s w 1 hl hcap hcell)
  have T2 := Lib.hid (tail_any b o c s w 2 hl hcap hcell)
  have T3 := Lib.hid (tail_any b o c s w 3 hl hcap hcell)
  have HNE := Lib.hid hne
  have HCELL := Lib.hid hcell
  clear hcell hne hcap
  have hlo : (240 : Int) ≤ bn s 0 := by omega
  have hhi : (bn s 0 : Int) < 248 := by omega
  have tf := tl_false t2
  have HR : Hid (nextU s = (-1, 1)) := Lib.hid (if h2 : bn s 0 < 245 then nx_4n s HNE.out ⟨hb.1, h2⟩ (fun h => tf ⟨by omega, by omega⟩) else nx_bad s HNE.out (by omega) (by omega))
  have HT1 := Lib.hid t1
  have HT2 := Lib.hid t2
  clear tf hb t1 t2
  go_enter Tryz.func89, Tryz.ntmps89
  go_wp2_with fail
  refine T1.out.mono ?_
  rw [HT1.out]
  rintro e w1 ⟨rfl, rfl⟩
  go_wp2_with fail
  refine T2.out.mono ?_
  rw [HT2.out]
  rintro e w2 ⟨rfl, rfl⟩
  go_wp2_with fail
  go_ret2
  exact ⟨ret_next (by rw [HR.out]) (by rw [HR.out]; rfl), by first | exact Only.refl _ _ | exact (Only.refl _ _).drewN _⟩

set_option maxRecDepth 100000 in
set_option maxHeartbeats 2000000 in
theorem nextR_4_no3 (b o c : Nat) (s : List UInt8) (w : World) (hl : s.length ≤ 65536) (h0 : 0 < s.length) (hcap : s.length ≤ c) (hcell : ∀ j, j < s.length → w.cell? ⟨b, o + j, none⟩ = some (.int .u8 (bt s j))) (hb : 240 ≤ bn s 0 ∧ bn s 0 < 248) (t1 : tlB s 1 = true) (t2 : tlB s 2 = true) (t3 : tlB s 3 = false) :
    Calls Tryz.prog 89 #[.slice (some ⟨b, o, none⟩) s.length c] w fun e w' => e = .returned (nextV (nextU s)) ∧ Only [] w w' := by
  have hne : s ≠ [] := by intro e; rw [e] at h0; simp at h0
  have hl' : (s.length : Int) ≤ 65536 := by omega
  have h0' : (0 : Int) < s.length := by omega
  have hz : ((s.length : Int) == 0) = false := by simp; omega
  have hc0 : w.cell? ⟨b, o, none⟩ = some (.int .u8 (bn s 0 : Int)) := hcell 0 h0
  have k0 : (bn s 0 : Int) ≤ 255 := by have := bn_lt s 0; omega
  have T1 := Lib.hid (tail_any b o c s w 1 hl hcap hcell)
  have T2 := Lib.hid (tail_any b o c s w 2 hl hcap hcell)
  have T3 := Lib.hid (tail_any b o c s w 3 hl hcap hcell)
  have HNE := Lib.hid hne
  have HCELL := Lib.hid hcell
  clear hcell hne hcap
  have hlo : (240 : Int) ≤ bn s 0 := by omega
  have hhi : (bn s 0 : Int) < 248 := by omega
  have tf := tl_false t3
  have HR : Hid (nextU s = (-1, 1)) := Lib.hid (if h2 : bn s 0 < 245 then nx_4n s HNE.out ⟨hb.1, h2⟩ (fun h => tf ⟨by omega, by omega⟩) else nx_bad s HNE.out (by omega) (by omega))
  have HT1 := Lib.hid t1
  have HT2 := Lib.hid t2
  have HT3 := Lib.hid t3
  clear tf hb t1 t2 t3
  go_enter Tryz.func89, Tryz.ntmps89
  go_wp2_with fail
  refine T1.out.mono ?_
  rw [HT1.out]
  rintro e w1 ⟨rfl, rfl⟩
  go_wp2_with fail
  refine T2.out.mono ?_
  rw [HT2.out]
  rintro e w2 ⟨rfl, rfl⟩
  go_wp2_with fail
  refine T3.out.mono ?_
  rw [HT3.out]
  rintro e w3 ⟨rfl, rfl⟩
  go_wp2_with fail
  go_ret2
  exact ⟨ret_next (by rw [HR.out]) (by rw [HR.out]; rfl), by first | exact Only.refl _ _ | exact (Only.refl _ _).drewN _⟩

set_option maxRecDepth 100000 in
set_option maxHeartbeats 2000000 in
theorem nextR_4_lo (b o c : Nat) (s : List UInt8) (w : World) (hl : s.length ≤ 65536) (h0 : 0 < s.length) (hcap : s.length ≤ c) (hcell : ∀ j, j < s.length → w.cell? ⟨b, o + j, none⟩ = some (.int .u8 (bt s j))) (hb : 240 ≤ bn s 0 ∧ bn s 0 < 248) (t1 : tlB s 1 = true) (t2 : tlB s 2 = true) (t3 : tlB s 3 = true) (hv : ((bn s 0 : Int) - 240) * 262144 + ((bn s 1 : Int) - 128) * 4096 + ((bn s 2 : Int) - 128) * 64 + (bn s 3 : Int) - 128 < 65536) :
    Calls Tryz.prog 89 #[.slice (some ⟨b, o, none⟩) s.length c] w fun e w' => e = .returned (nextV (nextU s)) ∧ Only [] w w' := by
  have hne : s ≠ [] := by intro e; rw [e] at h0; simp at h0
  have hl' : (s.length : Int) ≤ 65536 := by omega
  have h0' : (0 : Int) < s.length := by omega
  have hz : ((s.length : Int) == 0) = false := by simp; omega
  have hc0 : w.cell? ⟨b, o, none⟩ = some (.int .u8 (bn s 0 : Int)) := hcell 0 h0
  have k0 : (bn s 0 : Int) ≤ 255 := by have := bn_lt s 0; omega
  have T1 := Lib.hid (tail_any b o c s w 1 hl hcap hcell)
  have T2 := Lib.hid (tail_any b o c s w 2 hl hcap hcell)
  have T3 := Lib.hid (tail_any b o c s w 3 hl hcap hcell)
  have HNE := Lib.hid hne
  have HCELL := Lib.hid hcell
  clear hcell hne hcap
  have u1 := tl_true t1
  have u2 := tl_true t2
  have u3 := tl_true t3
  have HR : Hid (nextU s = (-1, 1)) := Lib.hid (if h2 : bn s 0 < 245 then nx_4n s HNE.out ⟨hb.1, h2⟩ (fun h => by unfold v4 at h; omega) else nx_bad s HNE.out (by omega) (by omega))
  have hlo : (240 : Int) ≤ bn s 0 := by omega
  have hhi : (bn s 0 : Int) < 248 := by omega
  have hc1 : w.cell? ⟨b, o + 1, none⟩ = some (.int .u8 (bn s 1 : Int)) := HCELL.out 1 u1.1
  have lo1 : (128 : Int) ≤ bn s 1 := by omega
  have hi1 : (bn s 1 : Int) < 192 := by omega
  have ln1 : (1 : Int) < s.length := by omega
  have hc2 : w.cell? ⟨b, o + 2, none⟩ = some (.int .u8 (bn s 2 : Int)) := HCELL.out 2 u2.1
  have lo2 : (128 : Int) ≤ bn s 2 := by omega
  have hi2 : (bn s 2 : Int) < 192 := by omega
  have ln2 : (2 : Int) < s.length := by omega
  have hc3 : w.cell? ⟨b, o + 3, none⟩ = some (.int .u8 (bn s 3 : Int)) := HCELL.out 3 u3.1
  have lo3 : (128 : Int) ≤ bn s 3 := by omega
  have hi3 : (bn s 3 : Int) < 192 := by omega
  have ln3 : (3 : Int) < s.length := by omega
  have HT1 := Lib.hid t1
  have HT2 := Lib.hid t2
  have HT3 := Lib.hid t3
  clear hb t1 t2 t3 u1 u2 u3
  generalize bn s 0 = x0 at *
  generalize bn s 1 = x1 at *
  generalize bn s 2 = x2 at *
  generalize bn s 3 = x3 at *
  go_enter Tryz.func89, Tryz.ntmps89
  go_wp2_with fail
  refine T1.out.mono ?_
  rw [HT1.out]
  rintro e w1 ⟨rfl, rfl⟩
  go_wp2_with fail
  refine T2.out.mono ?_
  rw [HT2.out]
  rintro e w2 ⟨rfl, rfl⟩
  go_wp2_with fail
  refine T3.out.mono ?_
  rw [HT3.out]
  rintro e w3 ⟨rfl, rfl⟩
  go_wp2_with fail
  go_quiet (fail)
  go_wp2_with fail
  go_ret2
  exact ⟨ret_next (by rw [HR.out]) (by rw [HR.out]; rfl), by first | exact Only.refl _ _ | exact (Only.refl _ _).drewN _⟩

set_option maxRecDepth 100000 in
set_option maxHeartbeats 2000000 in
theorem nextR_4_ok (b o c : Nat) (s : List UInt8) (w : World) (hl : s.length ≤ 65536) (h0 : 0 < s.length) (hcap : s.length ≤ c) (hcell : ∀ j, j < s.length → w.cell? ⟨b, o + j, none⟩ = some (.int .u8 (bt s j))) (hb : 240 ≤ bn s 0 ∧ bn s 0 < 248) (t1 : tlB s 1 = true) (t2 : tlB s 2 = true) (t3 : tlB s 3 = true) (hv : 65536 ≤ ((bn s 0 : Int) - 240) * 262144 + ((bn s 1 : Int) - 128) * 4096 + ((bn s 2 : Int) - 128) * 64 + (bn s 3 : Int) - 128) (hv2 : ((bn s 0 : Int) - 240) * 262144 + ((bn s 1 : Int) - 128) * 4096 + ((bn s 2 : Int) - 128) * 64 + (bn s 3 : Int) - 128 ≤ 1114111) :
    Calls Tryz.prog 89 #[.slice (some ⟨b, o, none⟩) s.length c] w fun e w' => e = .returned (nextV (nextU s)) ∧ Only [] w w' := by
  have hne : s ≠ [] := by intro e; rw [e] at h0; simp at h0
  have hl' : (s.length : Int) ≤ 65536 := by omega
  have h0' : (0 : Int) < s.length := by omega
  have hz : ((s.length : Int) == 0) = false := by simp; omega
  have hc0 : w.cell? ⟨b, o, none⟩ = some (.int .u8 (bn s 0 : Int)) := hcell 0 h0
  have k0 : (bn s 0 : Int) ≤ 255 := by have := bn_lt s 0; omega
  have T1 := Lib.hid (tail_any b o c s w 1 hl hcap hcell)
  have T2 := Lib.hid (tail_any b o c s w 2 hl hcap hcell)
  have T3 := Lib.hid (tail_any b o c s w 3 hl hcap hcell)
  have HNE := Lib.hid hne
  have HCELL := Lib.hid hcell
  clear hcell hne hcap
  have u1 := tl_true t1
  have u2 := tl_true t2
  have u3 := tl_true t3
  have HR : Hid (nextU s = (((bn s 0 : Int) - 240) * 262144 + ((bn s 1 : Int) - 128) * 4096 + ((bn s 2 : Int) - 128) * 64 + (bn s 3 : Int) - 128, 4)) := Lib.hid (by rw [nx_4 s HNE.out (by omega) (by omega) (by omega) (by omega) (by omega) (by unfold v4; omega)]; simp only [Prod.mk.injEq, and_true]; unfold v4; omega)
  have hlo : (240 : Int) ≤ bn s 0 := by omega
  have hhi : (bn s 0 : Int) < 248 := by omega
  have hc1 : w.cell? ⟨b, o + 1, none⟩ = some (.int .u8 (bn s 1 : Int)) := HCELL.out 1 u1.1
  have lo1 : (128 : Int) ≤ bn s 1 := by omega
  have hi1 : (bn s 1 : Int) < 192 := by omega
  have ln1 : (1 : Int) < s.length := by omega
  have hc2 : w.cell? ⟨b, o + 2, none⟩ = some (.int .u8 (bn s 2 : Int)) := HCELL.out 2 u2.1
  have lo2 : (128 : Int) ≤ bn s 2 := by omega
  have hi2 : (bn s 2 : Int) < 192 := by omega
  have ln2 : (2 : Int) < s.length := by omega
  have hc3 : w.cell? ⟨b, o + 3, none⟩ = some (.int .u8 (bn s 3 : Int)) := HCELL.out 3 u3.1
  have lo3 : (128 : Int) ≤ bn s 3 := by omega
  have hi3 : (bn s 3 : Int) < 192 := by omega
  have ln3 : (3 : Int) < s.length := by omega
  have HT1 := Lib.hid t1
  have HT2 := Lib.hid t2
  have HT3 := Lib.hid t3
  clear hb t1 t2 t3 u1 u2 u3
  generalize bn s 0 = x0 at *
  generalize bn s 1 = x1 at *
  generalize bn s 2 = x2 at *
  generalize bn s 3 = x3 at *
  go_enter Tryz.func89, Tryz.ntmps89
  go_wp2_with fail
  refine T1.out.mono ?_
  rw [HT1.out]
  rintro e w1 ⟨rfl, rfl⟩
  go_wp2_with fail
  refine T2.out.mono ?_
  rw [HT2.out]
  rintro e w2 ⟨rfl, rfl⟩
  go_wp2_with fail
  refine T3.out.mono ?_
  rw [HT3.out]
  rintro e w3 ⟨rfl, rfl⟩
  go_wp2_with fail
  go_quiet (fail)
  go_wp2_with fail
  go_ret2
  exact ⟨ret_next (by rw [HR.out]) (by rw [HR.out]; rfl), by first | exact Only.refl _ _ | exact (Only.refl _ _).drewN _⟩

set_option maxRecDepth 100000 in
set_option maxHeartbeats 2000000 in
theorem nextR_4_hi (b o c : Nat) (s : List UInt8) (w : World) (hl : s.length ≤ 65536) (h0 : 0 < s.length) (hcap : s.length ≤ c) (hcell : ∀ j, j < s.length → w.cell? ⟨b, o + j, none⟩ = some (.int .u8 (bt s j))) (hb : 240 ≤ bn s 0 ∧ bn s 0 < 248) (t1 : tlB s 1 = true) (t2 : tlB s 2 = true) (t3 : tlB s 3 = true) (hv : 1114111 < ((bn s 0 : Int) - 240) * 262144 + ((bn s 1 : Int) - 128) * 4096 + ((bn s 2 : Int) - 128) * 64 + (bn s 3 : Int) - 128) :
    Calls Tryz.prog 89 #[.slice (some ⟨b, o, none⟩) s.length c] w fun e w' => e = .returned (nextV (nextU s)) ∧ Only [] w w' := by
  have hne : s ≠ [] := by intro e; rw [e] at h0; simp at h0
  have hl' : (s.length : Int) ≤ 65536 := by omega
  have h0' : (0 : Int) < s.length := by omega
  have hz : ((s.length : Int) == 0) = false := by simp; omega
  have hc0 : w.cell? ⟨b, o, none⟩ = some (.int .u8 (bn s 0 : Int)) := hcell 0 h0
  have k0 : (bn s 0 : Int) ≤ 255 := by have := bn_lt s 0; omega
  have T1 := Lib.hid (tail_any b o c s w 1 hl hcap hcell)
  have T2 := Lib.hid (tail_any b o c s w 2 hl hcap hcell)
  have T3 := Lib.hid (tail_any b o c s w 3 hl hcap hcell)
  have HNE := Lib.hid hne
  have HCELL := Lib.hid hcell
  clear hcell hne hcap
  have u1 := tl_true t1
  have u2 := tl_true t2
  have u3 := tl_true t3
  have HR : Hid (nextU s = (-1, 1)) := Lib.hid (if h2 : bn s 0 < 245 then nx_4n s HNE.out ⟨hb.1, h2⟩ (fun h => by unfold v4 at h; omega) else nx_bad s HNE.out (by omega) (by omega))
  have hlo : (240 : Int) ≤ bn s 0 := by omega
  have hhi : (bn s 0 : Int) < 248 := by omega
  have hc1 : w.cell? ⟨b, o + 1, none⟩ = some (.int .u8 (bn s 1 : Int)) := HCELL.out 1 u1.1
  have lo1 : (128 : Int) ≤ bn s 1 := by omega
  have hi1 : (bn s 1 : Int) < 192 := by omega
  have ln1 : (1 : Int) < s.length := by omega
  have hc2 : w.cell? ⟨b, o + 2, none⟩ = some (.int .u8 (bn s 2 : Int)) := HCELL.out 2 u2.1
  have lo2 : (128 : Int) ≤ bn s 2 := by omega
  have hi2 : (bn s 2 : Int) < 192 := by omega
  have ln2 : (2 : Int) < s.length := by omega
  have hc3 : w.cell? ⟨b, o + 3, none⟩ = some (.int .u8 (bn s 3 : Int)) := HCELL.out 3 u3.1
  have lo3 : (128 : Int) ≤ bn s 3 := by omega
  have hi3 : (bn s 3 : Int) < 192 := by omega
  have ln3 : (3 : Int) < s.length := by omega
  have HT1 := Lib.hid t1
  have HT2 := Lib.hid t2
  have HT3 := Lib.hid t3
  clear hb t1 t2 t3 u1 u2 u3
  generalize bn s 0 = x0 at *
  generalize bn s 1 = x1 at *
  generalize bn s 2 = x2 at *
  generalize bn s 3 = x3 at *
  go_enter Tryz.func89, Tryz.ntmps89
  go_wp2_with fail
  refine T1.out.mono ?_
  rw [HT1.out]
  rintro e w1 ⟨rfl, rfl⟩
  go_wp2_with fail
  refine T2.out.mono ?_
  rw [HT2.out]
  rintro e w2 ⟨rfl, rfl⟩
  go_wp2_with fail
  refine T3.out.mono ?_
  rw [HT3.out]
  rintro e w3 ⟨rfl, rfl⟩
  go_wp2_with fail
  go_quiet (fail)
  go_wp2_with fail
  go_ret2
  exact ⟨ret_next (by rw [HR.out]) (by rw [HR.out]; rfl), by first | exact Only.refl _ _ | exact (Only.refl _ _).drewN _⟩

theorem nextR_any (s : List UInt8) (v : Value) (w : World) (hv : BytesV w v s) (hl : s.length ≤ 65536) :
    Calls Tryz.prog 89 #[v] w fun e w' => e = .returned (nextV (nextU s)) ∧ Only [] w w' := by
  obtain ⟨p, c, rfl, hc, hm, hk⟩ := hv
  by_cases h0 : 0 < s.length
  · obtain ⟨b, o, rfl, hcell⟩ := hk h0
    by_cases a0 : bn s 0 < 128
    · exact nextR_one b o c s w hl h0 hc hcell a0
    · by_cases a1 : bn s 0 < 192
      · exact nextR_bad b o c s w hl h0 hc hcell (by omega)
      · by_cases a2 : bn s 0 < 224
        · cases t1 : tlB s 1
          · exact nextR_2_no1 b o c s w hl h0 hc hcell (by omega) t1
          · by_cases hv : ((bn s 0 : Int) - 192) * 64 + (bn s 1 : Int) - 128 < 128
            · exact nextR_2_lo b o c s w hl h0 hc hcell (by omega) t1 hv
            · exact nextR_2_hi b o c s w hl h0 hc hcell (by omega) t1 (by omega)
        · by_cases a3 : bn s 0 < 240
          · cases t1 : tlB s 1
            · exact nextR_3_no1 b o c s w hl h0 hc hcell (by omega) t1
            · cases t2 : tlB s 2
              · exact nextR_3_no2 b o c s w hl h0 hc hcell (by omega) t1 t2
              · by_cases hv : ((bn s 0 : Int) - 224) * 4096 + ((bn s 1 : Int) - 128) * 64 + (bn s 2 : Int) - 128 < 2048
                · exact nextR_3_lo b o c s w hl h0 hc hcell (by omega) t1 t2 hv
                · by_cases hv2 : ((bn s 0 : Int) - 224) * 4096 + ((bn s 1 : Int) - 128) * 64 + (bn s 2 : Int) - 128 < 55296
                  · exact nextR_3_ok b o c s w hl h0 hc hcell (by omega) t1 t2 (by omega) hv2
                  · by_cases hv3 : ((bn s 0 : Int) - 224) * 4096 + ((bn s 1 : Int) - 128) * 64 + (bn s 2 : Int) - 128 ≤ 57343
                    · exact nextR_3_su b o c s w hl h0 hc hcell (by omega) t1 t2 (by omega) hv3
                    · exact nextR_3_hi b o c s w hl h0 hc hcell (by omega) t1 t2 (by omega)
          · by_cases a4 : bn s 0 < 248
            · cases t1 : tlB s 1
              · exact nextR_4_no1 b o c s w hl h0 hc hcell (by omega) t1
              · cases t2 : tlB s 2
                · exact nextR_4_no2 b o c s w hl h0 hc hcell (by omega) t1 t2
                · cases t3 : tlB s 3
                  · exact nextR_4_no3 b o c s w hl h0 hc hcell (by omega) t1 t2 t3
                  · by_cases hv : ((bn s 0 : Int) - 240) * 262144 + ((bn s 1 : Int) - 128) * 4096 + ((bn s 2 : Int) - 128) * 64 + (bn s 3 : Int) - 128 < 65536
                    · exact nextR_4_lo b o c s w hl h0 hc hcell (by omega) t1 t2 t3 hv
                    · by_cases hv2 : ((bn s 0 : Int) - 240) * 262144 + ((bn s 1 : Int) - 128) * 4096 + ((bn s 2 : Int) - 128) * 64 + (bn s 3 : Int) - 128 ≤ 1114111
                      · exact nextR_4_ok b o c s w hl h0 hc hcell (by omega) t1 t2 t3 (by omega) hv2
                      · exact nextR_4_hi b o c s w hl h0 hc hcell (by omega) t1 t2 t3 (by omega)
            · exact nextR_bad b o c s w hl h0 hc hcell (by omega)
  · have : s = [] := List.eq_nil_of_length_eq_zero (by omega)
    subst this
    exact nextR_nil p c w
end Go.Proofs.YtagddjcjapgdaaaGreatDoor
