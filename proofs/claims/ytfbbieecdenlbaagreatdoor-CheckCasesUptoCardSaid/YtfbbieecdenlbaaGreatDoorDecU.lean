/-
  decode.Literal.
  decode.one, Units of prose in a plain text.
-/
import Derived.Test.YtfbbieecdenlbaaGreatDoorDec
import Derived.Test.YtfbbieecdenlbaaGreatDoorBookN
namespace Go.Proofs.YtfbbieecdenlbaaGreatDoor
open Go.RowKit

theorem litB_eq (b : List UInt8) (L : List (Int × Nat × Nat)) (A B C : Nat) (h1 : (unAt L 0).2.1 = A) (h2 : (unAt L (L.length - 1)).2.1 = B) (h3 : (unAt L (L.length - 1)).2.2 = C) :
    litB b L = (decide (A ≤ B + C) && (decide (B + C ≤ b.length) && decide ((b.drop A).take (B + C - A) = textU (runesL L)))) := by
  unfold litB fromL toL
  rw [h1, h2, h3]
  have e1 : ((A : Int)).toNat = A := by simp
  have e2 : ((B : Int) + C - A).toNat = B + C - A := by omega
  have e3 : decide ((A : Int) ≤ B + C) = decide (A ≤ B + C) := by congr 1; exact propext (by omega)
  have e4 : decide ((B : Int) + C ≤ b.length) = decide (B + C ≤ b.length) := by congr 1; exact propext (by omega)
  rw [e1, e2, e3, e4]

theorem slice_at {w : World} {b o c : Nat} {l : List UInt8} (h : ∀ k, k < l.length → w.cell? ⟨b, o + k, none⟩ = some (.int .u8 (bt l k))) (hm : c ≤ maxLen) (hlc : l.length ≤ c) (i : Nat) {n : Nat} (hn : i + n ≤ l.length) :
    BytesV w (.slice (if c = i then some ⟨b, o, none⟩ else some ⟨b, o + i, none⟩) n (c - i)) ((l.drop i).take n) := by
  by_cases e : c = i
  · obtain rfl : n = 0 := by omega
    rw [if_pos e]
    exact ⟨some ⟨b, o, none⟩, c - i, by simp, by simp, by omega, fun h => by simp at h⟩
  · rw [if_neg e]
    exact BytesV.part h hm i hn (by omega)

set_option maxRecDepth 100000 in
set_option maxHeartbeats 4000000 in
theorem literal_any (b : List UInt8) (L : List (Int × Nat × Nat)) (v u : Value) (w : World) (hv : BytesV w v b) (hu : UnitsV w u L) (hb : 0 < b.length) (_hbl : b.length ≤ 65536) (h0 : 0 < L.length) (hl : L.length ≤ 65536) (hbd : ∀ k, k < L.length → (unAt L k).2.1 + (unAt L k).2.2 ≤ 65536) :
    Calls Tryz.prog 107 #[v, u] w fun e w' => e = .returned (.bool (litB b L)) ∧ Only [] w w' := by
  have HU := Lib.hid hu
  obtain ⟨pb, cb, rfl, hcb, hmb, hkb⟩ := hv
  obtain ⟨bb, ob, rfl, hcell⟩ := hkb hb
  obtain ⟨pu, cu, rfl, hcu, hmu, hku⟩ := hu
  obtain ⟨bu, ou, rfl, hun⟩ := hku h0
  have hf := hun 0 h0
  have hz := hun (L.length - 1) (by omega)
  have hbz := hbd (L.length - 1) (by omega)
  have hb0 := hbd 0 h0
  have f1 : w.cell? ⟨bu, ou + 1, none⟩ = some (.int .i64 ((unAt L 0).2.1 : Int)) := by have := hf.c1; rwa [Nat.zero_mul, Nat.add_zero] at this
  have z1 := hz.c1
  have z2 := hz.c2
  obtain ⟨m, hm⟩ : ∃ m, L.length = m + 1 := ⟨L.length - 1, by omega⟩
  have hLB := litB_eq b L _ _ _ rfl rfl rfl
  have hb0' : (unAt L 0).2.1 ≤ 65536 := by omega
  generalize (unAt L 0).2.1 = A at *
  rw [hm, Nat.add_sub_cancel] at z1 z2 hbz hLB
  generalize (unAt L m).2.1 = B at *
  generalize (unAt L m).2.2 = C at *
  have HLB := Lib.hid hLB
  have HCELL := Lib.hid hcell
  have HT : Hid (∀ w', Only [] w w' → Calls Tryz.prog 106 #[.slice (some ⟨bu, ou, none⟩) L.length cu] w' fun e w'' => e = .returned (.string ⟨(textU (runesL L)).toArray⟩) ∧ Only [] w' w'') := Lib.hid fun w' ho => dtext_any L _ w' (HU.out.only ho) hl
  have hA : (A : Int) ≤ 65536 := by omega
  have hBC : (B : Int) + C ≤ 65536 := by omega
  have hcb' : (b.length : Int) ≤ cb := by omega
  have hmc : (m : Int) < cu := by omega
  have hml : (m : Int) + 1 ≤ 65536 := by omega
  have hne : ((m : Int) + 1 == 0) = false := by simp; omega
  rw [hm] at HT
  clear hf hz hun hku hkb hcell hLB hbd hb0 hb0' hbz hcu hmu hl h0
  rw [hm]
  clear hm
  go_enter Tryz.func107, Tryz.ntmps107
  go_wp2_with fail
  have ho1 : Only [] w (w.alloc (.cells #[.int .i64 B, .int .i64 C] 47)) := (Only.refl _ _).alloc _
  have hq1 := alloc_new w (.cells #[.int .i64 B, .int .i64 C] 47)
  generalize hw1 : w.alloc (.cells #[.int .i64 B, .int .i64 C] 47) = w1 at *
  have q0 : w1.cell? ⟨w.heap.size, 0, none⟩ = some (.int .i64 B) := cell_blk hq1 0
  have q1 : w1.cell? ⟨w.heap.size, 1, none⟩ = some (.int .i64 C) := cell_blk hq1 1
  have f1' : w1.cell? ⟨bu, ou + 1, none⟩ = some (.int .i64 A) := ho1.cell_some f1 (by simp)
  have HO1 := Lib.hid ho1
  clear hw1 hq1 ho1 f1 z1 z2
  refine wp_region_calm w1 [] (by kernel_rfl) (by kernel_rfl) (Only.refl _ w1) ?_
  repeat (first | go_big_quiet_skip | (go_big_quiet_want; go_big_quiet_op; first | go_big_quiet_on | (refine ⟨_, fun _ _ => rfl, ?_⟩; go_big_quiet_on) | (apply Exists.intro; refine ⟨fun w' hw' => ?_, ?_⟩; (rw [hw'.cell_some q0 (by simp)]; exact ⟨rfl, rfl⟩); go_big_quiet_on) | (apply Exists.intro; refine ⟨fun w' hw' => ?_, ?_⟩; (rw [hw'.cell_some q1 (by simp)]; exact ⟨rfl, rfl⟩); go_big_quiet_on) | (apply Exists.intro; refine ⟨fun w' hw' => ?_, ?_⟩; (rw [hw'.cell_some f1' (by simp)]; exact ⟨rfl, rfl⟩); go_big_quiet_on)))
  refine wpQuiet_nil ?_
  intro w2 ho2
  have HO2 := Lib.hid (HO1.out.trans ho2)
  clear ho2
  go_wp2_with fail
  clear q0 q1 f1'
  by_cases g1 : A ≤ B + C
  · by_cases g2 : B + C ≤ b.length
    · have g1' : (A : Int) ≤ B + C := by omega
      have g2' : (B : Int) + C ≤ b.length := by omega
      have hlb : litB b L = decide ((b.drop A).take (B + C - A) = textU (runesL L)) := by rw [HLB.out, decide_eq_true g1, decide_eq_true g2]; simp
      have HL2 := Lib.hid hlb
      have HCV : Hid (∀ w', Only [] w2 w' → (convert 44 9 (.slice (if cb = A then some ⟨bb, ob, none⟩ else some ⟨bb, ob + A, none⟩) (B + C - A) (cb - A))).run Tryz.prog w' = .ok (.string ⟨((b.drop A).take (B + C - A)).toArray⟩) w') := Lib.hid fun w' ho => by
        have hbv := slice_at (w := w') (fun k hk => (HO2.out.trans ho).cell_some (HCELL.out k hk) (by simp)) hmb hcb A (n := B + C - A) (by omega)
        exact conv_bytes hbv 44 9 5 Tryz.underlying44 Tryz.underlying5 Tryz.underlying9
      have HT2 : Hid (∀ w', Only [] w2 w' → Calls Tryz.prog 106 #[.slice (some ⟨bu, ou, none⟩) (m + 1) cu] w' fun e w'' => e = .returned (.string ⟨(textU (runesL L)).toArray⟩) ∧ Only [] w' w'') := Lib.hid fun w' ho => HT.out w' (HO2.out.trans ho)
      clear hlb g1 g2
      generalize (List.take (B + C - A) (List.drop A b)) = X at *
      generalize textU (runesL L) = Y at *
      refine wp_region_calm w2 [] (by kernel_rfl) (by kernel_rfl) (Only.refl _ w2) ?_
      repeat (first | go_big_quiet_skip | (go_big_quiet_want; go_big_quiet_op; first | go_big_quiet_on | (refine ⟨_, fun _ _ => rfl, ?_⟩; go_big_quiet_on) | (apply Exists.intro; refine ⟨fun w' hw' => ?_, ?_⟩; (rw [HCV.out w' hw']; exact ⟨rfl, rfl⟩); go_big_quiet_on) | go_big_quiet_call ((intro hw; go_at_call 106; refine (HT2.out _ hw).mono ?_; rintro e w4 ⟨rfl, ho4⟩; exact ⟨rfl, hw.trans ho4⟩))))
      refine wpQuiet_nil ?_
      intro w3 ho3
      generalize hq : (X == Y) = q at *
      have HQ := Lib.hid hq
      clear hq HCV
      generalize (if cb = A then (some ⟨bb, ob, none⟩ : Option Addr) else some ⟨bb, ob + A, none⟩) = pz
      generalize B + C - A = nz at *
      go_wp2_with fail
      go_ret
      exact ⟨ret_bool (by rw [HL2.out, ← HQ.out]; by_cases e : X = Y <;> simp [e]), HO2.out.trans ho3⟩
    · have g2' : ¬ ((B : Int) + C ≤ b.length) := by omega
      have g1' : (A : Int) ≤ B + C := by omega
      have hlb : litB b L = false := by rw [HLB.out, decide_eq_false g2]; simp
      have HL2 := Lib.hid hlb
      have hd : decide ((B : Int) + C ≤ b.length) = false := decide_eq_false g2'
      clear hlb g1 g2
      refine wp_region_calm w2 [] (by kernel_rfl) (by kernel_rfl) (Only.refl _ w2) ?_
      repeat (first | go_big_quiet_skip | (go_big_quiet_want; go_big_quiet_op; first | go_big_quiet_on | (refine ⟨_, fun _ _ => rfl, ?_⟩; go_big_quiet_on)))
      refine wpQuiet_nil ?_
      intro w3 ho3
      go_wp2_with fail
      go_ret
      exact ⟨ret_bool (by rw [HL2.out]), HO2.out.trans ho3⟩
  · have g1' : ¬ ((A : Int) ≤ B + C) := by omega
    have hlb : litB b L = false := by rw [HLB.out, decide_eq_false g1]; simp
    have HL2 := Lib.hid hlb
    have hd : decide ((A : Int) ≤ B + C) = false := decide_eq_false g1'
    clear hlb g1
    refine wp_region_calm w2 [] (by kernel_rfl) (by kernel_rfl) (Only.refl _ w2) ?_
    repeat (first | go_big_quiet_skip | (go_big_quiet_want; go_big_quiet_op; first | go_big_quiet_on | (refine ⟨_, fun _ _ => rfl, ?_⟩; go_big_quiet_on)))
    refine wpQuiet_nil ?_
    intro w3 ho3
    go_wp2_with fail
    go_ret
    exact ⟨ret_bool (by rw [HL2.out]), HO2.out.trans ho3⟩
end Go.Proofs.YtfbbieecdenlbaaGreatDoor
namespace Go.Proofs.YtfbbieecdenlbaaGreatDoor
open Go.RowKit

set_option maxRecDepth 100000 in
set_option maxHeartbeats 2000000 in
theorem one_plain (s : List UInt8) (v : Value) (w : World) (hv : BytesV w v s) (hl : s.length ≤ 65536) :
    Calls Tryz.prog 103 #[.int .u8 0, .int .u8 1, v] w fun e w' => e = .returned (nextV (nextU s)) ∧ w = w' := by
  have HC := Lib.hid (next_any s v w hv (by omega))
  clear hv
  generalize nextU s = r at *
  obtain ⟨r1, r2⟩ := r
  go_enter Tryz.func103, Tryz.ntmps103
  go_wp2_with fail
  refine HC.out.mono ?_
  rintro e w1 ⟨rfl, rfl⟩
  simp only [nextV]
  go_wp2_with fail
  go_ret2
  exact ⟨rfl, rfl⟩

set_option maxRecDepth 100000 in
set_option maxHeartbeats 4000000 in
theorem dunits_plain (b : List UInt8) (v : Value) (A n : Nat) (w : World) (hv : BytesV w v b) (hb : 0 < b.length) (hbl : b.length ≤ 65536) (hn : A + n ≤ b.length) :
    Calls Tryz.prog 64 #[.int .u8 0, v, .agg #[.int .u8 1, .int .i64 A, .int .i64 n]] w fun e w' => ∃ u, e = .returned (.tuple #[u, .int .i64 0]) ∧ Only [] w w' ∧ w'.ownsRow w.heap.size 114 3 u (unitsF (b.take (A + n)) A).length (unitCells (unitsF (b.take (A + n)) A)) := by
  obtain ⟨pb, cb, rfl, hcb, hmb, hkb⟩ := hv
  obtain ⟨bb, ob, rfl, hcell⟩ := hkb hb
  have HCELL := Lib.hid hcell
  have hcb' : (b.length : Int) ≤ cb := by omega
  have hbl' : (b.length : Int) ≤ 65536 := by omega
  have hn' : (A : Int) + n ≤ b.length := by omega
  have hsl : (b.take (A + n)).length = A + n := by rw [List.length_take]; omega
  clear hcell hkb
  generalize hS : b.take (A + n) = S at *
  have HSE := Lib.hid hS
  clear hS
  go_enter Tryz.func64, Tryz.ntmps64
  go_wp2_with fail
  have ho1 : Only [] w (w.alloc (.cells #[.int .u8 1, .int .i64 A, .int .i64 n] 157)) := (Only.refl _ _).alloc _
  have hq1 := alloc_new w (.cells #[.int .u8 1, .int .i64 A, .int .i64 n] 157)
  generalize hw1 : w.alloc (.cells #[.int .u8 1, .int .i64 A, .int .i64 n] 157) = w1 at *
  have q0 : w1.cell? ⟨w.heap.size, 0, none⟩ = some (.int .u8 1) := cell_blk hq1 0
  have q1 : w1.cell? ⟨w.heap.size, 1, none⟩ = some (.int .i64 A) := cell_blk hq1 1
  have q2 : w1.cell? ⟨w.heap.size, 2, none⟩ = some (.int .i64 n) := cell_blk hq1 2
  have HO1 := Lib.hid ho1
  clear hw1 hq1 ho1
  refine wp_region_calm w1 [] (by kernel_rfl) (by kernel_rfl) (Only.refl _ w1) ?_
  repeat (first | go_big_quiet_skip | (go_big_quiet_want; go_big_quiet_op; first | go_big_quiet_on | (refine ⟨_, fun _ _ => rfl, ?_⟩; go_big_quiet_on) | (apply Exists.intro; refine ⟨fun w' hw' => ?_, ?_⟩; (rw [hw'.cell_some q1 (by simp)]; exact ⟨rfl, rfl⟩); go_big_quiet_on) | (apply Exists.intro; refine ⟨fun w' hw' => ?_, ?_⟩; (rw [hw'.cell_some q2 (by simp)]; exact ⟨rfl, rfl⟩); go_big_quiet_on)))
  refine wpQuiet_nil ?_
  intro w2 ho2
  have q0' : w2.cell? ⟨w.heap.size, 0, none⟩ = some (.int .u8 1) := ho2.cell_some q0 (by simp)
  have HO2 := Lib.hid (HO1.out.trans ho2)
  clear ho2 q0 q1 q2
  have hd1 : decide ((A : Int) < 0) = false := decide_eq_false (by omega)
  have hd2 : decide ((n : Int) < 0) = false := decide_eq_false (by omega)
  have hd3 : decide (b.length < A) = false := decide_eq_false (by omega)
  have hd4 : decide ((b.length : Int) - A < n) = false := decide_eq_false (by omega)
  go_wp2_with fail
  go_loopw [8, 10] (fun iv uv wr => ∃ (k : Nat) (acc : List (Int × Nat × Nat)), A ≤ k ∧ k ≤ A + n ∧ acc.length ≤ k ∧ iv = .int .i64 k ∧ unitsF S A = acc ++ unitsF S k ∧ Only [] w2 wr ∧ wr.ownsRow w2.heap.size 114 3 uv acc.length (unitCells acc)) (fun iv _ _ => A + n - (intOf iv).toNat)
  case atStart => exact ⟨A, [], by omega, by omega, by simp, rfl, rfl, Only.refl _ _, World.ownsRow_nil _ _ _ _⟩
  case round =>
    obtain ⟨k, acc, hAk, hks, hka, rfl, hrun, ho, hown⟩ := hrel
    obtain ⟨pu, cu, rfl, -⟩ := ownsRow_shape hown
    have HRUN := Lib.hid hrun
    have HO := Lib.hid ho
    have HOWN := Lib.hid hown
    by_cases hlt : k < A + n
    · have hkc : (k : Int) < A + n := by omega
      have hstep := unitsF_step S k (by omega)
      have hpos := nextU_pos _ (drop_ne (s := S) (k := k) (by omega))
      have hdl : (S.drop k).length = A + n - k := by rw [List.length_drop, hsl]
      have HV : Hid (∀ w', Only [] wr w' → BytesV w' (.slice (some ⟨bb, ob + k, none⟩) (A + n - k) (cb - k)) (S.drop k)) := Lib.hid fun w' hw => by
        have h := BytesV.part (w := w') (fun j hj => ((HO2.out.trans HO.out).trans hw).cell_some (HCELL.out j hj) (by simp)) hmb k (n := A + n - k) (by omega) (by omega)
        rwa [← List.drop_take, HSE.out] at h
      have q0 : wr.cell? ⟨w.heap.size, 0, none⟩ = some (.int .u8 1) := ho.cell_some q0' (by simp)
      have HCALL : Hid (∀ w', Only [] wr w' → Calls Tryz.prog 103 #[.int .u8 0, .int .u8 1, .slice (some ⟨bb, ob + k, none⟩) (A + n - k) (cb - k)] w' fun e w'' => e = .returned (nextV (nextU (S.drop k))) ∧ w' = w'') := Lib.hid fun w' hw => one_plain _ _ w' (HV.out w' hw) (by omega)
      clear hrun ho hown HV
      generalize nextU (S.drop k) = r at *
      obtain ⟨r1, r2⟩ := r
      simp only at hstep hpos
      have HCALL2 : Hid (∀ w', Only [] wr w' → Calls Tryz.prog 103 #[.int .u8 0, .int .u8 1, .slice (some ⟨bb, ob + k, none⟩) (A + n - k) (cb - k)] w' fun e w'' => e = .returned (.tuple #[.int .i32 r1, .int .i64 (r2 : Int)]) ∧ w' = w'') := Lib.hid fun w' hw => HCALL.out w' hw
      have HSTEP := Lib.hid hstep
      clear hstep
      go_wp2_with fail
      refine wp_region_calm wr [] (by kernel_rfl) (by kernel_rfl) (Only.refl _ wr) ?_
      repeat (first | go_big_quiet_skip | (go_big_quiet_want; go_big_quiet_op; first | go_big_quiet_on | (refine ⟨_, fun _ _ => rfl, ?_⟩; go_big_quiet_on) | (apply Exists.intro; refine ⟨fun w' hw' => ?_, ?_⟩; (rw [hw'.cell_some q0 (by simp)]; exact ⟨rfl, rfl⟩); go_big_quiet_on) | go_big_quiet_call ((intro hw; go_at_call 103; refine (HCALL2.out _ hw).mono ?_; rintro e w4 ⟨rfl, rfl⟩; exact ⟨rfl, hw⟩))))
      refine wpQuiet_nil ?_
      intro w3 ho3
      have HO3 := Lib.hid (HO.out.trans ho3)
      have HOWN3 := Lib.hid (ownsRow_only HOWN.out ho3 (by simp))
      clear ho3 HCALL HCALL2 q0
      have hr2 : ((k : Int) + r2) ≤ A + n := by omega
      go_wp2_with (at_builtin; refine wpList_append_lit rfl (.tmp 57) (.tmp 63) 111 rfl w2 [] 114 (.agg #[.int .i32 0, .int .i64 0, .int .i64 0]) 3 24 Tryz.underlying111 infoUnit rfl (by decide) (.slice pu acc.length cu) acc.length (unitCells acc) rfl HOWN3.out HO3.out w3.heap.size 1 [.int .i32 r1, .int .i64 k, .int .i64 r2] rfl rfl rfl (by simp [Value.oneCell']) (by unfold maxLen; omega) (by omega) ?_)
      intro v' w4 hown4 ho4
      have HOWN4 := Lib.hid hown4
      have HO4 := Lib.hid ho4
      clear hown4 ho4
      go_wp2_with fail
      go_roundw
      case rel => exact ⟨k + r2, acc ++ [(r1, k, r2)], by omega, by omega, by simp; omega, by go_num, by rw [HRUN.out, HSTEP.out]; simp, HO4.out, by rw [List.length_append, unitCells_append]; exact HOWN4.out⟩
      case measure => simp [intOf]; omega
    · have hend := unitsF_end S k (by omega)
      have hacc : unitsF S A = acc := by rw [HRUN.out, hend, List.append_nil]
      clear hend hrun ho hown
      go_wp2_with fail
      go_ret2
      exact ⟨_, rfl, HO2.out.trans HO.out, by rw [hacc]; exact ownsRow_base HOWN.out (fun i hi => by have := HOWN.out.lt i hi; have := HO2.out.size; omega)⟩
end Go.Proofs.YtfbbieecdenlbaaGreatDoor
