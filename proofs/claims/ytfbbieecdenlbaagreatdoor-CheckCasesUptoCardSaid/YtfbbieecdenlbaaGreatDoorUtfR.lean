/-
  utf.Next, whole.
  utf.Units: all signs of bytes.
  utf.Runes: a text's runes.
-/
import Derived.Test.YtfbbieecdenlbaaGreatDoorUtfN
import Derived.Lib.ConvBytes
namespace Go.Proofs.YtfbbieecdenlbaaGreatDoor
open Go.RowKit

theorem next_any (s : List UInt8) (v : Value) (w : World) (hv : BytesV w v s) (hl : s.length ≤ 2097152) :
    Calls Tryz.prog 69 #[v] w fun e w' => e = .returned (nextV (nextU s)) ∧ w = w' := by
  obtain ⟨p, c, rfl, hc, hm, hb⟩ := hv
  by_cases h0 : 0 < s.length
  · obtain ⟨b, o, rfl, hcell⟩ := hb h0
    by_cases a1 : bn s 0 < 128
    · exact next_one b o c s w hl h0 hc hcell a1
    · by_cases a2 : bn s 0 < 194 ∨ 245 ≤ bn s 0
      · exact next_bad b o c s w hl h0 hc hcell (by omega) a2
      · by_cases a3 : bn s 0 < 224
        · exact next_two b o c s w hl h0 hc hcell (by omega)
        · by_cases a4 : bn s 0 < 240
          · exact next_three b o c s w hl h0 hc hcell (by omega)
          · exact next_four b o c s w hl h0 hc hcell (by omega)
  · have : s = [] := List.eq_nil_of_length_eq_zero (by omega)
    subst this
    exact next_nil p c w
end Go.Proofs.YtfbbieecdenlbaaGreatDoor
namespace Go.Proofs.YtfbbieecdenlbaaGreatDoor
open Go.RowKit

def unitCells (l : List (Int × Nat × Nat)) : List Value := l.flatMap fun s => [.int .i32 s.1, .int .i64 (s.2.1 : Int), .int .i64 (s.2.2 : Int)]
theorem unitCells_append (a b : List (Int × Nat × Nat)) : unitCells (a ++ b) = unitCells a ++ unitCells b := by simp [unitCells]
theorem infoUnit : (Tryz.prog.info? 114).map (fun i => (i.zero, i.size, i.bytes)) = some (some (.agg #[.int .i32 0, .int .i64 0, .int .i64 0]), 3, 24) := by kernel_rfl

theorem seg_bytes {w : World} {b o c k : Nat} {l : List UInt8} (h : ∀ j, j < l.length → w.cell? ⟨b, o + j, none⟩ = some (.int .u8 (bt l j))) (hm : c ≤ maxLen) (hk : k ≤ l.length) (hc : l.length ≤ c) :
    BytesV w (.slice (some ⟨b, o + k, none⟩) (l.length - k) (c - k)) (l.drop k) := by
  have := BytesV.part h hm k (n := l.length - k) (by omega) (by omega)
  rwa [List.take_of_length_le (by simp)] at this

set_option maxRecDepth 100000 in
set_option maxHeartbeats 1000000 in
theorem units_any (s : List UInt8) (v : Value) (w : World) (hv : BytesV w v s) (hl : s.length ≤ 2097152) :
    Calls Tryz.prog 41 #[v] w fun e w' => ∃ u, e = .returned u ∧ Only [] w w' ∧ w'.ownsRow w.heap.size 114 3 u (unitsF s 0).length (unitCells (unitsF s 0)) := by
  obtain ⟨p, c, rfl, hc, hm, hk⟩ := hv
  have HK := Lib.hid hk
  have hl' : (s.length : Int) ≤ 2097152 := by omega
  clear hk
  go_enter Tryz.func41, Tryz.ntmps41
  go_wp2_with fail
  go_loopw [3, 4, 5, 6, 11] (fun uv iv _ _ _ wr => ∃ (k : Nat) (acc : List (Int × Nat × Nat)), k ≤ s.length ∧ acc.length ≤ k ∧ iv = .int .i64 k ∧ unitsF s 0 = acc ++ unitsF s k ∧ Only [] w wr ∧ wr.ownsRow w.heap.size 114 3 uv acc.length (unitCells acc)) (fun _ iv _ _ _ _ => s.length - (intOf iv).toNat)
  case atStart => exact ⟨0, [], by omega, by simp, rfl, rfl, Only.refl _ _, World.ownsRow_nil _ _ _ _⟩
  case round =>
    obtain ⟨k, acc, hks, hka, rfl, hrun, ho, hown⟩ := hrel
    obtain ⟨pu, cu, rfl, -⟩ := ownsRow_shape hown
    have HRUN := Lib.hid hrun
    have HO := Lib.hid ho
    have HOWN := Lib.hid hown
    clear hrun ho hown
    by_cases hlt : k < s.length
    · obtain ⟨b, o, rfl, hcell⟩ := HK.out (by omega)
      have hkc : (k : Int) < c := by omega
      have hstep := unitsF_step s k hlt
      have hpos := nextU_pos _ (drop_ne hlt)
      have hbv := seg_bytes (fun j hj => HO.out.cell_some (hcell j hj) (by simp)) hm hks hc
      have HBV := Lib.hid hbv
      have hdl : (s.drop k).length = s.length - k := List.length_drop
      have HCALL := Lib.hid (next_any (s.drop k) _ wr hbv (by omega))
      clear hcell hbv
      generalize nextU (s.drop k) = r at *
      obtain ⟨r1, r2⟩ := r
      simp only at hstep hpos
      have HSTEP := Lib.hid hstep
      clear hstep
      go_wp2_with fail
      refine HCALL.out.mono ?_
      rintro e w2 ⟨rfl, rfl⟩
      simp only [nextV]
      have hr2 : ((k : Int) + r2) ≤ 2097152 := by omega
      go_wp2_with (at_builtin; refine wpList_append_lit rfl (.tmp 18) (.tmp 24) 111 rfl w [] 114 (.agg #[.int .i32 0, .int .i64 0, .int .i64 0]) 3 24 Tryz.underlying111 infoUnit rfl (by decide) (.slice pu acc.length cu) acc.length (unitCells acc) rfl HOWN.out HO.out wr.heap.size 1 [.int .i32 r1, .int .i64 k, .int .i64 r2] rfl rfl rfl (by simp [Value.oneCell']) (by unfold maxLen; omega) (by omega) ?_)
      intro v' w3 hown3 ho3
      have HOWN3 := Lib.hid hown3
      have HO3 := Lib.hid ho3
      clear hown3 ho3
      go_wp2_with fail
      go_roundw
      case rel => exact ⟨k + r2, acc ++ [(r1, k, r2)], by omega, by simp; omega, by go_num, by rw [HRUN.out, HSTEP.out]; simp, HO3.out, by rw [List.length_append, unitCells_append]; exact HOWN3.out⟩
      case measure => simp [intOf]; omega
    · have hend := unitsF_end s k (by omega)
      have hacc : unitsF s 0 = acc := by rw [HRUN.out, hend, List.append_nil]
      go_wp2_with fail
      go_ret
      exact ⟨_, rfl, HO.out, by rw [hacc]; exact HOWN.out⟩
end Go.Proofs.YtfbbieecdenlbaaGreatDoor
namespace Go.Proofs.YtfbbieecdenlbaaGreatDoor
open Go.RowKit

theorem conv_strU (l : List UInt8) (hl : l.length ≤ maxLen) (w : World) :
    ∃ c w', (convert 9 44 (.string ⟨l.toArray⟩)).run Tryz.prog w = .ok (.slice (some ⟨w.heap.size, 0, none⟩) l.length c) w' ∧ Only [] w w' ∧ BytesV w' (.slice (some ⟨w.heap.size, 0, none⟩) l.length c) l := by
  have h := Lib.run_convert_string_bytes (P := Tryz.prog) w 9 44 5 ⟨l.toArray⟩ Tryz.underlying9 Tryz.underlying44 Tryz.underlying5
  have hsz : (⟨l.toArray⟩ : ByteArray).size = l.length := by simp [ByteArray.size]
  rw [hsz] at h
  have hge := grownCap_ge w l.length 0 5
  refine ⟨_, _, h, ⟨rfl, rfl, rfl, ?_, fun k hk _ => Lib.bytesWorld_at_old w _ _ k hk⟩, ⟨_, _, rfl, hge, grownCap_le_maxLen w l.length 0 _ hl, fun _ => ⟨_, 0, rfl, fun k hk => ?_⟩⟩⟩
  · rw [Lib.bytesWorld_size]; omega
  · rw [Nat.zero_add, Lib.bytesWorld_cell w _ _ k (by rw [hsz]; exact hk)]
    rfl
theorem infoRune : (Tryz.prog.info? 21).map (fun i => (i.zero, i.size, i.bytes)) = some (some (.int .i32 0), 1, 4) := by kernel_rfl
theorem unitCells_at (l : List (Int × Nat × Nat)) (k : Nat) (h : k < l.length) : (unitCells l)[k * 3]? = some (.int .i32 l[k].1) ∧ (unitCells l)[k * 3 + 1]? = some (.int .i64 (l[k].2.1 : Int)) ∧ (unitCells l)[k * 3 + 1 + 1]? = some (.int .i64 (l[k].2.2 : Int)) := by
  induction l generalizing k with
  | nil => simp at h
  | cons a l ih =>
    cases k with
    | zero => exact ⟨rfl, rfl, rfl⟩
    | succ k =>
      have := ih k (by simpa using h)
      rw [show (k + 1) * 3 = k * 3 + 1 + 1 + 1 by omega]
      simpa [unitCells] using this

set_option maxRecDepth 100000 in
set_option maxHeartbeats 1000000 in
theorem runes_any (s : List UInt8) (w : World) (hl : s.length ≤ 2097152) :
    Calls Tryz.prog 22 #[.string ⟨s.toArray⟩] w fun e w' => ∃ u, e = .returned u ∧ Only [] w w' ∧ w'.ownsRow w.heap.size 21 1 u (runesU s).length ((runesU s).map (Value.int .i32)) := by
  obtain ⟨c', w1, hcv, ho1, hv1⟩ := conv_strU s (by unfold maxLen; omega) w
  have HO1 := Lib.hid ho1
  have HV1 := Lib.hid hv1
  clear ho1 hv1
  have hul : (unitsF s 0).length ≤ 2097152 := by have := unitsF_len s s.length 0 (by omega); omega
  have hrl : ∀ k, ((unitsF s 0).take k).length ≤ 2097152 := fun k => by rw [List.length_take]; omega
  have hru : runesU s = (unitsF s 0).map (·.1) := rfl
  have HRU := Lib.hid hru
  clear hru
  go_enter Tryz.func22, Tryz.ntmps22
  go_wp2_with fail
  refine (units_any s _ w1 HV1.out hl).mono ?_
  rintro e w2 ⟨u, rfl, ho2, hu⟩
  obtain ⟨pu, cu, rfl, -⟩ := ownsRow_shape hu
  generalize unitsF s 0 = U at *
  have HU := Lib.hid hu
  have HO2 := Lib.hid (HO1.out.trans ho2)
  have hul' : (U.length : Int) ≤ 2097152 := by omega
  clear hu ho2 hcv
  go_wp2_with fail
  go_loopw [3, 5, 10] (fun rv _ iv wr => ∃ k : Nat, k ≤ U.length ∧ iv = .int .i64 k ∧ Only [] w2 wr ∧ wr.ownsRow w2.heap.size 21 1 rv k (((U.take k).map (·.1)).map (Value.int .i32))) (fun _ _ iv _ => U.length - (intOf iv).toNat)
  case atStart => exact ⟨0, by omega, rfl, Only.refl _ _, World.ownsRow_nil _ _ _ _⟩
  case round =>
    obtain ⟨k, hk, rfl, ho, hown⟩ := hrel
    obtain ⟨pr, cr, rfl, -⟩ := ownsRow_shape hown
    have HO := Lib.hid ho
    have HOWN := Lib.hid hown
    clear hown
    by_cases hlt : k < U.length
    · have hw := ownsRow_only HU.out ho (by simp)
      obtain ⟨g, cg, hpr, hg, -⟩ := ownsRow_some hw (by omega)
      simp only [Value.slice.injEq, true_and] at hpr
      obtain ⟨rfl, rfl⟩ := hpr
      have hsa := unitCells_at U k hlt
      have k0 : wr.cell? ⟨g, k * 3, none⟩ = some (.int .i32 U[k].1) := by rw [hw.cellAt (k * 3) (by omega)]; exact hsa.1
      have k1 : wr.cell? ⟨g, k * 3 + 1, none⟩ = some (.int .i64 (U[k].2.1 : Int)) := by rw [hw.cellAt (k * 3 + 1) (by omega)]; exact hsa.2.1
      have k2 : wr.cell? ⟨g, k * 3 + 1 + 1, none⟩ = some (.int .i64 (U[k].2.2 : Int)) := by rw [hw.cellAt (k * 3 + 1 + 1) (by omega)]; exact hsa.2.2
      have htk : (U.take (k + 1)).map (·.1) = (U.take k).map (·.1) ++ [U[k].1] := by rw [List.take_succ_eq_append_getElem hlt, List.map_append]; rfl
      have HTK := Lib.hid htk
      clear hw hsa ho htk
      generalize U[k].1 = x at *
      generalize U[k].2.1 = y at *
      generalize U[k].2.2 = z at *
      have hc := cell_blk (alloc_new wr (.cells #[.int .i32 x, .int .i64 y, .int .i64 z] 114)) 0
      have q0 : (wr.alloc (.cells #[.int .i32 x, .int .i64 y, .int .i64 z] 114)).cell? ⟨wr.heap.size, 0, none⟩ = some (.int .i32 x) := by rw [hc]; rfl
      clear hc
      go_wp2_with (at_builtin; refine wpList_append_lit rfl (.tmp 14) (.tmp 17) 78 rfl w2 [] 21 (.int .i32 0) 1 4 Tryz.underlying78 infoRune rfl (by decide) (.slice pr k cr) k _ rfl (HOWN.out.alloc _) (HO.out.alloc _) (wr.heap.size + 1) 1 [.int .i32 x] rfl (by simp) rfl (by simp [Value.oneCell']) (by unfold maxLen; omega) (by omega) ?_)
      intro v' w3 hown3 ho3
      have HOWN3 := Lib.hid hown3
      have HO3 := Lib.hid ho3
      clear hown3 ho3
      go_wp2_with fail
      go_roundw
      case rel => exact ⟨k + 1, by omega, by go_num, HO3.out, by rw [HTK.out]; simpa using HOWN3.out⟩
      case measure => simp [intOf]; omega
    · obtain rfl : k = U.length := by omega
      have h := HOWN.out
      rw [List.take_length] at h
      have h2 : wr.ownsRow w.heap.size 21 1 (.slice pr U.length cr) (runesU s).length ((runesU s).map (Value.int .i32)) := by
        rw [HRU.out, List.length_map]
        exact ownsRow_base h (fun i hi => by have := h.lt i hi; have := HO2.out.size; omega)
      have H2 := Lib.hid h2
      clear h h2 ho
      go_wp2_with fail
      go_ret
      exact ⟨_, rfl, HO2.out.trans HO.out, H2.out⟩
end Go.Proofs.YtfbbieecdenlbaaGreatDoor
