/-
  redpenref01.Units, Runes, Great, Bytes, Text, Fold.
  redpenref01.Text, Fold: as fold.Fold.
-/
import Derived.Test.YtagddjcjapgdaaaGreatDoorRef1N
import Derived.Test.YtagddjcjapgdaaaGreatDoorFoldS
namespace Go.Proofs.YtagddjcjapgdaaaGreatDoor
open Go.RowKit

set_option maxRecDepth 100000 in
set_option maxHeartbeats 1000000 in
theorem unitsR_any (s : List UInt8) (v : Value) (w : World) (hv : BytesV w v s) (hl : s.length ≤ 65536) :
    Calls Tryz.prog 56 #[v] w fun e w' => ∃ u, e = .returned u ∧ Only [] w w' ∧ w'.ownsRow w.heap.size 127 3 u (unitsF s 0).length (unitCells (unitsF s 0)) := by
  obtain ⟨p, c, rfl, hc, hm, hk⟩ := hv
  have HK := Lib.hid hk
  have hl' : (s.length : Int) ≤ 65536 := by omega
  clear hk
  go_enter Tryz.func56, Tryz.ntmps56
  go_wp2_with fail
  go_loopw [3, 4, 5, 6] (fun uv iv _ _ wr => ∃ (k : Nat) (acc : List (Int × Nat × Nat)), k ≤ s.length ∧ acc.length ≤ k ∧ iv = .int .i64 k ∧ unitsF s 0 = acc ++ unitsF s k ∧ Only [] w wr ∧ wr.ownsRow w.heap.size 127 3 uv acc.length (unitCells acc)) (fun _ iv _ _ _ => s.length - (intOf iv).toNat)
  case atStart => exact ⟨0, [], by omega, by simp, rfl, rfl, Only.refl _ _, World.ownsRow_nil _ _ _ _⟩
  case round =>
    obtain ⟨k, acc, hks, hka, rfl, hrun, ho, hown⟩ := hrel
    obtain ⟨pu, cu, rfl, -⟩ := ownsRow_shape hown
    have HRUN := Lib.hid hrun
    have HO := Lib.hid ho
    have HOWN := Lib.hid hown
    clear hrun ho hown
    by_cases hlt : k < s.length
    · obtain ⟨b, o, rfl, hcell⟩ := HK.out (by omega)
      have hkc : (k : Int) < c := by omega
      have hstep := unitsF_step s k hlt
      have hpos := nextU_pos _ (drop_ne hlt)
      have hbv := seg_bytes (fun j hj => HO.out.cell_some (hcell j hj) (by simp)) hm hks hc
      have hdl : (s.drop k).length = s.length - k := List.length_drop
      have HCALL := Lib.hid (nextR_any (s.drop k) _ wr hbv (by omega))
      clear hcell hbv
      generalize nextU (s.drop k) = r at *
      obtain ⟨r1, r2⟩ := r
      simp only at hstep hpos
      have HSTEP := Lib.hid hstep
      clear hstep
      go_wp2_with fail
      refine HCALL.out.mono ?_
      rintro e w2 ⟨rfl, ho2⟩
      have HO2 := Lib.hid (HO.out.trans ho2)
      have HOWN2 := Lib.hid (ownsRow_only HOWN.out ho2 (by simp))
      clear ho2
      simp only [nextV]
      have hr2 : ((k : Int) + r2) ≤ 65536 := by omega
      go_wp2_with (at_builtin; refine wpList_append_lit rfl (.tmp 18) (.tmp 24) 95 rfl w [] 127 (.agg #[.int .i32 0, .int .i64 0, .int .i64 0]) 3 24 Tryz.underlying95 infoUnit rfl (by decide) (.slice pu acc.length cu) acc.length (unitCells acc) rfl HOWN2.out HO2.out w2.heap.size 1 [.int .i32 r1, .int .i64 k, .int .i64 r2] rfl rfl rfl (by simp [Value.oneCell']) (by unfold maxLen; omega) (by omega) ?_)
      intro v' w3 hown3 ho3
      have HOWN3 := Lib.hid hown3
      have HO3 := Lib.hid ho3
      clear hown3 ho3
      go_wp2_with fail
      go_roundw
      case rel => exact ⟨k + r2, acc ++ [(r1, k, r2)], by omega, by simp; omega, by go_num, by rw [HRUN.out, HSTEP.out]; simp, HO3.out, by rw [List.length_append, unitCells_append]; exact HOWN3.out⟩
      case measure => simp [intOf]; omega
    · have hend := unitsF_end s k (by omega)
      have hacc : unitsF s 0 = acc := by rw [HRUN.out, hend, List.append_nil]
      go_wp2_with fail
      go_ret
      exact ⟨_, rfl, HO.out, by rw [hacc]; exact HOWN.out⟩

set_option maxRecDepth 100000 in
set_option maxHeartbeats 1000000 in
theorem runesR_any (s : List UInt8) (w : World) (hl : s.length ≤ 65536) :
    Calls Tryz.prog 20 #[.string ⟨s.toArray⟩] w fun e w' => ∃ u, e = .returned u ∧ Only [] w w' ∧ w'.ownsRow w.heap.size 21 1 u (runesU s).length ((runesU s).map (Value.int .i32)) := by
  obtain ⟨c', w1, hcv, ho1, hv1⟩ := conv_strU s (by unfold maxLen; omega) w
  have HO1 := Lib.hid ho1
  have HV1 := Lib.hid hv1
  clear ho1 hv1
  have hul : (unitsF s 0).length ≤ 65536 := by have := unitsF_len s s.length 0 (by omega); omega
  have hrl : ∀ k, ((unitsF s 0).take k).length ≤ 65536 := fun k => by rw [List.length_take]; omega
  have hru : runesU s = (unitsF s 0).map (·.1) := rfl
  have HRU := Lib.hid hru
  clear hru
  go_enter Tryz.func20, Tryz.ntmps20
  go_wp2_with fail
  refine (unitsR_any s _ w1 HV1.out hl).mono ?_
  rintro e w2 ⟨u, rfl, ho2, hu⟩
  obtain ⟨pu, cu, rfl, -⟩ := ownsRow_shape hu
  generalize unitsF s 0 = U at *
  have HU := Lib.hid hu
  have HO2 := Lib.hid (HO1.out.trans ho2)
  have hul' : (U.length : Int) ≤ 65536 := by omega
  clear hu ho2 hcv
  go_wp2_with fail
  go_loopw [3, 5] (fun rv iv wr => ∃ k : Nat, k ≤ U.length ∧ iv = .int .i64 k ∧ Only [] w2 wr ∧ wr.ownsRow w2.heap.size 21 1 rv k (((U.take k).map (·.1)).map (Value.int .i32))) (fun _ iv _ => U.length - (intOf iv).toNat)
  case atStart => exact ⟨0, by omega, rfl, Only.refl _ _, World.ownsRow_nil _ _ _ _⟩
  case round =>
    obtain ⟨k, hk, rfl, ho, hown⟩ := hrel
    obtain ⟨pr, cr, rfl, -⟩ := ownsRow_shape hown
    have HO := Lib.hid ho
    have HOWN := Lib.hid hown
    clear hown
    by_cases hlt : k < U.length
    · have hw := ownsRow_only HU.out ho (by simp)
      obtain ⟨g, cg, hpr, hg, -⟩ := ownsRow_some hw (by omega)
      simp only [Value.slice.injEq, true_and] at hpr
      obtain ⟨rfl, rfl⟩ := hpr
      have hsa := unitCells_at U k hlt
      have k0 : wr.cell? ⟨g, k * 3, none⟩ = some (.int .i32 U[k].1) := by rw [hw.cellAt (k * 3) (by omega)]; exact hsa.1
      have htk : (U.take (k + 1)).map (·.1) = (U.take k).map (·.1) ++ [U[k].1] := by rw [List.take_succ_eq_append_getElem hlt, List.map_append]; rfl
      have HTK := Lib.hid htk
      clear hw hsa ho htk
      generalize U[k].1 = x at *
      go_wp2_with (at_builtin; refine wpList_append_lit rfl (.tmp 15) (.tmp 21) 74 rfl w2 [] 21 (.int .i32 0) 1 4 Tryz.underlying74 infoRune rfl (by decide) (.slice pr k cr) k _ rfl HOWN.out HO.out wr.heap.size 1 [.int .i32 x] rfl rfl rfl (by simp [Value.oneCell']) (by unfold maxLen; omega) (by omega) ?_)
      intro v' w3 hown3 ho3
      have HOWN3 := Lib.hid hown3
      have HO3 := Lib.hid ho3
      clear hown3 ho3
      go_wp2_with fail
      go_roundw
      case rel => exact ⟨k + 1, by omega, by go_num, HO3.out, by rw [HTK.out]; simpa using HOWN3.out⟩
      case measure => simp [intOf]; omega
    · obtain rfl : k = U.length := by omega
      have h := HOWN.out
      rw [List.take_length] at h
      have h2 : wr.ownsRow w.heap.size 21 1 (.slice pr U.length cr) (runesU s).length ((runesU s).map (Value.int .i32)) := by
        rw [HRU.out, List.length_map]
        exact ownsRow_base h (fun i hi => by have := h.lt i hi; have := HO2.out.size; omega)
      have H2 := Lib.hid h2
      clear h h2 ho
      go_wp2_with fail
      go_ret
      exact ⟨_, rfl, HO2.out.trans HO.out, H2.out⟩

set_option maxRecDepth 100000 in
theorem greatR_any (r : Int) (w : World) : Calls Tryz.prog 21 #[.int .i32 r] w fun e w' => e = .returned (.bool (greatU r)) ∧ w = w' := by
  by_cases a1 : 65 ≤ r <;> by_cases a2 : r ≤ 90 <;> by_cases a3 : 192 ≤ r <;> by_cases a4 : r ≤ 222 <;> cases a5 : (r == 215)
  all_goals
    first
    | (exfalso; omega)
    | (go_enter Tryz.func21, Tryz.ntmps21
       go_wp2
       go_ret
       exact ⟨ret_bool (by simp [greatU, a1, a2, a3, a4, a5, bne]), rfl⟩)

theorem lit_bytes (w : World) (l : List UInt8) (hl : l.length ≤ 4) : BytesV (w.alloc (.cells (byteRow l).toArray 5)) (.slice (some ⟨w.heap.size, 0, none⟩) l.length l.length) l := by
  refine ⟨_, l.length, rfl, Nat.le_refl _, by unfold maxLen; omega, fun _ => ⟨_, 0, rfl, fun k hk => ?_⟩⟩
  rw [Nat.zero_add, cell_blk (alloc_new w _)]
  simpa using byteRow_get l k hk

set_option maxRecDepth 100000 in
set_option maxHeartbeats 1000000 in
theorem bytesR_any (r : Int) (w : World) (h0 : -1 ≤ r) (h1 : r ≤ 1114111) :
    Calls Tryz.prog 57 #[.int .i32 r] w fun e w' => ∃ u, e = .returned u ∧ Only [] w w' ∧ BytesV w' u (encU r) := by
  by_cases a1 : r < 0
  · have he := (enc_no r (Or.inl a1)).2
    rw [he]
    clear he
    go_enter Tryz.func57, Tryz.ntmps57
    go_wp2_with fail
    go_ret
    exact ⟨_, rfl, Only.refl _ _, BytesV.nil _⟩
  · by_cases a2 : r < 128
    · have he := (enc_1 r (by omega) (by omega)).2
      have h := lit_bytes w (encU r) (enc_len r)
      rw [he, row1 r (by omega) (by omega)] at h
      rw [he]
      have H := Lib.hid h
      clear he h
      go_enter Tryz.func57, Tryz.ntmps57
      go_wp2_with fail
      go_ret
      exact ⟨_, rfl, (Only.refl _ _).alloc _, H.out⟩
    · by_cases a3 : r < 2048
      · have he := (enc_2 r (by omega) (by omega)).2
        have h := lit_bytes w (encU r) (enc_len r)
        rw [he, row2 _ _ (by omega) (by omega) (by omega) (by omega)] at h
        rw [he]
        have H := Lib.hid h
        clear he h
        go_enter Tryz.func57, Tryz.ntmps57
        go_wp2_with fail
        go_ret
        exact ⟨_, rfl, (Only.refl _ _).alloc _, H.out⟩
      · by_cases a4 : 55296 ≤ r
        · by_cases a5 : r ≤ 57343
          · have he := (enc_no r (Or.inr (Or.inr ⟨a4, by omega⟩))).2
            rw [he]
            clear he
            go_enter Tryz.func57, Tryz.ntmps57
            go_wp2_with fail
            go_ret
            exact ⟨_, rfl, Only.refl _ _, BytesV.nil _⟩
          · by_cases a6 : r < 65536
            · have he := (enc_3 r (by omega) (by omega) (by omega)).2
              have h := lit_bytes w (encU r) (enc_len r)
              rw [he, row3 _ _ _ (by omega) (by omega) (by omega) (by omega) (by omega) (by omega)] at h
              rw [he]
              have H := Lib.hid h
              clear he h
              go_enter Tryz.func57, Tryz.ntmps57
              go_wp2_with fail
              go_ret
              exact ⟨_, rfl, (Only.refl _ _).alloc _, H.out⟩
            · have he := (enc_4 r (by omega) (by omega)).2
              have h := lit_bytes w (encU r) (enc_len r)
              rw [he, row4 _ _ _ _ (by omega) (by omega) (by omega) (by omega) (by omega) (by omega) (by omega) (by omega)] at h
              rw [he]
              have H := Lib.hid h
              clear he h
              go_enter Tryz.func57, Tryz.ntmps57
              go_wp2_with fail
              go_ret
              exact ⟨_, rfl, (Only.refl _ _).alloc _, H.out⟩
        · have he := (enc_3 r (by omega) (by omega) (by omega)).2
          have h := lit_bytes w (encU r) (enc_len r)
          rw [he, row3 _ _ _ (by omega) (by omega) (by omega) (by omega) (by omega) (by omega)] at h
          rw [he]
          have H := Lib.hid h
          clear he h
          go_enter Tryz.func57, Tryz.ntmps57
          go_wp2_with fail
          go_ret
          exact ⟨_, rfl, (Only.refl _ _).alloc _, H.out⟩
end Go.Proofs.YtagddjcjapgdaaaGreatDoor
namespace Go.Proofs.YtagddjcjapgdaaaGreatDoor
open Go.RowKit

set_option maxRecDepth 100000 in
set_option maxHeartbeats 1000000 in
theorem textR_any (l : List Int) (v : Value) (w : World) (hv : IntsV .i32 w v l) (hl : l.length ≤ 65536) (hr : ∀ r ∈ l, -1 ≤ r ∧ r ≤ 1114111) :
    Calls Tryz.prog 22 #[v] w fun e w' => e = .returned (.string ⟨(textU l).toArray⟩) ∧ Only [] w w' := by
  obtain ⟨p, c, rfl, hc, hm, hk⟩ := hv
  have HK := Lib.hid hk
  have HR := Lib.hid hr
  have hl' : (l.length : Int) ≤ 65536 := by omega
  have htl : ∀ k, (textU (l.take k)).length ≤ 262144 := fun k => by
    have h1 := textU_len (l.take k)
    have h2 : (l.take k).length ≤ 65536 := by rw [List.length_take]; omega
    omega
  have HTL := Lib.hid htl
  clear hk htl hr
  go_enter Tryz.func22, Tryz.ntmps22
  go_wp2_with fail
  go_loopw [3, 4] (fun bv iv wr => ∃ k : Nat, k ≤ l.length ∧ iv = .int .i64 k ∧ Only [] w wr ∧ wr.ownsRow w.heap.size 5 1 bv (textU (l.take k)).length (byteRow (textU (l.take k)))) (fun _ iv _ => l.length - (intOf iv).toNat)
  case atStart => exact ⟨0, by omega, rfl, Only.refl _ _, World.ownsRow_nil _ _ _ _⟩
  case round =>
    obtain ⟨k, hkl, rfl, ho, hb⟩ := hrel
    obtain ⟨pb, cb, rfl, -⟩ := ownsRow_shape hb
    have HO := Lib.hid ho
    have HB := Lib.hid hb
    have HL := Lib.hid (HTL.out k)
    clear hb
    by_cases hlt : k < l.length
    · obtain ⟨b, o, rfl, hcell⟩ := HK.out (by omega)
      have hkc : (k : Int) < c := by omega
      have k0 : wr.cell? ⟨b, o + k, none⟩ = some (.int .i32 (nth l k)) := ho.cell_some (hcell k hlt) (by simp)
      have htk := textU_take l k hlt
      rw [← nth_lt hlt] at htk
      have HTK := Lib.hid htk
      have hrg := HR.out (nth l k) (by rw [nth_lt hlt]; exact List.getElem_mem hlt)
      have hel := enc_len (nth l k)
      clear hcell ho htk
      generalize nth l k = r at *
      generalize textU (l.take k) = T at *
      have HC := Lib.hid (bytesR_any r wr hrg.1 hrg.2)
      clear hrg
      go_wp2_with fail
      refine HC.out.mono ?_
      rintro e w2 ⟨u, rfl, ho2, hu⟩
      obtain ⟨pu, cu, rfl, -⟩ := hu.shape
      have HU := Lib.hid hu
      have HO2 := Lib.hid (HO.out.trans ho2)
      have HB2 := Lib.hid (ownsRow_only HB.out ho2 (by simp))
      clear hu ho2
      go_wp2_with (at_builtin; refine wpList_append_src rfl (.tmp 11) (.tmp 16) 22 22 rfl w [] 5 (.int .u8 0) 1 1 Tryz.underlying22 infoB8 rfl (by decide) (.slice pb T.length cb) T.length (byteRow T) rfl HB2.out HO2.out (.slice pu (encU r).length cu) (encU r).length (byteRow (encU r)) rfl (Src.bytes Tryz.underlying22 HU.out) (by have := HL.out; unfold maxLen; omega) (by have := HL.out; omega) ?_)
      intro v' w3 hown3 ho3
      rw [← byteRow_append] at hown3
      have HOWN3 := Lib.hid hown3
      have HO3 := Lib.hid ho3
      clear hown3 ho3
      go_wp2_with fail
      go_roundw
      case rel => exact ⟨k + 1, by omega, by go_num, HO3.out, by rw [HTK.out, List.length_append]; exact HOWN3.out⟩
      case measure => simp [intOf]; omega
    · obtain rfl : k = l.length := by omega
      rw [List.take_length] at *
      have hcv := conv_bytes (P := Tryz.prog) (BytesV.of_row HB.out) 22 9 5 Tryz.underlying22 Tryz.underlying5 Tryz.underlying9
      clear ho
      go_wp2_with fail
      go_ret
      exact ⟨rfl, HO.out⟩

/-- The first n runes small, the others as they are. -/
def dnN (n : Nat) (l : List Int) : List Int := asN 1 n l
theorem asI_one (i : Nat) (r : Int) : asI 1 i r = downU r := rfl
theorem dn_all (l : List Int) : asN 1 l.length l = l.map downU := by
  apply List.ext_getElem (by simp [asN])
  intro i h1 h2
  have : i < l.length := by simpa [asN] using h1
  simp [asN, asI_one, this]

set_option maxRecDepth 100000 in
set_option maxHeartbeats 1000000 in
theorem foldR_any (s : List UInt8) (w : World) (hl : s.length ≤ 65536) :
    Calls Tryz.prog 9 #[.string ⟨s.toArray⟩] w fun e w' => e = .returned (.string ⟨(foldU s).toArray⟩) ∧ Only [] w w' := by
  have hfu : foldU s = textU ((runesU s).map downU) := rfl
  have HFU := Lib.hid hfu
  have hrl := runesU_len s
  have hrl' : ((runesU s).length : Int) ≤ 65536 := by omega
  have hrr := runesU_range s
  have HRR := Lib.hid hrr
  clear hfu hrr
  go_enter Tryz.func9, Tryz.ntmps9
  go_wp2_with fail
  refine (runesR_any s w hl).mono ?_
  rintro e w2 ⟨u, rfl, ho2, hu⟩
  obtain ⟨pu, cu, rfl, -⟩ := ownsRow_shape hu
  generalize runesU s = U at *
  have HU := Lib.hid hu
  have HO2 := Lib.hid ho2
  clear hu ho2
  go_wp2_with fail
  go_loopw [4] (fun iv wr => ∃ k : Nat, k ≤ U.length ∧ iv = .int .i64 k ∧ Only [] w wr ∧ wr.ownsRow w.heap.size 21 1 (.slice pu U.length cu) U.length ((asN 1 k U).map (Value.int .i32))) (fun iv _ => U.length - (intOf iv).toNat)
  case atStart => exact ⟨0, by omega, rfl, HO2.out, by rw [asN_zero]; exact HU.out⟩
  case round =>
    obtain ⟨k, hk, rfl, ho, hown⟩ := hrel
    have HO := Lib.hid ho
    have HOWN := Lib.hid hown
    clear ho
    by_cases hlt : k < U.length
    · obtain ⟨g, cg, hpr, hg, -⟩ := ownsRow_some hown (by omega)
      simp only [Value.slice.injEq, true_and] at hpr
      obtain ⟨rfl, rfl⟩ := hpr
      have k0 : wr.cell? ⟨g, k, none⟩ = some (.int .i32 (nth U k)) := by
        rw [hown.cellAt k (by omega), List.getElem?_map, List.getElem?_eq_getElem (by rw [asN_length]; exact hlt), ← nth_lt, asN_nth 1 k U k hlt (Nat.le_refl _)]; rfl
      have kf := free_row hown k
      have hxr := HRR.out (nth U k) (by rw [nth_lt hlt]; exact List.getElem_mem hlt)
      have hst : ∀ y : Int, downU (nth U k) = y → (wr.setCell ⟨g, k, none⟩ (.int .i32 y)).ownsRow w.heap.size 21 1 (.slice (some ⟨g, 0, none⟩) U.length cu) U.length ((asN 1 (k + 1) U).map (Value.int .i32)) := by
        intro y hy
        have := (HOWN.out.stored k (.int .i32 y)).1
        subst hy
        rwa [← List.map_set, ← asI_one k, ← asN_succ 1 k U hlt] at this
      have hns : downU (nth U k) = nth U k → wr.ownsRow w.heap.size 21 1 (.slice (some ⟨g, 0, none⟩) U.length cu) U.length ((asN 1 (k + 1) U).map (Value.int .i32)) := by
        intro hy
        have h1 : asN 1 (k + 1) U = asN 1 k U := by
          rw [asN_succ 1 k U hlt, asI_one, hy]
          apply List.ext_getElem (by simp)
          intro i h1 h2
          rw [List.getElem_set]
          split
          · rename_i e
            subst e
            rw [← nth_lt h2, asN_nth 1 k U k hlt (Nat.le_refl _)]
          · rfl
        rw [h1]
        exact HOWN.out
      have HST := Lib.hid hst
      have HNS := Lib.hid hns
      clear hown hst hns
      have hdn : downU (nth U k) = if greatU (nth U k) then nth U k + 32 else nth U k := rfl
      have G := Lib.hid (greatR_any (nth U k) wr)
      generalize nth U k = x at *
      have HDN := Lib.hid hdn
      clear hdn
      cases hgr : greatU x
      · rw [hgr] at G HDN
        go_wp2_with fail
        refine G.out.mono ?_
        rintro e w3 ⟨rfl, rfl⟩
        go_wp2_with fail
        go_roundw
        case rel => exact ⟨k + 1, by omega, by go_num, HO.out, HNS.out HDN.out⟩
        case measure => simp [intOf]; omega
      · rw [hgr] at G HDN
        go_wp2_with fail
        refine G.out.mono ?_
        rintro e w3 ⟨rfl, rfl⟩
        go_wp2_with fail
        go_roundw
        case rel => exact ⟨k + 1, by omega, by go_num, HO.out.setCell (Or.inr hg) _, HST.out _ HDN.out⟩
        case measure => simp [intOf]; omega
    · obtain rfl : k = U.length := by omega
      rw [dn_all] at hown
      have hlen : (U.map downU).length ≤ 65536 := by rw [List.length_map]; exact Nat.le_trans hrl hl
      have hlen2 : (U.map downU).length = U.length := by simp
      have hrg : ∀ r ∈ U.map downU, -1 ≤ r ∧ r ≤ 1114111 := by
        intro r hr
        obtain ⟨x, hx, rfl⟩ := List.mem_map.1 hr
        exact downU_range x (HRR.out x hx)
      have HC := Lib.hid (textR_any (U.map downU) (.slice pu U.length cu) wr (IntsV.of_row hown) hlen hrg)
      clear hown hlen hlen2 hrg
      go_wp2_with fail
      refine HC.out.mono ?_
      rintro e w4 ⟨rfl, ho4⟩
      have HO4 := Lib.hid ho4
      clear ho4
      rw [← HFU.out]
      go_wp2_with fail
      go_ret
      exact ⟨rfl, HO.out.trans HO4.out⟩
end Go.Proofs.YtagddjcjapgdaaaGreatDoor
