/-
  token.parts, Split.
  token.Split.
-/
import Derived.Test.YtfbbieecdenlbaaGreatDoorTokR
namespace Go.Proofs.YtfbbieecdenlbaaGreatDoor
open Go.RowKit

theorem isGreat_any (r : Int) (w : World) : Calls Tryz.prog 195 #[.int .i32 r] w fun e w' => e = .returned (.bool (greatU r)) ∧ w = w' := by
  have HC := Lib.hid (great_any r w)
  generalize greatU r = g at *
  go_enter Tryz.func195, Tryz.ntmps195
  go_wp2_with fail
  refine HC.out.mono ?_
  rintro e w1 ⟨rfl, rfl⟩
  go_wp2_with fail
  go_ret
  exact ⟨rfl, rfl⟩
theorem isSmall_any (r : Int) (w : World) : Calls Tryz.prog 196 #[.int .i32 r] w fun e w' => e = .returned (.bool (smallU r)) ∧ w = w' := by
  have HC := Lib.hid (small_anyU r w)
  generalize smallU r = g at *
  go_enter Tryz.func196, Tryz.ntmps196
  go_wp2_with fail
  refine HC.out.mono ?_
  rintro e w1 ⟨rfl, rfl⟩
  go_wp2_with fail
  go_ret
  exact ⟨rfl, rfl⟩

set_option maxRecDepth 100000 in
set_option maxHeartbeats 4000000 in
theorem parts_any (L : List (Int × Nat × Nat)) (v : Value) (frm to i : Nat) (w : World) (hv : UnitsV w v L) (hl : L.length ≤ 65536) (h1 : frm ≤ i) (h2 : i < to) (h3 : to ≤ L.length) :
    Calls Tryz.prog 147 #[v, .int .i64 frm, .int .i64 to, .int .i64 i] w fun e w' => e = .returned (.bool (partsB (runesL L) frm to i)) ∧ w = w' := by
  obtain ⟨p, c, rfl, hc, hm, hk⟩ := hv
  obtain ⟨b, o, rfl, hcell⟩ := hk (by omega)
  have hl' : (L.length : Int) ≤ 65536 := by omega
  have hi' : (i : Int) < L.length := by omega
  have hic : (i : Int) < c := by omega
  by_cases e0 : i = frm
  · have hd : partsB (runesL L) frm to i = false := by unfold partsB; simp [e0]
    rw [hd]
    have hz : ((i : Int) == (frm : Int)) = true := by simp [e0]
    clear hd hcell hk
    go_enter Tryz.func147, Tryz.ntmps147
    go_wp2_with fail
    go_ret
    exact ⟨rfl, rfl⟩
  · have hz : ((i : Int) == (frm : Int)) = false := by simp; omega
    have hd : partsB (runesL L) frm to i = (greatU (unAt L i).1 && (smallU (unAt L (i - 1)).1 || (greatU (unAt L (i - 1)).1 && (decide (i + 1 < to) && smallU (nth (runesL L) (i + 1)))))) := by
      unfold partsB
      rw [runesL_nth (k := i) (by omega), runesL_nth (k := i - 1) (by omega)]
      simp [e0]
    have k0 := (hcell i (by omega)).c0
    obtain ⟨m, rfl⟩ : ∃ m, i = m + 1 := ⟨i - 1, by omega⟩
    have k1 := (hcell m (by omega)).c0
    rw [Nat.add_sub_cancel] at hd
    have G0 := Lib.hid (isGreat_any (unAt L (m + 1)).1 w)
    have S1 := Lib.hid (isSmall_any (unAt L m).1 w)
    have G1 := Lib.hid (isGreat_any (unAt L m).1 w)
    have hmc : (m : Int) + 1 < c := by omega
    have hml : (m : Int) + 1 < L.length := by omega
    clear hi' hic
    cases g0 : greatU (unAt L (m + 1)).1
    · rw [g0] at G0 hd
      have HD := Lib.hid hd
      clear hd hcell hk g0
      generalize (unAt L (m + 1)).1 = x0 at *
      go_enter Tryz.func147, Tryz.ntmps147
      go_wp2_with fail
      refine G0.out.mono ?_
      rintro e w1 ⟨rfl, rfl⟩
      go_wp2_with fail
      go_ret
      exact ⟨ret_bool (by rw [HD.out]; simp), rfl⟩
    · rw [g0] at G0 hd
      cases s1 : smallU (unAt L m).1
      · rw [s1] at S1 hd
        cases g1 : greatU (unAt L m).1
        · rw [g1] at G1 hd
          have HD := Lib.hid hd
          clear hd hcell hk g0 s1 g1
          generalize (unAt L (m + 1)).1 = x0 at *
          generalize (unAt L m).1 = x1 at *
          go_enter Tryz.func147, Tryz.ntmps147
          go_wp2_with fail
          refine G0.out.mono ?_
          rintro e w1 ⟨rfl, rfl⟩
          go_wp2_with fail
          refine S1.out.mono ?_
          rintro e w1 ⟨rfl, rfl⟩
          go_wp2_with fail
          refine G1.out.mono ?_
          rintro e w1 ⟨rfl, rfl⟩
          go_wp2_with fail
          go_ret
          exact ⟨ret_bool (by rw [HD.out]; simp), rfl⟩
        · rw [g1] at G1 hd
          by_cases e1 : m + 1 + 1 < to
          · have k2 := (hcell (m + 1 + 1) (by omega)).c0
            rw [decide_eq_true e1, runesL_nth (by omega)] at hd
            have S2 := Lib.hid (isSmall_any (unAt L (m + 1 + 1)).1 w)
            have e1' : (m : Int) + 1 + 1 < to := by omega
            have hm2 : (m : Int) + 1 + 1 < L.length := by omega
            have hm3 : (m : Int) + 1 + 1 < c := by omega
            have HD := Lib.hid hd
            clear hd hcell hk g0 s1 g1
            generalize (unAt L (m + 1)).1 = x0 at *
            generalize (unAt L m).1 = x1 at *
            generalize (unAt L (m + 1 + 1)).1 = x2 at *
            go_enter Tryz.func147, Tryz.ntmps147
            go_wp2_with fail
            refine G0.out.mono ?_
            rintro e w1 ⟨rfl, rfl⟩
            go_wp2_with fail
            refine S1.out.mono ?_
            rintro e w1 ⟨rfl, rfl⟩
            go_wp2_with fail
            refine G1.out.mono ?_
            rintro e w1 ⟨rfl, rfl⟩
            go_wp2_with fail
            refine S2.out.mono ?_
            rintro e w1 ⟨rfl, rfl⟩
            go_wp2_with fail
            go_ret
            exact ⟨ret_bool (by rw [HD.out]; simp), rfl⟩
          · rw [decide_eq_false e1] at hd
            have e1' : decide ((m : Int) + 1 + 1 < to) = false := decide_eq_false (by omega)
            have HD := Lib.hid hd
            clear hd hcell hk g0 s1 g1
            generalize (unAt L (m + 1)).1 = x0 at *
            generalize (unAt L m).1 = x1 at *
            go_enter Tryz.func147, Tryz.ntmps147
            go_wp2_with fail
            refine G0.out.mono ?_
            rintro e w1 ⟨rfl, rfl⟩
            go_wp2_with fail
            refine S1.out.mono ?_
            rintro e w1 ⟨rfl, rfl⟩
            go_wp2_with fail
            refine G1.out.mono ?_
            rintro e w1 ⟨rfl, rfl⟩
            go_wp2_with fail
            go_ret
            exact ⟨ret_bool (by rw [HD.out]; simp), rfl⟩
      · rw [s1] at S1 hd
        have HD := Lib.hid hd
        clear hd hcell hk g0 s1
        generalize (unAt L (m + 1)).1 = x0 at *
        generalize (unAt L m).1 = x1 at *
        go_enter Tryz.func147, Tryz.ntmps147
        go_wp2_with fail
        refine G0.out.mono ?_
        rintro e w1 ⟨rfl, rfl⟩
        go_wp2_with fail
        refine S1.out.mono ?_
        rintro e w1 ⟨rfl, rfl⟩
        go_wp2_with fail
        go_ret
        exact ⟨ret_bool (by rw [HD.out]; simp), rfl⟩
end Go.Proofs.YtfbbieecdenlbaaGreatDoor
namespace Go.Proofs.YtfbbieecdenlbaaGreatDoor
open Go.RowKit

set_option maxRecDepth 100000 in
set_option maxHeartbeats 4000000 in
theorem split_words (L : List (Int × Nat × Nat)) (v : Value) (frm to : Nat) (w : World) (hv : UnitsV w v L) (hl : L.length ≤ 65536) (h1 : frm ≤ to) (h2 : to ≤ L.length) :
    Calls Tryz.prog 105 #[v, .agg #[.int .i64 frm, .int .i64 to]] w fun e w' => ∃ u, e = .returned u ∧ Only [] w w' ∧ w'.ownsRow w.heap.size 213 2 u (splitT (runesL L) frm to frm frm).length (pairCells (splitT (runesL L) frm to frm frm)) := by
  have HV := Lib.hid hv
  obtain ⟨p, c, rfl, hc, hm, hk⟩ := hv
  have hl' : (L.length : Int) ≤ 65536 := by omega
  have h1' : (frm : Int) ≤ to := by omega
  have h2' : (to : Int) ≤ L.length := by omega
  clear hk
  go_enter Tryz.func105, Tryz.ntmps105
  go_wp2_with fail
  have ho1 : Only [] w (w.alloc (.cells #[.int .i64 frm, .int .i64 to] 213)) := (Only.refl _ _).alloc _
  have hq1 := alloc_new w (.cells #[.int .i64 frm, .int .i64 to] 213)
  generalize hw1 : w.alloc (.cells #[.int .i64 frm, .int .i64 to] 213) = w1 at *
  have q0 : w1.cell? ⟨w.heap.size, 0, none⟩ = some (.int .i64 frm) := cell_blk hq1 0
  have q1 : w1.cell? ⟨w.heap.size, 1, none⟩ = some (.int .i64 to) := cell_blk hq1 1
  have HO1 := Lib.hid ho1
  clear hw1 hq1 ho1
  refine wp_region_calm w1 [] (by kernel_rfl) (by kernel_rfl) (Only.refl _ w1) ?_
  repeat (first | go_big_quiet_skip | (go_big_quiet_want; go_big_quiet_op; first | go_big_quiet_on | (refine ⟨_, fun _ _ => rfl, ?_⟩; go_big_quiet_on) | (apply Exists.intro; refine ⟨fun w' hw' => ?_, ?_⟩; (rw [hw'.cell_some q0 (by simp)]; exact ⟨rfl, rfl⟩); go_big_quiet_on) | (apply Exists.intro; refine ⟨fun w' hw' => ?_, ?_⟩; (rw [hw'.cell_some q1 (by simp)]; exact ⟨rfl, rfl⟩); go_big_quiet_on)))
  refine wpQuiet_nil ?_
  intro w2 ho2
  have HO2 := Lib.hid (HO1.out.trans ho2)
  have HV2 := Lib.hid (HV.out.only HO2.out)
  clear ho2 q0 q1
  go_wp2_with fail
  go_loopw [5, 8, 9] (fun rv bv iv wr => ∃ (i bg : Nat) (acc : List (Nat × Nat)), frm ≤ i ∧ i ≤ to ∧ bg ≤ i ∧ acc.length ≤ i ∧ iv = .int .i64 i ∧ bv = .int .i64 bg ∧ splitT (runesL L) frm to frm frm = acc ++ splitT (runesL L) frm to bg i ∧ Only [] w2 wr ∧ wr.ownsRow w2.heap.size 213 2 rv acc.length (pairCells acc)) (fun _ _ iv _ => to - (intOf iv).toNat)
  case atStart => exact ⟨frm, frm, [], Nat.le_refl _, h1, Nat.le_refl _, by simp, rfl, rfl, rfl, Only.refl _ _, World.ownsRow_nil _ _ _ _⟩
  case round =>
    obtain ⟨i, bg, acc, hfi, hit, hbi, hai, rfl, rfl, hsp, ho, hown⟩ := hrel
    obtain ⟨pr, cr, rfl, -⟩ := ownsRow_shape hown
    have HSP := Lib.hid hsp
    have HO := Lib.hid ho
    have HOWN := Lib.hid hown
    have hit' : (i : Int) ≤ to := by omega
    have hbi' : (bg : Int) ≤ i := by omega
    by_cases hlt : i < to
    · have hstep := splitT_step (runesL L) frm to bg i hlt
      have HSTEP := Lib.hid hstep
      have HC := Lib.hid (parts_any L _ frm to i wr (HV2.out.only ho) hl hfi hlt h2)
      have hlt' : (i : Int) < to := by omega
      clear hsp ho hown hstep
      cases hp : partsB (runesL L) frm to i
      · rw [hp] at HC HSTEP
        clear hp
        go_wp2_with fail
        refine HC.out.mono ?_
        rintro e w3 ⟨rfl, rfl⟩
        go_wp2_with fail
        go_roundw
        case rel => exact ⟨i + 1, bg, acc, by omega, by omega, by omega, by omega, by go_num, rfl, by rw [HSP.out, HSTEP.out]; simp, HO.out, HOWN.out⟩
        case measure => simp [intOf]; omega
      · rw [hp] at HC HSTEP
        clear hp
        go_wp2_with fail
        refine HC.out.mono ?_
        rintro e w3 ⟨rfl, rfl⟩
        go_wp2_with (at_builtin; refine wpList_append_lit rfl (.tmp 30) (.tmp 34) 211 rfl w2 [] 213 (.agg #[.int .i64 0, .int .i64 0]) 2 16 Tryz.underlying211 infoPair rfl (by decide) (.slice pr acc.length cr) acc.length (pairCells acc) rfl HOWN.out HO.out wr.heap.size 1 [.int .i64 bg, .int .i64 i] rfl rfl rfl (by simp [Value.oneCell']) (by unfold maxLen; omega) (by omega) ?_)
        intro v' w5 hown5 ho5
        have HOWN5 := Lib.hid hown5
        have HO5 := Lib.hid ho5
        clear hown5 ho5
        go_wp2_with fail
        go_roundw
        case rel => exact ⟨i + 1, i, acc ++ [(bg, i)], by omega, by omega, by omega, by simp; omega, by go_num, rfl, by rw [HSP.out, HSTEP.out]; simp, HO5.out, by rw [List.length_append, pairCells_append]; exact HOWN5.out⟩
        case measure => simp [intOf]; omega
    · obtain rfl : i = to := by omega
      have hend := splitT_end (runesL L) frm i bg i (Nat.le_refl _)
      by_cases hb : bg < i
      · rw [if_pos hb] at hend
        have HR := Lib.hid (hsp.trans (by rw [hend]))
        have hb' : (bg : Int) < i := by omega
        clear hsp ho hown hend
        go_wp2_with (at_builtin; refine wpList_append_lit rfl (.tmp 40) (.tmp 44) 211 rfl w2 [] 213 (.agg #[.int .i64 0, .int .i64 0]) 2 16 Tryz.underlying211 infoPair rfl (by decide) (.slice pr acc.length cr) acc.length (pairCells acc) rfl HOWN.out HO.out wr.heap.size 1 [.int .i64 bg, .int .i64 i] rfl rfl rfl (by simp [Value.oneCell']) (by unfold maxLen; omega) (by omega) ?_)
        intro v' w5 hown5 ho5
        have HOWN5 := Lib.hid hown5
        have HO5 := Lib.hid ho5
        clear hown5 ho5
        go_wp2_with fail
        go_ret
        refine ⟨_, rfl, HO2.out.trans HO5.out, ?_⟩
        rw [HR.out, List.length_append, pairCells_append]
        exact ownsRow_base HOWN5.out (fun k hk => by have := HOWN5.out.lt k hk; have := HO2.out.size; omega)
      · rw [if_neg hb] at hend
        have HR := Lib.hid (hsp.trans (by rw [hend, List.append_nil]))
        have hb' : decide ((bg : Int) < i) = false := decide_eq_false (by omega)
        clear hsp ho hown hend
        go_wp2_with fail
        go_ret
        refine ⟨_, rfl, HO2.out.trans HO.out, ?_⟩
        rw [HR.out]
        exact ownsRow_base HOWN.out (fun k hk => by have := HOWN.out.lt k hk; have := HO2.out.size; omega)
end Go.Proofs.YtfbbieecdenlbaaGreatDoor
