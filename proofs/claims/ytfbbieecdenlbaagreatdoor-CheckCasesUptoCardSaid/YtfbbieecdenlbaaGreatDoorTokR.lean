/-
  token.Runs: its closure, and itself.
-/
import Derived.Test.YtfbbieecdenlbaaGreatDoorDecU
import Derived.Test.YtfbbieecdenlbaaGreatDoorFoldS
namespace Go.Proofs.YtfbbieecdenlbaaGreatDoor
open Go.RowKit

theorem letAt_lt {l : List Int} {i : Nat} (h : i < l.length) : letAt l i = letterU (nth l i) := by simp [letAt, h]
theorem letAt_ge {l : List Int} {i : Nat} (h : ¬ i < l.length) : letAt l i = false := by simp [letAt, h]

set_option maxRecDepth 100000 in
set_option maxHeartbeats 1000000 in
theorem clo_letter (bl : Nat) (v : Value) (L : List (Int × Nat × Nat)) (i : Nat) (w : World) (hb : w.heap[bl]? = some (.cells #[v] 111 (0, 0))) (hv : UnitsV w v L) (hl : L.length ≤ 65536) (hi : i ≤ 70000) :
    Calls Tryz.prog 146 #[.int .i64 i, .pointer (some ⟨bl, 0, none⟩)] w fun e w' => e = .returned (.bool (letAt (runesL L) i)) ∧ w = w' := by
  obtain ⟨p, c, rfl, hc, hm, hk⟩ := hv
  have c0 : w.cell? ⟨bl, 0, none⟩ = some (.slice p L.length c) := cell_blk hb 0
  have hl' : (L.length : Int) ≤ 65536 := by omega
  have hi' : (i : Int) ≤ 70000 := by omega
  have hrl := runesL_length L
  by_cases h : i < L.length
  · obtain ⟨b, o, rfl, hcell⟩ := hk (by omega)
    have k0 := (hcell i h).c0
    have hlt : (i : Int) < L.length := by omega
    have hcl : (i : Int) < c := by omega
    have hd : letAt (runesL L) i = letterU (unAt L i).1 := by rw [letAt_lt (by omega), runesL_nth h]
    have HD := Lib.hid hd
    have HC := Lib.hid (letter_any (unAt L i).1 w)
    clear hd hcell hk hb hrl h
    generalize (unAt L i).1 = x at *
    go_enter Tryz.func146, Tryz.ntmps146
    go_wp2_with fail
    refine HC.out.mono ?_
    rintro e w1 ⟨rfl, rfl⟩
    rw [← HD.out]
    go_wp2_with fail
    go_ret
    exact ⟨rfl, rfl⟩
  · have hd : letAt (runesL L) i = false := letAt_ge (by omega)
    rw [hd]
    have hge : ¬ (i : Int) < L.length := by omega
    have hdf : decide ((i : Int) < L.length) = false := decide_eq_false hge
    clear hd hk hb hrl h
    go_enter Tryz.func146, Tryz.ntmps146
    go_wp2_with fail
    go_ret
    exact ⟨rfl, rfl⟩

def pairCells (l : List (Nat × Nat)) : List Value := l.flatMap fun p => [.int .i64 (p.1 : Int), .int .i64 (p.2 : Int)]
theorem pairCells_append (a b : List (Nat × Nat)) : pairCells (a ++ b) = pairCells a ++ pairCells b := by simp [pairCells]
theorem pairCells_at (l : List (Nat × Nat)) (k : Nat) (h : k < l.length) : (pairCells l)[k * 2]? = some (.int .i64 (l[k].1 : Int)) ∧ (pairCells l)[k * 2 + 1]? = some (.int .i64 (l[k].2 : Int)) := by
  induction l generalizing k with
  | nil => simp at h
  | cons a l ih =>
    cases k with
    | zero => exact ⟨rfl, rfl⟩
    | succ k =>
      have := ih k (by simpa using h)
      rw [show (k + 1) * 2 = k * 2 + 1 + 1 by omega]
      simpa [pairCells] using this
theorem infoPair : (Tryz.prog.info? 213).map (fun i => (i.zero, i.size, i.bytes)) = some (some (.agg #[.int .i64 0, .int .i64 0]), 2, 16) := by kernel_rfl

set_option maxRecDepth 100000 in
set_option maxHeartbeats 4000000 in
theorem runsT_any (L : List (Int × Nat × Nat)) (v : Value) (w : World) (hv : UnitsV w v L) (hl : L.length ≤ 65536) :
    Calls Tryz.prog 104 #[v] w fun e w' => ∃ u, e = .returned u ∧ Only [] w w' ∧ w'.ownsRow w.heap.size 213 2 u (runsT (runesL L) 0).length (pairCells (runsT (runesL L) 0)) := by
  have HV := Lib.hid hv
  obtain ⟨p, c, rfl, hc, hm, hk⟩ := hv
  have HK := Lib.hid hk
  have hl' : (L.length : Int) ≤ 65536 := by omega
  have hrl := runesL_length L
  clear hk
  go_enter Tryz.func104, Tryz.ntmps104
  go_wp2_with fail
  have ho1 : Only [] w (w.alloc (.cells #[.slice p L.length c] 111)) := (Only.refl _ _).alloc _
  have hq1 := alloc_new w (.cells #[.slice p L.length c] 111)
  generalize hw1 : w.alloc (.cells #[.slice p L.length c] 111) = w1 at *
  have HO1 := Lib.hid ho1
  have HCL : Hid (∀ (x : Int) (i : Nat), x = i → i ≤ 70000 → ∀ w', Only [] w1 w' → Calls Tryz.prog 146 #[.int .i64 x, .pointer (some ⟨w.heap.size, 0, none⟩)] w' fun e w'' => e = .returned (.bool (letAt (runesL L) i)) ∧ w' = w'') := Lib.hid fun x i hx hi w' hw => by
    subst hx
    exact clo_letter w.heap.size _ L i w' (hw.keep hq1 (by simp)) (HV.out.only (ho1.trans hw)) hl hi
  have c0 : w1.cell? ⟨w.heap.size, 0, none⟩ = some (.slice p L.length c) := cell_blk hq1 0
  clear hw1 hq1 ho1
  go_loopw [3, 5] (fun rv iv wr => ∃ (k : Nat) (acc : List (Nat × Nat)), k ≤ L.length ∧ acc.length ≤ k ∧ iv = .int .i64 k ∧ runsT (runesL L) 0 = acc ++ runsT (runesL L) k ∧ Only [] w1 wr ∧ wr.ownsRow w1.heap.size 213 2 rv acc.length (pairCells acc)) (fun _ iv _ => L.length - (intOf iv).toNat)
  case atStart => exact ⟨0, [], by omega, by simp, rfl, rfl, Only.refl _ _, World.ownsRow_nil _ _ _ _⟩
  case round =>
    obtain ⟨k, acc, hkl, hka, rfl, hrun, ho, hown⟩ := hrel
    obtain ⟨pr, cr, rfl, -⟩ := ownsRow_shape hown
    have HRUN := Lib.hid hrun
    have HO := Lib.hid ho
    have HOWN := Lib.hid hown
    have c1 : wr.cell? ⟨w.heap.size, 0, none⟩ = some (.slice p L.length c) := ho.cell_some c0 (by simp)
    clear hrun hown
    by_cases hlt : k < L.length
    · have hkc : (k : Int) < L.length := by omega
      have HC0 := Lib.hid (HCL.out k k rfl (by omega) wr ho)
      have hyes := runsT_yes (l := runesL L) (i := k) (by omega)
      have hno := runsT_no (l := runesL L) (i := k) (by omega)
      have HYES := Lib.hid hyes
      have HNO := Lib.hid hno
      clear hyes hno
      cases hlet : letAt (runesL L) k
      · rw [hlet] at HC0
        clear ho
        go_wp2_with fail
        refine HC0.out.mono ?_
        rintro e w2 ⟨rfl, rfl⟩
        go_wp2_with fail
        go_roundw
        case rel => exact ⟨k + 1, acc, by omega, by omega, by go_num, by rw [HRUN.out, HNO.out hlet], HO.out, HOWN.out⟩
        case measure => simp [intOf]; omega
      · rw [hlet] at HC0
        clear ho
        go_wp2_with fail
        refine HC0.out.mono ?_
        rintro e w2 ⟨rfl, rfl⟩
        go_wp2_with fail
        go_loopw [5] (fun jv wq => wq = wr ∧ ∃ j : Nat, k ≤ j ∧ j < L.length ∧ jv = .int .i64 j ∧ runEnd (runesL L) k = runEnd (runesL L) j) (fun jv _ => L.length - (intOf jv).toNat)
        case atStart => exact ⟨rfl, k, by omega, hlt, rfl, rfl⟩
        case round =>
          obtain ⟨rfl, j, hkj, hjl, rfl, hend⟩ := hrel
          have HEND := Lib.hid hend
          have hgo : goOn (runesL L) j = (letAt (runesL L) (j + 1) || (decide (j + 1 < (runesL L).length) && (nth (runesL L) (j + 1) == 39 && letAt (runesL L) (j + 2)))) := rfl
          have HC1 := Lib.hid (HCL.out ((j : Int) + 1) (j + 1) (by omega) (by omega) wr HO.out)
          have HC2 := Lib.hid (HCL.out ((j : Int) + 2) (j + 2) (by omega) (by omega) wr HO.out)
          have hj1 : (j : Int) + 2 ≤ 65537 := by omega
          have hjl' : (j : Int) < L.length := by omega
          rw [hrl] at hgo
          clear hend HC0
          cases b1 : letAt (runesL L) (j + 1)
          · rw [b1] at HC1 hgo
            by_cases hj2 : j + 1 < L.length
            · obtain ⟨b, o, rfl, hcell⟩ := HK.out (by omega)
              have k0 := ((hcell (j + 1) hj2).keep fun _ _ hx => (HO1.out.trans HO.out).cell_some hx (by simp)).c0
              rw [runesL_nth hj2, decide_eq_true hj2] at hgo
              have hj2' : (j : Int) + 1 < L.length := by omega
              have hjc : (j : Int) + 1 < c := by omega
              clear hcell hj2
              generalize (unAt L (j + 1)).1 = x at *
              cases hx : (x == 39)
              · rw [hx] at hgo
                have HNOT := Lib.hid (runEnd_no (l := runesL L) (i := j) (by rw [hgo]; simp))
                clear hgo
                go_wp2_with fail
                refine HC1.out.mono ?_
                rintro e w3 ⟨rfl, rfl⟩
                go_wp2_with (at_builtin; refine wpList_append_lit rfl (.tmp 47) (.tmp 52) 211 rfl w1 [] 213 (.agg #[.int .i64 0, .int .i64 0]) 2 16 Tryz.underlying211 infoPair rfl (by decide) (.slice pr acc.length cr) acc.length (pairCells acc) rfl HOWN.out HO.out wr.heap.size 1 [.int .i64 k, .int .i64 ((j : Int) + 1)] rfl rfl rfl (by simp [Value.oneCell']) (by unfold maxLen; omega) (by omega) ?_)
                intro v' w5 hown5 ho5
                have HOWN5 := Lib.hid hown5
                have HO5 := Lib.hid ho5
                clear hown5 ho5
                go_wp2_with fail
                go_roundw
                case rel => exact ⟨j + 1, acc ++ [(k, j + 1)], by omega, by simp; omega, by go_num, by rw [HRUN.out, HYES.out hlet, HEND.out, HNOT.out]; simp, HO5.out, by rw [List.length_append, pairCells_append]; exact HOWN5.out⟩
                case measure => simp [intOf]; omega
              · rw [hx] at hgo
                cases b2 : letAt (runesL L) (j + 2)
                · rw [b2] at HC2 hgo
                  have HNOT := Lib.hid (runEnd_no (l := runesL L) (i := j) (by rw [hgo]; simp))
                  clear hgo
                  go_wp2_with fail
                  refine HC1.out.mono ?_
                  rintro e w3 ⟨rfl, rfl⟩
                  go_wp2_with fail
                  refine HC2.out.mono ?_
                  rintro e w4 ⟨rfl, rfl⟩
                  go_wp2_with (at_builtin; refine wpList_append_lit rfl (.tmp 47) (.tmp 52) 211 rfl w1 [] 213 (.agg #[.int .i64 0, .int .i64 0]) 2 16 Tryz.underlying211 infoPair rfl (by decide) (.slice pr acc.length cr) acc.length (pairCells acc) rfl HOWN.out HO.out wr.heap.size 1 [.int .i64 k, .int .i64 ((j : Int) + 1)] rfl rfl rfl (by simp [Value.oneCell']) (by unfold maxLen; omega) (by omega) ?_)
                  intro v' w5 hown5 ho5
                  have HOWN5 := Lib.hid hown5
                  have HO5 := Lib.hid ho5
                  clear hown5 ho5
                  go_wp2_with fail
                  go_roundw
                  case rel => exact ⟨j + 1, acc ++ [(k, j + 1)], by omega, by simp; omega, by go_num, by rw [HRUN.out, HYES.out hlet, HEND.out, HNOT.out]; simp, HO5.out, by rw [List.length_append, pairCells_append]; exact HOWN5.out⟩
                  case measure => simp [intOf]; omega
                · rw [b2] at HC2 hgo
                  have HYE := Lib.hid (runEnd_yes (l := runesL L) (i := j) (by rw [hgo]; simp))
                  clear hgo
                  go_wp2_with fail
                  refine HC1.out.mono ?_
                  rintro e w3 ⟨rfl, rfl⟩
                  go_wp2_with fail
                  refine HC2.out.mono ?_
                  rintro e w4 ⟨rfl, rfl⟩
                  go_wp2_with fail
                  go_roundw
                  case rel => exact ⟨trivial, j + 1, by omega, by omega, by go_num, by rw [HEND.out, HYE.out]⟩
                  case measure => simp [intOf]; omega
            · rw [decide_eq_false hj2] at hgo
              have hdn : decide ((j : Int) + 1 < L.length) = false := decide_eq_false (by omega)
              have HNOT := Lib.hid (runEnd_no (l := runesL L) (i := j) (by rw [hgo]; simp))
              clear hgo
              go_wp2_with fail
              refine HC1.out.mono ?_
              rintro e w3 ⟨rfl, rfl⟩
              go_wp2_with (at_builtin; refine wpList_append_lit rfl (.tmp 47) (.tmp 52) 211 rfl w1 [] 213 (.agg #[.int .i64 0, .int .i64 0]) 2 16 Tryz.underlying211 infoPair rfl (by decide) (.slice pr acc.length cr) acc.length (pairCells acc) rfl HOWN.out HO.out wr.heap.size 1 [.int .i64 k, .int .i64 ((j : Int) + 1)] rfl rfl rfl (by simp [Value.oneCell']) (by unfold maxLen; omega) (by omega) ?_)
              intro v' w5 hown5 ho5
              have HOWN5 := Lib.hid hown5
              have HO5 := Lib.hid ho5
              clear hown5 ho5
              go_wp2_with fail
              go_roundw
              case rel => exact ⟨j + 1, acc ++ [(k, j + 1)], by omega, by simp; omega, by go_num, by rw [HRUN.out, HYES.out hlet, HEND.out, HNOT.out]; simp, HO5.out, by rw [List.length_append, pairCells_append]; exact HOWN5.out⟩
              case measure => simp [intOf]; omega
          · rw [b1] at HC1 hgo
            have HYE := Lib.hid (runEnd_yes (l := runesL L) (i := j) (by rw [hgo]; simp))
            have hj3 : j + 1 < L.length := by
              by_cases h : j + 1 < L.length
              · exact h
              · rw [letAt_ge (by omega)] at b1; cases b1
            clear hgo
            go_wp2_with fail
            refine HC1.out.mono ?_
            rintro e w3 ⟨rfl, rfl⟩
            go_wp2_with fail
            go_roundw
            case rel => exact ⟨trivial, j + 1, by omega, by omega, by go_num, by rw [HEND.out, HYE.out]⟩
            case measure => simp [intOf]; omega
    · have hd : decide ((k : Int) < L.length) = false := decide_eq_false (by omega)
      have hrt : runsT (runesL L) 0 = acc := by rw [HRUN.out, runsT_end _ _ (by omega), List.append_nil]
      have HRT := Lib.hid hrt
      clear ho hrt
      go_wp2_with fail
      go_ret
      rw [HRT.out]
      exact ⟨_, rfl, HO1.out.trans HO.out, ownsRow_base HOWN.out (fun i hi => by have := HOWN.out.lt i hi; have := HO1.out.size; omega)⟩
end Go.Proofs.YtfbbieecdenlbaaGreatDoor
