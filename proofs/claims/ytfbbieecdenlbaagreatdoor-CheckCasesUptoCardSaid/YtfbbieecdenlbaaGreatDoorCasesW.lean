/-
  redpenlaw22.CheckCases, walked.
-/
import Derived.Test.YtfbbieecdenlbaaGreatDoorAwake
import Derived.Test.YtfbbieecdenlbaaGreatDoorBook2
namespace Go.Proofs.YtfbbieecdenlbaaGreatDoor
open Go.RowKit

theorem FixesV.keep {w w' : World} {v : Value} {Fs : FixL} (h : FixesV w v Fs) (hc : ∀ p x, w.cell? p = some x → w'.cell? p = some x) : FixesV w' v Fs := by
  obtain ⟨p, c, h1, h2, h3, h4⟩ := h
  refine ⟨p, c, h1, h2, h3, fun hp => ?_⟩
  obtain ⟨b, o, e, hk⟩ := h4 hp
  refine ⟨b, o, e, fun k hk' => ?_⟩
  obtain ⟨g0, u, g1, g2⟩ := hk k hk'
  exact ⟨hc _ _ g0, u, hc _ _ g1, g2.keep hc⟩
theorem FixesV.only {w w' : World} {v : Value} {Fs : FixL} (h : FixesV w v Fs) (ho : Only [] w w') : FixesV w' v Fs := h.keep fun _ _ hc => ho.cell_some hc (by simp)
theorem asU_len (c : Int) (s : List UInt8) : (asU c s).length ≤ 4 * s.length := by
  unfold asU
  have h1 := textU_len (asR c (runesU s))
  have h2 : (asR c (runesU s)).length = (runesU s).length := by simp [asR]
  have h3 := runesU_len s
  omega
theorem book_size (l : List (List UInt8)) : (makeN (bookWords l) (bookWords l).length).length ≤ 1000000 := by
  have h1 := ((book_ok l).len _ (Nat.le_refl _)).1
  have h2 := (book_law l).2.2
  omega
theorem mod3 (a : Int) (h : 0 ≤ a) : ∃ j : Nat, a % 3 = j ∧ a.tmod 3 = j ∧ j < 3 := ⟨(a % 3).toNat, by omega, by rw [Int.tmod_eq_emod_of_nonneg h]; omega, by omega⟩
theorem modL (a : Int) (n : Nat) (h : 0 ≤ a) (hn : 0 < n) : ∃ j : Nat, a % n = j ∧ a.tmod n = j ∧ j < n := by
  have h1 := Int.emod_nonneg a (show (n : Int) ≠ 0 by omega)
  have h2 := Int.emod_lt_of_pos a (show (0 : Int) < n by omega)
  exact ⟨(a % n).toNat, by omega, by rw [Int.tmod_eq_emod_of_nonneg h]; omega, by omega⟩
theorem look_succ {O : FixL} (h : GoodFixes O) (k : Nat) (hk : k < O.length) (s : List UInt8) : (lookF (O.take (k + 1)) s).isSome = (decide (s = (fxAt O k).1) || (lookF (O.take k) s).isSome) := by
  rw [lookF_take O k hk (h.apart k hk)]
  by_cases e : s = (fxAt O k).1
  · rw [if_pos e]; simp [e]
  · rw [if_neg e]; simp [e]

set_option maxRecDepth 100000 in
set_option maxHeartbeats 8000000 in
theorem cases_walk (p0 p1 : Option Addr) (c0 c1 : Nat) (L : List (List UInt8)) (F : List (Int × Int × Int)) (a2 a3 a4 a5 a6 a7 wh kd : Int) (h7 : 0 ≤ a7 ∧ a7 ≤ 255) (hwh : 0 ≤ wh ∧ wh ≤ 255) (hkd : 0 ≤ kd ∧ kd ≤ 255) (w : World) (he : EnvL w) (hL : StrsV w (.slice p0 L.length c0) L) (hF : ThreesV w (.slice p1 F.length c1) F) (hll : L.length ≤ 1048576) (hlb : ∀ s ∈ L, s.length ≤ 1048576) :
    Calls Tryz.prog 3 #[.agg #[.slice p0 L.length c0, .slice p1 F.length c1, .int .u8 a2, .int .u8 a3, .int .u8 a4, .int .u8 a5, .int .u8 a6, .int .u8 a7], .int .u8 wh, .int .u8 kd] w fun e w' => e = .returned (.bool true) ∧ Only [] w w' := by
  obtain ⟨j, hj, hjt, hj3⟩ := mod3 kd hkd.1
  have hq0 := alloc_new w (.cells #[.slice p0 L.length c0, .slice p1 F.length c1, .int .u8 a2, .int .u8 a3, .int .u8 a4, .int .u8 a5, .int .u8 a6, .int .u8 a7] 25)
  have ho0 : Only [] w (w.alloc (.cells #[.slice p0 L.length c0, .slice p1 F.length c1, .int .u8 a2, .int .u8 a3, .int .u8 a4, .int .u8 a5, .int .u8 a6, .int .u8 a7] 25)) := (Only.refl _ _).alloc _
  generalize hw : w.alloc (.cells #[.slice p0 L.length c0, .slice p1 F.length c1, .int .u8 a2, .int .u8 a3, .int .u8 a4, .int .u8 a5, .int .u8 a6, .int .u8 a7] 25) = W at *
  have HW := Lib.hid hw
  have HQ0 := Lib.hid hq0
  have HO0 := Lib.hid ho0
  have HAW := Lib.hid (awake_any W (he.only ho0 (by simp)))
  have HL := Lib.hid (hL.only ho0)
  have HF := Lib.hid (hF.only ho0)
  clear hw hq0 ho0 he hL hF
  go_enter Tryz.func3, Tryz.ntmps3
  go_wp2_with fail
  rw [HW.out]
  refine HAW.out.mono ?_
  rintro e w2 ⟨rfl, ho2⟩
  have hq2 := ho2.keep HQ0.out (by simp)
  have r0 : w2.cell? ⟨w.heap.size, 0, none⟩ = some (.slice p0 L.length c0) := cell_blk hq2 0
  have r1 : w2.cell? ⟨w.heap.size, 0 + 1, none⟩ = some (.slice p1 F.length c1) := cell_blk hq2 1
  have r2 : w2.cell? ⟨w.heap.size, 0 + 1 + 1, none⟩ = some (.int .u8 a2) := cell_blk hq2 2
  have r3 : w2.cell? ⟨w.heap.size, 0 + 1 + 1 + 1, none⟩ = some (.int .u8 a3) := cell_blk hq2 3
  have r4 : w2.cell? ⟨w.heap.size, 0 + 1 + 1 + 1 + 1, none⟩ = some (.int .u8 a4) := cell_blk hq2 4
  have r5 : w2.cell? ⟨w.heap.size, 0 + 1 + 1 + 1 + 1 + 1, none⟩ = some (.int .u8 a5) := cell_blk hq2 5
  have r6 : w2.cell? ⟨w.heap.size, 0 + 1 + 1 + 1 + 1 + 1 + 1, none⟩ = some (.int .u8 a6) := cell_blk hq2 6
  have r7 : w2.cell? ⟨w.heap.size, 0 + 1 + 1 + 1 + 1 + 1 + 1 + 1, none⟩ = some (.int .u8 a7) := cell_blk hq2 7
  have HO2 := Lib.hid (HO0.out.trans ho2)
  have HBK := Lib.hid (book_any p0 p1 c0 c1 L F a2 a3 a4 a5 a6 a7 h7 w2 (HL.out.only ho2) (HF.out.only ho2) hll hlb)
  have HLAW := Lib.hid (book_law (L ++ fewL.take (a7 % 16).toNat))
  have HOK := Lib.hid (book_ok (L ++ fewL.take (a7 % 16).toNat))
  have HSZ := Lib.hid (book_size (L ++ fewL.take (a7 % 16).toNat))
  have HGF := Lib.hid (fixes_good F).1
  have HCW := Lib.hid (fun k hk c hc => cases_word (L ++ fewL.take (a7 % 16).toNat) (bookFixes F) k hk c hc)
  have HCF := Lib.hid (fun N k hk c hc => cases_fix N (fixes_good F).1 k hk c hc)
  have ho13 := (fixes_good F).2
  have hb61 := (book_law (L ++ fewL.take (a7 % 16).toNat)).2.2
  clear ho2 hq2 hll hlb
  generalize bookWords (L ++ fewL.take (a7 % 16).toNat) = B at *
  generalize bookFixes F = O at *
  have ho13i : (O.length : Int) ≤ 13 := by omega
  have hb61i : (B.length : Int) ≤ 61 := by omega
  go_wp2_with fail
  refine HBK.out.mono ?_
  rintro e w3 ⟨u, v, rfl, ho3, hu, hv⟩
  have HU := Lib.hid hu
  have HV := Lib.hid hv
  have HO3 := Lib.hid (HO2.out.trans ho3)
  obtain ⟨pu, cu, rfl, hcu, -, -⟩ := hu
  obtain ⟨pv, cv, rfl, hcv, -, -⟩ := hv
  clear ho3 r0 r1 r2 r3 r4 r5 r6 r7
  go_wp2_with fail
  refine (new_book B O _ _ w3 HU.out HOK.out HV.out (HGF.out.ok ho13)).mono ?_
  rintro e w4 ⟨bk, rfl, hbk, ho4⟩
  have HO4 := Lib.hid (HO3.out.trans ho4)
  have HBA := Lib.hid hbk
  have HU4 := Lib.hid (HU.out.only ho4)
  have HV4 := Lib.hid (HV.out.only ho4)
  have HN := Lib.hid (make_wf B)
  clear ho4 hbk
  generalize makeN B B.length = N at *
  go_upto_region 5 with (fail)
  go_cut [11] from 18 (fun s11 wx => s11 = .int .u8 ((j : Int) + 1) ∧ Only [] w4 wx)
  case first =>
    obtain rfl | rfl | rfl : j = 0 ∨ j = 1 ∨ j = 2 := by omega
    all_goals
      go_wp2_with fail
      go_meet
      case rel => exact ⟨rfl, (Only.refl _ _).alloc _⟩
  case rest =>
    obtain ⟨rfl, hoc⟩ := hcut
    have hc3 : (j : Int) + 1 = 1 ∨ (j : Int) + 1 = 2 ∨ (j : Int) + 1 = 3 := by omega
    generalize (j : Int) + 1 = c at *
    have HC3 := Lib.hid hc3
    have HO5 := Lib.hid (HO4.out.trans hoc)
    have HB5 := Lib.hid (HBA.out.only hoc)
    have HU5 := Lib.hid (HU4.out.only hoc)
    have HV5 := Lib.hid (HV4.out.only hoc)
    have hmm := @run_makeMap Tryz.prog
    have hmade := MapAt.made wc
    have ho6 : Only [] wc (wc.alloc (.map #[] 0)) := (Only.refl _ _).alloc _
    clear hoc hc3
    go_upto_region 7 with (fail)
    generalize wc.alloc (.map #[] 0) = w6 at *
    generalize hM : wc.heap.size = M at *
    have hM1 : wc.heap.size ≤ M := by omega
    have HMADE := Lib.hid hmade
    have HO6 := Lib.hid ho6
    clear hmm hmade ho6 hM
    go_wp2_with fail
    go_loopw [14, 15, 16, 39] (fun _ _ _ iv wr => ∃ (k m : Nat) (f : List UInt8 → Option Value), k ≤ O.length ∧ m ≤ k ∧ iv = .int .i64 k ∧ MapAt wr M m f ∧ (∀ s : List UInt8, (f s).getD (.bool false) = .bool (lookF (O.take k) s).isSome) ∧ Only [] wc wr) (fun _ _ _ iv _ => O.length - (intOf iv).toNat)
    case atStart => exact ⟨0, 0, fun _ => none, by omega, by omega, rfl, HMADE.out, fun s => rfl, HO6.out⟩
    case round =>
      obtain ⟨k, m, f, hkl, hmk, rfl, hmp, hfun, ho⟩ := hrel
      have HMP := Lib.hid hmp
      have HFUN := Lib.hid hfun
      have HO7 := Lib.hid ho
      clear hmp hfun
      by_cases hlt : k < O.length
      · obtain ⟨p', c', e1, -, -, hcl⟩ := HV5.out.only ho
        simp only [Value.slice.injEq, true_and] at e1
        obtain ⟨rfl, rfl⟩ := e1
        obtain ⟨b, o, rfl, hcell⟩ := hcl (by omega)
        obtain ⟨k0, uv, k1, huv⟩ := hcell k hlt
        have hkc : (k : Int) < cv := by omega
        have hg := HGF.out.good k hlt
        have hls := look_succ HGF.out k hlt
        have hcf := HCF.out N k hlt c HC3.out
        have hlen := (folded_len hg.1).1
        have htl := hg.2.1
        have HTG := Lib.hid hg.2.2
        have HLS := Lib.hid hls
        have HCFK := Lib.hid hcf
        have hasl := asU_len c (fxAt O k).1
        clear hcell hcl ho hg hls hcf
        generalize (fxAt O k).1 = fr at *
        generalize (fxAt O k).2 = T at *
        obtain ⟨pt, ct, rfl, hct, hcm, ht⟩ := huv
        go_upto_region 10 with (fail)
        have ho8 : Only [] wr (wr.alloc (.cells #[.string ⟨fr.toArray⟩, .slice pt T.length ct] 38)) := (Only.refl _ _).alloc _
        have hq8 := alloc_new wr (.cells #[.string ⟨fr.toArray⟩, .slice pt T.length ct] 38)
        generalize wr.alloc (.cells #[.string ⟨fr.toArray⟩, .slice pt T.length ct] 38) = w8 at *
        have HMP8 := Lib.hid (HMP.out.only ho8 (by simp))
        have HO8 := Lib.hid (HO7.out.trans ho8)
        have HT8 : Hid (0 < T.length → ∃ b o, pt = some ⟨b, o, none⟩ ∧ ∀ k, k < T.length → w8.cell? ⟨b, o + k, none⟩ = some (.string ⟨(nthS T k).toArray⟩)) := Lib.hid fun h => by
          obtain ⟨b, o, e, hk⟩ := ht h
          exact ⟨b, o, e, fun k hk' => ho8.cell_some (hk k hk') (by simp)⟩
        generalize wr.heap.size = Q at *
        have q0 : w8.cell? ⟨Q, 0, none⟩ = some (.string ⟨fr.toArray⟩) := cell_blk hq8 0
        have q1 : w8.cell? ⟨Q, 1, none⟩ = some (.slice pt T.length ct) := cell_blk hq8 1
        have hQM : Q ≠ M := map_cells HMP8.out q0
        clear ho8 hq8 k0 k1 ht
        go_wp2_with (at_mapUpdate; refine wpList_store_held rfl (.tmp 43) (.tmp 45) (.const (.bool true)) 36 4 rfl Tryz.underlying36 HMP8.out (by unfold maxLen; omega) fr (by unfold maxLen; omega) (.bool true) rfl rfl rfl ?_)
        intro w9 hmp9 ho9
        have d0 : w9.cell? ⟨Q, 0, none⟩ = some (.string ⟨fr.toArray⟩) := ho9.cell_some q0 (by simpa using hQM)
        have d1 : w9.cell? ⟨Q, 1, none⟩ = some (.slice pt T.length ct) := ho9.cell_some q1 (by simpa using hQM)
        have HMP9 := Lib.hid hmp9
        have HO9 := Lib.hid (HO8.out.trans' ho9 (fun i hi => Or.inr (by simp only [List.mem_cons, List.not_mem_nil, or_false] at hi; omega)))
        have HT9 : Hid (0 < T.length → ∃ b o, pt = some ⟨b, o, none⟩ ∧ ∀ k, k < T.length → w9.cell? ⟨b, o + k, none⟩ = some (.string ⟨(nthS T k).toArray⟩)) := Lib.hid fun h => by
          obtain ⟨b, o, e, hk⟩ := HT8.out h
          exact ⟨b, o, e, fun k hk' => ho9.cell_some (hk k hk') (by simpa using map_cells HMP8.out (hk k hk'))⟩
        clear q0 q1 hmp9 ho9
        have HAS := Lib.hid (as_any c fr w9 (by omega))
        generalize asU c fr = x at *
        go_wp2_with fail
        refine HAS.out.mono ?_
        rintro e w10 ⟨rfl, ho10⟩
        have d1' := ho10.cell_some d1 (by simp)
        have HO10 := Lib.hid (HO9.out.trans ho10)
        have HO90 := Lib.hid ho10
        have HMP10 := Lib.hid (HMP9.out.only ho10 (by simp))
        have HFIX := Lib.hid (fix_any bk N (lookF O) x w10 (HB5.out.only HO10.out) (by omega) (look_short HGF.out))
        clear ho10 d0 d1
        generalize fixL (lookF O) x = y at *
        go_wp2_with fail
        refine HFIX.out.mono ?_
        rintro e w11 ⟨rfl, ho11⟩
        have d2 := ho11.cell_some d1' (by simp)
        have HO11 := Lib.hid (HO10.out.trans ho11)
        have HMP11 := Lib.hid (HMP10.out.only ho11 (by simp))
        have HT11 : Hid (0 < T.length → ∃ b o, pt = some ⟨b, o, none⟩ ∧ ∀ k, k < T.length → w11.cell? ⟨b, o + k, none⟩ = some (.string ⟨(nthS T k).toArray⟩)) := Lib.hid fun h => by
          obtain ⟨b, o, e, hk⟩ := HT9.out h
          exact ⟨b, o, e, fun k hk' => (HO90.out.trans ho11).cell_some (hk k hk') (by simp)⟩
        have HKN : Hid (∀ w', Only [] w11 w' → Calls Tryz.prog 10 #[.pointer (some ⟨bk, 0, none⟩), .string ⟨x.toArray⟩] w' fun e w'' => e = .returned (.bool false) ∧ Only [] w' w'') := Lib.hid fun w' h => by
          have := knows_any bk N (lookF O) x w' (HB5.out.only (HO11.out.trans h)) HN.out HSZ.out (by omega)
          rw [HCFK.out.1] at this
          exact this
        have HOF : Hid (∀ w', Calls Tryz.prog 11 #[.string ⟨x.toArray⟩] w' fun e w'' => e = .returned (.int .u8 (ofU x)) ∧ Only [] w' w'') := Lib.hid fun w' => of_any x w' (by omega)
        clear ho11 d1'
        by_cases h1 : T.length = 1
        · obtain ⟨hy1, hy2⟩ := HCFK.out.2.1 h1
          obtain ⟨T0, rfl⟩ := List.length_eq_one_iff.1 h1
          obtain ⟨b2, o2, rfl, hcl⟩ := HT11.out (by simp)
          have t0 : w11.cell? ⟨b2, o2, none⟩ = some (.string ⟨T0.toArray⟩) := hcl 0 (by simp)
          have h0l := (folded_len (HTG.out T0 (by simp))).1
          have hye : y.isEmpty = false := by
            cases y with
            | nil => exact absurd rfl hy2
            | cons => rfl
          have hyy : nthS [T0] 0 = T0 := rfl
          rw [hyy] at hy1
          have HAS2 : Hid (∀ w', Calls Tryz.prog 8 #[.int .u8 (ofU x), .string ⟨T0.toArray⟩] w' fun e w'' => e = .returned (.string ⟨y.toArray⟩) ∧ Only [] w' w'') := Lib.hid fun w' => by
            have := as_any (ofU x) T0 w' (by omega)
            rw [← hy1] at this
            exact this
          clear hy1 hy2 hyy hcl h1 htl
          generalize ofU x = q at *
          go_wp2_with fail
          refine wp_region_calm w11 [] (by kernel_rfl) (by kernel_rfl) (Only.refl _ w11) ?_
          repeat (first | go_big_quiet_skip | (go_big_quiet_want; go_big_quiet_op; first | go_big_quiet_on | (refine ⟨_, fun _ _ => rfl, ?_⟩; go_big_quiet_on) | (apply Exists.intro; refine ⟨fun w' hw' => ?_, ?_⟩; (rw [hw'.cell_some d2 (by simp)]; exact ⟨rfl, rfl⟩); go_big_quiet_on) | (apply Exists.intro; refine ⟨fun w' hw' => ?_, ?_⟩; (rw [hw'.cell_some t0 (by simp)]; exact ⟨rfl, rfl⟩); go_big_quiet_on) | go_big_quiet_call ((intro hw; first | (go_at_call 10; refine (HKN.out _ hw).mono ?_; rintro e w4 ⟨rfl, ho4⟩; exact ⟨rfl, hw.trans ho4⟩) | (go_at_call 11; refine (HOF.out _).mono ?_; rintro e w4 ⟨rfl, ho4⟩; exact ⟨rfl, hw.trans ho4⟩) | (go_at_call 8; refine (HAS2.out _).mono ?_; rintro e w4 ⟨rfl, ho4⟩; exact ⟨rfl, hw.trans ho4⟩)))))
          refine wpQuiet_nil ?_
          intro w12 ho12
          have HO12 := Lib.hid (HO11.out.trans ho12)
          have HMP12 := Lib.hid (HMP11.out.only ho12 (by simp))
          clear ho12 HKN HOF HAS2 d2 t0
          go_wp2_with fail
          go_roundw
          case rel =>
            refine ⟨k + 1, m + 1, _, by omega, by omega, by go_num, HMP12.out, fun s => ?_, HO12.out⟩
            rw [HLS.out s]
            by_cases hs : s = fr
            · simp [hs]
            · simp only [hs, if_false, decide_false, Bool.false_or]
              exact HFUN.out s
          case measure => simp [intOf]; omega
        · have hy := HCFK.out.2.2 h1
          subst hy
          have hne : ((T.length : Int) == 1) = false := by simp; omega
          have hne2 : ((T.length : Int) != 1) = true := by simp; omega
          have hge : (2 : Int) ≤ T.length := by omega
          clear h1 htl
          go_wp2_with fail
          refine wp_region_calm w11 [] (by kernel_rfl) (by kernel_rfl) (Only.refl _ w11) ?_
          repeat (first | go_big_quiet_skip | (go_big_quiet_want; go_big_quiet_op; first | go_big_quiet_on | (refine ⟨_, fun _ _ => rfl, ?_⟩; go_big_quiet_on) | (apply Exists.intro; refine ⟨fun w' hw' => ?_, ?_⟩; (rw [hw'.cell_some d2 (by simp)]; exact ⟨rfl, rfl⟩); go_big_quiet_on) | go_big_quiet_call ((intro hw; first | (go_at_call 10; refine (HKN.out _ hw).mono ?_; rintro e w4 ⟨rfl, ho4⟩; exact ⟨rfl, hw.trans ho4⟩) | (go_at_call 11; refine (HOF.out _).mono ?_; rintro e w4 ⟨rfl, ho4⟩; exact ⟨rfl, hw.trans ho4⟩)))))
          refine wpQuiet_nil ?_
          intro w12 ho12
          have HO12 := Lib.hid (HO11.out.trans ho12)
          have HMP12 := Lib.hid (HMP11.out.only ho12 (by simp))
          clear ho12 HKN HOF d2
          go_wp2_with fail
          go_roundw
          case rel =>
            refine ⟨k + 1, m + 1, _, by omega, by omega, by go_num, HMP12.out, fun s => ?_, HO12.out⟩
            rw [HLS.out s]
            by_cases hs : s = fr
            · simp [hs]
            · simp only [hs, if_false, decide_false, Bool.false_or]
              exact HFUN.out s
          case measure => simp [intOf]; omega
      · obtain rfl : k = O.length := by omega
        rw [List.take_length] at HFUN
        have hbf := HU5.out.only ho
        clear ho
        by_cases hb0 : B.length = 0
        · have hb0i : (B.length : Int) = 0 := by omega
          have hbe : ((B.length : Int) == 0) = true := by rw [beq_iff_eq]; omega
          clear hbf
          go_wp2_with fail
          go_ret
          exact ⟨rfl, HO5.out.trans HO7.out⟩
        · obtain ⟨i, hi, hit, hil⟩ := modL wh B.length hwh.1 (by omega)
          have hbe : ((B.length : Int) == 0) = false := by rw [beq_eq_false_iff_ne]; omega
          have hbp : (0 : Int) < B.length := by omega
          have hili : (i : Int) < B.length := by omega
          obtain ⟨p', c', e1, -, -, hcl⟩ := hbf
          simp only [Value.slice.injEq, true_and] at e1
          obtain ⟨rfl, rfl⟩ := e1
          obtain ⟨b, o, rfl, hcell⟩ := hcl (by omega)
          have k0 := hcell i hil
          have hcw := HCW.out i hil c HC3.out
          have hfo := HLAW.out.2.1 _ (nthS_mem hil)
          have hlen := (folded_len hfo).1
          have hasl := asU_len c (nthS B i)
          have hicu : (i : Int) < cu := by omega
          have HKA : Hid (∀ w', Only [] wr w' → Calls Tryz.prog 10 #[.pointer (some ⟨bk, 0, none⟩), .string ⟨(asU c (nthS B i)).toArray⟩] w' fun e w'' => e = .returned (.bool (lookF O (nthS B i)).isNone) ∧ Only [] w' w'') := Lib.hid fun w' h => by
            have := knows_any bk N (lookF O) (asU c (nthS B i)) w' (HB5.out.only (HO7.out.trans h)) HN.out HSZ.out (by omega)
            rw [hcw.1] at this
            exact this
          have HKB : Hid (∀ w', Only [] wr w' → Calls Tryz.prog 10 #[.pointer (some ⟨bk, 0, none⟩), .string ⟨(nthS B i).toArray⟩] w' fun e w'' => e = .returned (.bool (lookF O (nthS B i)).isNone) ∧ Only [] w' w'') := Lib.hid fun w' h => by
            have := knows_any bk N (lookF O) (nthS B i) w' (HB5.out.only (HO7.out.trans h)) HN.out HSZ.out (by omega)
            rw [hcw.2] at this
            exact this
          have HASW : Hid (∀ w', Calls Tryz.prog 8 #[.int .u8 c, .string ⟨(nthS B i).toArray⟩] w' fun e w'' => e = .returned (.string ⟨(asU c (nthS B i)).toArray⟩) ∧ Only [] w' w'') := Lib.hid fun w' => as_any c (nthS B i) w' (by omega)
          have HLK : Hid (∀ w', Only [] wr w' → (Instr.lookup 36 (.map (some M)) (.string ⟨(nthS B i).toArray⟩) false).run Tryz.prog w' = .ok (.bool (lookF O (nthS B i)).isSome) w') := Lib.hid fun w' ho => by
            have := lookup_run Tryz.underlying36 (zeroBool _) (HMP.out.only ho (by simp)) (nthS B i) (by unfold maxLen; omega)
            rw [HFUN.out] at this
            exact this
          have hsn : (lookF O (nthS B i)).isNone = !(lookF O (nthS B i)).isSome := by cases lookF O (nthS B i) <;> rfl
          rw [hsn] at HKA HKB
          clear hcell hcl hcw hfo hsn
          generalize asU c (nthS B i) = x at *
          generalize (lookF O (nthS B i)).isSome = z at *
          generalize nthS B i = y at *
          go_wp2_with fail
          cases z
          · simp only [Bool.not_false] at HKA HKB
            have HKC := Lib.hid fun s (hs : s = x ∨ s = y) => (hs.elim (fun e => by rw [e]; exact HKA.out) (fun e => by rw [e]; exact HKB.out) : ∀ w', Only [] wr w' → Calls Tryz.prog 10 #[.pointer (some ⟨bk, 0, none⟩), .string ⟨s.toArray⟩] w' fun e w'' => e = .returned (.bool true) ∧ Only [] w' w'')
            refine wp_region_calm wr [] (by kernel_rfl) (by kernel_rfl) (Only.refl _ wr) ?_
            repeat (first | go_big_quiet_skip | (go_big_quiet_want; go_big_quiet_op; first | go_big_quiet_on | (refine ⟨_, fun _ _ => rfl, ?_⟩; go_big_quiet_on) | (apply Exists.intro; refine ⟨fun w' hw' => ?_, ?_⟩; (rw [HLK.out w' hw']; exact ⟨rfl, rfl⟩); go_big_quiet_on) | go_big_quiet_call ((intro hw; first | (go_at_call 8; refine (HASW.out _).mono ?_; rintro e w4 ⟨rfl, ho4⟩; exact ⟨rfl, hw.trans ho4⟩) | (go_at_call 10; refine (HKC.out _ (by first | exact Or.inl rfl | exact Or.inr rfl) _ hw).mono ?_; rintro e w4 ⟨rfl, ho4⟩; exact ⟨rfl, hw.trans ho4⟩)))))
            refine wpQuiet_nil ?_
            intro w12 ho12
            have HO12 := Lib.hid ((HO5.out.trans HO7.out).trans ho12)
            clear ho12 HLK HKA HKB HKC HASW k0
            go_wp2_with fail
            go_ret
            exact ⟨rfl, HO12.out⟩
          · simp only [Bool.not_true] at HKA HKB
            have HKC := Lib.hid fun s (hs : s = x ∨ s = y) => (hs.elim (fun e => by rw [e]; exact HKA.out) (fun e => by rw [e]; exact HKB.out) : ∀ w', Only [] wr w' → Calls Tryz.prog 10 #[.pointer (some ⟨bk, 0, none⟩), .string ⟨s.toArray⟩] w' fun e w'' => e = .returned (.bool false) ∧ Only [] w' w'')
            refine wp_region_calm wr [] (by kernel_rfl) (by kernel_rfl) (Only.refl _ wr) ?_
            repeat (first | go_big_quiet_skip | (go_big_quiet_want; go_big_quiet_op; first | go_big_quiet_on | (refine ⟨_, fun _ _ => rfl, ?_⟩; go_big_quiet_on) | (apply Exists.intro; refine ⟨fun w' hw' => ?_, ?_⟩; (rw [HLK.out w' hw']; exact ⟨rfl, rfl⟩); go_big_quiet_on) | go_big_quiet_call ((intro hw; first | (go_at_call 8; refine (HASW.out _).mono ?_; rintro e w4 ⟨rfl, ho4⟩; exact ⟨rfl, hw.trans ho4⟩) | (go_at_call 10; refine (HKC.out _ (by first | exact Or.inl rfl | exact Or.inr rfl) _ hw).mono ?_; rintro e w4 ⟨rfl, ho4⟩; exact ⟨rfl, hw.trans ho4⟩)))))
            refine wpQuiet_nil ?_
            intro w12 ho12
            have HO12 := Lib.hid ((HO5.out.trans HO7.out).trans ho12)
            clear ho12 HLK HKA HKB HKC HASW k0
            go_wp2_with fail
            go_ret
            exact ⟨rfl, HO12.out⟩
end Go.Proofs.YtfbbieecdenlbaaGreatDoor
