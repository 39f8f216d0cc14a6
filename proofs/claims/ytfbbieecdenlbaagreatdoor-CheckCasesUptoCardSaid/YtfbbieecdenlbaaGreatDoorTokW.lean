/-
  token.Words.
-/
import Derived.Test.YtfbbieecdenlbaaGreatDoorTokT
import Derived.Deep.RegionHeld3
import Derived.Deep.AppendLies
import Derived.Deep.Cut
namespace Go.Proofs.YtfbbieecdenlbaaGreatDoor
open Go.RowKit

theorem infoWord : (Tryz.prog.info? 49).map (fun i => (i.zero, i.size, i.bytes)) = some (some (.agg #[.string ⟨#[]⟩, .int .i64 0, .int .i64 0, .bool false]), 4, 40) := by kernel_rfl

theorem UnitsV.part {w : World} {b o c : Nat} {L : List (Int × Nat × Nat)} (h : ∀ k, k < L.length → UnAt w b (o + k * 3) (unAt L k)) (hm : c ≤ maxLen) (i : Nat) {n : Nat} (hn : i + n ≤ L.length) (hc : i + n ≤ c) :
    UnitsV w (.slice (some ⟨b, o + i * 3, none⟩) n (c - i)) ((L.drop i).take n) := by
  have hlen : ((L.drop i).take n).length = n := by simp; omega
  refine ⟨_, c - i, by rw [hlen], by omega, by omega, fun _ => ⟨b, o + i * 3, rfl, fun k hk => ?_⟩⟩
  have h1 := h (i + k) (by omega)
  have e1 : unAt ((L.drop i).take n) k = unAt L (i + k) := by
    unfold unAt
    rw [List.getD_eq_getElem?_getD, List.getD_eq_getElem?_getD, List.getElem?_take, if_pos (by omega), List.getElem?_drop]
  rw [e1, show o + i * 3 + k * 3 = o + (i + k) * 3 by omega]
  exact h1

theorem lit_news (w : World) (e : TypeId) (news : List Value) : ∀ (j : Nat) (u : Value), news[j]? = some u → (w.alloc (.cells news.toArray e)).cell? ((⟨w.heap.size, 0, none⟩ : Addr).add j) = some u := by
  intro j u hu
  have hadd : (⟨w.heap.size, 0, none⟩ : Addr).add j = ⟨w.heap.size, j, none⟩ := by unfold Addr.add; split <;> simp_all
  rw [hadd, cell_blk (alloc_new w _)]
  simpa using hu

def wordOk (least most : Nat) (p : Nat × Nat) : Bool := decide (least ≤ p.2 - p.1) && decide (p.2 - p.1 ≤ most)
theorem wordsRun_take (b : List UInt8) (L : List (Int × Nat × Nat)) (least most : Nat) (ps : List (Nat × Nat)) (j : Nat) (h : j < ps.length) :
    wordsRun b L least most (ps.take (j + 1)) = wordsRun b L least most (ps.take j) ++ (if wordOk least most ps[j] then [wordL b (partL L ps[j])] else []) := by
  unfold wordsRun
  rw [List.take_succ_eq_append_getElem h, List.filter_append, List.map_append]
  congr 1
  unfold wordOk
  simp only [List.filter_cons, List.filter_nil]
  cases (decide (least ≤ ps[j].2 - ps[j].1) && decide (ps[j].2 - ps[j].1 ≤ most)) <;> simp
theorem wordsT_take (b : List UInt8) (L : List (Int × Nat × Nat)) (least most : Nat) (rs : List (Nat × Nat)) (k : Nat) (h : k < rs.length) :
    wordsT b L least most (rs.take (k + 1)) = wordsT b L least most (rs.take k) ++ wordsRun b L least most (splitT (runesL L) rs[k].1 rs[k].2 rs[k].1 rs[k].1) := by
  unfold wordsT
  rw [List.take_succ_eq_append_getElem h, List.flatMap_append]
  simp
theorem wordsRun_len (b : List UInt8) (L : List (Int × Nat × Nat)) (least most : Nat) (ps : List (Nat × Nat)) : (wordsRun b L least most ps).length ≤ ps.length := by
  unfold wordsRun
  rw [List.length_map]
  exact List.length_filter_le _ _
theorem wordsT_len (b : List UInt8) (L : List (Int × Nat × Nat)) (least most : Nat) (hl : L.length ≤ 65536) : ∀ (rs : List (Nat × Nat)), (∀ p ∈ rs, p.2 ≤ L.length) → (wordsT b L least most rs).length ≤ rs.length * 65537 := by
  intro rs
  induction rs with
  | nil => intro _; simp [wordsT]
  | cons r rs ih =>
    intro h
    have h1 := ih (fun p hp => h p (List.mem_cons_of_mem _ hp))
    have h2 := wordsRun_len b L least most (splitT (runesL L) r.1 r.2 r.1 r.1)
    have h3 := splitT_len (runesL L) r.1 r.2
    have h4 := h r (by simp)
    unfold wordsT at h1 ⊢
    rw [List.flatMap_cons, List.length_append, List.length_cons]
    omega

set_option maxRecDepth 100000 in
set_option maxHeartbeats 8000000 in
theorem twords_any (b : List UInt8) (L : List (Int × Nat × Nat)) (least most : Nat) (v u : Value) (w : World) (hv : BytesV w v b) (hu : UnitsV w u L) (hb : 0 < b.length) (hbl : b.length ≤ 65536) (hl : L.length ≤ 65536) (hbd : ∀ k, k < L.length → (unAt L k).2.1 + (unAt L k).2.2 ≤ 65536) (hls : least ≤ 1000) (hms : most ≤ 1000) :
    Calls Tryz.prog 65 #[v, u, .int .i64 least, .int .i64 most] w fun e w' => ∃ x, e = .returned x ∧ Only [] w w' ∧ w'.ownsRow w.heap.size 49 4 x (wordsT b L least most (runsT (runesL L) 0)).length (wordCells (wordsT b L least most (runsT (runesL L) 0))) := by
  have HB := Lib.hid hv
  have HU := Lib.hid hu
  have HBD := Lib.hid hbd
  obtain ⟨pb, cb, rfl, -, -⟩ := hv.shape
  obtain ⟨pu, cu, rfl, hcu, hmu, hku⟩ := hu
  have HKU := Lib.hid hku
  have hrl := runesL_length L
  have hrs : ∀ p ∈ runsT (runesL L) 0, p.1 < p.2 ∧ p.2 ≤ L.length := by
    intro p hp
    have := runsN_range (runesL L) _ _ p hp
    rwa [hrl] at this
  have hrn : (runsT (runesL L) 0).length ≤ 65536 := by
    have := runsN_len (runesL L) ((runesL L).length - 0) 0
    unfold runsT
    omega
  have hl' : (L.length : Int) ≤ 65536 := by omega
  have hls' : (least : Int) ≤ 1000 := by omega
  have hms' : (most : Int) ≤ 1000 := by omega
  have HW : Hid (∀ ps : List (Nat × Nat), (∀ p ∈ ps, p.2 ≤ L.length) → (wordsT b L least most ps).length ≤ ps.length * 65537) := Lib.hid (wordsT_len b L least most hl)
  clear hv hku hbd
  go_enter Tryz.func65, Tryz.ntmps65
  go_wp2_with fail
  refine (runsT_any L _ w HU.out hl).mono ?_
  rintro e w2 ⟨xr, rfl, ho2, hxr⟩
  obtain ⟨pr, cr, rfl, -⟩ := ownsRow_shape hxr
  generalize hgr : runsT (runesL L) 0 = rs at *
  have HGR := Lib.hid hgr
  have HRS := Lib.hid hrs
  have HR := Lib.hid hxr
  have HO2 := Lib.hid ho2
  have hrn' : (rs.length : Int) ≤ 65536 := by omega
  clear hgr hrs hxr ho2
  go_wp2_with fail
  go_loopw [9, 20] (fun ov iv wr => ∃ k : Nat, k ≤ rs.length ∧ iv = .int .i64 k ∧ Only [] w2 wr ∧ wr.ownsRow w2.heap.size 49 4 ov (wordsT b L least most (rs.take k)).length (wordCells (wordsT b L least most (rs.take k)))) (fun _ iv _ => rs.length - (intOf iv).toNat)
  case atStart => exact ⟨0, by omega, rfl, Only.refl _ _, World.ownsRow_nil _ _ _ _⟩
  case round =>
    obtain ⟨k, hk, rfl, ho, hown⟩ := hrel
    obtain ⟨po, co, rfl, -⟩ := ownsRow_shape hown
    have HO := Lib.hid ho
    have HOWN := Lib.hid hown
    have hwl : (wordsT b L least most (rs.take k)).length ≤ 65536 * 65537 := by
      have h := HW.out (rs.take k) (fun p hp => (HRS.out p (List.mem_of_mem_take hp)).2)
      have h2 : (rs.take k).length ≤ 65536 := by rw [List.length_take]; omega
      exact Nat.le_trans h (Nat.mul_le_mul_right _ h2)
    clear hown
    by_cases hlt : k < rs.length
    · have hw := ownsRow_only HR.out ho (by simp)
      obtain ⟨g, cg, hpr, hg, -⟩ := ownsRow_some hw (by omega)
      simp only [Value.slice.injEq, true_and] at hpr
      obtain ⟨rfl, rfl⟩ := hpr
      obtain ⟨e0, e1⟩ := pairCells_at rs k hlt
      have k0 : wr.cell? ⟨g, k * 2, none⟩ = some (.int .i64 (rs[k].1 : Int)) := by rw [hw.cellAt _ (by omega)]; exact e0
      have k1 : wr.cell? ⟨g, k * 2 + 1, none⟩ = some (.int .i64 (rs[k].2 : Int)) := by rw [hw.cellAt _ (by omega)]; exact e1
      have hrg := HRS.out rs[k] (List.getElem_mem hlt)
      have htk := wordsT_take b L least most rs k hlt
      have HTK := Lib.hid htk
      clear hw e0 e1 htk ho
      generalize rs[k].1 = frm at *
      generalize rs[k].2 = tq at *
      go_wp2_with fail
      have hoA : Only [] wr (wr.alloc (.cells #[.int .i64 frm, .int .i64 tq] 213)) := (Only.refl _ _).alloc _
      generalize hwA : wr.alloc (.cells #[.int .i64 frm, .int .i64 tq] 213) = wA at *
      clear hwA
      refine (split_words L _ frm tq wA (HU.out.only (HO2.out.trans (HO.out.trans hoA))) hl (by omega) hrg.2).mono ?_
      rintro e w3 ⟨xp, rfl, ho3, hxp⟩
      obtain ⟨pp, cp, rfl, -⟩ := ownsRow_shape hxp
      have hpn := splitT_len (runesL L) frm tq
      have hpr := splitT_range (runesL L) frm tq (by omega)
      generalize hgp : splitT (runesL L) frm tq frm frm = ps at *
      have HPR := Lib.hid hpr
      have hps : ps.length ≤ 65537 := by omega
      have hps' : (ps.length : Int) ≤ 65537 := by omega
      have HO3 := Lib.hid (HO.out.trans (hoA.trans ho3))
      have HOWN3 := Lib.hid (ownsRow_only HOWN.out (hoA.trans ho3) (by simp))
      have HXP := Lib.hid (ownsRow_base (base' := w2.heap.size) hxp (fun i hi => by have := hxp.lt i hi; have := HO.out.size; have := hoA.size; omega))
      generalize wordsT b L least most (rs.take k) = acc at *
      clear hgp hpr hoA ho3 hxp k0 k1 hpn
      go_wp2_with fail
      go_loopw [9, 28] (fun ov jv wq => ∃ j : Nat, j ≤ ps.length ∧ jv = .int .i64 j ∧ Only [] w2 wq ∧ wq.ownsRow w2.heap.size 213 2 (.slice pp ps.length cp) ps.length (pairCells ps) ∧ wq.ownsRow w2.heap.size 49 4 ov (acc ++ wordsRun b L least most (ps.take j)).length (wordCells (acc ++ wordsRun b L least most (ps.take j)))) (fun _ jv _ => ps.length - (intOf jv).toNat)
      case atStart => exact ⟨0, by omega, rfl, HO3.out, HXP.out, by simpa [wordsRun] using HOWN3.out⟩
      case round =>
        obtain ⟨j, hj, rfl, ho4, hxp4, hown4⟩ := hrel
        obtain ⟨po4, co4, rfl, -⟩ := ownsRow_shape hown4
        have HO4 := Lib.hid ho4
        have HXP4 := Lib.hid hxp4
        have HOWN4 := Lib.hid hown4
        have hrl4 := wordsRun_len b L least most (ps.take j)
        have htl4 : (ps.take j).length ≤ 65537 := by rw [List.length_take]; omega
        have hacc4 : (acc ++ wordsRun b L least most (ps.take j)).length ≤ 65536 * 65537 + 65537 := by rw [List.length_append]; omega
        clear hown4
        by_cases hjl : j < ps.length
        · obtain ⟨g4, cg4, hpr4, hg4, -⟩ := ownsRow_some hxp4 (by omega)
          simp only [Value.slice.injEq, true_and] at hpr4
          obtain ⟨rfl, rfl⟩ := hpr4
          obtain ⟨e0, e1⟩ := pairCells_at ps j hjl
          have k0 : wr.cell? ⟨g4, j * 2, none⟩ = some (.int .i64 (ps[j].1 : Int)) := by rw [hxp4.cellAt _ (by omega)]; exact e0
          have k1 : wr.cell? ⟨g4, j * 2 + 1, none⟩ = some (.int .i64 (ps[j].2 : Int)) := by rw [hxp4.cellAt _ (by omega)]; exact e1
          have hrg4 := HPR.out ps[j] (List.getElem_mem hjl)
          have htk4 := wordsRun_take b L least most ps j hjl
          have hpj : ps[j] = (ps[j].1, ps[j].2) := rfl
          rw [hpj] at htk4
          clear hxp4 e0 e1 ho4 hpj
          generalize ps[j].1 = x at *
          generalize ps[j].2 = y at *
          obtain ⟨m, rfl⟩ : ∃ m, y = x + (m + 1) := ⟨y - x - 1, by omega⟩
          have hwo : wordOk least most (x, x + (m + 1)) = (decide (least ≤ m + 1) && decide (m + 1 ≤ most)) := by
            unfold wordOk
            show (decide (least ≤ x + (m + 1) - x) && decide (x + (m + 1) - x ≤ most)) = _
            rw [Nat.add_sub_cancel_left]
          rw [hwo] at htk4
          have HTK4 := Lib.hid htk4
          obtain ⟨bu, ou, rfl, hun⟩ := HKU.out (by omega)
          have hunA := fun q hq => (hun q hq).keep (w' := wr) (fun _ _ hx => (HO2.out.trans HO4.out).cell_some hx (by simp))
          have hM := UnitsV.part hunA hmu x (n := m + 1) (by omega) (by omega)
          have hmx : (x : Int) + (m + 1) ≤ 65536 := by omega
          have hmL : (x : Int) + (m + 1) ≤ L.length := by omega
          have hmc : (x : Int) + (m + 1) ≤ cu := by omega
          have hML := hunA (x + m) (by omega)
          have hM0 := hunA x (by omega)
          have z1 := hML.c1
          have z2 := hML.c2
          have f1 := hM0.c1
          have eL : ou + (x + m) * 3 = ou + x * 3 + m * 3 := by omega
          rw [eL] at z1 z2
          have hb1 := HBD.out (x + m) (by omega)
          have hb0 := HBD.out x (by omega)
          clear hwo htk4 hun hunA hML hM0 eL
          have HM := Lib.hid hM
          clear hM
          clear hrl4 htl4 hrn hrn' hps' hwl
          have hmc' : (m : Int) + 1 ≤ ((cu - x : Nat) : Int) := by omega
          go_upto_region 9 with (fail)
          have hoB : Only [] wr (wr.alloc (.cells #[.int .i64 x, .int .i64 ((x : Int) + ((m : Int) + 1))] 213)) := (Only.refl _ _).alloc _
          generalize hwB : wr.alloc (.cells #[.int .i64 x, .int .i64 ((x : Int) + ((m : Int) + 1))] 213) = wB at *
          have z1' := hoB.cell_some z1 (by simp)
          have z2' := hoB.cell_some z2 (by simp)
          have f1' := hoB.cell_some f1 (by simp)
          have HMB := Lib.hid (HM.out.only hoB)
          have HOB := Lib.hid (HO4.out.trans hoB)
          have HOWNB := Lib.hid (ownsRow_only HOWN4.out hoB (by simp))
          have HXPB := Lib.hid (ownsRow_only HXP4.out hoB (by simp))
          clear hwB hoB z1 z2 f1 HM HOWN4 HXP4 k0 k1
          have ex : x + (m + 1) - x = m + 1 := by omega
          rw [ex]
          clear ex
          generalize cu - x = cM at *
          generalize ou + x * 3 = oM at *
          have hpl : partL L (x, x + (m + 1)) = (L.drop x).take (m + 1) := by unfold partL; simp
          rw [hpl] at HTK4
          have hMlen : ((L.drop x).take (m + 1)).length = m + 1 := by rw [List.length_take, List.length_drop]; omega
          have hM1 : unAt ((L.drop x).take (m + 1)) 0 = unAt L x := by
            unfold unAt
            rw [List.getD_eq_getElem?_getD, List.getD_eq_getElem?_getD, List.getElem?_take, if_pos (by omega), List.getElem?_drop, Nat.add_zero]
          have hM2 : unAt ((L.drop x).take (m + 1)) m = unAt L (x + m) := by
            unfold unAt
            rw [List.getD_eq_getElem?_getD, List.getD_eq_getElem?_getD, List.getElem?_take, if_pos (by omega), List.getElem?_drop]
          have HBM : Hid (∀ q, q < m + 1 → (unAt ((L.drop x).take (m + 1)) q).2.1 + (unAt ((L.drop x).take (m + 1)) q).2.2 ≤ 65536) := Lib.hid fun q hq => by
            have e : unAt ((L.drop x).take (m + 1)) q = unAt L (x + q) := by
              unfold unAt
              rw [List.getD_eq_getElem?_getD, List.getD_eq_getElem?_getD, List.getElem?_take, if_pos (by omega), List.getElem?_drop]
            rw [e]
            exact HBD.out (x + q) (by omega)
          have HM1 := Lib.hid hM1
          have HM2 := Lib.hid hM2
          have HML := Lib.hid hMlen
          clear hpl hM1 hM2 hMlen
          generalize (L.drop x).take (m + 1) = M at *
          generalize hA : (unAt L x).2.1 = A at *
          generalize hBB : (unAt L (x + m)).2.1 = B at *
          generalize hCC : (unAt L (x + m)).2.2 = C at *
          have HA := Lib.hid hA
          have HBB := Lib.hid hBB
          have HCC := Lib.hid hCC
          have hAl : (A : Int) ≤ 65536 := by omega
          have hBCl : (B : Int) + C ≤ 65536 := by omega
          clear hA hBB hCC hb0 hb1
          generalize hac : acc ++ wordsRun b L least most (ps.take j) = ac4 at *
          have HAC := Lib.hid hac
          clear hac
          have HSKIP : Hid ((decide (least ≤ m + 1) && decide (m + 1 ≤ most)) = false → acc ++ wordsRun b L least most (ps.take (j + 1)) = ac4) := Lib.hid fun h => by
            rw [HTK4.out, h, ← HAC.out]; simp
          have HTAKE : Hid ((decide (least ≤ m + 1) && decide (m + 1 ≤ most)) = true → acc ++ wordsRun b L least most (ps.take (j + 1)) = ac4 ++ [wordL b M]) := Lib.hid fun h => by
            rw [HTK4.out, h, ← HAC.out]; simp
          have HWL : Hid (wordCells [wordL b M] = [.string ⟨(textU (runesL M)).toArray⟩, .int .i64 A, .int .i64 ((B : Int) + C - A), .bool (litB b M)]) := Lib.hid (by
            have e1 : fromL M = A := by unfold fromL; rw [HM1.out, HA.out]
            have e2 : toL M = (B : Int) + C := by
              unfold toL
              rw [HML.out, Nat.add_sub_cancel, HM2.out, HBB.out, HCC.out]
            unfold wordL wordCells
            rw [e1, e2]
            rfl)
          by_cases hc1 : (m : Int) + 1 < least
          · have hsk := HSKIP.out (by rw [decide_eq_false (by omega)]; rfl)
            have HSK := Lib.hid hsk
            clear hsk z1' z2' f1'
            go_wp2_with fail
            go_roundw
            case rel => exact ⟨j + 1, by omega, by go_num, HOB.out, HXPB.out, by rw [HSK.out]; exact HOWNB.out⟩
            case measure => simp [intOf]; omega
          · by_cases hc2 : (most : Int) < m + 1
            · have hsk := HSKIP.out (by rw [decide_eq_false (p := m + 1 ≤ most) (by omega)]; simp)
              have HSK := Lib.hid hsk
              clear hsk z1' z2' f1'
              go_wp2_with fail
              go_roundw
              case rel => exact ⟨j + 1, by omega, by go_num, HOB.out, HXPB.out, by rw [HSK.out]; exact HOWNB.out⟩
              case measure => simp [intOf]; omega
            · go_wp2_with fail
              have hoC : Only [] wB (wB.alloc (.cells #[.int .i64 B, .int .i64 C] 47)) := (Only.refl _ _).alloc _
              have hqC := alloc_new wB (.cells #[.int .i64 B, .int .i64 C] 47)
              generalize hwC : wB.alloc (.cells #[.int .i64 B, .int .i64 C] 47) = wC at *
              have q0 : wC.cell? ⟨wB.heap.size, 0, none⟩ = some (.int .i64 B) := cell_blk hqC 0
              have q1 : wC.cell? ⟨wB.heap.size, 1, none⟩ = some (.int .i64 C) := cell_blk hqC 1
              have fC := hoC.cell_some f1' (by simp)
              have HOC := Lib.hid (HOB.out.trans hoC)
              have HOBC := Lib.hid hoC
              clear hwC hqC hoC z1' z2' f1'
              have hpd : wC.drew.cell? ⟨wB.heap.size, 0, none⟩ = some (.int .i64 B) ∧ wC.drew.cell? ⟨wB.heap.size, 1, none⟩ = some (.int .i64 C) ∧ wC.drew.cell? ⟨bu, oM + 1, none⟩ = some (.int .i64 A) := ⟨q0, q1, fC⟩
              go_region_held3 (fun w' => w'.cell? ⟨wB.heap.size, 0, none⟩ = some (.int .i64 B) ∧ w'.cell? ⟨wB.heap.size, 1, none⟩ = some (.int .i64 C) ∧ w'.cell? ⟨bu, oM + 1, none⟩ = some (.int .i64 A)) (first | exact hpd | go_keep) (fail)
              have hwr : IntKind.i64.wrap (IntKind.i64.wrap ((B : Int) + C) - A) = (B : Int) + C - A := by
                have e1 : IntKind.i64.wrap ((B : Int) + C) = (B : Int) + C := IntWalk.i64_in _ (by omega)
                rw [e1]
                exact IntWalk.i64_in _ (by omega)
              rw [hwr]
              clear hwr hpd
              have hoD : Only [] wC (wC.alloc (.cells #[.int .i64 A, .int .i64 ((B : Int) + C - A)] 47)).drew := ((Only.refl _ _).alloc _).drew
              have hqD : (wC.alloc (.cells #[.int .i64 A, .int .i64 ((B : Int) + C - A)] 47)).drew.heap[wC.heap.size]? = _ := alloc_new wC (.cells #[.int .i64 A, .int .i64 ((B : Int) + C - A)] 47)
              generalize hwD : (wC.alloc (.cells #[.int .i64 A, .int .i64 ((B : Int) + C - A)] 47)).drew = wD at *
              have r0 : wD.cell? ⟨wC.heap.size, 0, none⟩ = some (.int .i64 A) := cell_blk hqD 0
              have r1 : wD.cell? ⟨wC.heap.size, 1, none⟩ = some (.int .i64 ((B : Int) + C - A)) := cell_blk hqD 1
              have HOD := Lib.hid (HOC.out.trans hoD)
              have hoBD := HOBC.out.trans hoD
              have HMD := Lib.hid (HMB.out.only hoBD)
              have HOWND := Lib.hid (ownsRow_only HOWNB.out hoBD (by simp))
              have HXPD := Lib.hid (ownsRow_only HXPB.out hoBD (by simp))
              have HBVD := Lib.hid (HB.out.only (HO2.out.trans HOD.out))
              have hnot : wC.heap.size ∉ (Value.ownBlock (.slice po4 ac4.length co4)).toList := by
                intro hm
                rw [Option.mem_toList] at hm
                exact row_not HOWND.out hqD (by decide) hm
              have HNOT := Lib.hid hnot
              clear hwD hqD hoD hoBD q0 q1 fC hnot
              obtain ⟨i0, hi0, hz0, hz1, hz2⟩ := info_parts infoWord
              have hpdD : wD.drew.cell? ⟨wC.heap.size, 0, none⟩ = some (.int .i64 A) ∧ wD.drew.cell? ⟨wC.heap.size, 1, none⟩ = some (.int .i64 ((B : Int) + C - A)) := ⟨r0, r1⟩
              have hoN : Only [] wD wD.drew := (Only.refl _ _).drew
              have hdD := HOD.out.size
              have hb0' : M.length ≤ 65536 := by rw [HML.out]; omega
              have hm1 : 0 < M.length := by rw [HML.out]; omega
              have HBM2 : Hid (∀ q, q < M.length → (unAt M q).2.1 + (unAt M q).2.2 ≤ 65536) := Lib.hid (by rw [HML.out]; exact HBM.out)
              go_wp2_with fail
              go_region_held3 (fun w' => w'.cell? ⟨wC.heap.size, 0, none⟩ = some (.int .i64 A) ∧ w'.cell? ⟨wC.heap.size, 1, none⟩ = some (.int .i64 ((B : Int) + C - A))) (first | exact hpdD | exact hs7 | exact ⟨Only.cell_some (w := wD) (by assumption) r0 (by simp), Only.cell_some (w := wD) (by assumption) r1 (by simp)⟩ | exact ⟨Only.cell_some (w := wD) (Only.alloc (by assumption) _) r0 (by simp), Only.cell_some (w := wD) (Only.alloc (by assumption) _) r1 (by simp)⟩) (first | (go_at_call 106; refine (dtext_any M _ _ (HMD.out.only (by assumption)) hb0').mono ?_; rintro e wT ⟨rfl, hoT⟩; have hoN : Only [] wD wT := Only.trans (by assumption) hoT; have hsT := Only.size hoN) | (go_at_call 107; refine (literal_any b M _ _ _ (HBVD.out.only (by assumption)) (HMD.out.only (by assumption)) hb hbl hm1 hb0' HBM2.out).mono ?_; rintro e wT ⟨rfl, hoT⟩; have hoN : Only [] wD wT := Only.trans (by assumption) hoT; have hsT := Only.size hoN) | (refine step_append_lies _ rfl (.tmp 72) (.tmp 80) 97 rfl w2.heap.size 49 i0 (.agg #[.string ⟨#[]⟩, .int .i64 0, .int .i64 0, .bool false]) 4 40 Tryz.underlying97 hi0 hz0 hz1 hz2 rfl (by decide) (.slice po4 ac4.length co4) ac4.length (wordCells ac4) rfl ((ownsRow_only HOWND.out (by assumption) (by simp)).alloc _) ⟨_, 0, none⟩ 1 1 [_, _, _, _] rfl rfl (lit_news _ _ _) (by simp [Value.oneCell']) (by omega) (by unfold maxLen; omega) (by omega) (by simp; omega) _ rfl ?_; intro gg cap7 w7 hown7 hgrow7 hat7 hlt7; have ho7 := Only.of_grown hgrow7; have hs7 := (⟨ho7.cell_some (Only.cell_some (w := wD) (Only.alloc (by assumption) _) r0 (by simp)) HNOT.out, ho7.cell_some (Only.cell_some (w := wD) (Only.alloc (by assumption) _) r1 (by simp)) HNOT.out⟩ : w7.cell? ⟨wC.heap.size, 0, none⟩ = some (.int .i64 A) ∧ w7.cell? ⟨wC.heap.size, 1, none⟩ = some (.int .i64 ((B : Int) + C - A)))))
              have h7 : Only [] w2 w7 := HOD.out.trans' (T := (Value.ownBlock (.slice po4 ac4.length co4)).toList) ((((hoN.alloc _).mono (by simp)).trans ho7)) (by
                intro i hi
                rw [Option.mem_toList] at hi
                exact Or.inr (HOWND.out.lt i hi).1)
              have hx7 := ownsRow_only ((ownsRow_only HXPD.out hoN (by simp)).alloc _) ho7 (by
                intro i hi hm
                rw [Option.mem_toList] at hm
                exact row_apart HXPD.out HOWND.out (by decide) hi hm)
              have htk7 := HTAKE.out (by rw [decide_eq_true (by omega), decide_eq_true (by omega)]; rfl)
              rw [← HWL.out, ← wordCells_append] at hown7
              have H7 := Lib.hid h7
              have HX7 := Lib.hid hx7
              have HT7 := Lib.hid htk7
              have HW7 := Lib.hid hown7
              clear h7 hx7 htk7 hown7 hgrow7 hat7 hlt7 ho7 hs7 r0 r1 hpdD
              go_wp2_with fail
              go_roundw
              case rel => exact ⟨j + 1, by omega, by go_num, H7.out, HX7.out, by rw [HT7.out, List.length_append]; exact HW7.out⟩
              case measure => simp [intOf]; omega
        · obtain rfl : j = ps.length := by omega
          clear hrl4 htl4 hacc4 ho4 hxp4
          have e : acc ++ wordsRun b L least most (ps.take ps.length) = wordsT b L least most (rs.take (k + 1)) := by
            rw [List.take_length]; exact HTK.out.symm
          have HE := Lib.hid e
          clear e
          go_wp2_with fail
          go_roundw
          case rel => exact ⟨k + 1, by omega, by go_num, HO4.out, by rw [← HE.out]; exact HOWN4.out⟩
          case measure => simp [intOf]; omega
    · obtain rfl : k = rs.length := by omega
      clear ho hwl
      go_wp2_with fail
      go_ret
      refine ⟨_, rfl, HO2.out.trans HO.out, ?_⟩
      have e : wordsT b L least most rs = wordsT b L least most (rs.take rs.length) := by rw [List.take_length]
      rw [HGR.out, e]
      exact ownsRow_base HOWN.out (fun i hi => by have := HOWN.out.lt i hi; have := HO2.out.size; omega)
end Go.Proofs.YtfbbieecdenlbaaGreatDoor
