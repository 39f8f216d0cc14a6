/-
  check.Words of a plain text without a mark.
-/
import Derived.Test.YtfbbieecdenlbaaGreatDoorChkW
import Derived.WalkMore
namespace Go.Proofs.YtfbbieecdenlbaaGreatDoor
open Go.RowKit

set_option maxRecDepth 100000 in
set_option maxHeartbeats 8000000 in
theorem cwords_plain (b : List UInt8) (o : OptR) (v : Value) (w : World) (hv : BytesV w v b) (hb : 0 < b.length) (hbl : b.length ≤ 65536) (ho : OkOpt o) (he : EnvL w) (hno : NoAskL b) :
    Calls Tryz.prog 35 #[.int .u8 0, v, optV o] w fun e w' => ∃ x, e = .returned (.tuple #[x, .int .i64 0]) ∧ Only [] w w' ∧ w'.ownsRow w.heap.size 49 4 x (wordsP b o.le o.mo).length (wordCells (wordsP b o.le o.mo)) := by
  have HV := Lib.hid hv
  have HE := Lib.hid he
  have HNO := Lib.hid hno
  obtain ⟨pb, cb, rfl, -, -⟩ := hv.shape
  have hl1 := ho.l1
  have hm1 := ho.m1
  have HCH : Hid (∀ w', Calls Tryz.prog 60 #[optV o] w' fun e w'' => e = .returned (.int .i64 0) ∧ Only [] w' w'') := Lib.hid fun w' => check_ok o w' ho
  have hul := unitsP_len b
  have HUB : Hid (∀ k, k < (unitsP b).length → (unAt (unitsP b) k).2.1 + (unAt (unitsP b) k).2.2 ≤ 65536) := Lib.hid fun k hk => Nat.le_trans (unitsP_at b k hk) hbl
  have HTX : Hid (∀ x ∈ wordsP b o.le o.mo, x.text.length ≤ 4 * o.mo) := Lib.hid (words_text b (unitsP b) o.le o.mo _)
  have hwl : (wordsP b o.le o.mo).length ≤ 65536 * 65537 := by
    have h := wordsT_len b (unitsP b) o.le o.mo (by omega) (runsT (runesL (unitsP b)) 0) (fun p hp => by
      have := (runsN_range (runesL (unitsP b)) _ _ p hp).2
      rwa [runesL_length] at this)
    have h2 : (runsT (runesL (unitsP b)) 0).length ≤ 65536 := by
      have := runsN_len (runesL (unitsP b)) ((runesL (unitsP b)).length - 0) 0
      rw [runesL_length] at this
      unfold runsT
      rw [runesL_length]
      omega
    exact Nat.le_trans h (Nat.mul_le_mul_right _ h2)
  have hwl' : ((wordsP b o.le o.mo).length : Int) ≤ 65536 * 65537 := by omega
  have hop : optV o = .agg #[.int .i64 o.fo, .int .i64 o.le, .int .i64 o.mo, .int .i64 o.ne, .int .i64 o.di, .int .i64 o.co, .bool o.st, .bool o.me] := rfl
  clear he hno hv ho
  rw [hop] at HCH ⊢
  clear hop
  have HWP : Hid (wordsP b o.le o.mo = wordsT b (unitsP b) o.le o.mo (runsT (runesL (unitsP b)) 0)) := Lib.hid rfl
  generalize hW : wordsP b o.le o.mo = W at *
  have HWW := Lib.hid hW
  clear hW
  generalize o.fo = fo at *
  generalize o.le = le at *
  generalize o.mo = mo at *
  generalize (o.ne : Int) = ne at *
  generalize (o.di : Int) = di at *
  generalize (o.co : Int) = co at *
  generalize o.st = st at *
  generalize o.me = me at *
  have hq1 := alloc_new w (.cells #[.int .i64 fo, .int .i64 le, .int .i64 mo, .int .i64 ne, .int .i64 di, .int .i64 co, .bool st, .bool me] 67)
  have o0 : (w.alloc (.cells #[.int .i64 fo, .int .i64 le, .int .i64 mo, .int .i64 ne, .int .i64 di, .int .i64 co, .bool st, .bool me] 67)).cell? ⟨w.heap.size, 0, none⟩ = some (.int .i64 fo) := cell_blk hq1 0
  have o1 : (w.alloc (.cells #[.int .i64 fo, .int .i64 le, .int .i64 mo, .int .i64 ne, .int .i64 di, .int .i64 co, .bool st, .bool me] 67)).cell? ⟨w.heap.size, 0 + 1, none⟩ = some (.int .i64 le) := cell_blk hq1 1
  have o2 : (w.alloc (.cells #[.int .i64 fo, .int .i64 le, .int .i64 mo, .int .i64 ne, .int .i64 di, .int .i64 co, .bool st, .bool me] 67)).cell? ⟨w.heap.size, 0 + 1 + 1, none⟩ = some (.int .i64 mo) := cell_blk hq1 2
  have o3 : (w.alloc (.cells #[.int .i64 fo, .int .i64 le, .int .i64 mo, .int .i64 ne, .int .i64 di, .int .i64 co, .bool st, .bool me] 67)).cell? ⟨w.heap.size, 0 + 1 + 1 + 1, none⟩ = some (.int .i64 ne) := cell_blk hq1 3
  have o4 : (w.alloc (.cells #[.int .i64 fo, .int .i64 le, .int .i64 mo, .int .i64 ne, .int .i64 di, .int .i64 co, .bool st, .bool me] 67)).cell? ⟨w.heap.size, 0 + 1 + 1 + 1 + 1, none⟩ = some (.int .i64 di) := cell_blk hq1 4
  have o5 : (w.alloc (.cells #[.int .i64 fo, .int .i64 le, .int .i64 mo, .int .i64 ne, .int .i64 di, .int .i64 co, .bool st, .bool me] 67)).cell? ⟨w.heap.size, 0 + 1 + 1 + 1 + 1 + 1, none⟩ = some (.int .i64 co) := cell_blk hq1 5
  have o6 : (w.alloc (.cells #[.int .i64 fo, .int .i64 le, .int .i64 mo, .int .i64 ne, .int .i64 di, .int .i64 co, .bool st, .bool me] 67)).cell? ⟨w.heap.size, 0 + 1 + 1 + 1 + 1 + 1 + 1, none⟩ = some (.bool st) := cell_blk hq1 6
  have o7 : (w.alloc (.cells #[.int .i64 fo, .int .i64 le, .int .i64 mo, .int .i64 ne, .int .i64 di, .int .i64 co, .bool st, .bool me] 67)).cell? ⟨w.heap.size, 0 + 1 + 1 + 1 + 1 + 1 + 1 + 1, none⟩ = some (.bool me) := cell_blk hq1 7
  have HQ0 := Lib.hid hq1
  clear hq1
  go_enter Tryz.func35, Tryz.ntmps35
  go_wp2_with fail
  go_step3
  go_wp2_with fail
  refine (HCH.out _).mono ?_
  have ho1 : Only [] w (w.alloc (.cells #[.int .i64 fo, .int .i64 le, .int .i64 mo, .int .i64 ne, .int .i64 di, .int .i64 co, .bool st, .bool me] 67)) := (Only.refl _ _).alloc _
  have hq1 := HQ0.out
  generalize hw1 : w.alloc (.cells #[.int .i64 fo, .int .i64 le, .int .i64 mo, .int .i64 ne, .int .i64 di, .int .i64 co, .bool st, .bool me] 67) = w1 at *
  have HQ1 := Lib.hid hq1
  have HO1 := Lib.hid ho1
  clear hw1 hq1 ho1
  rintro e w2 ⟨rfl, ho2⟩
  have HO2 := Lib.hid (HO1.out.trans ho2)
  have HQ2 := Lib.hid (ho2.keep HQ1.out (by simp))
  clear ho2 o0 o1 o2 o3 o4 o5 o6 o7
  go_wp2_with fail
  refine (lex_plain b _ w2 (HV.out.only HO2.out) hbl).mono ?_
  rintro e w3 ⟨bs, bl, rfl, ho3, hs3⟩
  have HO3 := Lib.hid (HO2.out.trans ho3)
  have HQ3 := Lib.hid (ho3.keep HQ2.out (by simp))
  have HS3 := Lib.hid hs3
  clear ho3 hs3
  go_wp2_with fail
  refine (read_quiet b _ w3 (HV.out.only HO3.out) hbl (HE.out.only HO3.out (by simp)) HNO.out).mono ?_
  rintro e w4 ⟨rb, rfl, hr4, ho4⟩
  have HO4 := Lib.hid (HO3.out.trans ho4)
  have HQ4 := Lib.hid (ho4.keep HQ3.out (by simp))
  have HS4 := Lib.hid (HS3.out.keep ho4 (by simp) (by simp))
  have HR4 := Lib.hid hr4
  clear ho4 hr4
  go_wp2_with fail
  go_step3
  go_wp2_with fail
  refine (segs_any bs bl _ w4 HS4.out).mono ?_
  rintro e w5 ⟨sv5, rfl, ho5, hs5⟩
  rw [List.length_replicate, segs_prose b.length b.length (Nat.le_refl _), if_neg (by omega)] at hs5
  obtain ⟨g5, cap5, rfl, hg5, hcap5, -⟩ := ownsRow_some hs5 (by simp)
  have HO5 := Lib.hid (HO4.out.trans ho5)
  have HQ5 := Lib.hid (ho5.keep HQ4.out (by simp))
  have HR5 := Lib.hid (HR4.out.only ho5)
  have s0 : w5.cell? ⟨g5, 0, none⟩ = some (.int .u8 1) := by rw [hs5.cellAt 0 (by simp)]; rfl
  have s1 : w5.cell? ⟨g5, 0 + 1, none⟩ = some (.int .i64 ((0 : Nat) : Int)) := by rw [hs5.cellAt (0 + 1) (by simp)]; rfl
  have s2 : w5.cell? ⟨g5, 0 + 1 + 1, none⟩ = some (.int .i64 (b.length : Int)) := by rw [hs5.cellAt (0 + 1 + 1) (by simp)]; rfl
  have hc5 : (1 : Int) ≤ cap5 := by simp at hcap5; omega
  have hg5l := (hs5.lt g5 rfl).2
  have hbl' : (b.length : Int) ≤ 65536 := by omega
  clear ho5 hs5 hcap5
  go_wp2_with fail
  refine wp_loop_rounds 2 ?_
  rw [rounds_succ]
  go_upto_region 12 with (fail)
  have ho6 : Only [] w5 (w5.alloc (.cells #[.int .u8 1, .int .i64 0, .int .i64 b.length] 157)) := (Only.refl _ _).alloc _
  have hq6 := alloc_new w5 (.cells #[.int .u8 1, .int .i64 0, .int .i64 b.length] 157)
  generalize hw6 : w5.alloc (.cells #[.int .u8 1, .int .i64 0, .int .i64 b.length] 157) = w6 at *
  have HO6 := Lib.hid (HO5.out.trans ho6)
  have hopt6 := ho6.keep HQ5.out (by simp)
  have HQ6 := Lib.hid hopt6
  have HR6 := Lib.hid (HR5.out.only ho6)
  have e0 : w6.cell? ⟨w5.heap.size, 0, none⟩ = some (.int .u8 1) := cell_blk hq6 0
  have e1 : w6.cell? ⟨w5.heap.size, 0 + 1, none⟩ = some (.int .i64 0) := cell_blk hq6 1
  have e2 : w6.cell? ⟨w5.heap.size, 0 + 1 + 1, none⟩ = some (.int .i64 b.length) := cell_blk hq6 2
  clear hw6 hq6 ho6 hopt6
  have HUN := Lib.hid (dunits_plain b _ 0 b.length w6 (HV.out.only HO6.out) hb hbl (by omega))
  go_wp2_with fail
  refine HUN.out.mono ?_
  rintro e w7 ⟨ux, rfl, ho7, hu7⟩
  rw [Nat.zero_add, List.take_length] at hu7
  have hup : unitsF b 0 = unitsP b := rfl
  rw [hup] at hu7
  have hv7 := UnitsV.of_row hu7
  obtain ⟨pu7, cu7, rfl, -, -⟩ := hv7.shape
  have HO7 := Lib.hid (HO6.out.trans ho7)
  have HQ7 := Lib.hid (ho7.keep HQ6.out (by simp))
  have HR7 := Lib.hid (HR6.out.only ho7)
  have o1' : w7.cell? ⟨w.heap.size, 1, none⟩ = some (.int .i64 le) := cell_blk HQ7.out 1
  have o2' : w7.cell? ⟨w.heap.size, 2, none⟩ = some (.int .i64 mo) := cell_blk HQ7.out 2
  have HTW := Lib.hid (twords_any b (unitsP b) le mo _ _ w7 (HV.out.only HO7.out) hv7 hb hbl (by omega) HUB.out (by omega) (by omega))
  rw [← HWP.out] at HTW
  clear ho7 hu7 hv7 hup HUN e0 e1 e2
  go_wp2_with fail
  refine HTW.out.mono ?_
  rintro e w8 ⟨xw, rfl, ho8, hx8⟩
  obtain ⟨px8, cx8, rfl, -⟩ := ownsRow_shape hx8
  have HO8 := Lib.hid (HO7.out.trans ho8)
  have HR8 := Lib.hid (HR7.out.only ho8)
  have HX8 := Lib.hid hx8
  clear ho8 hx8 o1' o2'
  go_wp2_with fail
  go_loopw [12, 67] (fun ov jv wr => ∃ j : Nat, j ≤ W.length ∧ jv = .int .i64 j ∧ Only [] w8 wr ∧ wr.ownsRow w8.heap.size 49 4 ov j (wordCells (W.take j))) (fun _ jv _ => W.length - (intOf jv).toNat)
  case atStart => exact ⟨0, by omega, rfl, Only.refl _ _, World.ownsRow_nil _ _ _ _⟩
  case round =>
    obtain ⟨j, hj, rfl, ho, hown⟩ := hrel
    obtain ⟨po, co8, rfl, -⟩ := ownsRow_shape hown
    have HO := Lib.hid ho
    have HOWN := Lib.hid hown
    clear hown
    by_cases hlt : j < W.length
    · have hw := ownsRow_only HX8.out ho (by simp)
      obtain ⟨g, cg, hpr, hg, -⟩ := ownsRow_some hw (by omega)
      simp only [Value.slice.injEq, true_and] at hpr
      obtain ⟨rfl, rfl⟩ := hpr
      obtain ⟨f0, f1, f2, f3⟩ := wordCells_at W j hlt
      have k0 : wr.cell? ⟨g, j * 4, none⟩ = some (.string ⟨W[j].text.toArray⟩) := by rw [hw.cellAt _ (by omega)]; exact f0
      have k1 : wr.cell? ⟨g, j * 4 + 1, none⟩ = some (.int .i64 W[j].at') := by rw [hw.cellAt _ (by omega)]; exact f1
      have k2 : wr.cell? ⟨g, j * 4 + 1 + 1, none⟩ = some (.int .i64 W[j].len) := by rw [hw.cellAt _ (by omega)]; exact f2
      have k3 : wr.cell? ⟨g, j * 4 + 1 + 1 + 1, none⟩ = some (.bool W[j].lit) := by rw [hw.cellAt _ (by omega)]; exact f3
      have htx := HTX.out W[j] (List.getElem_mem hlt)
      have htk : wordCells (W.take (j + 1)) = wordCells (W.take j) ++ [.string ⟨W[j].text.toArray⟩, .int .i64 W[j].at', .int .i64 W[j].len, .bool W[j].lit] := by
        rw [List.take_succ_eq_append_getElem hlt, wordCells_append]; rfl
      have HTK := Lib.hid htk
      clear hw f0 f1 f2 f3 htk ho
      generalize W[j].text = tx at *
      generalize W[j].at' = ta at *
      generalize W[j].len = tl at *
      generalize W[j].lit = tt at *
      go_upto_region 21 with (fail)
      have ho9 : Only [] wr (wr.alloc (.cells #[.string ⟨tx.toArray⟩, .int .i64 ta, .int .i64 tl, .bool tt] 49)) := (Only.refl _ _).alloc _
      have hq9 := alloc_new wr (.cells #[.string ⟨tx.toArray⟩, .int .i64 ta, .int .i64 tl, .bool tt] 49)
      generalize hw9 : wr.alloc (.cells #[.string ⟨tx.toArray⟩, .int .i64 ta, .int .i64 tl, .bool tt] 49) = w9 at *
      have HO9 := Lib.hid (HO.out.trans ho9)
      have HR9 := Lib.hid (HR8.out.only HO9.out)
      have HOWN9 := Lib.hid (ownsRow_only HOWN.out ho9 (by simp))
      have q0 : w9.cell? ⟨wr.heap.size, 0, none⟩ = some (.string ⟨tx.toArray⟩) := cell_blk hq9 0
      have q1 : w9.cell? ⟨wr.heap.size, 1, none⟩ = some (.int .i64 ta) := cell_blk hq9 1
      have HQ9 := Lib.hid hq9
      clear hw9 hq9 ho9 k0 k1 k2 k3
      go_wp2_with fail
      refine (off_quiet rb ta w9 HR9.out).mono ?_
      rintro e w10 ⟨rfl, rfl⟩
      go_wp2_with fail
      refine (knows_quiet rb tx w9 HR9.out (by omega)).mono ?_
      rintro e w10 ⟨rfl, ho10⟩
      have HO10 := Lib.hid (HO9.out.trans ho10)
      have HOWN10 := Lib.hid (ownsRow_only HOWN9.out ho10 (by simp))
      have hq10 := ho10.keep HQ9.out (by simp)
      have r0 : w10.cell? ⟨wr.heap.size, 0, none⟩ = some (.string ⟨tx.toArray⟩) := cell_blk hq10 0
      have r1 : w10.cell? ⟨wr.heap.size, 0 + 1, none⟩ = some (.int .i64 ta) := cell_blk hq10 1
      have r2 : w10.cell? ⟨wr.heap.size, 0 + 1 + 1, none⟩ = some (.int .i64 tl) := cell_blk hq10 2
      have r3 : w10.cell? ⟨wr.heap.size, 0 + 1 + 1 + 1, none⟩ = some (.bool tt) := cell_blk hq10 3
      clear ho10 hq10 q0 q1
      go_wp2_with (at_builtin; refine wpList_append_lit rfl (.tmp 84) (.tmp 86) 97 rfl w8 [] 49 (.agg #[.string ⟨#[]⟩, .int .i64 0, .int .i64 0, .bool false]) 4 40 Tryz.underlying97 infoWord rfl (by decide) (.slice po j co8) j _ rfl HOWN10.out HO10.out w10.heap.size 1 [.string ⟨tx.toArray⟩, .int .i64 ta, .int .i64 tl, .bool tt] rfl rfl rfl (by simp [Value.oneCell']) (by unfold maxLen; omega) (by omega) ?_)
      intro v' w11 hown11 ho11
      rw [← HTK.out] at hown11
      have HOWN11 := Lib.hid hown11
      have HO11 := Lib.hid ho11
      clear hown11 ho11 r0 r1 r2 r3
      go_wp2_with fail
      go_roundw
      case rel => exact ⟨j + 1, by omega, by go_num, HO11.out, HOWN11.out⟩
      case measure => simp [intOf]; omega
    · obtain rfl : j = W.length := by omega
      have h := HOWN.out
      rw [List.take_length] at h
      have HF := Lib.hid h
      clear h ho
      go_wp2_with fail
      rw [rounds_succ]
      go_wp2_with fail
      rw [Exit.noGoto_ret]
      go_ret2
      exact ⟨_, rfl, HO8.out.trans HO.out, ownsRow_base HF.out (fun i hi => by have := HF.out.lt i hi; have := HO8.out.size; omega)⟩
end Go.Proofs.YtfbbieecdenlbaaGreatDoor
