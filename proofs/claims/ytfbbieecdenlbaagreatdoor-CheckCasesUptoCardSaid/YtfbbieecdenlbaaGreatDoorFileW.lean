/-
  check.Book.File of a plain text without a mark.
-/
import Derived.Test.YtfbbieecdenlbaaGreatDoorFile
import Derived.Deep.Cut
namespace Go.Proofs.YtfbbieecdenlbaaGreatDoor
open Go.RowKit

set_option maxRecDepth 100000 in
set_option maxHeartbeats 16000000 in
theorem file_plain (bk : Nat) (N : List Nd) (F : List UInt8 → Option (List (List UInt8))) (num : Int) (b : List UInt8) (o : OptR) (v : Value) (w : World) (hbk : BookAt w bk N F) (hwf : wfN N) (hN : N.length ≤ 1000000) (hF : ∀ u l, F u = some l → ∀ x ∈ l, x.length ≤ 10000)
    (hv : BytesV w v b) (hb : 0 < b.length) (hbl : b.length ≤ 65536) (ho : OkOpt o) (hfo : o.fo = 0) (hne : o.ne = 0) (he : EnvL w) (hno : NoAskL b) (hfu : ∀ x ∈ wordsP b o.le o.mo, (runesU (foldU x.text)).length ≤ 64) :
    Calls Tryz.prog 16 #[.pointer (some ⟨bk, 0, none⟩), .int .i64 num, .agg #[.string ⟨#[120]⟩, v], optV o] w fun e w' => ∃ x, e = .returned (.tuple #[x, .int .i64 0]) ∧ Only [] w w' ∧ w'.ownsRow w.heap.size 54 9 x (fileL b N F (wordsP b o.le o.mo)).length (findCells num (fileL b N F (wordsP b o.le o.mo))) := by
  have HV := Lib.hid hv
  have HBK := Lib.hid hbk
  have HWF := Lib.hid hwf
  have HFF := Lib.hid hF
  have HE := Lib.hid he
  have HNO := Lib.hid hno
  obtain ⟨pb, cb, rfl, -, -⟩ := hv.shape
  have hm1 := ho.m1
  have hd1 := ho.d1
  have HCW : Hid (∀ w', Only [] w w' → Calls Tryz.prog 35 #[.int .u8 0, .slice pb b.length cb, optV o] w' fun e w'' => ∃ x, e = .returned (.tuple #[x, .int .i64 0]) ∧ Only [] w' w'' ∧ w''.ownsRow w'.heap.size 49 4 x (wordsP b o.le o.mo).length (wordCells (wordsP b o.le o.mo))) := Lib.hid fun w' hw => cwords_plain b o _ w' (HV.out.only hw) hb hbl ho (HE.out.only hw (by simp)) HNO.out
  have HTX : Hid (∀ x ∈ wordsP b o.le o.mo, x.text.length ≤ 4 * o.mo) := Lib.hid (words_text b (unitsP b) o.le o.mo _)
  have HAT : Hid (∀ x ∈ wordsP b o.le o.mo, ∃ a : Nat, x.at' = a ∧ a ≤ b.length) := Lib.hid (words_at b o.le o.mo)
  have HFU := Lib.hid hfu
  have hwl : (wordsP b o.le o.mo).length ≤ 65536 * 65537 := by
    have hul := unitsP_len b
    have h := wordsT_len b (unitsP b) o.le o.mo (by omega) (runsT (runesL (unitsP b)) 0) (fun p hp => by
      have := (runsN_range (runesL (unitsP b)) _ _ p hp).2
      rwa [runesL_length] at this)
    have h2 : (runsT (runesL (unitsP b)) 0).length ≤ 65536 := by
      have := runsN_len (runesL (unitsP b)) ((runesL (unitsP b)).length - 0) 0
      rw [runesL_length] at this
      unfold runsT
      rw [runesL_length]
      omega
    exact Nat.le_trans h (Nat.mul_le_mul_right _ h2)
  have hop : optV o = .agg #[.int .i64 o.fo, .int .i64 o.le, .int .i64 o.mo, .int .i64 o.ne, .int .i64 o.di, .int .i64 o.co, .bool o.st, .bool o.me] := rfl
  clear he hno hv ho hbk hwf hF hfu
  rw [hop] at HCW ⊢
  clear hop
  rw [hfo, hne, show ((0 : Nat) : Int) = 0 from rfl] at HCW ⊢
  clear hfo hne
  generalize wordsP b o.le o.mo = W at *
  have hwl' : (W.length : Int) ≤ 65536 * 65537 := by omega
  generalize o.le = le at *
  generalize o.mo = mo at *
  generalize o.di = di at *
  generalize (o.co : Int) = co at *
  generalize o.st = st at *
  generalize o.me = me at *
  have hq1 := alloc_blk (o' := .cells #[.int .i64 0, .int .i64 le, .int .i64 mo, .int .i64 0, .int .i64 di, .int .i64 co, .bool st, .bool me] 67) (alloc_new w (.cells #[.string ⟨#[120]⟩, .slice pb b.length cb] 60))
  have hq2 := alloc_new' (w := (w.alloc (.cells #[.string ⟨#[120]⟩, .slice pb b.length cb] 60))) (b := w.heap.size + 1) (.cells #[.int .i64 0, .int .i64 le, .int .i64 mo, .int .i64 0, .int .i64 di, .int .i64 co, .bool st, .bool me] 67) (by simp)
  have f0 : ((w.alloc (.cells #[.string ⟨#[120]⟩, .slice pb b.length cb] 60)).alloc (.cells #[.int .i64 0, .int .i64 le, .int .i64 mo, .int .i64 0, .int .i64 di, .int .i64 co, .bool st, .bool me] 67)).cell? ⟨w.heap.size, 0, none⟩ = some (.string ⟨#[120]⟩) := cell_blk hq1 0
  have f1 : ((w.alloc (.cells #[.string ⟨#[120]⟩, .slice pb b.length cb] 60)).alloc (.cells #[.int .i64 0, .int .i64 le, .int .i64 mo, .int .i64 0, .int .i64 di, .int .i64 co, .bool st, .bool me] 67)).cell? ⟨w.heap.size, 1, none⟩ = some (.slice pb b.length cb) := cell_blk hq1 1
  have o0 : ((w.alloc (.cells #[.string ⟨#[120]⟩, .slice pb b.length cb] 60)).alloc (.cells #[.int .i64 0, .int .i64 le, .int .i64 mo, .int .i64 0, .int .i64 di, .int .i64 co, .bool st, .bool me] 67)).cell? ⟨w.heap.size + 1, 0, none⟩ = some (.int .i64 0) := cell_blk hq2 0
  have o1 : ((w.alloc (.cells #[.string ⟨#[120]⟩, .slice pb b.length cb] 60)).alloc (.cells #[.int .i64 0, .int .i64 le, .int .i64 mo, .int .i64 0, .int .i64 di, .int .i64 co, .bool st, .bool me] 67)).cell? ⟨w.heap.size + 1, 0 + 1, none⟩ = some (.int .i64 le) := cell_blk hq2 1
  have o2 : ((w.alloc (.cells #[.string ⟨#[120]⟩, .slice pb b.length cb] 60)).alloc (.cells #[.int .i64 0, .int .i64 le, .int .i64 mo, .int .i64 0, .int .i64 di, .int .i64 co, .bool st, .bool me] 67)).cell? ⟨w.heap.size + 1, 0 + 1 + 1, none⟩ = some (.int .i64 mo) := cell_blk hq2 2
  have o3 : ((w.alloc (.cells #[.string ⟨#[120]⟩, .slice pb b.length cb] 60)).alloc (.cells #[.int .i64 0, .int .i64 le, .int .i64 mo, .int .i64 0, .int .i64 di, .int .i64 co, .bool st, .bool me] 67)).cell? ⟨w.heap.size + 1, 0 + 1 + 1 + 1, none⟩ = some (.int .i64 0) := cell_blk hq2 3
  have o4 : ((w.alloc (.cells #[.string ⟨#[120]⟩, .slice pb b.length cb] 60)).alloc (.cells #[.int .i64 0, .int .i64 le, .int .i64 mo, .int .i64 0, .int .i64 di, .int .i64 co, .bool st, .bool me] 67)).cell? ⟨w.heap.size + 1, 0 + 1 + 1 + 1 + 1, none⟩ = some (.int .i64 di) := cell_blk hq2 4
  have o5 : ((w.alloc (.cells #[.string ⟨#[120]⟩, .slice pb b.length cb] 60)).alloc (.cells #[.int .i64 0, .int .i64 le, .int .i64 mo, .int .i64 0, .int .i64 di, .int .i64 co, .bool st, .bool me] 67)).cell? ⟨w.heap.size + 1, 0 + 1 + 1 + 1 + 1 + 1, none⟩ = some (.int .i64 co) := cell_blk hq2 5
  have o6 : ((w.alloc (.cells #[.string ⟨#[120]⟩, .slice pb b.length cb] 60)).alloc (.cells #[.int .i64 0, .int .i64 le, .int .i64 mo, .int .i64 0, .int .i64 di, .int .i64 co, .bool st, .bool me] 67)).cell? ⟨w.heap.size + 1, 0 + 1 + 1 + 1 + 1 + 1 + 1, none⟩ = some (.bool st) := cell_blk hq2 6
  have o7 : ((w.alloc (.cells #[.string ⟨#[120]⟩, .slice pb b.length cb] 60)).alloc (.cells #[.int .i64 0, .int .i64 le, .int .i64 mo, .int .i64 0, .int .i64 di, .int .i64 co, .bool st, .bool me] 67)).cell? ⟨w.heap.size + 1, 0 + 1 + 1 + 1 + 1 + 1 + 1 + 1, none⟩ = some (.bool me) := cell_blk hq2 7
  have ho1 : Only [] w ((w.alloc (.cells #[.string ⟨#[120]⟩, .slice pb b.length cb] 60)).alloc (.cells #[.int .i64 0, .int .i64 le, .int .i64 mo, .int .i64 0, .int .i64 di, .int .i64 co, .bool st, .bool me] 67)) := ((Only.refl _ _).alloc _).alloc _
  have HQ1 := Lib.hid hq1
  have HQ2 := Lib.hid hq2
  have HO1 := Lib.hid ho1
  clear hq1 hq2 ho1
  go_enter Tryz.func16, Tryz.ntmps16
  go_wp2_with fail
  refine (format_x _).mono ?_
  rintro e w2 ⟨rfl, rfl⟩
  generalize hw1 : ((w.alloc (.cells #[.string ⟨#[120]⟩, .slice pb b.length cb] 60)).alloc (.cells #[.int .i64 0, .int .i64 le, .int .i64 mo, .int .i64 0, .int .i64 di, .int .i64 co, .bool st, .bool me] 67)) = w1 at *
  clear hw1
  go_wp2_with fail
  refine (HCW.out w1 HO1.out).mono ?_
  rintro e w3 ⟨xw, rfl, ho3, hx3⟩
  obtain ⟨pw, cw, rfl, -⟩ := ownsRow_shape hx3
  have HO3 := Lib.hid (HO1.out.trans ho3)
  have HQ13 := Lib.hid (ho3.keep HQ1.out (by simp))
  have HQ23 := Lib.hid (ho3.keep HQ2.out (by simp))
  have HX3 := Lib.hid hx3
  have f1' := ho3.cell_some f1 (by simp)
  clear f0 f1 o0 o1 o2 o3 o4 o5 o6 o7 ho3 hx3
  go_wp2_with fail
  refine (lnew_any b _ w3 (HV.out.only HO3.out) (by omega)).mono ?_
  rintro e w4 ⟨bi, rfl, ho4, hi4⟩
  have HO4 := Lib.hid (HO3.out.trans ho4)
  have HQ24 := Lib.hid (ho4.keep HQ23.out (by simp))
  have HX4 := Lib.hid (ownsRow_only HX3.out ho4 (by simp))
  have HI4 := Lib.hid hi4
  clear ho4 hi4 f1'
  go_wp2_with fail
  go_loopw [14, 48] (fun ov jv wr => ∃ j : Nat, j ≤ W.length ∧ jv = .int .i64 j ∧ Only [] w4 wr ∧ wr.ownsRow w4.heap.size 54 9 ov (fileL b N F (W.take j)).length (findCells num (fileL b N F (W.take j)))) (fun _ jv _ => W.length - (intOf jv).toNat)
  case atStart => exact ⟨0, by omega, rfl, Only.refl _ _, World.ownsRow_nil _ _ _ _⟩
  case round =>
    obtain ⟨j, hj, rfl, ho, hown⟩ := hrel
    obtain ⟨po, co8, rfl, -⟩ := ownsRow_shape hown
    have HO := Lib.hid ho
    have HOWN := Lib.hid hown
    have hfl := fileL_len b N F (W.take j)
    have hfl2 : (W.take j).length ≤ 65536 * 65537 := by rw [List.length_take]; omega
    have hfl3 : (fileL b N F (W.take j)).length ≤ 65536 * 65537 := by omega
    clear hown hfl hfl2
    by_cases hlt : j < W.length
    · have hw := ownsRow_only HX4.out ho (by simp)
      obtain ⟨g, cg, hpr, hg, -⟩ := ownsRow_some hw (by omega)
      simp only [Value.slice.injEq, true_and] at hpr
      obtain ⟨rfl, rfl⟩ := hpr
      obtain ⟨f0, f1, f2, f3⟩ := wordCells_at W j hlt
      have k0 : wr.cell? ⟨g, j * 4, none⟩ = some (.string ⟨W[j].text.toArray⟩) := by rw [hw.cellAt _ (by omega)]; exact f0
      have k1 : wr.cell? ⟨g, j * 4 + 1, none⟩ = some (.int .i64 W[j].at') := by rw [hw.cellAt _ (by omega)]; exact f1
      have k2 : wr.cell? ⟨g, j * 4 + 1 + 1, none⟩ = some (.int .i64 W[j].len) := by rw [hw.cellAt _ (by omega)]; exact f2
      have k3 : wr.cell? ⟨g, j * 4 + 1 + 1 + 1, none⟩ = some (.bool W[j].lit) := by rw [hw.cellAt _ (by omega)]; exact f3
      have htx := HTX.out W[j] (List.getElem_mem hlt)
      have hfu := HFU.out W[j] (List.getElem_mem hlt)
      obtain ⟨a, hat, hab⟩ := HAT.out W[j] (List.getElem_mem hlt)
      have htk := fileL_take b N F W j hlt
      have hfd : findCells num [findL b F W[j]] = [.int .i64 num, .string ⟨W[j].text.toArray⟩, .int .i64 W[j].at', .int .i64 W[j].len, .bool W[j].lit, .int .i64 (lineNo b W[j].at'.toNat : Nat), .int .i64 (colNo b W[j].at'.toNat : Nat), .slice none 0 0, .string ⟨(fixL F W[j].text).toArray⟩] := rfl
      generalize findL b F W[j] = fd at *
      rw [hat, Int.toNat_natCast] at hfd
      rw [hat] at k1
      have HTK := Lib.hid htk
      have HFD := Lib.hid hfd
      clear hw f0 f1 f2 f3 htk hfd ho hat
      generalize W[j].text = tx at *
      generalize W[j].len = tl at *
      generalize W[j].lit = tt at *
      go_upto_region 14 with (fail)
      have ho5 : Only [] wr (wr.alloc (.cells #[.string ⟨tx.toArray⟩, .int .i64 a, .int .i64 tl, .bool tt] 49)) := (Only.refl _ _).alloc _
      have hq5 := alloc_new wr (.cells #[.string ⟨tx.toArray⟩, .int .i64 a, .int .i64 tl, .bool tt] 49)
      generalize hw5 : wr.alloc (.cells #[.string ⟨tx.toArray⟩, .int .i64 a, .int .i64 tl, .bool tt] 49) = w5 at *
      have HO5 := Lib.hid (HO.out.trans ho5)
      have HOWN5 := Lib.hid (ownsRow_only HOWN.out ho5 (by simp))
      have HQ5 := Lib.hid hq5
      have q0 : w5.cell? ⟨wr.heap.size, 0, none⟩ = some (.string ⟨tx.toArray⟩) := cell_blk hq5 0
      have hbk5 := HBK.out.only (HO4.out.trans HO5.out)
      have HKN := Lib.hid (knows_any bk N F tx w5 hbk5 HWF.out hN (by omega))
      clear hw5 hq5 ho5 k0 k1 k2 k3 hbk5
      cases hkn : knowsL N F tx
      · rw [hkn] at HKN HTK
        go_wp2_with fail
        refine HKN.out.mono ?_
        rintro e w6 ⟨rfl, ho6⟩
        have HO6 := Lib.hid (HO5.out.trans ho6)
        have HOWN6 := Lib.hid (ownsRow_only HOWN5.out ho6 (by simp))
        have HQ6 := Lib.hid (ho6.keep HQ5.out (by simp))
        have HI6 := Lib.hid (HI4.out.keep HO6.out (by simp))
        have r1 : w6.cell? ⟨wr.heap.size, 1, none⟩ = some (.int .i64 a) := cell_blk HQ6.out 1
        have HPL := Lib.hid (place_any w3.heap.size bi b a w6 HI6.out hbl hab)
        generalize (lineNo b a : Nat) = ln at *
        generalize (colNo b a : Nat) = cn at *
        clear ho6 q0
        go_wp2_with fail
        refine HPL.out.mono ?_
        rintro e w7 ⟨rfl, ho7⟩
        have HO7 := Lib.hid (HO6.out.trans ho7)
        have HOWN7 := Lib.hid (ownsRow_only HOWN6.out ho7 (by simp))
        have HQ7 := Lib.hid (ho7.keep HQ6.out (by simp))
        clear ho7 r1
        go_upto_region 16 with (fail)
        have ho8 : Only [] w7 (w7.alloc (.cells #[.int .i64 ln, .int .i64 cn] 51)) := (Only.refl _ _).alloc _
        have hq8 := alloc_new w7 (.cells #[.int .i64 ln, .int .i64 cn] 51)
        generalize hw8 : w7.alloc (.cells #[.int .i64 ln, .int .i64 cn] 51) = w8 at *
        have HO8 := Lib.hid (HO7.out.trans ho8)
        have HOWN8 := Lib.hid (ownsRow_only HOWN7.out ho8 (by simp))
        have hq78 := ho8.keep HQ7.out (by simp)
        have HQ78 := Lib.hid hq78
        have HQ8 := Lib.hid hq8
        have hqo8 := HO8.out.keep HQ24.out (by simp)
        have HBK8 := Lib.hid (HBK.out.only (HO4.out.trans HO8.out))
        obtain ⟨t, gt, mb, nm, cnt, f, b1, b2, b3, b4⟩ := HBK8.out
        have s0 : w8.cell? ⟨wr.heap.size, 0, none⟩ = some (.string ⟨tx.toArray⟩) := cell_blk hq78 0
        have u3 : w8.cell? ⟨w.heap.size + 1, 3, none⟩ = some (.int .i64 0) := cell_blk hqo8 3
        have u4 : w8.cell? ⟨w.heap.size + 1, 4, none⟩ = some (.int .i64 di) := cell_blk hqo8 4
        have v0 : w8.cell? ⟨bk, 0, none⟩ = some (.pointer (some ⟨t, 0, none⟩)) := cell_blk b1 0
        have v1 : w8.cell? ⟨bk, 1, none⟩ = some (.map (some mb)) := cell_blk b1 1
        have hfx := b4 (foldU tx)
        have hfl := foldU_len tx
        obtain ⟨pv, nv, cv, hfv⟩ : ∃ pv nv cv, (f (foldU tx)).getD (.slice none 0 0) = .slice pv nv cv := by
          cases h1 : f (foldU tx) with
          | none => exact ⟨none, 0, 0, rfl⟩
          | some x =>
            rw [h1] at hfx
            cases h2 : F (foldU tx) with
            | none => rw [h2] at hfx; exact hfx.elim
            | some l =>
              rw [h2] at hfx
              obtain ⟨p, c, h3, -⟩ := hfx.1
              exact ⟨p, _, c, h3⟩
        have HFOLD : Hid (∀ w', Calls Tryz.prog 19 #[.string ⟨tx.toArray⟩] w' fun e w'' => e = .returned (.string ⟨(foldU tx).toArray⟩) ∧ Only [] w' w'') := Lib.hid fun w' => fold_any tx w' (by omega)
        have HLK : Hid (∀ w', Only [] w8 w' → (Instr.lookup 74 (.map (some mb)) (.string ⟨(foldU tx).toArray⟩) false).run Tryz.prog w' = .ok (.slice pv nv cv) w') := Lib.hid fun w' hw => by
          have h := lookup_run Tryz.underlying74 (zeroStrs _) (b3.only hw (by simp)) (foldU tx) (by unfold maxLen; omega)
          rwa [hfv] at h
        have HNEAR : Hid (∀ w', Calls Tryz.prog 38 #[.pointer (some ⟨t, 0, none⟩), .string ⟨(foldU tx).toArray⟩, .int .i64 di, .int .i64 0, .slice pv nv cv] w' fun e w'' => e = .returned (.tuple #[.slice none 0 0, .int .i64 0]) ∧ Only [] w' w'') := Lib.hid fun w' => near_none _ pv nv cv (foldU tx) di w' (by omega) hfu hd1
        clear hw8 hq8 ho8 hq78 hqo8 b1 b2 b3 b4 hfx hfv
        generalize foldU tx = fx at *
        refine wp_region_calm w8 [] (by kernel_rfl) (by kernel_rfl) (Only.refl _ w8) ?_
        repeat (first | go_big_quiet_skip | (go_big_quiet_want; go_big_quiet_op; first | go_big_quiet_on | (refine ⟨_, fun _ _ => rfl, ?_⟩; go_big_quiet_on) | (apply Exists.intro; refine ⟨fun w' hw' => ?_, ?_⟩; (rw [hw'.cell_some s0 (by simp)]; exact ⟨rfl, rfl⟩); go_big_quiet_on) | (apply Exists.intro; refine ⟨fun w' hw' => ?_, ?_⟩; (rw [hw'.cell_some u3 (by simp)]; exact ⟨rfl, rfl⟩); go_big_quiet_on) | (apply Exists.intro; refine ⟨fun w' hw' => ?_, ?_⟩; (rw [hw'.cell_some u4 (by simp)]; exact ⟨rfl, rfl⟩); go_big_quiet_on) | (apply Exists.intro; refine ⟨fun w' hw' => ?_, ?_⟩; (rw [hw'.cell_some v0 (by simp)]; exact ⟨rfl, rfl⟩); go_big_quiet_on) | (apply Exists.intro; refine ⟨fun w' hw' => ?_, ?_⟩; (rw [hw'.cell_some v1 (by simp)]; exact ⟨rfl, rfl⟩); go_big_quiet_on) | (apply Exists.intro; refine ⟨fun w' hw' => ?_, ?_⟩; (rw [HLK.out w' hw']; exact ⟨rfl, rfl⟩); go_big_quiet_on) | go_big_quiet_call ((intro hw; first | (go_at_call 19; refine (HFOLD.out _).mono ?_; rintro e w4 ⟨rfl, ho4⟩; exact ⟨rfl, hw.trans ho4⟩) | (go_at_call 38; refine (HNEAR.out _).mono ?_; rintro e w4 ⟨rfl, ho4⟩; exact ⟨rfl, hw.trans ho4⟩)))))
        refine wpQuiet_nil ?_
        intro w9 ho9
        have HO9 := Lib.hid (HO8.out.trans ho9)
        have HOWN9 := Lib.hid (ownsRow_only HOWN8.out ho9 (by simp))
        have hqa := ho9.keep HQ78.out (by simp)
        have hqb := ho9.keep HQ8.out (by simp)
        have r0 : w9.cell? ⟨wr.heap.size, 0, none⟩ = some (.string ⟨tx.toArray⟩) := cell_blk hqa 0
        have r1 : w9.cell? ⟨wr.heap.size, 0 + 1, none⟩ = some (.int .i64 a) := cell_blk hqa 1
        have r2 : w9.cell? ⟨wr.heap.size, 0 + 1 + 1, none⟩ = some (.int .i64 tl) := cell_blk hqa 2
        have r3 : w9.cell? ⟨wr.heap.size, 0 + 1 + 1 + 1, none⟩ = some (.bool tt) := cell_blk hqa 3
        have r4 : w9.cell? ⟨w7.heap.size, 0, none⟩ = some (.int .i64 ln) := cell_blk hqb 0
        have r5 : w9.cell? ⟨w7.heap.size, 0 + 1, none⟩ = some (.int .i64 cn) := cell_blk hqb 1
        have hna : wr.heap.size ∉ (Value.ownBlock (.slice po (fileL b N F (W.take j)).length co8)).toList := by
          intro hm
          rw [Option.mem_toList] at hm
          exact row_not HOWN9.out hqa (by decide) hm
        have hnb : w7.heap.size ∉ (Value.ownBlock (.slice po (fileL b N F (W.take j)).length co8)).toList := by
          intro hm
          rw [Option.mem_toList] at hm
          exact row_not HOWN9.out hqb (by decide) hm
        have HNA := Lib.hid hna
        have HNB := Lib.hid hnb
        obtain ⟨i0, hi0, hz0, hz1, hz2⟩ := info_parts infoFind
        have HFIX : Hid (∀ w', Only [] w9 w' → Calls Tryz.prog 9 #[.pointer (some ⟨bk, 0, none⟩), .string ⟨tx.toArray⟩] w' fun e w'' => e = .returned (.string ⟨(fixL F tx).toArray⟩) ∧ Only [] w' w'') := Lib.hid fun w' hw => fix_any bk N F tx w' (HBK.out.only (HO4.out.trans (HO9.out.trans hw))) (by omega) HFF.out
        have hpd : w9.drew.cell? ⟨wr.heap.size, 0, none⟩ = some (.string ⟨tx.toArray⟩) ∧ w9.drew.cell? ⟨wr.heap.size, 0 + 1, none⟩ = some (.int .i64 a) ∧ w9.drew.cell? ⟨wr.heap.size, 0 + 1 + 1, none⟩ = some (.int .i64 tl) ∧ w9.drew.cell? ⟨wr.heap.size, 0 + 1 + 1 + 1, none⟩ = some (.bool tt) ∧ w9.drew.cell? ⟨w7.heap.size, 0, none⟩ = some (.int .i64 ln) ∧ w9.drew.cell? ⟨w7.heap.size, 0 + 1, none⟩ = some (.int .i64 cn) := ⟨r0, r1, r2, r3, r4, r5⟩
        have hoN : Only [] w9 w9.drew := (Only.refl _ _).drew
        have hsz9 := HO9.out.size
        have HKEY : Hid (fileL b N F (W.take (j + 1)) = fileL b N F (W.take j) ++ [fd]) := Lib.hid (by rw [HTK.out]; simp)
        clear ho9 hqa hqb hna hnb s0 u3 u4 v0 v1 HLK HFOLD HNEAR
        generalize fixL F tx = fxx at *
        generalize hac : fileL b N F (W.take j) = ac at *
        have HAC := Lib.hid hac
        clear hac
        go_wp2_with fail
        go_region_held3 (fun w' => w'.cell? ⟨wr.heap.size, 0, none⟩ = some (.string ⟨tx.toArray⟩) ∧ w'.cell? ⟨wr.heap.size, 0 + 1, none⟩ = some (.int .i64 a) ∧ w'.cell? ⟨wr.heap.size, 0 + 1 + 1, none⟩ = some (.int .i64 tl) ∧ w'.cell? ⟨wr.heap.size, 0 + 1 + 1 + 1, none⟩ = some (.bool tt) ∧ w'.cell? ⟨w7.heap.size, 0, none⟩ = some (.int .i64 ln) ∧ w'.cell? ⟨w7.heap.size, 0 + 1, none⟩ = some (.int .i64 cn)) (first | exact hpd | exact hs7 | exact ⟨Only.cell_some (w := w9) (by assumption) r0 (by simp), Only.cell_some (w := w9) (by assumption) r1 (by simp), Only.cell_some (w := w9) (by assumption) r2 (by simp), Only.cell_some (w := w9) (by assumption) r3 (by simp), Only.cell_some (w := w9) (by assumption) r4 (by simp), Only.cell_some (w := w9) (by assumption) r5 (by simp)⟩ | exact ⟨Only.cell_some (w := w9) (Only.alloc (by assumption) _) r0 (by simp), Only.cell_some (w := w9) (Only.alloc (by assumption) _) r1 (by simp), Only.cell_some (w := w9) (Only.alloc (by assumption) _) r2 (by simp), Only.cell_some (w := w9) (Only.alloc (by assumption) _) r3 (by simp), Only.cell_some (w := w9) (Only.alloc (by assumption) _) r4 (by simp), Only.cell_some (w := w9) (Only.alloc (by assumption) _) r5 (by simp)⟩) (first | (go_at_call 9; refine (HFIX.out _ (by assumption)).mono ?_; rintro e wT ⟨rfl, hoT⟩; have hoN : Only [] w9 wT := Only.trans (by assumption) hoT; have hsT := Only.size hoN) | (refine step_append_lies _ rfl (.tmp 87) (.tmp 97) 45 rfl w4.heap.size 54 i0 (.agg #[.int .i64 0, .string ⟨#[]⟩, .int .i64 0, .int .i64 0, .bool false, .int .i64 0, .int .i64 0, .slice none 0 0, .string ⟨#[]⟩]) 9 104 Tryz.underlying45 hi0 hz0 hz1 hz2 rfl (by decide) (.slice po ac.length co8) ac.length (findCells num ac) rfl ((ownsRow_only HOWN9.out (by assumption) (by simp)).alloc _) ⟨_, 0, none⟩ 1 1 [_, _, _, _, _, _, _, _, _] rfl rfl (lit_news _ _ _) (by simp [Value.oneCell']) (by omega) (by unfold maxLen; omega) (by omega) (by simp; omega) _ rfl ?_; intro gg cap7 wZ hownZ hgrowZ hatZ hltZ; have hoZ := Only.of_grown hgrowZ; have hs7 := (⟨hoZ.cell_some (Only.cell_some (w := w9) (Only.alloc (by assumption) _) r0 (by simp)) HNA.out, hoZ.cell_some (Only.cell_some (w := w9) (Only.alloc (by assumption) _) r1 (by simp)) HNA.out, hoZ.cell_some (Only.cell_some (w := w9) (Only.alloc (by assumption) _) r2 (by simp)) HNA.out, hoZ.cell_some (Only.cell_some (w := w9) (Only.alloc (by assumption) _) r3 (by simp)) HNA.out, hoZ.cell_some (Only.cell_some (w := w9) (Only.alloc (by assumption) _) r4 (by simp)) HNB.out, hoZ.cell_some (Only.cell_some (w := w9) (Only.alloc (by assumption) _) r5 (by simp)) HNB.out⟩ : wZ.cell? ⟨wr.heap.size, 0, none⟩ = some (.string ⟨tx.toArray⟩) ∧ wZ.cell? ⟨wr.heap.size, 0 + 1, none⟩ = some (.int .i64 a) ∧ wZ.cell? ⟨wr.heap.size, 0 + 1 + 1, none⟩ = some (.int .i64 tl) ∧ wZ.cell? ⟨wr.heap.size, 0 + 1 + 1 + 1, none⟩ = some (.bool tt) ∧ wZ.cell? ⟨w7.heap.size, 0, none⟩ = some (.int .i64 ln) ∧ wZ.cell? ⟨w7.heap.size, 0 + 1, none⟩ = some (.int .i64 cn))))
        have h7 : Only [] w4 wZ := HO9.out.trans' (T := (Value.ownBlock (.slice po ac.length co8)).toList) ((((hoN.alloc _).mono (by simp)).trans hoZ)) (by
          intro i hi
          rw [Option.mem_toList] at hi
          exact Or.inr (HOWN9.out.lt i hi).1)
        rw [← HFD.out, ← findCells_append] at hownZ
        have H7 := Lib.hid h7
        have HWZ := Lib.hid hownZ
        clear h7 hownZ hgrowZ hatZ hltZ hoZ hs7 r0 r1 r2 r3 r4 r5 hpd
        go_wp2_with fail
        go_roundw
        case rel => exact ⟨j + 1, by omega, by go_num, H7.out, by rw [HKEY.out, List.length_append]; exact HWZ.out⟩
        case measure => simp [intOf]; omega
      · rw [hkn] at HKN HTK
        go_wp2_with fail
        refine HKN.out.mono ?_
        rintro e w6 ⟨rfl, ho6⟩
        have HO6 := Lib.hid (HO5.out.trans ho6)
        have HOWN6 := Lib.hid (ownsRow_only HOWN5.out ho6 (by simp))
        have htk6 : fileL b N F (W.take (j + 1)) = fileL b N F (W.take j) := by rw [HTK.out]; simp
        have HTK6 := Lib.hid htk6
        clear ho6 htk6 q0
        go_wp2_with fail
        go_roundw
        case rel => exact ⟨j + 1, by omega, by go_num, HO6.out, by rw [HTK6.out]; exact HOWN6.out⟩
        case measure => simp [intOf]; omega
    · obtain rfl : j = W.length := by omega
      clear ho
      have e : fileL b N F W = fileL b N F (W.take W.length) := by rw [List.take_length]
      have HEE := Lib.hid e
      clear e
      go_wp2_with fail
      go_ret2
      rw [HEE.out]
      exact ⟨_, rfl, HO4.out.trans HO.out, ownsRow_base HOWN.out (fun i hi => by have := HOWN.out.lt i hi; have := HO4.out.size; omega)⟩
end Go.Proofs.YtfbbieecdenlbaaGreatDoor
