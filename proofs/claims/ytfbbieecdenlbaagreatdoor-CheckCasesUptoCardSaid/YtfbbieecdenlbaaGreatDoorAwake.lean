/-
  The fixed fact of layer 22, plainly.
  redpenlaw22.Awake: the fixed fact holds.
-/
import Derived.Test.YtfbbieecdenlbaaGreatDoorFileW
import Derived.Lib.SlBytesConst
namespace Go.Proofs.YtfbbieecdenlbaaGreatDoor
open Go.RowKit

def awL : List (List UInt8) := [[97], [116, 104, 101]]
def awF : FixL := [([116, 101, 104], [[116, 104, 101]])]
def awB : List UInt8 := [84, 101, 104, 32, 97]
def awN : List Nd := makeN awL 2
def awFind : FindR := ⟨⟨[84, 101, 104], 0, 3, true⟩, 1, 1, [84, 104, 101]⟩

theorem aw_find : fileL awB (makeN awL awL.length) (lookF awF) (wordsP awB 1 64) = [awFind] := by kernel_rfl
theorem aw_wf : wfN (makeN awL awL.length) := wfN_of (by kernel_rfl)
theorem aw_size : (makeN awL awL.length).length ≤ 1000000 := Nat.le_trans (Nat.le_of_eq (by kernel_rfl : (makeN awL awL.length).length = 5)) (by decide)
theorem aw_ask : NoAskL awB := by
  intro j hj
  have h1 : nLines awB = 1 := by kernel_rfl
  rw [h1] at hj
  obtain rfl : j = 0 := by omega
  show NoAsk (lineL awB 0)
  unfold NoAsk
  kernel_rfl
theorem aw_fold : ∀ x ∈ wordsP awB 1 64, (runesU (foldU x.text)).length ≤ 64 := by
  have h : ((wordsP awB 1 64).all fun x => decide ((runesU (foldU x.text)).length ≤ 64)) = true := by kernel_rfl
  intro x hx
  exact of_decide_eq_true (List.all_eq_true.1 h x hx)
theorem aw_words : OkWords awL := by
  refine ⟨by decide, ?_, ?_, ?_⟩
  · intro k hk
    have hk2 : k < 2 := hk
    match k, hk2 with
    | 0, _ => exact ⟨by decide, by decide, by kernel_rfl⟩
    | 1, _ => exact ⟨by decide, by decide, by kernel_rfl⟩
  · intro k hk
    have hk2 : k + 1 < 2 := hk
    obtain rfl : k = 0 := by omega
    show Op.bytesLess (nthS awL 0) (nthS awL 1) = true
    kernel_rfl
  · intro k hk
    have hk2 : k < 2 := hk
    match k, hk2 with
    | 0, _ => show okPut (makeN awL 0) 0 (runesU (nthS awL 0)) = true; kernel_rfl
    | 1, _ => show okPut (makeN awL 1) 0 (runesU (nthS awL 1)) = true; kernel_rfl
theorem aw_fixes : OkFixes awF := by
  refine ⟨by decide, ?_, ?_⟩
  · intro k hk
    have hk2 : k < 1 := hk
    obtain rfl : k = 0 := by omega
    rfl
  · intro k hk
    have hk2 : k < 1 := hk
    obtain rfl : k = 0 := by omega
    exact ⟨by decide, by decide, by decide⟩
theorem aw_short : ∀ u l, lookF awF u = some l → ∀ x ∈ l, x.length ≤ 10000 := by
  intro u l h x hx
  unfold lookF awF at h
  rw [List.find?_cons] at h
  split at h
  · simp at h
    subst h
    simp at hx
    subst hx
    decide
  · simp at h
end Go.Proofs.YtfbbieecdenlbaaGreatDoor
namespace Go.Proofs.YtfbbieecdenlbaaGreatDoor
open Go.RowKit

theorem lit_strs (w : World) (L : List (List UInt8)) (hl : L.length ≤ 1000) : StrsV (w.alloc (.cells (strRow L).toArray 9)) (.slice (some ⟨w.heap.size, 0, none⟩) L.length L.length) L := by
  refine ⟨_, L.length, rfl, Nat.le_refl _, by unfold maxLen; omega, fun _ => ⟨_, 0, rfl, fun k hk => ?_⟩⟩
  rw [Nat.zero_add, cell_blk (alloc_new w _)]
  simp [strRow, nthS, hk]

theorem lit_bytesL (w : World) (l : List UInt8) (m : Nat × Nat) (hl : l.length ≤ 1000) : BytesV (w.alloc (.cells (byteRow l).toArray 5 m)) (.slice (some ⟨w.heap.size, 0, none⟩) l.length l.length) l := by
  refine ⟨_, l.length, rfl, Nat.le_refl _, by unfold maxLen; omega, fun _ => ⟨_, 0, rfl, fun k hk => ?_⟩⟩
  rw [Nat.zero_add, cell_blk (alloc_new w _)]
  simpa using byteRow_get l k hk

set_option maxRecDepth 100000 in
set_option maxHeartbeats 8000000 in
theorem awake_any (w : World) (he : EnvL w) :
    Calls Tryz.prog 5 #[] w fun e w' => e = .returned (.bool true) ∧ Only [] w w' := by
  have HE := Lib.hid he
  have s1 := lit_strs w awL (by decide)
  have s2 := lit_strs (w.alloc (.cells (strRow awL).toArray 9)) [[116, 104, 101]] (by decide)
  have hA1 : (strRow awL).toArray = #[.string ⟨#[97]⟩, .string ⟨#[116, 104, 101]⟩] := rfl
  have hA2 : (strRow [[116, 104, 101]]).toArray = #[.string ⟨#[116, 104, 101]⟩] := rfl
  rw [hA1] at s1 s2
  rw [hA2] at s2
  have oA : Only [] w (w.alloc (.cells #[.string ⟨#[97]⟩, .string ⟨#[116, 104, 101]⟩] 9)) := (Only.refl _ _).alloc _
  have oB : Only [] (w.alloc (.cells #[.string ⟨#[97]⟩, .string ⟨#[116, 104, 101]⟩] 9)) ((w.alloc (.cells #[.string ⟨#[97]⟩, .string ⟨#[116, 104, 101]⟩] 9)).alloc (.cells #[.string ⟨#[116, 104, 101]⟩] 9)) := (Only.refl _ _).alloc _
  have oC := (Only.refl [] ((w.alloc (.cells #[.string ⟨#[97]⟩, .string ⟨#[116, 104, 101]⟩] 9)).alloc (.cells #[.string ⟨#[116, 104, 101]⟩] 9))).alloc (.cells #[.string ⟨#[116, 101, 104]⟩, .slice (some ⟨w.heap.size + 1, 0, none⟩) 1 1] 38)
  have qC := alloc_new' (w := (w.alloc (.cells #[.string ⟨#[97]⟩, .string ⟨#[116, 104, 101]⟩] 9)).alloc (.cells #[.string ⟨#[116, 104, 101]⟩] 9)) (b := w.heap.size + 2) (.cells #[.string ⟨#[116, 101, 104]⟩, .slice (some ⟨w.heap.size + 1, 0, none⟩) 1 1] 38) (by simp)
  have hsz : (w.alloc (.cells #[.string ⟨#[97]⟩, .string ⟨#[116, 104, 101]⟩] 9)).heap.size = w.heap.size + 1 := by simp
  rw [hsz] at s2
  generalize hw3 : ((w.alloc (.cells #[.string ⟨#[97]⟩, .string ⟨#[116, 104, 101]⟩] 9)).alloc (.cells #[.string ⟨#[116, 104, 101]⟩] 9)).alloc (.cells #[.string ⟨#[116, 101, 104]⟩, .slice (some ⟨w.heap.size + 1, 0, none⟩) 1 1] 38) = w3 at *
  have hS : StrsV w3 (.slice (some ⟨w.heap.size, 0, none⟩) 2 2) awL := (s1.only oB).only oC
  have hF : FixesV w3 (.slice (some ⟨w.heap.size + 2, 0, none⟩) 1 1) awF := by
    refine ⟨_, 1, rfl, Nat.le_refl _, by unfold maxLen; omega, fun _ => ⟨_, 0, rfl, fun k hk => ?_⟩⟩
    have hk2 : k < 1 := hk
    obtain rfl : k = 0 := by omega
    refine ⟨?_, .slice (some ⟨w.heap.size + 1, 0, none⟩) 1 1, ?_, s2.only oC⟩
    · rw [cell_blk qC]; rfl
    · rw [cell_blk qC]; rfl
  have HO3 : Hid (Only [] w w3) := Lib.hid (oA.trans (oB.trans oC))
  have HNEW := Lib.hid (new_book awL awF _ _ w3 hS aw_words hF aw_fixes)
  have HW3 := Lib.hid hw3
  clear s1 s2 hA1 hA2 oA oB oC qC hsz hS hF he hw3
  go_enter Tryz.func5, Tryz.ntmps5
  go_wp2_with fail
  rw [HW3.out]
  refine HNEW.out.mono ?_
  rintro e w4 ⟨bk, rfl, hbk, ho4⟩
  have HO4 := Lib.hid (HO3.out.trans ho4)
  have oD : Only [] w4 (w4.alloc (.cells #[.int .u8 84, .int .u8 101, .int .u8 104, .int .u8 32, .int .u8 97] 5 (5, 6))) := (Only.refl _ _).alloc _
  have hbD : BytesV (w4.alloc (.cells #[.int .u8 84, .int .u8 101, .int .u8 104, .int .u8 32, .int .u8 97] 5 (5, 6))) (.slice (some ⟨w4.heap.size, 0, none⟩) 5 5) awB := lit_bytesL w4 awB (5, 6) (by decide)
  have HFILE := Lib.hid (file_plain bk (makeN awL awL.length) (lookF awF) 0 awB ⟨0, 1, 64, 0, 0, 0, false, false⟩ _ _ (hbk.only oD) aw_wf aw_size aw_short hbD (by decide) (by decide) ⟨by decide, by decide, by decide, by decide, by decide, by decide, by decide, by decide⟩ rfl rfl (HE.out.only (HO4.out.trans oD) (by simp)) aw_ask aw_fold)
  have HO5 := Lib.hid (HO4.out.trans oD)
  have kc := fun (w : World) (C : Array Value) (n c : Nat) => Lib.run_convert_bytes_const (P := Tryz.prog) w 44 5 C n c Tryz.underlying44 Tryz.underlying5
  clear ho4 oD hbD hbk HNEW HW3
  go_wp2_with fail
  refine HFILE.out.mono ?_
  rintro e w6 ⟨x, rfl, ho6, hx6⟩
  have hfl : fileL awB (makeN awL awL.length) (lookF awF) (wordsP awB 1 64) = [awFind] := aw_find
  rw [hfl] at hx6
  obtain ⟨g, cx, rfl, -, hcx, -⟩ := ownsRow_some hx6 (by decide)
  have HO6 := Lib.hid (HO5.out.trans ho6)
  have y8 : w6.cell? ⟨g, 8, none⟩ = some (.string ⟨#[84, 104, 101]⟩) := by rw [hx6.cellAt 8 (by decide)]; rfl
  have y5 : w6.cell? ⟨g, 5, none⟩ = some (.int .i64 1) := by rw [hx6.cellAt 5 (by decide)]; rfl
  have y6 : w6.cell? ⟨g, 5 + 1, none⟩ = some (.int .i64 1) := by rw [hx6.cellAt (5 + 1) (by decide)]; rfl
  have hcx' : (1 : Int) ≤ cx := by simp at hcx; omega
  clear ho6 hx6 hfl HFILE
  go_wp2_with fail
  go_ret
  exact ⟨rfl, HO6.out⟩
end Go.Proofs.YtfbbieecdenlbaaGreatDoor
