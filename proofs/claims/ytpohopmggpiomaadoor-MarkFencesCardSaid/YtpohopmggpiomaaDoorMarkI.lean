/-
  mark.inline: a line's code spans, links, tags.
-/
import Derived.Test.YtpohopmggpiomaaDoorMarkD
import Derived.Test.YtpohopmggpiomaaDoorLabel
namespace Go.Proofs.YtpohopmggpiomaaDoor
open Go.RowKit

/-- One step in a line's text: where it goes on, the labels. P: what stands in pointed brackets. -/
def inlStep (P : Nat → List Int → Nat × List Int) (l : List UInt8) (to k : Nat) (L : List Int) : Nat × List Int :=
  if bt l k = 92 ∧ k + 1 < to ∧ punctB (bt l (k + 1)) = true then (k + 2, L)
  else if bt l k = 96 then (match spanL l (k + runL l k to) to (runL l k to) with | some e => (e, putR L k e 4) | none => (k + runL l k to, L))
  else if bt l k = 93 ∧ k + 1 < to ∧ bt l (k + 1) = 40 then (match shutL l (k + 2) to with | some e => (e, putR L (k + 1) e 2) | none => (k + 1, L))
  else if bt l k = 60 then P k L
  else (k + 1, L)
def inlN (P : Nat → List Int → Nat × List Int) (l : List UInt8) (to : Nat) : Nat → Nat → List Int → List Int
  | 0, _, L => L
  | d + 1, k, L => if k < to then inlN P l to d (inlStep P l to k L).1 (inlStep P l to k L).2 else L
/-- What a line's text lays. -/
def inlL (P : Nat → List Int → Nat × List Int) (l : List UInt8) (at_ to : Nat) (L : List Int) : List Int := inlN P l to (to - at_) at_ L

theorem spanN_bound (l : List UInt8) (to n : Nat) : ∀ d k e, spanN l to n d k = some e → k < e ∧ e ≤ to := by
  intro d
  induction d with
  | zero => intro k e h; simp [spanN] at h
  | succ d ih =>
    intro k e h
    rw [spanN] at h
    split at h
    · rename_i hk
      have hr := runL_pos l k to hk
      split at h
      · split at h
        · simp at h; omega
        · have := ih _ _ h; omega
      · have := ih _ _ h; omega
    · simp at h

theorem shutN_bound (l : List UInt8) (to : Nat) : ∀ d k deep e, shutN l to d k deep = some e → k < e ∧ e ≤ to := by
  intro d
  induction d with
  | zero => intro k deep e h; simp [shutN] at h
  | succ d ih =>
    intro k deep e h
    rw [shutN] at h
    split at h
    · split at h
      · have := ih _ _ _ h; omega
      · split at h
        · split at h
          · simp at h
          · have := ih _ _ _ h; omega
        · split at h
          · split at h
            · simp at h; omega
            · have := ih _ _ _ h; omega
          · have := ih _ _ _ h; omega
    · simp at h

/-- Whatever stands in pointed brackets goes on, but not past the line's end. -/
def POk (P : Nat → List Int → Nat × List Int) (l : List UInt8) (to : Nat) : Prop := ∀ k L, k < to → bt l k = 60 → k < (P k L).1 ∧ (P k L).1 ≤ to ∧ (P k L).2.length = L.length

theorem inlStep_bound {P : Nat → List Int → Nat × List Int} {l : List UInt8} {to : Nat} (hP : POk P l to) (k : Nat) (L : List Int) (hk : k < to) : k < (inlStep P l to k L).1 ∧ (inlStep P l to k L).1 ≤ to ∧ (inlStep P l to k L).2.length = L.length := by
  unfold inlStep
  split
  · simp; omega
  · split
    · have hr := runL_pos l k to hk
      split
      · rename_i e he
        have := spanN_bound _ _ _ _ _ _ he
        simp [putR_length]; omega
      · simp; omega
    · split
      · split
        · rename_i e he
          have := shutN_bound _ _ _ _ _ _ he
          simp [putR_length]; omega
        · simp; omega
      · split
        · rename_i h; exact hP k L hk h
        · simp; omega

theorem inlN_fuel {P : Nat → List Int → Nat × List Int} {l : List UInt8} {to : Nat} (hP : POk P l to) : ∀ d k L, to ≤ k + d → ∀ e, to ≤ k + e → inlN P l to d k L = inlN P l to e k L := by
  intro d
  induction d with
  | zero => intro k L h e he; cases e with
    | zero => rfl
    | succ e => rw [inlN, inlN, if_neg (by omega)]
  | succ d ih =>
    intro k L h e he
    cases e with
    | zero => rw [inlN, inlN, if_neg (by omega)]
    | succ e =>
      rw [inlN, inlN]
      by_cases hk : k < to
      · have := inlStep_bound hP k L hk
        rw [if_pos hk, if_pos hk]
        exact ih _ _ (by omega) _ (by omega)
      · rw [if_neg hk, if_neg hk]

theorem inlN_step {P : Nat → List Int → Nat × List Int} {l : List UInt8} {to : Nat} (hP : POk P l to) (k : Nat) (L : List Int) (hk : k < to) (k' : Nat) (L' : List Int) (h : inlStep P l to k L = (k', L')) :
    inlN P l to (to - k) k L = inlN P l to (to - k') k' L' := by
  rw [show to - k = (to - k - 1) + 1 by omega, inlN, if_pos hk, h]
  have := inlStep_bound hP k L hk
  rw [h] at this
  exact inlN_fuel hP _ _ _ (by simp only at this; omega) _ (by omega)

theorem span_some {bd bs b o c at_ to n e : Nat} {l : List UInt8} {w : World} (h : DocR w bd bs b o c l) (hto : to ≤ l.length) (hat : at_ ≤ to) (he : spanL l at_ to n = some e) :
    Calls Tryd.prog 36 #[.pointer (some ⟨bd, 0, none⟩), .int .i64 at_, .int .i64 to, .int .i64 n] w fun x w' => x = .returned (.tuple #[.int .i64 e, .bool true]) ∧ Only [] w w' :=
  (span_any' bd bs b o c at_ to n l w h hto hat).mono fun x w' ⟨h1, h2⟩ => ⟨by rw [h1, he]; rfl, h2⟩
theorem span_none {bd bs b o c at_ to n : Nat} {l : List UInt8} {w : World} (h : DocR w bd bs b o c l) (hto : to ≤ l.length) (hat : at_ ≤ to) (he : spanL l at_ to n = none) :
    Calls Tryd.prog 36 #[.pointer (some ⟨bd, 0, none⟩), .int .i64 at_, .int .i64 to, .int .i64 n] w fun x w' => x = .returned (.tuple #[.int .i64 0, .bool false]) ∧ Only [] w w' :=
  (span_any' bd bs b o c at_ to n l w h hto hat).mono fun x w' ⟨h1, h2⟩ => ⟨by rw [h1, he]; rfl, h2⟩
theorem shut_some {bd bs b o c at_ to e : Nat} {l : List UInt8} {w : World} (h : DocR w bd bs b o c l) (hto : to ≤ l.length) (hat : at_ ≤ to) (he : shutL l at_ to = some e) :
    Calls Tryd.prog 37 #[.pointer (some ⟨bd, 0, none⟩), .int .i64 at_, .int .i64 to] w fun x w' => x = .returned (.tuple #[.int .i64 e, .bool true]) ∧ Only [] w w' :=
  (shut_any bd bs b o c at_ to l w h hto hat).mono fun x w' ⟨h1, h2⟩ => ⟨by rw [h1, he]; rfl, h2⟩
theorem shut_none {bd bs b o c at_ to : Nat} {l : List UInt8} {w : World} (h : DocR w bd bs b o c l) (hto : to ≤ l.length) (hat : at_ ≤ to) (he : shutL l at_ to = none) :
    Calls Tryd.prog 37 #[.pointer (some ⟨bd, 0, none⟩), .int .i64 at_, .int .i64 to] w fun x w' => x = .returned (.tuple #[.int .i64 0, .bool false]) ∧ Only [] w w' :=
  (shut_any bd bs b o c at_ to l w h hto hat).mono fun x w' ⟨h1, h2⟩ => ⟨by rw [h1, he]; rfl, h2⟩

set_option maxRecDepth 100000 in
set_option maxHeartbeats 1000000 in
theorem inline_any (P : Nat → List Int → Nat × List Int) (bd bs bl b o c at_ to : Nat) (l : List UInt8) (L : List Int) (w : World) (hd : DocR w bd bs b o c l) (hs : SheetAt w bs bl L) (h1 : bd ≠ bl) (h2 : b ≠ bl) (hto : to ≤ l.length) (hat : at_ ≤ to)
    (hP : POk P l to)
    (hC : ∀ k L' w', k < to → bt l k = 60 → DocR w' bd bs b o c l → SheetAt w' bs bl L' → Only [bl] w w' → Calls Tryd.prog 38 #[.pointer (some ⟨bd, 0, none⟩), .int .i64 k, .int .i64 to] w' fun e w'' => e = .returned (.int .i64 ((P k L').1 : Nat)) ∧ Only [bl] w' w'' ∧ SheetAt w'' bs bl (P k L').2) :
    Calls Tryd.prog 27 #[.pointer (some ⟨bd, 0, none⟩), .int .i64 at_, .int .i64 to] w fun e w' => e = .returned (.tuple #[]) ∧ Only [bl] w w' ∧ SheetAt w' bs bl (inlL P l at_ to L) := by
  have hl : (l.length : Int) ≤ 65536 := by have := hd.len; omega
  have HD := Lib.hid hd
  have HS := Lib.hid hs
  have H1 := Lib.hid h1
  have H2 := Lib.hid h2
  have HP := Lib.hid hP
  have HC := Lib.hid hC
  clear hd hs h1 h2 hP hC
  go_enter Tryd.func27, Tryd.ntmps27
  go_wp2
  go_loopw [1, 6, 7, 8, 9, 10, 11] (fun v _ _ _ _ _ _ wr => ∃ (k : Nat) (L' : List Int), k ≤ to ∧ v = .int .i64 k ∧ inlL P l at_ to L = inlN P l to (to - k) k L' ∧ Only [bl] w wr ∧ SheetAt wr bs bl L') (fun v _ _ _ _ _ _ _ => to - (intOf v).toNat)
  case atStart => exact ⟨at_, L, hat, rfl, rfl, Only.refl _ _, HS.out⟩
  case round =>
    obtain ⟨k, L', hk, rfl, hrest, ho, hsh⟩ := hrel
    have HR := Lib.hid hrest
    have HO := Lib.hid ho
    have HSH := Lib.hid hsh
    have hdr : DocR wr bd bs b o c l := HD.out.keep ho (by simpa using H1.out) (by simpa using H2.out)
    have HDR := Lib.hid hdr
    clear hrest ho hsh
    by_cases hlt : k < to
    · have c1 := hdr.bytes
      have c2 := hdr.cells k (by omega)
      have c3 : k + 1 < to → wr.cell? ⟨b, o + (k + 1), none⟩ = some (.int .u8 (bt l (k + 1))) := fun h => HDR.out.cells (k + 1) (by omega)
      have c4 := hdr.sheet
      clear hdr
      have hr1 := bt_range l (k + 1)
      by_cases h92 : bt l k = 92
      · have q92 : (bt l k == 92) = true := by simp [h92]
        have n96 : ¬ bt l k = 96 := by omega
        have n93 : ¬ bt l k = 93 := by omega
        have n60 : ¬ bt l k = 60 := by omega
        by_cases hk1 : k + 1 < to
        · have c3' := c3 hk1
          clear c3
          cases hpu : punctB (bt l (k + 1)) with
          | true =>
            go_wp2_with (go_at_call 34; refine (punct_any (bt l (k + 1)) _ hr1.1 hr1.2).mono ?_; rintro e w1 ⟨rfl, rfl⟩)
            go_roundw
            case rel => exact ⟨k + 2, L', by omega, by go_num, by rw [HR.out]; exact inlN_step HP.out _ _ hlt _ _ (by rw [inlStep, if_pos ⟨h92, hk1, hpu⟩]), HO.out, HSH.out⟩
            case measure => simp [intOf]; omega
          | false =>
            go_wp2_with (go_at_call 34; refine (punct_any (bt l (k + 1)) _ hr1.1 hr1.2).mono ?_; rintro e w1 ⟨rfl, rfl⟩)
            go_roundw
            case rel => exact ⟨k + 1, L', by omega, by go_num, by rw [HR.out]; exact inlN_step HP.out _ _ hlt _ _ (by rw [inlStep, if_neg (by simp [hpu]), if_neg n96, if_neg (by simp [n93]), if_neg n60]), HO.out, HSH.out⟩
            case measure => simp [intOf]; omega
        · clear c3
          go_wp2
          go_roundw
          case rel => exact ⟨k + 1, L', by omega, by go_num, by rw [HR.out]; exact inlN_step HP.out _ _ hlt _ _ (by rw [inlStep, if_neg (by simp [hk1]), if_neg n96, if_neg (by simp [n93]), if_neg n60]), HO.out, HSH.out⟩
          case measure => simp [intOf]; omega
      · have q92 : (bt l k == 92) = false := by simpa using h92
        by_cases h96 : bt l k = 96
        · have q96 : (bt l k == 96) = true := by simp [h96]
          have hrp := runL_pos l k to hlt
          clear c3
          cases hsp : spanL l (k + runL l k to) to (runL l k to) with
          | some e =>
            have hb := spanN_bound _ _ _ _ _ _ hsp
            have HSP := Lib.hid hsp
            clear hsp
            go_wp2_with (first | (go_at_call 35; refine (run_any bd bs b o c k to l _ HDR.out (by omega) hto).mono ?_; rintro e' w1 ⟨rfl, ho1⟩; have c4' := ho1.cell_some c4 (by simp); have HO1 := Lib.hid ho1; clear ho1) | (go_at_call 36; refine (span_some (HDR.out.keep HO1.out (by simp) (by simp)) hto (by omega) HSP.out).mono ?_; rintro e' w2 ⟨rfl, ho2⟩; have c4'' := ho2.cell_some c4' (by simp); have HO2 := Lib.hid (HO1.out.trans ho2); have HSHX := Lib.hid (HSH.out.keep HO2.out (by simp) (by simp)); clear ho2) | (go_at_call 15; refine (set_any bs bl 4 k e L' _ HSHX.out (by omega) (by omega)).mono ?_; rintro e' w3 ⟨rfl, ho3, hs3⟩; have HO3 := Lib.hid ho3; have HS3 := Lib.hid hs3; clear ho3 hs3))
            go_roundw
            case rel => exact ⟨e, putR L' k e 4, by omega, by go_num, by rw [HR.out]; exact inlN_step HP.out _ _ hlt _ _ (by rw [inlStep, if_neg (by simp [h92]), if_pos h96, HSP.out]), (HO.out.trans (HO2.out.mono (by simp))).trans HO3.out, HS3.out⟩
            case measure => simp [intOf]; omega
          | none =>
            have HSP := Lib.hid hsp
            clear hsp
            go_wp2_with (first | (go_at_call 35; refine (run_any bd bs b o c k to l _ HDR.out (by omega) hto).mono ?_; rintro e' w1 ⟨rfl, ho1⟩; have HO1 := Lib.hid ho1; clear ho1) | (go_at_call 36; refine (span_none (HDR.out.keep HO1.out (by simp) (by simp)) hto (by omega) HSP.out).mono ?_; rintro e' w2 ⟨rfl, ho2⟩; have HO2 := Lib.hid (HO1.out.trans ho2); have HSHX := Lib.hid (HSH.out.keep HO2.out (by simp) (by simp)); clear ho2))
            go_roundw
            case rel => exact ⟨k + runL l k to, L', by omega, by go_num, by rw [HR.out]; exact inlN_step HP.out _ _ hlt _ _ (by rw [inlStep, if_neg (by simp [h92]), if_pos h96, HSP.out]), HO.out.trans (HO2.out.mono (by simp)), HSHX.out⟩
            case measure => simp [intOf]; omega
        · have q96 : (bt l k == 96) = false := by simpa using h96
          by_cases h93 : bt l k = 93
          · have q93 : (bt l k == 93) = true := by simp [h93]
            have n60 : ¬ bt l k = 60 := by omega
            by_cases hk1 : k + 1 < to
            · have c3' := c3 hk1
              clear c3
              by_cases h40 : bt l (k + 1) = 40
              · have q40 : (bt l (k + 1) == 40) = true := by simp [h40]
                cases hsp : shutL l (k + 2) to with
                | some e =>
                  have hb := shutN_bound _ _ _ _ _ _ hsp
                  have HSP := Lib.hid hsp
                  have HSHX := HSH
                  clear hsp
                  go_wp2_with (first | (go_at_call 37; refine (shut_some (at_ := k + 2) HDR.out hto (by omega) HSP.out).mono ?_; rintro e' w2 ⟨rfl, ho2⟩; have c4'' := ho2.cell_some c4 (by simp); have HO2 := Lib.hid ho2; have HSHX := Lib.hid (HSH.out.keep HO2.out (by simp) (by simp)); clear ho2) | (go_at_call 15; refine (set_any bs bl 2 (k + 1) e L' _ HSHX.out (by omega) (by omega)).mono ?_; rintro e' w3 ⟨rfl, ho3, hs3⟩; have HO3 := Lib.hid ho3; have HS3 := Lib.hid hs3; clear ho3 hs3))
                  go_roundw
                  case rel => exact ⟨e, putR L' (k + 1) e 2, by omega, by go_num, by rw [HR.out]; exact inlN_step HP.out _ _ hlt _ _ (by rw [inlStep, if_neg (by simp [h92]), if_neg h96, if_pos ⟨h93, hk1, h40⟩, HSP.out]), (HO.out.trans (HO2.out.mono (by simp))).trans HO3.out, HS3.out⟩
                  case measure => simp [intOf]; omega
                | none =>
                  have HSP := Lib.hid hsp
                  clear hsp
                  go_wp2_with (go_at_call 37; refine (shut_none (at_ := k + 2) HDR.out hto (by omega) HSP.out).mono ?_; rintro e' w2 ⟨rfl, ho2⟩; have HO2 := Lib.hid ho2; have HSHX := Lib.hid (HSH.out.keep HO2.out (by simp) (by simp)); clear ho2)
                  go_roundw
                  case rel => exact ⟨k + 1, L', by omega, by go_num, by rw [HR.out]; exact inlN_step HP.out _ _ hlt _ _ (by rw [inlStep, if_neg (by simp [h92]), if_neg h96, if_pos ⟨h93, hk1, h40⟩, HSP.out]), HO.out.trans (HO2.out.mono (by simp)), HSHX.out⟩
                  case measure => simp [intOf]; omega
              · have q40 : (bt l (k + 1) == 40) = false := by simpa using h40
                go_wp2
                go_roundw
                case rel => exact ⟨k + 1, L', by omega, by go_num, by rw [HR.out]; exact inlN_step HP.out _ _ hlt _ _ (by rw [inlStep, if_neg (by simp [h92]), if_neg h96, if_neg (by simp [h40]), if_neg n60]), HO.out, HSH.out⟩
                case measure => simp [intOf]; omega
            · clear c3
              go_wp2
              go_roundw
              case rel => exact ⟨k + 1, L', by omega, by go_num, by rw [HR.out]; exact inlN_step HP.out _ _ hlt _ _ (by rw [inlStep, if_neg (by simp [h92]), if_neg h96, if_neg (by simp [hk1]), if_neg n60]), HO.out, HSH.out⟩
              case measure => simp [intOf]; omega
          · have q93 : (bt l k == 93) = false := by simpa using h93
            clear c3
            by_cases h60 : bt l k = 60
            · have q60 : (bt l k == 60) = true := by simp [h60]
              have hb := HP.out k L' hlt h60
              go_wp2_with (go_at_call 38; refine (HC.out k L' _ hlt h60 HDR.out HSH.out HO.out).mono ?_; rintro e' w2 ⟨rfl, ho2, hs2⟩; have HO2 := Lib.hid ho2; have HS2 := Lib.hid hs2; clear ho2 hs2)
              go_roundw
              case rel => exact ⟨(P k L').1, (P k L').2, by omega, by go_num, by rw [HR.out]; exact inlN_step HP.out _ _ hlt _ _ (by rw [inlStep, if_neg (by simp [h92]), if_neg h96, if_neg (by simp [h93]), if_pos h60]), HO.out.trans HO2.out, HS2.out⟩
              case measure => simp [intOf]; omega
            · have q60 : (bt l k == 60) = false := by simpa using h60
              go_wp2
              go_roundw
              case rel => exact ⟨k + 1, L', by omega, by go_num, by rw [HR.out]; exact inlN_step HP.out _ _ hlt _ _ (by rw [inlStep, if_neg (by simp [h92]), if_neg h96, if_neg (by simp [h93]), if_neg h60]), HO.out, HSH.out⟩
              case measure => simp [intOf]; omega
    · go_wp2
      go_end0
      refine ⟨rfl, HO.out, ?_⟩
      have := HSH.out
      rwa [HR.out, show to - k = 0 by omega, inlN]
end Go.Proofs.YtpohopmggpiomaaDoor
