/-
  html: while.
-/
import Derived.Test.YtpohopmggpiomaaDoorHtmlB
namespace Go.Proofs.YtpohopmggpiomaaDoor
open Go.RowKit

def whN (p : Int → Bool) (l : List UInt8) : Nat → Nat → Nat
  | 0, k => k
  | d + 1, k => if k < l.length ∧ p (bt l k) = true then whN p l d (k + 1) else k
/-- The first place from k on where a byte isn't so. -/
def whL (p : Int → Bool) (l : List UInt8) (k : Nat) : Nat := whN p l (l.length - k) k

theorem whL_go (p : Int → Bool) (l : List UInt8) (k : Nat) (h : k < l.length) (hp : p (bt l k) = true) : whL p l k = whL p l (k + 1) := by
  unfold whL
  obtain ⟨d, hd⟩ : ∃ d, l.length - k = d + 1 := ⟨l.length - k - 1, by omega⟩
  rw [hd, whN, if_pos ⟨h, hp⟩, show l.length - (k + 1) = d by omega]
theorem whL_stop (p : Int → Bool) (l : List UInt8) (k : Nat) (h : ¬ (k < l.length ∧ p (bt l k) = true)) : whL p l k = k := by
  unfold whL
  cases l.length - k with
  | zero => rfl
  | succ d => rw [whN, if_neg h]

theorem ScanAt.step {w w' : World} {sb b o c k : Nat} {l : List UInt8} (h : ScanAt w sb b o c l k) (ho : Only [] w w') (j : Nat) : ScanAt (w'.setCell ⟨sb, 0 + 1, none⟩ (.int .i64 j)) sb b o c l j :=
  ⟨setCell_blk (ho.keep h.1 (by simp)) (0 + 1) (.int .i64 j), h.2.1, h.2.2.1, h.2.2.2.1, h.2.2.2.2.1, fun i hi => ((Only.refl [sb] w').setCell (.inl (by simp)) _).cell_some (ho.cell_some (h.2.2.2.2.2 i hi) (by simp)) (by simpa using fun e => h.2.2.2.2.1 e.symm)⟩
/-- From place i up to j. -/
def seg (l : List UInt8) (i j : Nat) : List UInt8 := (l.drop i).take (j - i)
theorem BytesV.cut {w : World} {b o c : Nat} {l : List UInt8} (h : ∀ k, k < l.length → w.cell? ⟨b, o + k, none⟩ = some (.int .u8 (bt l k))) (hl : l.length ≤ c) (hm : c ≤ maxLen) (i j : Nat) (hi : i ≤ j) (hj : j ≤ l.length) :
    BytesV w (.slice (some ⟨b, o + i, none⟩) (j - i) (c - i)) (seg l i j) := BytesV.part h hm i (by omega) (by omega)
theorem BytesV.cut0 {w : World} {b o i : Nat} {l : List UInt8} (hl : l.length ≤ i) (j : Nat) (hj : j ≤ l.length) :
    BytesV w (.slice (some ⟨b, o, none⟩) (j - i) 0) (seg l i j) := by
  have e : j - i = 0 := by omega
  refine ⟨some ⟨b, o, none⟩, 0, ?_, ?_, by decide, fun h => ?_⟩
  · rw [e]; simp [seg, e]
  · simp [seg, e]
  · simp [seg, e] at h
/-- Not the sign. -/
def quoQ (q c : Int) : Bool := !(c == q)
theorem quo_any (c q : Int) (qb : Nat) (w : World) (h : w.cell? ⟨qb, 0, none⟩ = some (.int .u8 q)) :
    Calls Tryd.prog 86 #[.int .u8 c, .pointer (some ⟨qb, 0, none⟩)] w fun e w' => e = .returned (.bool (quoQ q c)) ∧ w = w' := by
  cases hc : (c == q)
  all_goals
    (have hc' := hc
     simp only [beq_eq_false_iff_ne, ne_eq, beq_iff_eq] at hc'
     go_enter Tryd.func86, Tryd.ntmps86
     go_wp2
     go_ret
     exact ⟨ret_bool (by simp [quoQ, hc, hc']), rfl⟩)
def scanPos (w : World) (sb : Nat) : Nat := match w.cell? ⟨sb, 0 + 1, none⟩ with | some v => (intOf v).toNat | none => 0
theorem ScanAt.pos {w : World} {sb b o c k : Nat} {l : List UInt8} (h : ScanAt w sb b o c l k) : scanPos w sb = k := by
  unfold scanPos
  rw [cell_blk h.1 (0 + 1)]
  simp [intOf]
theorem ScanAt.free {w : World} {sb b o c k : Nat} {l : List UInt8} (h : ScanAt w sb b o c l k) : w.frozen? ⟨sb, 0 + 1, none⟩ = false := free_blk h.1 (0 + 1)

theorem while_end {w wr w' : World} {sb b o c k j : Nat} {l : List UInt8} (ho : Only [sb] w wr) (hs : ScanAt wr sb b o c l j) (hkj : k ≤ j) (h : Only [] wr w') (hj : j ≤ l.length) :
    ∃ v, Ending.returned (.slice (some ⟨b, o + k, none⟩) (j - k) (c - k)) = .returned v ∧ BytesV w' v (seg l k j) ∧ Only [sb] w w' ∧ ScanAt w' sb b o c l j :=
  ⟨_, rfl, BytesV.cut (fun i hi => h.cell_some (hs.2.2.2.2.2 i hi) (by simp)) hs.2.1 hs.2.2.1 k j hkj hj, ho.trans (h.mono (by simp)), hs.keep h (by simp) (by simp)⟩
theorem while_end0 {w wr w' : World} {sb b o c k j : Nat} {l : List UInt8} (ho : Only [sb] w wr) (hs : ScanAt wr sb b o c l j) (h : Only [] wr w') (hj : j ≤ l.length) (hck : c = k) :
    ∃ v, Ending.returned (.slice (some ⟨b, o, none⟩) (j - k) 0) = .returned v ∧ BytesV w' v (seg l k j) ∧ Only [sb] w w' ∧ ScanAt w' sb b o k l j := by
  subst hck
  exact ⟨_, rfl, BytesV.cut0 hs.2.1 j hj, ho.trans (h.mono (by simp)), hs.keep h (by simp) (by simp)⟩

set_option maxRecDepth 100000 in
set_option maxHeartbeats 400000 in
theorem while_rel (sb b o c k : Nat) (l : List UInt8) (w : World) (h : ScanAt w sb b o c l k) (hk : k ≤ l.length) :
    Calls Tryd.prog 68 #[.pointer (some ⟨sb, 0, none⟩), .func (.func 70) #[] #[]] w fun e w' => ∃ v, e = .returned v ∧ BytesV w' v (seg l k (whL relP l k)) ∧ Only [sb] w w' ∧ ScanAt w' sb b o c l (whL relP l k) := by
  have hl' : (l.length : Int) ≤ 65536 := by have := h.2.2.2.1; omega
  have H := Lib.hid h
  have c1 : w.cell? ⟨sb, 0 + 1, none⟩ = some (.int .i64 k) := by rw [cell_blk h.1 (0 + 1)]; rfl
  clear h
  go_enter Tryd.func68, Tryd.ntmps68
  go_wp2_with fail
  go_loopw [] (fun wr => ∃ j : Nat, k ≤ j ∧ j ≤ l.length ∧ whL relP l k = whL relP l j ∧ Only [sb] w wr ∧ ScanAt wr sb b o c l j) (fun wr => l.length - scanPos wr sb)
  case atStart => exact ⟨k, by omega, hk, rfl, Only.refl _ _, H.out⟩
  case round =>
    obtain ⟨j, hkj, hj, hrun, ho, hsc⟩ := hrel
    have HR := Lib.hid hrun
    have HO := Lib.hid ho
    have HSC := Lib.hid hsc
    obtain ⟨hb, hc, hm, hl, hne, hcell⟩ := hsc
    have d0 : wr.cell? ⟨sb, 0, none⟩ = some (.slice (some ⟨b, o, none⟩) l.length c) := by rw [cell_blk hb 0]; rfl
    have d1 : wr.cell? ⟨sb, 0 + 1, none⟩ = some (.int .i64 j) := by rw [cell_blk hb (0 + 1)]; rfl
    have hf := free_blk hb (0 + 1)
    have hck : ∀ h : j < l.length, wr.cell? ⟨b, o + j, none⟩ = some (.int .u8 (bt l j)) := hcell j
    clear hrun ho hb hcell hm hl
    by_cases hlt : j < l.length
    · have ck := hck hlt
      clear hck
      have hr := bt_range l j
      have hq := fun n => rel_any (bt l j) (wr.drewN n) hr.1 hr.2
      cases hp : relP (bt l j)
      · rw [hp] at hq
        have HQ := Lib.hid hq
        clear hq
        go_wp2
        go_quiet ((go_at_call 70; exact Calls.quiet_of_same ((HQ.out _).mono fun _ _ ⟨a, b⟩ => ⟨a, b.symm⟩)))
        go_wp2
        go_quiet (fail)
        all_goals
          go_wp2
          go_ret
          rw [HR.out, whL_stop _ _ _ (by rw [hp]; simp)]
          first
          | exact while_end HO.out HSC.out hkj ((Only.refl [] wr).drewN _) hj
          | exact while_end HO.out HSC.out hkj (((Only.refl [] wr).drewN _).drewN _) hj
          | exact while_end0 HO.out HSC.out ((Only.refl [] wr).drewN _) hj (by omega)
          | exact while_end0 HO.out HSC.out (((Only.refl [] wr).drewN _).drewN _) hj (by omega)
      · rw [hp] at hq
        have HQ := Lib.hid hq
        clear hq
        go_wp2
        go_quiet ((go_at_call 70; exact Calls.quiet_of_same ((HQ.out _).mono fun _ _ ⟨a, b⟩ => ⟨a, b.symm⟩)))
        go_wp2
        go_roundw
        case rel => exact ⟨j + 1, by omega, by omega, by rw [HR.out, whL_go _ _ _ hlt hp], (HO.out.drewN _).setCell (.inl (by simp)) _, HSC.out.step ((Only.refl [] wr).drewN _) (j + 1)⟩
        case measure =>
          have p1 := HSC.out.pos
          have p2 := (HSC.out.step ((Only.refl [] wr).drewN nq) (j + 1)).pos
          rw [p1]
          exact (congrArg (fun x => l.length - x < l.length - j) p2).mpr (by omega)
    · have hnot : ¬ (j < l.length ∧ relP (bt l j) = true) := fun h => hlt h.1
      have HNOT := Lib.hid hnot
      clear hck hnot
      go_wp2
      go_quiet (fail)
      go_wp2
      go_quiet (fail)
      all_goals
        go_wp2
        all_goals
          go_ret
          rw [HR.out, whL_stop _ _ _ HNOT.out]
          first
          | exact while_end HO.out HSC.out hkj ((Only.refl [] wr).drewN _) hj
          | exact while_end HO.out HSC.out hkj (((Only.refl [] wr).drewN _).drewN _) hj
          | exact while_end0 HO.out HSC.out ((Only.refl [] wr).drewN _) hj (by omega)
          | exact while_end0 HO.out HSC.out (((Only.refl [] wr).drewN _).drewN _) hj (by omega)

set_option maxRecDepth 100000 in
set_option maxHeartbeats 400000 in
theorem while_nam (sb b o c k : Nat) (l : List UInt8) (w : World) (h : ScanAt w sb b o c l k) (hk : k ≤ l.length) :
    Calls Tryd.prog 68 #[.pointer (some ⟨sb, 0, none⟩), .func (.func 69) #[] #[]] w fun e w' => ∃ v, e = .returned v ∧ BytesV w' v (seg l k (whL namP l k)) ∧ Only [sb] w w' ∧ ScanAt w' sb b o c l (whL namP l k) := by
  have hl' : (l.length : Int) ≤ 65536 := by have := h.2.2.2.1; omega
  have H := Lib.hid h
  have c1 : w.cell? ⟨sb, 0 + 1, none⟩ = some (.int .i64 k) := by rw [cell_blk h.1 (0 + 1)]; rfl
  clear h
  go_enter Tryd.func68, Tryd.ntmps68
  go_wp2_with fail
  go_loopw [] (fun wr => ∃ j : Nat, k ≤ j ∧ j ≤ l.length ∧ whL namP l k = whL namP l j ∧ Only [sb] w wr ∧ ScanAt wr sb b o c l j) (fun wr => l.length - scanPos wr sb)
  case atStart => exact ⟨k, by omega, hk, rfl, Only.refl _ _, H.out⟩
  case round =>
    obtain ⟨j, hkj, hj, hrun, ho, hsc⟩ := hrel
    have HR := Lib.hid hrun
    have HO := Lib.hid ho
    have HSC := Lib.hid hsc
    obtain ⟨hb, hc, hm, hl, hne, hcell⟩ := hsc
    have d0 : wr.cell? ⟨sb, 0, none⟩ = some (.slice (some ⟨b, o, none⟩) l.length c) := by rw [cell_blk hb 0]; rfl
    have d1 : wr.cell? ⟨sb, 0 + 1, none⟩ = some (.int .i64 j) := by rw [cell_blk hb (0 + 1)]; rfl
    have hf := free_blk hb (0 + 1)
    have hck : ∀ h : j < l.length, wr.cell? ⟨b, o + j, none⟩ = some (.int .u8 (bt l j)) := hcell j
    clear hrun ho hb hcell hm hl
    by_cases hlt : j < l.length
    · have ck := hck hlt
      clear hck
      have hr := bt_range l j
      have hq := fun n => name_any (bt l j) (wr.drewN n) hr.1 hr.2
      cases hp : namP (bt l j)
      · rw [hp] at hq
        have HQ := Lib.hid hq
        clear hq
        go_wp2
        go_quiet ((go_at_call 69; exact Calls.quiet_of_same ((HQ.out _).mono fun _ _ ⟨a, b⟩ => ⟨a, b.symm⟩)))
        go_wp2
        go_quiet (fail)
        all_goals
          go_wp2
          go_ret
          rw [HR.out, whL_stop _ _ _ (by rw [hp]; simp)]
          first
          | exact while_end HO.out HSC.out hkj ((Only.refl [] wr).drewN _) hj
          | exact while_end HO.out HSC.out hkj (((Only.refl [] wr).drewN _).drewN _) hj
          | exact while_end0 HO.out HSC.out ((Only.refl [] wr).drewN _) hj (by omega)
          | exact while_end0 HO.out HSC.out (((Only.refl [] wr).drewN _).drewN _) hj (by omega)
      · rw [hp] at hq
        have HQ := Lib.hid hq
        clear hq
        go_wp2
        go_quiet ((go_at_call 69; exact Calls.quiet_of_same ((HQ.out _).mono fun _ _ ⟨a, b⟩ => ⟨a, b.symm⟩)))
        go_wp2
        go_roundw
        case rel => exact ⟨j + 1, by omega, by omega, by rw [HR.out, whL_go _ _ _ hlt hp], (HO.out.drewN _).setCell (.inl (by simp)) _, HSC.out.step ((Only.refl [] wr).drewN _) (j + 1)⟩
        case measure =>
          have p1 := HSC.out.pos
          have p2 := (HSC.out.step ((Only.refl [] wr).drewN nq) (j + 1)).pos
          rw [p1]
          exact (congrArg (fun x => l.length - x < l.length - j) p2).mpr (by omega)
    · have hnot : ¬ (j < l.length ∧ namP (bt l j) = true) := fun h => hlt h.1
      have HNOT := Lib.hid hnot
      clear hck hnot
      go_wp2
      go_quiet (fail)
      go_wp2
      go_quiet (fail)
      all_goals
        go_wp2
        all_goals
          go_ret
          rw [HR.out, whL_stop _ _ _ HNOT.out]
          first
          | exact while_end HO.out HSC.out hkj ((Only.refl [] wr).drewN _) hj
          | exact while_end HO.out HSC.out hkj (((Only.refl [] wr).drewN _).drewN _) hj
          | exact while_end0 HO.out HSC.out ((Only.refl [] wr).drewN _) hj (by omega)
          | exact while_end0 HO.out HSC.out (((Only.refl [] wr).drewN _).drewN _) hj (by omega)

set_option maxRecDepth 100000 in
set_option maxHeartbeats 400000 in
theorem while_bla (sb b o c k : Nat) (l : List UInt8) (w : World) (h : ScanAt w sb b o c l k) (hk : k ≤ l.length) :
    Calls Tryd.prog 68 #[.pointer (some ⟨sb, 0, none⟩), .func (.func 71) #[] #[]] w fun e w' => ∃ v, e = .returned v ∧ BytesV w' v (seg l k (whL blaP l k)) ∧ Only [sb] w w' ∧ ScanAt w' sb b o c l (whL blaP l k) := by
  have hl' : (l.length : Int) ≤ 65536 := by have := h.2.2.2.1; omega
  have H := Lib.hid h
  have c1 : w.cell? ⟨sb, 0 + 1, none⟩ = some (.int .i64 k) := by rw [cell_blk h.1 (0 + 1)]; rfl
  clear h
  go_enter Tryd.func68, Tryd.ntmps68
  go_wp2_with fail
  go_loopw [] (fun wr => ∃ j : Nat, k ≤ j ∧ j ≤ l.length ∧ whL blaP l k = whL blaP l j ∧ Only [sb] w wr ∧ ScanAt wr sb b o c l j) (fun wr => l.length - scanPos wr sb)
  case atStart => exact ⟨k, by omega, hk, rfl, Only.refl _ _, H.out⟩
  case round =>
    obtain ⟨j, hkj, hj, hrun, ho, hsc⟩ := hrel
    have HR := Lib.hid hrun
    have HO := Lib.hid ho
    have HSC := Lib.hid hsc
    obtain ⟨hb, hc, hm, hl, hne, hcell⟩ := hsc
    have d0 : wr.cell? ⟨sb, 0, none⟩ = some (.slice (some ⟨b, o, none⟩) l.length c) := by rw [cell_blk hb 0]; rfl
    have d1 : wr.cell? ⟨sb, 0 + 1, none⟩ = some (.int .i64 j) := by rw [cell_blk hb (0 + 1)]; rfl
    have hf := free_blk hb (0 + 1)
    have hck : ∀ h : j < l.length, wr.cell? ⟨b, o + j, none⟩ = some (.int .u8 (bt l j)) := hcell j
    clear hrun ho hb hcell hm hl
    by_cases hlt : j < l.length
    · have ck := hck hlt
      clear hck
      have hr := bt_range l j
      have hq := fun n => blank_any (bt l j) (wr.drewN n) hr.1 hr.2
      cases hp : blaP (bt l j)
      · rw [hp] at hq
        have HQ := Lib.hid hq
        clear hq
        go_wp2
        go_quiet ((go_at_call 71; exact Calls.quiet_of_same ((HQ.out _).mono fun _ _ ⟨a, b⟩ => ⟨a, b.symm⟩)))
        go_wp2
        go_quiet (fail)
        all_goals
          go_wp2
          go_ret
          rw [HR.out, whL_stop _ _ _ (by rw [hp]; simp)]
          first
          | exact while_end HO.out HSC.out hkj ((Only.refl [] wr).drewN _) hj
          | exact while_end HO.out HSC.out hkj (((Only.refl [] wr).drewN _).drewN _) hj
          | exact while_end0 HO.out HSC.out ((Only.refl [] wr).drewN _) hj (by omega)
          | exact while_end0 HO.out HSC.out (((Only.refl [] wr).drewN _).drewN _) hj (by omega)
      · rw [hp] at hq
        have HQ := Lib.hid hq
        clear hq
        go_wp2
        go_quiet ((go_at_call 71; exact Calls.quiet_of_same ((HQ.out _).mono fun _ _ ⟨a, b⟩ => ⟨a, b.symm⟩)))
        go_wp2
        go_roundw
        case rel => exact ⟨j + 1, by omega, by omega, by rw [HR.out, whL_go _ _ _ hlt hp], (HO.out.drewN _).setCell (.inl (by simp)) _, HSC.out.step ((Only.refl [] wr).drewN _) (j + 1)⟩
        case measure =>
          have p1 := HSC.out.pos
          have p2 := (HSC.out.step ((Only.refl [] wr).drewN nq) (j + 1)).pos
          rw [p1]
          exact (congrArg (fun x => l.length - x < l.length - j) p2).mpr (by omega)
    · have hnot : ¬ (j < l.length ∧ blaP (bt l j) = true) := fun h => hlt h.1
      have HNOT := Lib.hid hnot
      clear hck hnot
      go_wp2
      go_quiet (fail)
      go_wp2
      go_quiet (fail)
      all_goals
        go_wp2
        all_goals
          go_ret
          rw [HR.out, whL_stop _ _ _ HNOT.out]
          first
          | exact while_end HO.out HSC.out hkj ((Only.refl [] wr).drewN _) hj
          | exact while_end HO.out HSC.out hkj (((Only.refl [] wr).drewN _).drewN _) hj
          | exact while_end0 HO.out HSC.out ((Only.refl [] wr).drewN _) hj (by omega)
          | exact while_end0 HO.out HSC.out (((Only.refl [] wr).drewN _).drewN _) hj (by omega)

set_option maxRecDepth 100000 in
set_option maxHeartbeats 400000 in
theorem while_key (sb b o c k : Nat) (l : List UInt8) (w : World) (h : ScanAt w sb b o c l k) (hk : k ≤ l.length) :
    Calls Tryd.prog 68 #[.pointer (some ⟨sb, 0, none⟩), .func (.func 84) #[] #[]] w fun e w' => ∃ v, e = .returned v ∧ BytesV w' v (seg l k (whL keyP l k)) ∧ Only [sb] w w' ∧ ScanAt w' sb b o c l (whL keyP l k) := by
  have hl' : (l.length : Int) ≤ 65536 := by have := h.2.2.2.1; omega
  have H := Lib.hid h
  have c1 : w.cell? ⟨sb, 0 + 1, none⟩ = some (.int .i64 k) := by rw [cell_blk h.1 (0 + 1)]; rfl
  clear h
  go_enter Tryd.func68, Tryd.ntmps68
  go_wp2_with fail
  go_loopw [] (fun wr => ∃ j : Nat, k ≤ j ∧ j ≤ l.length ∧ whL keyP l k = whL keyP l j ∧ Only [sb] w wr ∧ ScanAt wr sb b o c l j) (fun wr => l.length - scanPos wr sb)
  case atStart => exact ⟨k, by omega, hk, rfl, Only.refl _ _, H.out⟩
  case round =>
    obtain ⟨j, hkj, hj, hrun, ho, hsc⟩ := hrel
    have HR := Lib.hid hrun
    have HO := Lib.hid ho
    have HSC := Lib.hid hsc
    obtain ⟨hb, hc, hm, hl, hne, hcell⟩ := hsc
    have d0 : wr.cell? ⟨sb, 0, none⟩ = some (.slice (some ⟨b, o, none⟩) l.length c) := by rw [cell_blk hb 0]; rfl
    have d1 : wr.cell? ⟨sb, 0 + 1, none⟩ = some (.int .i64 j) := by rw [cell_blk hb (0 + 1)]; rfl
    have hf := free_blk hb (0 + 1)
    have hck : ∀ h : j < l.length, wr.cell? ⟨b, o + j, none⟩ = some (.int .u8 (bt l j)) := hcell j
    clear hrun ho hb hcell hm hl
    by_cases hlt : j < l.length
    · have ck := hck hlt
      clear hck
      have hr := bt_range l j
      have hq := fun n => key_any (bt l j) (wr.drewN n) hr.1 hr.2
      cases hp : keyP (bt l j)
      · rw [hp] at hq
        have HQ := Lib.hid hq
        clear hq
        go_wp2
        go_quiet ((go_at_call 84; exact Calls.quiet_of_same ((HQ.out _).mono fun _ _ ⟨a, b⟩ => ⟨a, b.symm⟩)))
        go_wp2
        go_quiet (fail)
        all_goals
          go_wp2
          go_ret
          rw [HR.out, whL_stop _ _ _ (by rw [hp]; simp)]
          first
          | exact while_end HO.out HSC.out hkj ((Only.refl [] wr).drewN _) hj
          | exact while_end HO.out HSC.out hkj (((Only.refl [] wr).drewN _).drewN _) hj
          | exact while_end0 HO.out HSC.out ((Only.refl [] wr).drewN _) hj (by omega)
          | exact while_end0 HO.out HSC.out (((Only.refl [] wr).drewN _).drewN _) hj (by omega)
      · rw [hp] at hq
        have HQ := Lib.hid hq
        clear hq
        go_wp2
        go_quiet ((go_at_call 84; exact Calls.quiet_of_same ((HQ.out _).mono fun _ _ ⟨a, b⟩ => ⟨a, b.symm⟩)))
        go_wp2
        go_roundw
        case rel => exact ⟨j + 1, by omega, by omega, by rw [HR.out, whL_go _ _ _ hlt hp], (HO.out.drewN _).setCell (.inl (by simp)) _, HSC.out.step ((Only.refl [] wr).drewN _) (j + 1)⟩
        case measure =>
          have p1 := HSC.out.pos
          have p2 := (HSC.out.step ((Only.refl [] wr).drewN nq) (j + 1)).pos
          rw [p1]
          exact (congrArg (fun x => l.length - x < l.length - j) p2).mpr (by omega)
    · have hnot : ¬ (j < l.length ∧ keyP (bt l j) = true) := fun h => hlt h.1
      have HNOT := Lib.hid hnot
      clear hck hnot
      go_wp2
      go_quiet (fail)
      go_wp2
      go_quiet (fail)
      all_goals
        go_wp2
        all_goals
          go_ret
          rw [HR.out, whL_stop _ _ _ HNOT.out]
          first
          | exact while_end HO.out HSC.out hkj ((Only.refl [] wr).drewN _) hj
          | exact while_end HO.out HSC.out hkj (((Only.refl [] wr).drewN _).drewN _) hj
          | exact while_end0 HO.out HSC.out ((Only.refl [] wr).drewN _) hj (by omega)
          | exact while_end0 HO.out HSC.out (((Only.refl [] wr).drewN _).drewN _) hj (by omega)

set_option maxRecDepth 100000 in
set_option maxHeartbeats 400000 in
theorem while_val (sb b o c k : Nat) (l : List UInt8) (w : World) (h : ScanAt w sb b o c l k) (hk : k ≤ l.length) :
    Calls Tryd.prog 68 #[.pointer (some ⟨sb, 0, none⟩), .func (.func 85) #[] #[]] w fun e w' => ∃ v, e = .returned v ∧ BytesV w' v (seg l k (whL valP l k)) ∧ Only [sb] w w' ∧ ScanAt w' sb b o c l (whL valP l k) := by
  have hl' : (l.length : Int) ≤ 65536 := by have := h.2.2.2.1; omega
  have H := Lib.hid h
  have c1 : w.cell? ⟨sb, 0 + 1, none⟩ = some (.int .i64 k) := by rw [cell_blk h.1 (0 + 1)]; rfl
  clear h
  go_enter Tryd.func68, Tryd.ntmps68
  go_wp2_with fail
  go_loopw [] (fun wr => ∃ j : Nat, k ≤ j ∧ j ≤ l.length ∧ whL valP l k = whL valP l j ∧ Only [sb] w wr ∧ ScanAt wr sb b o c l j) (fun wr => l.length - scanPos wr sb)
  case atStart => exact ⟨k, by omega, hk, rfl, Only.refl _ _, H.out⟩
  case round =>
    obtain ⟨j, hkj, hj, hrun, ho, hsc⟩ := hrel
    have HR := Lib.hid hrun
    have HO := Lib.hid ho
    have HSC := Lib.hid hsc
    obtain ⟨hb, hc, hm, hl, hne, hcell⟩ := hsc
    have d0 : wr.cell? ⟨sb, 0, none⟩ = some (.slice (some ⟨b, o, none⟩) l.length c) := by rw [cell_blk hb 0]; rfl
    have d1 : wr.cell? ⟨sb, 0 + 1, none⟩ = some (.int .i64 j) := by rw [cell_blk hb (0 + 1)]; rfl
    have hf := free_blk hb (0 + 1)
    have hck : ∀ h : j < l.length, wr.cell? ⟨b, o + j, none⟩ = some (.int .u8 (bt l j)) := hcell j
    clear hrun ho hb hcell hm hl
    by_cases hlt : j < l.length
    · have ck := hck hlt
      clear hck
      have hr := bt_range l j
      have hq := fun n => val_any (bt l j) (wr.drewN n) hr.1 hr.2
      cases hp : valP (bt l j)
      · rw [hp] at hq
        have HQ := Lib.hid hq
        clear hq
        go_wp2
        go_quiet ((go_at_call 85; exact Calls.quiet_of_same ((HQ.out _).mono fun _ _ ⟨a, b⟩ => ⟨a, b.symm⟩)))
        go_wp2
        go_quiet (fail)
        all_goals
          go_wp2
          go_ret
          rw [HR.out, whL_stop _ _ _ (by rw [hp]; simp)]
          first
          | exact while_end HO.out HSC.out hkj ((Only.refl [] wr).drewN _) hj
          | exact while_end HO.out HSC.out hkj (((Only.refl [] wr).drewN _).drewN _) hj
          | exact while_end0 HO.out HSC.out ((Only.refl [] wr).drewN _) hj (by omega)
          | exact while_end0 HO.out HSC.out (((Only.refl [] wr).drewN _).drewN _) hj (by omega)
      · rw [hp] at hq
        have HQ := Lib.hid hq
        clear hq
        go_wp2
        go_quiet ((go_at_call 85; exact Calls.quiet_of_same ((HQ.out _).mono fun _ _ ⟨a, b⟩ => ⟨a, b.symm⟩)))
        go_wp2
        go_roundw
        case rel => exact ⟨j + 1, by omega, by omega, by rw [HR.out, whL_go _ _ _ hlt hp], (HO.out.drewN _).setCell (.inl (by simp)) _, HSC.out.step ((Only.refl [] wr).drewN _) (j + 1)⟩
        case measure =>
          have p1 := HSC.out.pos
          have p2 := (HSC.out.step ((Only.refl [] wr).drewN nq) (j + 1)).pos
          rw [p1]
          exact (congrArg (fun x => l.length - x < l.length - j) p2).mpr (by omega)
    · have hnot : ¬ (j < l.length ∧ valP (bt l j) = true) := fun h => hlt h.1
      have HNOT := Lib.hid hnot
      clear hck hnot
      go_wp2
      go_quiet (fail)
      go_wp2
      go_quiet (fail)
      all_goals
        go_wp2
        all_goals
          go_ret
          rw [HR.out, whL_stop _ _ _ HNOT.out]
          first
          | exact while_end HO.out HSC.out hkj ((Only.refl [] wr).drewN _) hj
          | exact while_end HO.out HSC.out hkj (((Only.refl [] wr).drewN _).drewN _) hj
          | exact while_end0 HO.out HSC.out ((Only.refl [] wr).drewN _) hj (by omega)
          | exact while_end0 HO.out HSC.out (((Only.refl [] wr).drewN _).drewN _) hj (by omega)

set_option maxRecDepth 100000 in
set_option maxHeartbeats 400000 in
theorem while_quo (sb b o c k : Nat) (l : List UInt8) (w : World) (h : ScanAt w sb b o c l k) (hk : k ≤ l.length) (q : Int) (qb : Nat) (hqc : w.cell? ⟨qb, 0, none⟩ = some (.int .u8 q)) (hqs : qb ∉ [sb]) :
    Calls Tryd.prog 68 #[.pointer (some ⟨sb, 0, none⟩), .func (.func 86) #[] #[.pointer (some ⟨qb, 0, none⟩)]] w fun e w' => ∃ v, e = .returned v ∧ BytesV w' v (seg l k (whL (quoQ q) l k)) ∧ Only [sb] w w' ∧ ScanAt w' sb b o c l (whL (quoQ q) l k) := by
  have hl' : (l.length : Int) ≤ 65536 := by have := h.2.2.2.1; omega
  have H := Lib.hid h
  have c1 : w.cell? ⟨sb, 0 + 1, none⟩ = some (.int .i64 k) := by rw [cell_blk h.1 (0 + 1)]; rfl
  have HQC := Lib.hid hqc
  have HQS := Lib.hid hqs
  clear h hqc hqs
  go_enter Tryd.func68, Tryd.ntmps68
  go_wp2_with fail
  go_loopw [] (fun wr => ∃ j : Nat, k ≤ j ∧ j ≤ l.length ∧ whL (quoQ q) l k = whL (quoQ q) l j ∧ Only [sb] w wr ∧ ScanAt wr sb b o c l j) (fun wr => l.length - scanPos wr sb)
  case atStart => exact ⟨k, by omega, hk, rfl, Only.refl _ _, H.out⟩
  case round =>
    obtain ⟨j, hkj, hj, hrun, ho, hsc⟩ := hrel
    have HR := Lib.hid hrun
    have HO := Lib.hid ho
    have HSC := Lib.hid hsc
    obtain ⟨hb, hc, hm, hl, hne, hcell⟩ := hsc
    have d0 : wr.cell? ⟨sb, 0, none⟩ = some (.slice (some ⟨b, o, none⟩) l.length c) := by rw [cell_blk hb 0]; rfl
    have d1 : wr.cell? ⟨sb, 0 + 1, none⟩ = some (.int .i64 j) := by rw [cell_blk hb (0 + 1)]; rfl
    have hf := free_blk hb (0 + 1)
    have hck : ∀ h : j < l.length, wr.cell? ⟨b, o + j, none⟩ = some (.int .u8 (bt l j)) := hcell j
    clear hrun ho hb hcell hm hl
    by_cases hlt : j < l.length
    · have ck := hck hlt
      clear hck
      have hr := bt_range l j
      have hq := fun n => quo_any (bt l j) q qb (wr.drewN n) ((Only.refl [] wr).drewN n |>.cell_some (HO.out.cell_some HQC.out HQS.out) (by simp))
      cases hp : (quoQ q) (bt l j)
      · rw [hp] at hq
        have HQ := Lib.hid hq
        clear hq
        go_wp2
        go_quiet ((go_at_call 86; exact Calls.quiet_of_same ((HQ.out _).mono fun _ _ ⟨a, b⟩ => ⟨a, b.symm⟩)))
        go_wp2
        go_quiet (fail)
        all_goals
          go_wp2
          go_ret
          rw [HR.out, whL_stop _ _ _ (by rw [hp]; simp)]
          first
          | exact while_end HO.out HSC.out hkj ((Only.refl [] wr).drewN _) hj
          | exact while_end HO.out HSC.out hkj (((Only.refl [] wr).drewN _).drewN _) hj
          | exact while_end0 HO.out HSC.out ((Only.refl [] wr).drewN _) hj (by omega)
          | exact while_end0 HO.out HSC.out (((Only.refl [] wr).drewN _).drewN _) hj (by omega)
      · rw [hp] at hq
        have HQ := Lib.hid hq
        clear hq
        go_wp2
        go_quiet ((go_at_call 86; exact Calls.quiet_of_same ((HQ.out _).mono fun _ _ ⟨a, b⟩ => ⟨a, b.symm⟩)))
        go_wp2
        go_roundw
        case rel => exact ⟨j + 1, by omega, by omega, by rw [HR.out, whL_go _ _ _ hlt hp], (HO.out.drewN _).setCell (.inl (by simp)) _, HSC.out.step ((Only.refl [] wr).drewN _) (j + 1)⟩
        case measure =>
          have p1 := HSC.out.pos
          have p2 := (HSC.out.step ((Only.refl [] wr).drewN nq) (j + 1)).pos
          rw [p1]
          exact (congrArg (fun x => l.length - x < l.length - j) p2).mpr (by omega)
    · have hnot : ¬ (j < l.length ∧ (quoQ q) (bt l j) = true) := fun h => hlt h.1
      have HNOT := Lib.hid hnot
      clear hck hnot
      go_wp2
      go_quiet (fail)
      go_wp2
      go_quiet (fail)
      all_goals
        go_wp2
        all_goals
          go_ret
          rw [HR.out, whL_stop _ _ _ HNOT.out]
          first
          | exact while_end HO.out HSC.out hkj ((Only.refl [] wr).drewN _) hj
          | exact while_end HO.out HSC.out hkj (((Only.refl [] wr).drewN _).drewN _) hj
          | exact while_end0 HO.out HSC.out ((Only.refl [] wr).drewN _) hj (by omega)
          | exact while_end0 HO.out HSC.out (((Only.refl [] wr).drewN _).drewN _) hj (by omega)
end Go.Proofs.YtpohopmggpiomaaDoor
