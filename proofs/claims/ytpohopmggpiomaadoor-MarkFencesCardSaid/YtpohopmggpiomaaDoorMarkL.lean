/-
  mark: front, line, Lex.
-/
import Derived.Test.YtpohopmggpiomaaDoorMarkI
import Derived.Test.YtpohopmggpiomaaDoorLines
namespace Go.Proofs.YtpohopmggpiomaaDoor
open Go.RowKit

/-- A line of a list. -/
def lnth (ls : List (List UInt8)) (k : Nat) : List UInt8 := ls.getD k []

/-- A slice of strings that reads as a list. -/
def StrsV (w : World) (v : Value) (ls : List (List UInt8)) : Prop :=
  ∃ p c, v = .slice p ls.length c ∧ ls.length ≤ c ∧ c ≤ maxLen ∧ (0 < ls.length → ∃ b o, p = some ⟨b, o, none⟩ ∧ ∀ k, k < ls.length → w.cell? ⟨b, o + k, none⟩ = some (.string ⟨(lnth ls k).toArray⟩))

theorem StrsV.keep {w w' : World} {v : Value} {l : List (List UInt8)} (h : StrsV w v l) (hc : ∀ p x, w.cell? p = some x → w'.cell? p = some x) : StrsV w' v l := by
  obtain ⟨p, c, h1, h2, h3, h4⟩ := h
  refine ⟨p, c, h1, h2, h3, fun hp => ?_⟩
  obtain ⟨b, o, e, hk⟩ := h4 hp
  exact ⟨b, o, e, fun k hk' => hc _ _ (hk k hk')⟩

theorem StrsV.of_row {w : World} {base : Nat} {e : TypeId} {v : Value} {n : Nat} {l : List (List UInt8)} (h : w.ownsRow base e 1 v n (l.map sv)) : StrsV w v l := by
  have hl := h.1
  rw [List.length_map, Nat.mul_one] at hl
  subst hl
  rcases h.2 with ⟨rfl, h0⟩ | ⟨g, cap, cur, rfl, hg, hh, h1, h2, h3, h4⟩
  · exact ⟨none, 0, by rw [h0], by omega, by unfold maxLen; omega, fun h => by omega⟩
  · refine ⟨_, cap, rfl, h1, h2, fun hp => ⟨g, 0, rfl, fun k hk => ?_⟩⟩
    rw [Nat.zero_add, h.cellAt k (by omega)]
    simp [lnth, hk]

def dash : List UInt8 := [45, 45, 45]
/-- Which line ends front matter, from line i on. -/
def frontN (ls : List (List UInt8)) : Nat → Nat → Nat
  | 0, _ => 0
  | d + 1, i => if i < ls.length then (if trimL (lnth ls i) = dash then (if 0 < i then i + 1 else frontN ls d (i + 1)) else (if i = 0 then 0 else frontN ls d (i + 1))) else 0
def frontL (ls : List (List UInt8)) : Nat := frontN ls (ls.length + 1) 0

set_option maxRecDepth 100000 in
set_option maxHeartbeats 400000 in
theorem front_any (ls : List (List UInt8)) (v : Value) (w : World) (h : StrsV w v ls) (hn : ls.length ≤ 1099511627776) (hs : ∀ k, k < ls.length → (lnth ls k).length ≤ 1099511627776) :
    Calls Tryd.prog 14 #[v] w fun e w' => e = .returned (.int .i64 (frontL ls : Nat)) ∧ Only [] w w' := by
  obtain ⟨p, c, rfl, hc, hm, hk⟩ := h
  have hn' : (ls.length : Int) ≤ 1099511627776 := by omega
  have HS := Lib.hid hs
  have HK := Lib.hid hk
  clear hs hk hn
  go_enter Tryd.func14, Tryd.ntmps14
  go_wp2
  go_loopw [3, 4, 7] (fun _ _ iv wr => ∃ i : Nat, i ≤ ls.length ∧ iv = .int .i64 i ∧ frontL ls = frontN ls (ls.length + 1 - i) i ∧ Only [] w wr) (fun _ _ iv _ => ls.length - (intOf iv).toNat)
  case atStart => exact ⟨0, by omega, rfl, rfl, Only.refl _ _⟩
  case round =>
    obtain ⟨i, hi, rfl, hr, ho⟩ := hrel
    have HR := Lib.hid hr
    have HO := Lib.hid ho
    clear hr ho
    by_cases hlt : i < ls.length
    · obtain ⟨b, o, rfl, hcb⟩ := HK.out (by omega)
      have c1 := HO.out.cell_some (hcb i hlt) (by simp)
      have hsz : (⟨(lnth ls i).toArray⟩ : ByteArray).size ≤ maxLen := by rw [sv_len]; have := HS.out i hlt; unfold maxLen; omega
      have HSZ := Lib.hid hsz
      have hf : ls.length + 1 - i = (ls.length + 1 - (i + 1)) + 1 := by omega
      have HF := Lib.hid hf
      clear hcb hsz hf
      go_wp2_with (go_at_call 22; refine (trim_any ⟨(lnth ls i).toArray⟩ _ HSZ.out).mono ?_; rintro e w2 ⟨rfl, ho2⟩; have HO2 := Lib.hid ho2; clear ho2)
      · have ht : trimL (lnth ls i) = dash := by have h : (trimL (lnth ls i) == [45, 45, 45]) = true := by assumption
                                                 simpa [dash] using h
        have hp : 0 < i := by assumption
        go_ret
        exact ⟨ret_int (by rw [HR.out, HF.out, frontN, if_pos hlt, if_pos ht, if_pos hp]; omega), HO.out.trans HO2.out⟩
      · have ht : trimL (lnth ls i) = dash := by have h : (trimL (lnth ls i) == [45, 45, 45]) = true := by assumption
                                                 simpa [dash] using h
        have hp : ¬ 0 < i := by assumption
        go_roundw
        case rel => exact ⟨i + 1, by omega, by go_num, by rw [HR.out, HF.out, frontN, if_pos hlt, if_pos ht, if_neg hp], HO.out.trans HO2.out⟩
        case measure => simp [intOf]; omega
      · have ht : ¬ trimL (lnth ls i) = dash := by have h : (trimL (lnth ls i) == [45, 45, 45]) = false := by assumption
                                                   simpa [dash] using h
        have hp : i = 0 := by have h : ((i : Int) == 0) = true := by assumption
                              simpa using h
        go_ret
        exact ⟨ret_int (by rw [HR.out, HF.out, frontN, if_pos hlt, if_neg ht, if_pos hp]; rfl), HO.out.trans HO2.out⟩
      · have ht : ¬ trimL (lnth ls i) = dash := by have h : (trimL (lnth ls i) == [45, 45, 45]) = false := by assumption
                                                   simpa [dash] using h
        have hp : ¬ i = 0 := by have h : ((i : Int) == 0) = false := by assumption
                                simpa using h
        go_roundw
        case rel => exact ⟨i + 1, by omega, by go_num, by rw [HR.out, HF.out, frontN, if_pos hlt, if_neg ht, if_neg hp], HO.out.trans HO2.out⟩
        case measure => simp [intOf]; omega
    · go_wp2
      go_ret
      exact ⟨ret_int (by rw [HR.out]; cases hq : ls.length + 1 - i with | zero => rfl | succ q => rw [frontN, if_neg hlt]; rfl), HO.out⟩
/-- What a file that is gone through keeps: the fence that is open; was the last line code, was it blank. -/
structure St where
  fence : Option (UInt8 × Nat)
  code : Bool
  blank : Bool

/-- One line: what is kept, the labels. -/
def lineStep (P : Nat → Nat → List Int → Nat × List Int) (l : List UInt8) (s : List UInt8) (at_ to : Nat) (st : St) (L : List Int) : St × List Int :=
  match st.fence with
  | some (c, k) => (⟨if closesL s c k then none else some (c, k), false, false⟩, putR L at_ to 4)
  | none =>
    if trimL s = [] then (⟨none, st.code, true⟩, L)
    else if 3 < indentL s ∧ (st.blank = true ∨ st.code = true) then (⟨none, true, false⟩, putR L at_ to 4)
    else if opensL s ≠ none then (⟨opensL s, false, false⟩, putR L at_ to 4)
    else if refersL s then (⟨none, false, false⟩, putR L at_ to 2)
    else (⟨none, false, false⟩, inlL (P to) l at_ to L)

/-- A file that is gone through, whole: its block. -/
def DocAt (w : World) (bd bs b o c n : Nat) (st : St) : Prop :=
  w.heap[bd]? = some (.cells #[.pointer (some ⟨bs, 0, none⟩), .slice (some ⟨b, o, none⟩) n c, .string ⟨(fenceV st.fence).toArray⟩, .bool st.code, .bool st.blank] 45 (0, 0))

theorem DocAt.cells {w : World} {bd bs b o c n : Nat} {st : St} (h : DocAt w bd bs b o c n st) :
    w.cell? ⟨bd, 0, none⟩ = some (.pointer (some ⟨bs, 0, none⟩)) ∧ w.cell? ⟨bd, 0 + 1, none⟩ = some (.slice (some ⟨b, o, none⟩) n c) ∧ w.cell? ⟨bd, 0 + 1 + 1, none⟩ = some (.string ⟨(fenceV st.fence).toArray⟩) ∧
    w.cell? ⟨bd, 0 + 1 + 1 + 1, none⟩ = some (.bool st.code) ∧ w.cell? ⟨bd, 0 + 1 + 1 + 1 + 1, none⟩ = some (.bool st.blank) ∧ (∀ k, w.frozen? ⟨bd, k, none⟩ = false) :=
  ⟨by rw [cell_blk h]; rfl, by rw [cell_blk h]; rfl, by rw [cell_blk h]; rfl, by rw [cell_blk h]; rfl, by rw [cell_blk h]; rfl, free_blk h⟩

theorem DocAt.store {w : World} {bd bs b o c n : Nat} {st : St} (h : DocAt w bd bs b o c n st) (q : Nat) (x y : Bool) :
    DocAt (((w.drewN q).setCell ⟨bd, 4, none⟩ (.bool x)).setCell ⟨bd, 3, none⟩ (.bool y)) bd bs b o c n ⟨st.fence, y, x⟩ := by
  have h0 : DocAt (w.drewN q) bd bs b o c n st := h
  exact setCell_blk (setCell_blk h0 4 (.bool x)) 3 (.bool y)

theorem DocAt.store4 {w : World} {bd bs b o c n : Nat} {st : St} (h : DocAt w bd bs b o c n st) (x : Bool) : DocAt (w.setCell ⟨bd, 4, none⟩ (.bool x)) bd bs b o c n ⟨st.fence, st.code, x⟩ := setCell_blk h 4 (.bool x)
theorem DocAt.store3 {w : World} {bd bs b o c n : Nat} {st : St} (h : DocAt w bd bs b o c n st) (x : Bool) : DocAt (w.setCell ⟨bd, 3, none⟩ (.bool x)) bd bs b o c n ⟨st.fence, x, st.blank⟩ := setCell_blk h 3 (.bool x)
theorem DocAt.store2 {w : World} {bd bs b o c n : Nat} {st : St} (h : DocAt w bd bs b o c n st) (f : Option (UInt8 × Nat)) : DocAt (w.setCell ⟨bd, 2, none⟩ (.string ⟨(fenceV f).toArray⟩)) bd bs b o c n ⟨f, st.code, st.blank⟩ := setCell_blk h 2 _

/-- All that is known when a line is gone through: a file's block, its sheet, its bytes, in a world that came of w. -/
structure Lay (w : World) (bd bs bl b o c : Nat) (l : List UInt8) (st : St) (L : List Int) (w' : World) : Prop where
  only : Only [bl, bd] w w'
  env : Env w'
  doc : DocAt w' bd bs b o c l.length st
  read : DocR w' bd bs b o c l
  sheet : SheetAt w' bs bl L

theorem Lay.step {w w' w'' : World} {bd bs bl b o c : Nat} {l : List UInt8} {st st' : St} {L : List Int} (h : Lay w bd bs bl b o c l st L w') (ho : Only [bd] w' w'') (hd : DocAt w'' bd bs b o c l.length st') (hne : bd ≠ bl ∧ b ≠ bl ∧ bd ≠ bs ∧ bd ≠ b) (hg : bd ∉ envB) : Lay w bd bs bl b o c l st' L w'' :=
  ⟨h.only.trans (ho.mono (by simp)), h.env.keep ho (by simpa using hg), hd, ⟨hd.cells.1, hd.cells.2.1, fun k hk => ho.cell_some (h.read.cells k hk) (by simpa using Ne.symm hne.2.2.2), h.read.len, h.read.cap, h.read.max, h.read.some⟩,
    h.sheet.keep ho (by simpa using Ne.symm hne.2.2.1) (by simpa using Ne.symm hne.1)⟩

theorem Lay.step0 {w w' w'' : World} {bd bs bl b o c : Nat} {l : List UInt8} {st : St} {L : List Int} (h : Lay w bd bs bl b o c l st L w') (ho : Only [] w' w'') : Lay w bd bs bl b o c l st L w'' :=
  ⟨h.only.trans (ho.mono (by simp)), h.env.keep0 ho, ho.keep h.doc (by simp), h.read.keep ho (by simp) (by simp), h.sheet.keep ho (by simp) (by simp)⟩

theorem Lay.stepL {w w' w'' : World} {bd bs bl b o c : Nat} {l : List UInt8} {st : St} {L L' : List Int} (h : Lay w bd bs bl b o c l st L w') (ho : Only [bl] w' w'') (hs : SheetAt w'' bs bl L') (hne : bd ≠ bl ∧ b ≠ bl ∧ bd ≠ bs ∧ bd ≠ b) (hg : bl ∉ envB) : Lay w bd bs bl b o c l st L' w'' :=
  ⟨h.only.trans (ho.mono (by simp)), h.env.keep ho (by simpa using hg), ho.keep h.doc (by simpa using hne.1), h.read.keep ho (by simpa using hne.1) (by simpa using hne.2.1), hs⟩

theorem fenceV_ne {c : UInt8} {k : Nat} (h : 0 < k) : (fenceV (some (c, k))).isEmpty = false := by
  obtain ⟨m, rfl⟩ : ∃ m, k = m + 1 := ⟨k - 1, by omega⟩
  simp [fenceV]

theorem closes_fence (s : ByteArray) (c : UInt8) (n : Nat) (w : World) (hE : Env w) (hs : s.size ≤ 1099511627776) (hc : c.toNat < 128) (hn : 0 < n) (hn2 : n ≤ 1099511627776) :
    Calls Tryd.prog 23 #[.string s, .string ⟨(fenceV (some (c, n))).toArray⟩] w fun e w' => e = .returned (.bool (closesL s.data.toList c n)) ∧ Only [] w w' := by
  have h : (fenceV (some (c, n))).toArray = Array.replicate n c := by simp [fenceV]
  rw [h]
  exact closes_any s c n w hE hs hc hn hn2

set_option maxRecDepth 100000 in
set_option maxHeartbeats 1000000 in
theorem line_fence (P : Nat → Nat → List Int → Nat × List Int) (bd bs bl b o c at_ to k : Nat) (l : List UInt8) (s : ByteArray) (fc : UInt8) (co bk : Bool) (L : List Int) (w : World) (hy : Lay w bd bs bl b o c l ⟨some (fc, k), co, bk⟩ L w)
    (hne : bd ≠ bl ∧ b ≠ bl ∧ bd ≠ bs ∧ bd ≠ b) (hgl : bl ∉ envB ∧ bd ∉ envB) (hto : to ≤ l.length) (hat : at_ ≤ to) (hsz : s.size ≤ 65536) (hfe : fc.toNat < 128 ∧ 0 < k ∧ k ≤ 65536) :
    Calls Tryd.prog 16 #[.pointer (some ⟨bd, 0, none⟩), .string s, .int .i64 at_, .int .i64 to] w fun e w' => e = .returned (.tuple #[]) ∧ Lay w bd bs bl b o c l (lineStep P l s.data.toList at_ to ⟨some (fc, k), co, bk⟩ L).1 (lineStep P l s.data.toList at_ to ⟨some (fc, k), co, bk⟩ L).2 w' := by
  have hl : (l.length : Int) ≤ 65536 := by have := hy.read.len; omega
  obtain ⟨d0, d1, d2, d3, d4, d5⟩ := hy.doc.cells
  have d53 := d5 (0 + 1 + 1 + 1)
  have d54 := d5 (0 + 1 + 1 + 1 + 1)
  have HY := Lib.hid hy
  have HNE := Lib.hid hne
  have HG := Lib.hid hgl
  have HFE := Lib.hid hfe
  have hfv := fenceV_ne (c := fc) hfe.2.1
  have HSZ := Lib.hid hsz
  clear d5 hy hne hgl hfe hsz
  go_enter Tryd.func16, Tryd.ntmps16
  go_wp2
  go_quiet (fail)
  go_wp2_with fail
  have hy1 := HY.out.step (st' := ⟨some (fc, k), false, false⟩) (((Only.drewN (Only.refl [bd] w) nq).setCell (p := ⟨bd, 4, none⟩) (.inl (by simp)) (.bool false)).setCell (p := ⟨bd, 3, none⟩) (.inl (by simp)) (.bool false)) (HY.out.doc.store nq false false) HNE.out HG.out.2
  generalize (((w.drewN nq).setCell ⟨bd, 4, none⟩ (.bool false)).setCell ⟨bd, 3, none⟩ (.bool false)) = w1 at hy1 ⊢
  have HY1 := Lib.hid hy1
  clear hy1
  cases hcl : closesL s.data.toList fc k with
  | true =>
    refine (closes_fence s fc k w1 HY1.out.env (by have := HSZ.out; omega) HFE.out.1 HFE.out.2.1 (by have := HFE.out; omega)).mono ?_
    rintro e w2 ⟨rfl, ho2⟩
    have hy2 := HY1.out.step0 ho2
    have HY2 := Lib.hid hy2
    have e0 := hy2.doc.cells.1
    have e2 := hy2.doc.cells.2.2.1
    have e5 := hy2.doc.cells.2.2.2.2.2 (0 + 1 + 1)
    clear hy2 ho2 d0 d1 d2 d3 d4 d53 d54
    rw [hcl]
    go_wp2_with fail
    have hy3 := HY2.out.step (st' := ⟨none, false, false⟩) ((Only.refl [bd] w2).setCell (p := ⟨bd, 2, none⟩) (.inl (by simp)) (.string ⟨#[]⟩)) (HY2.out.doc.store2 none) HNE.out HG.out.2
    generalize (w2.setCell ⟨bd, 2, none⟩ (.string ⟨#[]⟩)) = w3 at hy3 ⊢
    have HY3 := Lib.hid hy3
    clear hy3 e0 e2 e5
    refine (set_any bs bl 4 at_ to L _ HY3.out.sheet (by omega) (by omega)).mono ?_
    rintro e w9 ⟨rfl, ho9, hs9⟩
    go_wp2
    go_end0
    refine ⟨rfl, ?_⟩
    rw [show lineStep P l s.data.toList at_ to _ L = (⟨none, false, false⟩, putR L at_ to 4) by simp [lineStep, hcl]]
    exact HY3.out.stepL ho9 hs9 HNE.out HG.out.1
  | false =>
    refine (closes_fence s fc k w1 HY1.out.env (by have := HSZ.out; omega) HFE.out.1 HFE.out.2.1 (by have := HFE.out; omega)).mono ?_
    rintro e w2 ⟨rfl, ho2⟩
    have hy2 := HY1.out.step0 ho2
    have HY2 := Lib.hid hy2
    have e0 := hy2.doc.cells.1
    clear hy2 ho2 d0 d1 d2 d3 d4 d53 d54
    rw [hcl]
    go_wp2_with fail
    refine (set_any bs bl 4 at_ to L _ HY2.out.sheet (by omega) (by omega)).mono ?_
    rintro e w9 ⟨rfl, ho9, hs9⟩
    go_wp2
    go_end0
    refine ⟨rfl, ?_⟩
    rw [show lineStep P l s.data.toList at_ to _ L = (⟨some (fc, k), false, false⟩, putR L at_ to 4) by simp [lineStep, hcl]]
    exact HY2.out.stepL ho9 hs9 HNE.out HG.out.1

theorem opensL_pos {l : List UInt8} {c : UInt8} {k : Nat} (h : opensL l = some (c, k)) : 3 ≤ k ∧ k ≤ l.length ∧ (c = 96 ∨ c = 126) := by
  unfold opensL at h
  split at h
  · unfold fenceAt at h
    split at h
    · rename_i h3
      simp only [Option.some.injEq, Prod.mk.injEq] at h
      obtain ⟨rfl, rfl⟩ := h
      simp only [List.length_drop] at h3 ⊢
      exact ⟨h3.1, by omega, by simp⟩
    · split at h
      · rename_i h3
        simp only [Option.some.injEq, Prod.mk.injEq] at h
        obtain ⟨rfl, rfl⟩ := h
        simp only [List.length_drop] at h3 ⊢
        exact ⟨h3, by omega, by simp⟩
      · simp at h
  · simp at h

/-- The head of a line's walk, where no fence is open: the kept flags are read and struck; then trim is called. -/
theorem lineStep_none (P : Nat → Nat → List Int → Nat × List Int) (l s : List UInt8) (at_ to : Nat) (co bk : Bool) (L : List Int) : lineStep P l s at_ to ⟨none, co, bk⟩ L =
    if trimL s = [] then (⟨none, co, true⟩, L)
    else if 3 < indentL s ∧ (bk = true ∨ co = true) then (⟨none, true, false⟩, putR L at_ to 4)
    else if opensL s ≠ none then (⟨opensL s, false, false⟩, putR L at_ to 4)
    else if refersL s then (⟨none, false, false⟩, putR L at_ to 2)
    else (⟨none, false, false⟩, inlL (P to) l at_ to L) := rfl

set_option maxRecDepth 100000 in
set_option maxHeartbeats 1000000 in
theorem line_none (P : Nat → Nat → List Int → Nat × List Int) (bd bs bl b o c at_ to : Nat) (l : List UInt8) (s : ByteArray) (co bk : Bool) (L : List Int) (w : World) (hy : Lay w bd bs bl b o c l ⟨none, co, bk⟩ L w)
    (hne : bd ≠ bl ∧ b ≠ bl ∧ bd ≠ bs ∧ bd ≠ b) (hgl : bl ∉ envB ∧ bd ∉ envB) (hto : to ≤ l.length) (hat : at_ ≤ to) (hsz : s.size ≤ 65536)
    (hP : POk (P to) l to)
    (hC : ∀ k L' w', k < to → bt l k = 60 → DocR w' bd bs b o c l → SheetAt w' bs bl L' → Env w' → Calls Tryd.prog 38 #[.pointer (some ⟨bd, 0, none⟩), .int .i64 k, .int .i64 to] w' fun e w'' => e = .returned (.int .i64 ((P to k L').1 : Nat)) ∧ Only [bl] w' w'' ∧ SheetAt w'' bs bl (P to k L').2) :
    Calls Tryd.prog 16 #[.pointer (some ⟨bd, 0, none⟩), .string s, .int .i64 at_, .int .i64 to] w fun e w' => e = .returned (.tuple #[]) ∧ Lay w bd bs bl b o c l (lineStep P l s.data.toList at_ to ⟨none, co, bk⟩ L).1 (lineStep P l s.data.toList at_ to ⟨none, co, bk⟩ L).2 w' := by
  have hl : (l.length : Int) ≤ 65536 := by have := hy.read.len; omega
  obtain ⟨d0, d1, d2, d3, d4, d5⟩ := hy.doc.cells
  have d53 := d5 (0 + 1 + 1 + 1)
  have d54 := d5 (0 + 1 + 1 + 1 + 1)
  have HY := Lib.hid hy
  have HNE := Lib.hid hne
  have HG := Lib.hid hgl
  have HSZ := Lib.hid hsz
  have HP := Lib.hid hP
  have HC := Lib.hid hC
  have d2' : w.cell? ⟨bd, 0 + 1 + 1, none⟩ = some (.string ⟨#[]⟩) := d2
  clear d5 hy hne hgl hsz hP hC d2
  go_enter Tryd.func16, Tryd.ntmps16
  go_wp2
  go_quiet (fail)
  go_wp2_with fail
  have hy1 := HY.out.step (st' := ⟨none, false, false⟩) (((Only.drewN (Only.refl [bd] w) nq).setCell (p := ⟨bd, 4, none⟩) (.inl (by simp)) (.bool false)).setCell (p := ⟨bd, 3, none⟩) (.inl (by simp)) (.bool false)) (HY.out.doc.store nq false false) HNE.out HG.out.2
  generalize (((w.drewN nq).setCell ⟨bd, 4, none⟩ (.bool false)).setCell ⟨bd, 3, none⟩ (.bool false)) = w1 at hy1 ⊢
  have HY1 := Lib.hid hy1
  clear hy1 d0 d1 d2' d3 d4 d53 d54
  refine (trim_any s w1 (by have := HSZ.out; unfold maxLen; omega)).mono ?_
  rintro e w2 ⟨rfl, ho2⟩
  have hy2 := HY1.out.step0 ho2
  have HY2 := Lib.hid hy2
  have e0 := hy2.doc.cells.1
  have e53 := hy2.doc.cells.2.2.2.2.2 (0 + 1 + 1 + 1)
  have e54 := hy2.doc.cells.2.2.2.2.2 (0 + 1 + 1 + 1 + 1)
  have e3 := hy2.doc.cells.2.2.2.1
  have e4 := hy2.doc.cells.2.2.2.2.1
  clear hy2 ho2
  by_cases ht : trimL s.data.toList = []
  · have ht' : (trimL s.data.toList).isEmpty = true := by simp [ht]
    have HT := Lib.hid ht
    clear ht
    go_wp2_with fail
    go_end0
    rw [lineStep_none, if_pos HT.out]
    exact ⟨rfl, HY2.out.step (st' := ⟨none, co, true⟩) (((Only.refl [bd] w2).setCell (p := ⟨bd, 4, none⟩) (.inl (by simp)) (.bool true)).setCell (p := ⟨bd, 3, none⟩) (.inl (by simp)) (.bool co)) ((HY2.out.doc.store4 true).store3 co) HNE.out HG.out.2⟩
  · have ht' : (trimL s.data.toList).isEmpty = false := by simpa using ht
    have HT := Lib.hid ht
    clear ht
    go_wp2_with fail
    refine (indent_any s w2 (by have := HSZ.out; unfold maxLen; omega)).mono ?_
    rintro e w2' ⟨rfl, rfl⟩
    by_cases hi : 3 < indentL s.data.toList
    · have hi' : (3 : Int) < (indentL s.data.toList : Int) := by omega
      cases hbc : (bk || co) with
      | true =>
        have hbc' : bk = true ∨ co = true := by simpa using hbc
        have HBC := Lib.hid hbc'
        have HY2a := HY2
        have hgoal : ∀ w3, w3 = w2.setCell ⟨bd, 3, none⟩ (.bool true) → Lay w bd bs bl b o c l ⟨none, true, false⟩ L w3 := by
          rintro w3 rfl
          exact HY2.out.step (st' := ⟨none, true, false⟩) ((Only.refl [bd] w2).setCell (p := ⟨bd, 3, none⟩) (.inl (by simp)) (.bool true)) (HY2.out.doc.store3 true) HNE.out HG.out.2
        have HGO := Lib.hid hgoal
        clear hgoal hbc'
        cases bk
        all_goals
          simp only [Bool.false_or, Bool.true_or] at hbc
          try subst hbc
          go_wp2_with fail
          have hy3 := HGO.out _ rfl
          generalize (w2.setCell ⟨bd, 3, none⟩ (.bool true)) = w3 at hy3 ⊢
          have HY3 := Lib.hid hy3
          clear hy3
          refine (set_any bs bl 4 at_ to L _ HY3.out.sheet (by omega) (by omega)).mono ?_
          rintro e w9 ⟨rfl, ho9, hs9⟩
          go_wp2
          go_end0
          refine ⟨rfl, ?_⟩
          rw [lineStep_none, if_neg HT.out, if_pos (by simp [hi])]
          exact HY3.out.stepL ho9 hs9 HNE.out HG.out.1
      | false =>
        simp only [Bool.or_eq_false_iff] at hbc
        obtain ⟨rfl, rfl⟩ := hbc
        go_wp2_with fail
        refine (opens_any s w2 (by have := HSZ.out; omega)).mono ?_
        rintro e w3 ⟨rfl, ho3⟩
        have hy3 := HY2.out.step0 ho3
        have HY3 := Lib.hid hy3
        have f0 := hy3.doc.cells.1
        clear hy3 ho3 e0 e53 e54 e3 e4
        cases hop : opensL s.data.toList with
        | some q =>
          obtain ⟨fc, k⟩ := q
          have hfv : (fenceV (some (fc, k))).isEmpty = false := fenceV_ne (by have := opensL_pos hop; omega)
          go_wp2_with fail
          refine (opens_any s w3 (by have := HSZ.out; omega)).mono ?_
          rintro e w4 ⟨rfl, ho4⟩
          have hy4 := HY3.out.step0 ho4
          have HY4 := Lib.hid hy4
          have g0 := hy4.doc.cells.1
          have g5 := hy4.doc.cells.2.2.2.2.2 (0 + 1 + 1)
          have g2 := hy4.doc.cells.2.2.1
          clear hy4 ho4 f0
          rw [hop]
          go_wp2_with fail
          have hy5 := HY4.out.step (st' := ⟨some (fc, k), false, false⟩) ((Only.refl [bd] w4).setCell (p := ⟨bd, 2, none⟩) (.inl (by simp)) (.string ⟨(fenceV (some (fc, k))).toArray⟩)) (HY4.out.doc.store2 (some (fc, k))) HNE.out HG.out.2
          generalize (w4.setCell ⟨bd, 2, none⟩ (.string ⟨(fenceV (some (fc, k))).toArray⟩)) = w5 at hy5 ⊢
          have HY5 := Lib.hid hy5
          clear hy5 g0 g5 g2
          refine (set_any bs bl 4 at_ to L _ HY5.out.sheet (by omega) (by omega)).mono ?_
          rintro e w9 ⟨rfl, ho9, hs9⟩
          go_wp2
          go_end0
          refine ⟨rfl, ?_⟩
          rw [lineStep_none, if_neg HT.out, if_neg (by simp), hop, if_pos (by simp)]
          exact HY5.out.stepL ho9 hs9 HNE.out HG.out.1
        | none =>
          go_wp2_with fail
          refine (refers_any s w3 (by have := HSZ.out; omega)).mono ?_
          rintro e w4 ⟨rfl, ho4⟩
          have hy4 := HY3.out.step0 ho4
          have HY4 := Lib.hid hy4
          have g0 := hy4.doc.cells.1
          clear hy4 ho4 f0
          cases hre : refersL s.data.toList with
          | true =>
            go_wp2_with fail
            refine (set_any bs bl 2 at_ to L _ HY4.out.sheet (by omega) (by omega)).mono ?_
            rintro e w9 ⟨rfl, ho9, hs9⟩
            go_wp2
            go_end0
            refine ⟨rfl, ?_⟩
            rw [lineStep_none, if_neg HT.out, if_neg (by simp), hop, if_neg (by simp), hre, if_pos rfl]
            exact HY4.out.stepL ho9 hs9 HNE.out HG.out.1
          | false =>
            go_wp2_with fail
            refine (inline_any (P to) bd bs bl b o c at_ to l L w4 HY4.out.read HY4.out.sheet HNE.out.1 HNE.out.2.1 hto hat HP.out (fun k L' w' h1 h2 h3 h4 h5 => HC.out k L' w' h1 h2 h3 h4 (HY4.out.env.keep h5 (by simpa using HG.out.1)))).mono ?_
            rintro e w9 ⟨rfl, ho9, hs9⟩
            go_wp2
            go_end0
            refine ⟨rfl, ?_⟩
            rw [lineStep_none, if_neg HT.out, if_neg (by simp), hop, if_neg (by simp), hre, if_neg (by simp)]
            exact HY4.out.stepL ho9 hs9 HNE.out HG.out.1
    · have hi' : decide ((3 : Int) < (indentL s.data.toList : Int)) = false := by simp; omega
      go_wp2_with fail
      refine (opens_any s w2 (by have := HSZ.out; omega)).mono ?_
      rintro e w3 ⟨rfl, ho3⟩
      have hy3 := HY2.out.step0 ho3
      have HY3 := Lib.hid hy3
      have f0 := hy3.doc.cells.1
      clear hy3 ho3 e0 e53 e54 e3 e4
      cases hop : opensL s.data.toList with
      | some q =>
        obtain ⟨fc, k⟩ := q
        have hfv : (fenceV (some (fc, k))).isEmpty = false := fenceV_ne (by have := opensL_pos hop; omega)
        go_wp2_with fail
        refine (opens_any s w3 (by have := HSZ.out; omega)).mono ?_
        rintro e w4 ⟨rfl, ho4⟩
        have hy4 := HY3.out.step0 ho4
        have HY4 := Lib.hid hy4
        have g0 := hy4.doc.cells.1
        have g5 := hy4.doc.cells.2.2.2.2.2 (0 + 1 + 1)
        have g2 := hy4.doc.cells.2.2.1
        clear hy4 ho4 f0
        rw [hop]
        go_wp2_with fail
        have hy5 := HY4.out.step (st' := ⟨some (fc, k), false, false⟩) ((Only.refl [bd] w4).setCell (p := ⟨bd, 2, none⟩) (.inl (by simp)) (.string ⟨(fenceV (some (fc, k))).toArray⟩)) (HY4.out.doc.store2 (some (fc, k))) HNE.out HG.out.2
        generalize (w4.setCell ⟨bd, 2, none⟩ (.string ⟨(fenceV (some (fc, k))).toArray⟩)) = w5 at hy5 ⊢
        have HY5 := Lib.hid hy5
        clear hy5 g0 g5 g2
        refine (set_any bs bl 4 at_ to L _ HY5.out.sheet (by omega) (by omega)).mono ?_
        rintro e w9 ⟨rfl, ho9, hs9⟩
        go_wp2
        go_end0
        refine ⟨rfl, ?_⟩
        rw [lineStep_none, if_neg HT.out, if_neg (by simp [hi]), hop, if_pos (by simp)]
        exact HY5.out.stepL ho9 hs9 HNE.out HG.out.1
      | none =>
        go_wp2_with fail
        refine (refers_any s w3 (by have := HSZ.out; omega)).mono ?_
        rintro e w4 ⟨rfl, ho4⟩
        have hy4 := HY3.out.step0 ho4
        have HY4 := Lib.hid hy4
        have g0 := hy4.doc.cells.1
        clear hy4 ho4 f0
        cases hre : refersL s.data.toList with
        | true =>
          go_wp2_with fail
          refine (set_any bs bl 2 at_ to L _ HY4.out.sheet (by omega) (by omega)).mono ?_
          rintro e w9 ⟨rfl, ho9, hs9⟩
          go_wp2
          go_end0
          refine ⟨rfl, ?_⟩
          rw [lineStep_none, if_neg HT.out, if_neg (by simp [hi]), hop, if_neg (by simp), hre, if_pos rfl]
          exact HY4.out.stepL ho9 hs9 HNE.out HG.out.1
        | false =>
          go_wp2_with fail
          refine (inline_any (P to) bd bs bl b o c at_ to l L w4 HY4.out.read HY4.out.sheet HNE.out.1 HNE.out.2.1 hto hat HP.out (fun k L' w' h1 h2 h3 h4 h5 => HC.out k L' w' h1 h2 h3 h4 (HY4.out.env.keep h5 (by simpa using HG.out.1)))).mono ?_
          rintro e w9 ⟨rfl, ho9, hs9⟩
          go_wp2
          go_end0
          refine ⟨rfl, ?_⟩
          rw [lineStep_none, if_neg HT.out, if_neg (by simp [hi]), hop, if_neg (by simp), hre, if_neg (by simp)]
          exact HY4.out.stepL ho9 hs9 HNE.out HG.out.1
end Go.Proofs.YtpohopmggpiomaaDoor
