/-
  mark.Lex: what the bytes of a file are.
-/
import Derived.Test.YtpohopmggpiomaaDoorMarkL
import Derived.Test.YtpohopmggpiomaaDoorLinesP
namespace Go.Proofs.YtpohopmggpiomaaDoor
open Go.RowKit

/-- Line by line. -/
def lexN (P : Nat → Nat → List Int → Nat × List Int) (l : List UInt8) (skip : Nat) : List (List UInt8) → Nat → Nat → St → List Int → List Int
  | [], _, _, _, L => L
  | s :: r, i, at_, st, L =>
    if i < skip then lexN P l skip r (i + 1) (at_ + s.length) st (putR L at_ (at_ + s.length) 4)
    else lexN P l skip r (i + 1) (at_ + s.length) (lineStep P l s at_ (at_ + s.length) st L).1 (lineStep P l s at_ (at_ + s.length) st L).2
/-- A file's labels. -/
def markL (P : Nat → Nat → List Int → Nat × List Int) (l : List UInt8) : List Int := lexN P l (frontL (splitL l)) (splitL l) 0 0 ⟨none, false, true⟩ (List.replicate l.length 1)

/-- Where line i begins. -/
def sumTo (ls : List (List UInt8)) (i : Nat) : Nat := ((ls.take i).map List.length).sum

theorem sumTo_succ (ls : List (List UInt8)) (i : Nat) (h : i < ls.length) : sumTo ls (i + 1) = sumTo ls i + (lnth ls i).length := by
  unfold sumTo lnth
  rw [List.take_succ_eq_append_getElem h, List.map_append, List.sum_append]
  simp [h]

theorem sumTo_le (ls : List (List UInt8)) (i : Nat) : sumTo ls i ≤ ls.flatten.length := by
  unfold sumTo
  rw [List.length_flatten]
  conv => rhs; rw [← List.take_append_drop i ls]
  rw [List.map_append, List.sum_append]
  omega

/-- What is kept is right: a fence's sign, its length. -/
def StOk (st : St) : Prop := ∀ c k, st.fence = some (c, k) → c.toNat < 128 ∧ 0 < k ∧ k ≤ 65536

theorem lineStep_ok {P : Nat → Nat → List Int → Nat × List Int} {l s : List UInt8} {at_ to : Nat} {st : St} {L : List Int} (hs : s.length ≤ 65536) (h : StOk st) : StOk (lineStep P l s at_ to st L).1 := by
  obtain ⟨f, co, bk⟩ := st
  cases f with
  | some q =>
    obtain ⟨c, k⟩ := q
    intro c' k' hf
    simp only [lineStep] at hf
    split at hf
    · cases hf
    · exact h c' k' hf
  | none =>
    rw [lineStep_none]
    split
    · intro c k hf; cases hf
    · split
      · intro c k hf; cases hf
      · split
        · intro c k hf
          have := opensL_pos hf
          refine ⟨?_, by omega, by omega⟩
          rcases this.2.2 with rfl | rfl <;> decide
        · split
          · intro c k hf; cases hf
          · intro c k hf; cases hf

/-- What Lex leaves: a sheet of these labels. -/
def SheetNew (w : World) (L : List Int) (e : Ending) (w' : World) : Prop :=
  ∃ bs bl, e = .returned (.tuple #[.pointer (some ⟨bs, 0, none⟩), .int .i64 0]) ∧ Only [] w w' ∧ w.heap.size ≤ bs ∧ w.heap.size ≤ bl ∧ SheetAt w' bs bl L

theorem envB_lt {w : World} (h : Env w) {b : Nat} (hb : w.heap.size ≤ b) : b ∉ envB := fun e => by have := h.lt b e; omega

set_option maxRecDepth 100000 in
set_option maxHeartbeats 1000000 in
theorem lex_nil (P : Nat → Nat → List Int → Nat × List Int) (v : Value) (w : World) (hE : Env w) (hv : BytesV w v []) :
    Calls Tryd.prog 8 #[v] w (SheetNew w (markL P [])) := by
  have HV := Lib.hid hv
  obtain ⟨p, c, rfl, hc, hm, -⟩ := hv
  have HE := Lib.hid hE
  clear hE
  go_enter Tryd.func8, Tryd.ntmps8
  go_wp2_with (go_at_call 12; refine (new_ok 0 _ (by omega)).mono ?_; rintro e w1 ⟨bs, bl, rfl, ho1, hb1, hb2, hb3, hb4, hb5⟩; have hs1 : SheetAt w1 bs bl [] := ⟨hb3, by simp, hb4, hb5⟩; have HS1 := Lib.hid hs1; have HO1 := Lib.hid ho1; clear hb3 hb4 hb5 hs1 ho1)
  have HV1 : Hid (BytesV (w1.alloc (.cells #[.pointer (some ⟨bs, 0, none⟩), .slice p 0 c, .string ⟨#[]⟩, .bool false, .bool true] 45)) (.slice p 0 c) []) := HV.out.keep fun q x hq => (HO1.out.alloc _).cell_some hq (by simp)
  have HO2 : Hid (Only [] w (w1.alloc (.cells #[.pointer (some ⟨bs, 0, none⟩), .slice p 0 c, .string ⟨#[]⟩, .bool false, .bool true] 45))) := HO1.out.alloc _
  have HS2 : Hid (SheetAt (w1.alloc (.cells #[.pointer (some ⟨bs, 0, none⟩), .slice p 0 c, .string ⟨#[]⟩, .bool false, .bool true] 45)) bs bl []) := HS1.out.keep ((Only.refl [] w1).alloc _) (by simp) (by simp)
  generalize w1.alloc (.cells #[.pointer (some ⟨bs, 0, none⟩), .slice p 0 c, .string ⟨#[]⟩, .bool false, .bool true] 45) = w2 at HV1 HO2 HS2 ⊢
  refine (split_any [] _ w2 HV1.out (by simp) (line_ok [])).mono ?_
  rintro e w3 ⟨r, rfl, ho3, hr⟩
  have hsp : splitL [] = [] := by decide
  rw [hsp] at hr
  obtain ⟨pr, cr, rfl, -⟩ := ownsRow_shape hr
  have HR := Lib.hid (StrsV.of_row (l := []) hr)
  have HO3 := Lib.hid ho3
  clear hr ho3
  go_wp2_with (go_at_call 14; refine (front_any [] _ w3 HR.out (by simp) (by simp)).mono ?_; rintro e w4 ⟨rfl, ho4⟩; have HO4 := Lib.hid ho4; clear ho4)
  refine wp_loop_rounds 1 ?_
  rw [rounds_succ]
  go_wp2
  go_ret2
  exact ⟨bs, bl, rfl, (HO2.out.trans HO3.out).trans HO4.out, hb1, hb2, HS2.out.keep (HO3.out.trans HO4.out) (by simp) (by simp)⟩

theorem lnth_size {l : List UInt8} {i : Nat} (h : i < (splitL l).length) : (lnth (splitL l) i).length ≤ l.length := by
  unfold lnth
  rw [List.getD_eq_getElem?_getD, List.getElem?_eq_getElem h]
  exact (split_mem l _ (List.getElem_mem h)).2

theorem lexN_drop (P : Nat → Nat → List Int → Nat × List Int) (l : List UInt8) (skip : Nat) (ls : List (List UInt8)) (i at_ : Nat) (st : St) (L : List Int) (h : i < ls.length) :
    lexN P l skip (ls.drop i) i at_ st L = if i < skip then lexN P l skip (ls.drop (i + 1)) (i + 1) (at_ + (lnth ls i).length) st (putR L at_ (at_ + (lnth ls i).length) 4)
    else lexN P l skip (ls.drop (i + 1)) (i + 1) (at_ + (lnth ls i).length) (lineStep P l (lnth ls i) at_ (at_ + (lnth ls i).length) st L).1 (lineStep P l (lnth ls i) at_ (at_ + (lnth ls i).length) st L).2 := by
  rw [List.drop_eq_getElem_cons h, lexN]
  have e : ls[i] = lnth ls i := by simp [lnth, h]
  rw [e]

set_option maxRecDepth 100000 in
set_option maxHeartbeats 1000000 in
theorem lex_some (P : Nat → Nat → List Int → Nat × List Int) (l : List UInt8) (v : Value) (w : World) (hE : Env w) (hv : BytesV w v l) (hl : l.length ≤ 65536) (hpos : 0 < l.length)
    (hP : ∀ to, to ≤ l.length → POk (P to) l to)
    (hC : ∀ bd bs bl b o c to k L' w', to ≤ l.length → k < to → bt l k = 60 → DocR w' bd bs b o c l → SheetAt w' bs bl L' → Env w' → bd ≠ bl ∧ b ≠ bl → bl ∉ envB → Calls Tryd.prog 38 #[.pointer (some ⟨bd, 0, none⟩), .int .i64 k, .int .i64 to] w' fun e w'' => e = .returned (.int .i64 ((P to k L').1 : Nat)) ∧ Only [bl] w' w'' ∧ SheetAt w'' bs bl (P to k L').2) :
    Calls Tryd.prog 8 #[v] w (SheetNew w (markL P l)) := by
  have HV := Lib.hid hv
  obtain ⟨p, c, rfl, hc, hm, hb⟩ := hv
  obtain ⟨b, o, rfl, hcell⟩ := hb hpos
  have HE := Lib.hid hE
  have HL := Lib.hid hl
  have HP := Lib.hid hP
  have HC := Lib.hid hC
  have HCELL := Lib.hid hcell
  have hl' : (l.length : Int) ≤ 65536 := by omega
  clear hE hl hP hC hcell
  go_enter Tryd.func8, Tryd.ntmps8
  go_wp2_with (go_at_call 12; refine (new_ok l.length _ hl').mono ?_; rintro e w1 ⟨bs, bl, rfl, ho1, hb1, hb2, hb3, hb4, hb5⟩; have hs1 : SheetAt w1 bs bl (List.replicate l.length 1) := ⟨hb3, by simpa using HL.out, by simpa using hb4, hb5⟩; have HS1 := Lib.hid hs1; have HO1 := Lib.hid ho1; have hlt1 := lt_of_block hb4; have hlt2 := lt_of_block hb5; clear hb3 hb4 hb5 hs1 ho1)
  have HDN : Hid (DocAt (w1.alloc (.cells #[.pointer (some ⟨bs, 0, none⟩), .slice (some ⟨b, o, none⟩) l.length c, .string ⟨#[]⟩, .bool false, .bool true] 45)) w1.heap.size bs b o c l.length ⟨none, false, true⟩) := alloc_new _ _
  have HO2 : Hid (Only [] w (w1.alloc (.cells #[.pointer (some ⟨bs, 0, none⟩), .slice (some ⟨b, o, none⟩) l.length c, .string ⟨#[]⟩, .bool false, .bool true] 45))) := HO1.out.alloc _
  have HS2 : Hid (SheetAt (w1.alloc (.cells #[.pointer (some ⟨bs, 0, none⟩), .slice (some ⟨b, o, none⟩) l.length c, .string ⟨#[]⟩, .bool false, .bool true] 45)) bs bl (List.replicate l.length 1)) := HS1.out.keep ((Only.refl [] w1).alloc _) (by simp) (by simp)
  have hsz2 : w1.heap.size < (w1.alloc (.cells #[.pointer (some ⟨bs, 0, none⟩), .slice (some ⟨b, o, none⟩) l.length c, .string ⟨#[]⟩, .bool false, .bool true] 45)).heap.size := by simp
  generalize w1.alloc (.cells #[.pointer (some ⟨bs, 0, none⟩), .slice (some ⟨b, o, none⟩) l.length c, .string ⟨#[]⟩, .bool false, .bool true] 45) = w2 at HDN HO2 HS2 hsz2 ⊢
  refine (split_any l _ w2 (HV.out.keep fun q x hq => HO2.out.cell_some hq (by simp)) (by have := HL.out; omega) (line_ok l)).mono ?_
  rintro e w3 ⟨r, rfl, ho3, hr⟩
  have hnl := split_len l
  have hrlt := hr.lt
  obtain ⟨pr, cr, rfl, hcr⟩ := ownsRow_shape hr
  have HR := Lib.hid hr
  have HO3 := Lib.hid ho3
  have HRLT := Lib.hid hrlt
  clear hr ho3 hrlt
  go_wp2_with (go_at_call 14; refine (front_any (splitL l) _ w3 (StrsV.of_row HR.out) (by have := HL.out; omega) (fun k hk => by have := lnth_size hk; have := HL.out; omega)).mono ?_; rintro e w4 ⟨rfl, ho4⟩; have HO4 := Lib.hid ho4; clear ho4)
  have hbw : b < w.heap.size := lt_of_cell (HCELL.out 0 hpos)
  have hszw := HO1.out.size
  have hne : w1.heap.size ≠ bl ∧ b ≠ bl ∧ w1.heap.size ≠ bs ∧ w1.heap.size ≠ b := by omega
  have hgl : bl ∉ envB ∧ w1.heap.size ∉ envB := ⟨envB_lt HE.out (by omega), envB_lt HE.out (by omega)⟩
  have hlay : Lay w4 w1.heap.size bs bl b o c l ⟨none, false, true⟩ (List.replicate l.length 1) w4 := by
    have h34 := HO3.out.trans HO4.out
    have hda : DocAt w4 w1.heap.size bs b o c l.length ⟨none, false, true⟩ := h34.keep HDN.out (by simp)
    have hal := HO2.out.trans h34
    exact ⟨Only.refl _ _, HE.out.keep0 hal, hda, ⟨hda.cells.1, hda.cells.2.1, fun k hk => hal.cell_some (HCELL.out k hk) (by simp), HL.out, hc, hm, hpos⟩, HS2.out.keep h34 (by simp) (by simp)⟩
  have HNE := Lib.hid hne
  have HGL := Lib.hid hgl
  have HLAY := Lib.hid hlay
  have hfl := split_flat l
  have HFL : Hid (∀ i, sumTo (splitL l) i ≤ l.length) := fun i => by have := sumTo_le (splitL l) i; rwa [hfl] at this
  have HW := Lib.hid hsz2
  have HBOUND : Hid (w.heap.size ≤ bs ∧ w.heap.size ≤ bl ∧ w.heap.size ≤ w1.heap.size) := ⟨hb1, hb2, HO1.out.size⟩
  have HW4 : Hid (Only [] w w4) := HO2.out.trans (HO3.out.trans HO4.out)
  have hn' : ((splitL l).length : Int) ≤ 65536 := by omega
  clear hne hgl hlay hfl hsz2 hlt1 hlt2 hb1 hb2 hbw hszw
  go_loopw [9, 10, 11, 12, 32] (fun av _ _ _ iv wr => ∃ (i : Nat) (st : St) (L : List Int), i ≤ (splitL l).length ∧ iv = .int .i64 i ∧ av = .int .i64 (sumTo (splitL l) i : Nat) ∧ StOk st ∧ markL P l = lexN P l (frontL (splitL l)) ((splitL l).drop i) i (sumTo (splitL l) i) st L ∧ Lay w4 w1.heap.size bs bl b o c l st L wr) (fun _ _ _ _ iv _ => (splitL l).length - (intOf iv).toNat)
  case atStart => exact ⟨0, ⟨none, false, true⟩, List.replicate l.length 1, by omega, rfl, rfl, (fun c k h => by cases h), rfl, HLAY.out⟩
  case round =>
    obtain ⟨i, st, L, hi, rfl, rfl, hst, hmk, hly⟩ := hrel
    have HST := Lib.hid hst
    have HMK := Lib.hid hmk
    have HLY := Lib.hid hly
    clear hst hmk hly
    by_cases hlt : i < (splitL l).length
    · have hsl := lnth_size hlt
      have hsum := HFL.out (i + 1)
      rw [sumTo_succ _ _ hlt] at hsum
      obtain ⟨g, cg, hpr, hg, -⟩ := ownsRow_some HR.out (by omega)
      have hrc : wr.cell? ⟨g, i, none⟩ = some (.string ⟨(lnth (splitL l) i).toArray⟩) := by
        have h0 : w3.cell? ⟨g, i, none⟩ = some (.string ⟨(lnth (splitL l) i).toArray⟩) := by
          have hh := HR.out
          rw [hpr] at hh
          rw [hh.cellAt i (by omega)]
          simp [lnth, hlt]
        have hgb : g ≠ bl ∧ g ≠ w1.heap.size := by
          have := HW.out
          have := lt_of_block HS1.out.2.2.2
          omega
        exact HLY.out.only.cell_some (HO4.out.cell_some h0 (by simp)) (by simp only [List.mem_cons, List.not_mem_nil, or_false]; omega)
      simp only [Value.slice.injEq, true_and] at hpr
      obtain ⟨rfl, rfl⟩ := hpr
      have hslen : (⟨(lnth (splitL l) i).toArray⟩ : ByteArray).size = (lnth (splitL l) i).length := sv_len _
      have HSUM := Lib.hid hsum
      have hsum' : ((sumTo (splitL l) i : Nat) : Int) + ((lnth (splitL l) i).length : Int) ≤ l.length := by omega
      have e0 := HLY.out.doc.cells.1
      clear hsum
      by_cases hsk : i < frontL (splitL l)
      · go_wp2_with fail
        refine (set_any bs bl 4 (sumTo (splitL l) i) (sumTo (splitL l) i + (lnth (splitL l) i).length) L wr HLY.out.sheet (by omega) (by omega)).mono ?_
        rintro e w5 ⟨rfl, ho5, hs5⟩
        have HLY5 := Lib.hid (HLY.out.stepL ho5 hs5 HNE.out HGL.out.1)
        clear ho5 hs5
        go_wp2
        go_roundw
        case rel =>
          refine ⟨i + 1, st, _, by omega, by go_num, ?_, HST.out, ?_, HLY5.out⟩
          · rw [sumTo_succ _ _ hlt]; go_num
          · rw [HMK.out, lexN_drop _ _ _ _ _ _ _ _ hlt, if_pos hsk, sumTo_succ _ _ hlt]
        case measure => simp [intOf]; omega
      · go_wp2_with fail
        have hC : ∀ k L' w', k < sumTo (splitL l) i + (lnth (splitL l) i).length → bt l k = 60 → DocR w' w1.heap.size bs b o c l → SheetAt w' bs bl L' → Env w' → Calls Tryd.prog 38 #[.pointer (some ⟨w1.heap.size, 0, none⟩), .int .i64 k, .int .i64 ((sumTo (splitL l) i + (lnth (splitL l) i).length : Nat) : Int)] w' fun e w'' => e = .returned (.int .i64 ((P (sumTo (splitL l) i + (lnth (splitL l) i).length) k L').1 : Nat)) ∧ Only [bl] w' w'' ∧ SheetAt w'' bs bl (P (sumTo (splitL l) i + (lnth (splitL l) i).length) k L').2 :=
          fun k L' w' h1 h2 h3 h4 h5 => HC.out _ bs bl b o c _ k L' w' HSUM.out h1 h2 h3 h4 h5 ⟨HNE.out.1, HNE.out.2.1⟩ HGL.out.1
        have hly := HLY.out
        have hst := HST.out
        have hok := lineStep_ok (P := P) (l := l) (s := lnth (splitL l) i) (at_ := sumTo (splitL l) i) (to := sumTo (splitL l) i + (lnth (splitL l) i).length) (st := st) (L := L) (by have := HL.out; omega) hst
        have hline : Calls Tryd.prog 16 #[.pointer (some ⟨w1.heap.size, 0, none⟩), .string ⟨(lnth (splitL l) i).toArray⟩, .int .i64 (sumTo (splitL l) i : Nat), .int .i64 ((sumTo (splitL l) i + (lnth (splitL l) i).length : Nat) : Int)] wr fun e w' => e = .returned (.tuple #[]) ∧ Lay w4 w1.heap.size bs bl b o c l (lineStep P l (lnth (splitL l) i) (sumTo (splitL l) i) (sumTo (splitL l) i + (lnth (splitL l) i).length) st L).1 (lineStep P l (lnth (splitL l) i) (sumTo (splitL l) i) (sumTo (splitL l) i + (lnth (splitL l) i).length) st L).2 w' := by
          have hlyr : Lay wr w1.heap.size bs bl b o c l st L wr := ⟨Only.refl _ _, hly.env, hly.doc, hly.read, hly.sheet⟩
          obtain ⟨fe, co, bk⟩ := st
          cases fe with
          | none => exact (line_none P w1.heap.size bs bl b o c _ _ l ⟨(lnth (splitL l) i).toArray⟩ co bk L wr hlyr HNE.out HGL.out HSUM.out (by omega) (by rw [sv_len]; have := HL.out; omega) (HP.out _ HSUM.out) hC).mono fun e w' ⟨h1, h2⟩ => ⟨h1, ⟨hly.only.trans h2.only, h2.env, h2.doc, h2.read, h2.sheet⟩⟩
          | some q =>
            obtain ⟨fc, k⟩ := q
            exact (line_fence P w1.heap.size bs bl b o c _ _ k l ⟨(lnth (splitL l) i).toArray⟩ fc co bk L wr hlyr HNE.out HGL.out HSUM.out (by omega) (by rw [sv_len]; have := HL.out; omega) (hst fc k rfl)).mono fun e w' ⟨h1, h2⟩ => ⟨h1, ⟨hly.only.trans h2.only, h2.env, h2.doc, h2.read, h2.sheet⟩⟩
        have HOK := Lib.hid hok
        clear hC hly hst hok
        refine hline.mono ?_
        clear hline
        rintro e w5 ⟨rfl, hly5⟩
        have HLY5 := Lib.hid hly5
        clear hly5
        go_wp2
        go_roundw
        case rel =>
          refine ⟨i + 1, _, _, by omega, by go_num, ?_, HOK.out, ?_, HLY5.out⟩
          · rw [sumTo_succ _ _ hlt]; go_num
          · rw [HMK.out, lexN_drop _ _ _ _ _ _ _ _ hlt, if_neg hsk, sumTo_succ _ _ hlt]
        case measure => simp [intOf]; omega
    · obtain rfl : i = (splitL l).length := by omega
      go_wp2
      go_ret2
      refine ⟨bs, bl, rfl, ?_, HBOUND.out.1, HBOUND.out.2.1, ?_⟩
      · exact HW4.out.trans' HLY.out.only (by have := HBOUND.out; intro k hk; simp only [List.mem_cons, List.not_mem_nil, or_false] at hk; right; omega)
      · have := HLY.out.sheet
        rw [HMK.out, List.drop_length, lexN]
        exact this
end Go.Proofs.YtpohopmggpiomaaDoor
