/-
  html.attribute: a name, and a value.
-/
import Derived.Test.YtpohopmggpiomaaDoorHtmlS
import Derived.Deep.RegionWith
namespace Go.Proofs.YtpohopmggpiomaaDoor
open Go.RowKit

theorem ScanAt.two {w : World} {sb b o c k : Nat} {l : List UInt8} (h : ScanAt w sb b o c l k) :
    w.cell? ⟨sb, 0, none⟩ = some (.slice (some ⟨b, o, none⟩) l.length c) ∧ w.cell? ⟨sb, 0 + 1, none⟩ = some (.int .i64 k) ∧ w.frozen? ⟨sb, 0 + 1, none⟩ = false :=
  ⟨by rw [cell_blk h.1 0]; rfl, by rw [cell_blk h.1 (0 + 1)]; rfl, h.free⟩

/-- A region that draws its order and whose operations leave all that there is as it is (calls may make blocks): one walk of the lexical order. -/
theorem wp_region_keep {P : Program} {id : Nat} {Q : Exit → Act → World → Prop} {a : Act} {w : World} {l : List Oper} (W : World) (S : List Nat) (hm : P.follows .mixedOrders = true) (hB : Region.lexB .any l.toArray = true)
    (hw : Only S W w) (h : wpQuiet P l.toArray (fun w' => Only S W w') (fun a' => ∀ w', Only S W w' → Q .normal a' w') l a) : (Code.region id l.toArray true).wp P Q a w :=
  wp_region_quiet (C := fun w' => Only S W w') hm hB ⟨hw.os, hw.tape, hw.output, hw.size, hw.block⟩ (by simpa using h)

/-- The result's cells. -/
def SpanAt (w : World) (rb : Nat) (x y : Int) : Prop := w.heap[rb]? = some (.cells #[.int .i64 x, .int .i64 y] 33 (0, 0))
theorem SpanAt.keep {w w' : World} {rb : Nat} {x y : Int} (h : SpanAt w rb x y) {S : List Nat} (ho : Only S w w') (hn : rb ∉ S) : SpanAt w' rb x y := Only.keep ho h hn

theorem SpanAt.store {w : World} {rb : Nat} {x y : Int} (h : SpanAt w rb x y) (x' y' : Int) : SpanAt ((w.setCell ⟨rb, 0, none⟩ (.int .i64 x')).setCell ⟨rb, 1, none⟩ (.int .i64 y')) rb x' y' :=
  setCell_blk (setCell_blk h 0 (.int .i64 x')) 1 (.int .i64 y')
theorem ret_span {fn : Func} {p u : Tmp} (h : fn.results = #[.cell p 33, .tmp u]) (tmps : Array Value) (w : World) (rb : Nat) (x y : Int) (hp : tmps.getD p undef = .pointer (some ⟨rb, 0, none⟩)) (hs : SpanAt w rb x y) :
    (results fn tmps).run Tryd.prog w = .ok (.tuple #[.agg #[.int .i64 x, .int .i64 y], tmps.getD u undef]) w := by
  have h0 : w.cell? ⟨rb, 0, none⟩ = some (.int .i64 x) := by rw [cell_blk hs 0]; rfl
  have h1 : w.cell? ⟨rb, 0 + 1, none⟩ = some (.int .i64 y) := by rw [cell_blk hs (0 + 1)]; rfl
  rw [results_cell_tmp h, hp]
  simp [go_sem, asAddr, Result.andThen, loadVar, h0, h1]

theorem attrL_no {l : List UInt8} {k a1 a2 : Nat} (h1 : whL keyP l (k + 1) = a1) (h2 : whL blaP l a1 = a2) (hq : (decide (a2 < l.length) && (bt l a2 == 61)) = false) : attrL l k = (a2, 0, 0, false) := by
  unfold attrL eqL
  rw [h1, h2, if_neg]
  intro h
  simp [h.1, h.2] at hq
theorem attrL_val {l : List UInt8} {k a1 a2 a3 : Nat} (h1 : whL keyP l (k + 1) = a1) (h2 : whL blaP l a1 = a2) (hq : (decide (a2 < l.length) && (bt l a2 == 61)) = true) (h3 : whL blaP l (a2 + 1) = a3)
    (h34 : (decide (a3 < l.length) && (bt l a3 == 34)) = false) (h39 : (decide (a3 < l.length) && (bt l a3 == 39)) = false) : attrL l k = (whL valP l a3, 0, 0, false) := by
  unfold attrL eqL valL
  simp only [Bool.and_eq_true, decide_eq_true_eq, beq_iff_eq] at hq
  rw [h1, h2, if_pos hq, h3, if_neg]
  intro h
  rcases Bool.or_eq_true _ _ ▸ h.2 with h' | h'
  · simp [h.1, h'] at h34
  · simp [h.1, h'] at h39
theorem attrL_quo {l : List UInt8} {k a1 a2 a3 a5 : Nat} (h1 : whL keyP l (k + 1) = a1) (h2 : whL blaP l a1 = a2) (hq : (decide (a2 < l.length) && (bt l a2 == 61)) = true) (h3 : whL blaP l (a2 + 1) = a3)
    (hqu : a3 < l.length ∧ quoP (bt l a3) = true) (h5 : whL (quoQ (bt l a3)) l (a3 + 1) = a5) :
    attrL l k = (if a5 < l.length then a5 + 1 else a5, a3 + 1, a5 - (a3 + 1), isKey (smallL (seg l k a1)) && decide (0 < a5 - (a3 + 1))) := by
  unfold attrL eqL valL
  simp only [Bool.and_eq_true, decide_eq_true_eq, beq_iff_eq] at hq
  rw [h1, h2, if_pos hq, h3, if_pos hqu]
  unfold quoE
  rw [h5]

theorem dec_len (a3 a5 : Nat) : decide ((a3 : Int) + 1 < (a5 : Int)) = decide (0 < a5 - (a3 + 1)) := decide_eq_decide.2 (by omega)
theorem cell_store_ne {w : World} {p q : Addr} {u v : Value} (h : w.cell? q = some u) (hn : q.block ≠ p.block) : (w.setCell p v).cell? q = some u :=
  ((Only.refl [p.block] w).setCell (.inl (by simp)) v).cell_some h (by simpa using hn)

set_option maxRecDepth 100000 in
set_option maxHeartbeats 4000000 in
theorem attr_any (sb b o c k : Nat) (l : List UInt8) (w : World) (h : ScanAt w sb b o c l k) (hk : k < l.length) :
    Calls Tryd.prog 72 #[.pointer (some ⟨sb, 0, none⟩)] w fun e w' => e = .returned (.tuple #[.agg #[.int .i64 ((attrL l k).2.1 : Nat), .int .i64 ((attrL l k).2.2.1 : Nat)], .bool (attrL l k).2.2.2]) ∧ Only [sb] w w' ∧ ScanAt w' sb b o c l (attrL l k).1 := by
  have hl' : (l.length : Int) ≤ 65536 := by have := h.2.2.2.1; omega
  have hm := h.2.1
  have hmc := h.2.2.1
  have hne := h.2.2.2.2.1
  have hsb : sb < w.heap.size := lt_of_block h.1
  have hA : ScanAt (w.alloc (.cells #[.int .i64 0, .int .i64 0] 33)) sb b o c l k := h.keep ((Only.refl [] w).alloc _) (by simp) (by simp)
  have hR : SpanAt (w.alloc (.cells #[.int .i64 0, .int .i64 0] 33)) w.heap.size 0 0 := alloc_new _ _
  obtain ⟨c0, c1, hf⟩ := hA.two
  have HA := Lib.hid hA
  have HR := Lib.hid hR
  have HO : Hid (Only [sb] w (w.alloc (.cells #[.int .i64 0, .int .i64 0] 33))) := (Only.refl _ w).alloc _
  clear hA hR
  have hbb : b < w.heap.size := lt_of_cell (h.2.2.2.2.2 k hk)
  have HBB := Lib.hid hbb
  clear hbb
  have HNE := Lib.hid hne
  have H := Lib.hid h
  have HSB := Lib.hid hsb
  have b1 := whL_ge keyP l (k + 1)
  have b2 := whL_le keyP l (k + 1) (by omega)
  clear h hne hsb
  go_enter Tryd.func72, Tryd.ntmps72
  go_wp2_with fail
  have hs1 : ScanAt ((w.alloc (.cells #[.int .i64 0, .int .i64 0] 33)).setCell ⟨sb, 1, none⟩ (.int .i64 (k + 1))) sb b o c l (k + 1) := H.out.step ((Only.refl [] w).alloc _) (k + 1)
  have ho1 : Only [sb] w ((w.alloc (.cells #[.int .i64 0, .int .i64 0] 33)).setCell ⟨sb, 1, none⟩ (.int .i64 (k + 1))) := HO.out.setCell (.inl (by simp)) _
  have hR1 : SpanAt ((w.alloc (.cells #[.int .i64 0, .int .i64 0] 33)).setCell ⟨sb, 1, none⟩ (.int .i64 (k + 1))) w.heap.size 0 0 := HR.out.keep (S := [sb]) ((Only.refl [sb] _).setCell (.inl (by simp)) _) (by have := HSB.out; simp; omega)
  clear c0 c1 hf HA HR HO
  generalize (w.alloc (.cells #[.int .i64 0, .int .i64 0] 33)).setCell ⟨sb, 1, none⟩ (.int .i64 (k + 1)) = w1 at hs1 ho1 hR1 ⊢
  refine (while_key sb b o c (k + 1) l w1 hs1 (by omega)).mono ?_
  rintro e w2 ⟨v2, rfl, -, ho2, hs2⟩
  have hRne : w.heap.size ∉ [sb] := by have := HSB.out; simp; omega
  have HRNE := Lib.hid hRne
  have hR2 := hR1.keep ho2 hRne
  have HO2 := Lib.hid (ho1.trans ho2)
  have HS2 := Lib.hid hs2
  have HR2 := Lib.hid hR2
  obtain ⟨c0, c1, hf⟩ := hs2.two
  clear hs1 ho1 hR1 ho2 hs2 hR2 hRne
  generalize hA1 : whL keyP l (k + 1) = a1 at *
  have HA1 := Lib.hid hA1
  clear hA1
  go_wp2_with fail
  have hkc : (k : Int) < c := by omega
  have hbv : BytesV w2 (.slice (some ⟨b, o + k, none⟩) (a1 - k) (c - k)) (seg l k a1) := BytesV.cut HS2.out.2.2.2.2.2 hm hmc k a1 (by omega) b2
  have HBV := Lib.hid hbv
  clear hbv
  refine wp_region_keep w2 [] (by kernel_rfl) (by kernel_rfl) (Only.refl _ w2) ?_
  repeat (first | go_big_quiet_skip | (go_big_quiet_want; go_big_quiet_op; first | go_big_quiet_on | (refine ⟨_, fun _ _ => rfl, ?_⟩; go_big_quiet_on) | (apply Exists.intro; refine ⟨fun w' hw' => ?_, ?_⟩; (rw [hw'.cell_some c0 (by simp)]; exact ⟨rfl, rfl⟩); go_big_quiet_on) | (apply Exists.intro; refine ⟨fun w' hw' => ?_, ?_⟩; (rw [hw'.cell_some c1 (by simp)]; exact ⟨rfl, rfl⟩); go_big_quiet_on) | go_big_quiet_call ((intro hw; go_at_call 67; refine (small_any (seg l k a1) _ _ (HBV.out.keep fun p x hp => hw.cell_some hp (by simp)) (by rw [seg_length _ _ _ b2]; omega)).mono ?_; rintro e w4 ⟨rfl, ho4⟩; exact ⟨rfl, hw.trans ho4⟩))))
  refine wpQuiet_nil ?_
  intro w3 ho3
  go_wp2_with fail
  refine (while_bla sb b o c a1 l w3 (HS2.out.keep ho3 (by simp) (by simp)) b2).mono ?_
  rintro e w4 ⟨v4, rfl, -, ho4, hs4⟩
  have HO4 := Lib.hid (HO2.out.trans ((ho3.mono (by simp)).trans ho4))
  have HS4 := Lib.hid hs4
  have HR4 := Lib.hid ((HR2.out.keep ho3 (by simp)).keep ho4 HRNE.out)
  have b3 := whL_ge blaP l a1
  have b4 := whL_le blaP l a1 b2
  clear c0 c1 hf HBV HS2 HR2 HO2 ho3 ho4 hs4
  generalize hA2 : whL blaP l a1 = a2 at *
  have HA2 := Lib.hid hA2
  clear hA2
  go_wp2_with fail
  refine (is_any sb b o c a2 l 61 w4 HS4.out).mono ?_
  rintro e w5 ⟨rfl, ho5⟩
  have HO5 := Lib.hid (HO4.out.trans (ho5.mono (by simp)))
  have hs5 := HS4.out.keep ho5 (by simp) (by simp)
  have HS5 := Lib.hid hs5
  have hr5 := HR4.out.keep ho5 (by simp)
  have HR5 := Lib.hid hr5
  have hr0 : w5.cell? ⟨w.heap.size, 0, none⟩ = some (.int .i64 0) := by rw [cell_blk hr5 0]; rfl
  have hr1 : w5.cell? ⟨w.heap.size, 0 + 1, none⟩ = some (.int .i64 0) := by rw [cell_blk hr5 (0 + 1)]; rfl
  have hrf : w5.frozen? ⟨w.heap.size, 0, none⟩ = false := free_blk hr5 0
  have hrf1 : w5.frozen? ⟨w.heap.size, 0 + 1, none⟩ = false := free_blk hr5 (0 + 1)
  obtain ⟨c0, c1, hf⟩ := hs5.two
  clear HS4 HR4 HO4 ho5 hs5 hr5
  cases hq : (decide (a2 < l.length) && (bt l a2 == 61)) with
  | false =>
    have HQ := Lib.hid hq
    clear hq
    go_wp2_with fail
    have hsp := HR5.out.store 0 0
    (try simp only [Exit.inBlock, Exit.then])
    refine bodyPost_ret (ret_span rfl _ _ w.heap.size 0 0 rfl hsp) rfl ?_
    have ho6 : Only [w.heap.size] w5 ((w5.setCell ⟨w.heap.size, 0, none⟩ (.int .i64 0)).setCell ⟨w.heap.size, 1, none⟩ (.int .i64 0)) := ((Only.refl _ w5).setCell (.inl (by simp)) _).setCell (.inl (by simp)) _
    rw [attrL_no HA1.out HA2.out HQ.out]
    exact ⟨rfl, HO5.out.trans' ho6 (by simp), HS5.out.keep ho6 (by have := HSB.out; simp; omega) (by have := HBB.out; simp; omega)⟩
  | true =>
    have HQ := Lib.hid hq
    have hlt : a2 < l.length := by simp at hq; exact hq.1
    clear hq
    go_wp2_with fail
    have hs6 : ScanAt (w5.setCell ⟨sb, 1, none⟩ (.int .i64 (a2 + 1))) sb b o c l (a2 + 1) := HS5.out.step (Only.refl [] w5) (a2 + 1)
    have ho6 : Only [sb] w (w5.setCell ⟨sb, 1, none⟩ (.int .i64 (a2 + 1))) := HO5.out.setCell (.inl (by simp)) _
    have hr6 : SpanAt (w5.setCell ⟨sb, 1, none⟩ (.int .i64 (a2 + 1))) w.heap.size 0 0 := HR5.out.keep (S := [sb]) ((Only.refl [sb] _).setCell (.inl (by simp)) _) HRNE.out
    clear c0 c1 hf hr0 hr1 hrf hrf1 HS5 HR5 HO5
    generalize w5.setCell ⟨sb, 1, none⟩ (.int .i64 (a2 + 1)) = w6 at *
    refine (while_bla sb b o c (a2 + 1) l w6 hs6 (by omega)).mono ?_
    rintro e w7 ⟨v7, rfl, -, ho7, hs7⟩
    have HO7 := Lib.hid (ho6.trans ho7)
    have HS7 := Lib.hid hs7
    have HR7 := Lib.hid (hr6.keep ho7 HRNE.out)
    have b5 := whL_ge blaP l (a2 + 1)
    have b6 := whL_le blaP l (a2 + 1) (by omega)
    clear hs6 ho6 hr6 ho7 hs7
    generalize hA3 : whL blaP l (a2 + 1) = a3 at *
    have HA3 := Lib.hid hA3
    clear hA3
    go_wp2_with fail
    refine (is_any sb b o c a3 l 34 w7 HS7.out).mono ?_
    rintro e w8 ⟨rfl, ho8⟩
    have HO8 := Lib.hid (HO7.out.trans (ho8.mono (by simp)))
    have HS8 := Lib.hid (HS7.out.keep ho8 (by simp) (by simp))
    have HR8 := Lib.hid (HR7.out.keep ho8 (by simp))
    clear HO7 HS7 HR7 ho8
    cases h34 : (decide (a3 < l.length) && (bt l a3 == 34)) with
    | true =>
      have HLT3 : Hid (a3 < l.length) := Lib.hid (by simp at h34; exact h34.1)
      have HQP : Hid (quoP (bt l a3) = true) := Lib.hid (by simp at h34; simp [quoP, h34.2])
      clear h34
      go_wp2_with fail
      have hcq : w8.cell? ⟨b, o + a3, none⟩ = some (.int .u8 (bt l a3)) := HS8.out.2.2.2.2.2 a3 HLT3.out
      obtain ⟨c0, c1, hf⟩ := HS8.out.two
      have hA : Only [] w8 (w8.alloc (.cells #[.int .u8 0] 5)) := (Only.refl [] _).alloc _
      have c0' := hA.cell_some c0 (by simp)
      have c1' := hA.cell_some c1 (by simp)
      have hcq' := hA.cell_some hcq (by simp)
      have hlt3 := HLT3.out
      clear hA
      go_region
      have hA : Only [] w8 ((w8.alloc (.cells #[.int .u8 (bt l a3)] 5)).drew) := ((Only.refl [] _).alloc _).drew
      have hq10 : ((w8.alloc (.cells #[.int .u8 (bt l a3)] 5)).drew).cell? ⟨w8.heap.size, 0, none⟩ = some (.int .u8 (bt l a3)) := by
        have : ((w8.alloc (.cells #[.int .u8 (bt l a3)] 5)).drew).heap[w8.heap.size]? = some (.cells #[.int .u8 (bt l a3)] 5 (0, 0)) := alloc_new _ _
        rw [cell_blk this 0]; rfl
      have hsz10 : w.heap.size < w8.heap.size := lt_of_block HR8.out
      have hsz11 : sb < w8.heap.size := lt_of_block HS8.out.1
      have HO10 := Lib.hid (HO8.out.trans (hA.mono (by simp)))
      have HS10 := Lib.hid (HS8.out.keep hA (by simp) (by simp))
      have HR10 := Lib.hid (HR8.out.keep hA (by simp))
      clear c0 c1 hf c0' c1' hcq hcq' hA hlt3 HO8 HS8 HR8
      generalize hqb : w8.heap.size = qb at *
      generalize (w8.alloc (.cells #[.int .u8 (bt l a3)] 5)).drew = w10 at *
      have HQ10 := Lib.hid hq10
      have HSZ := Lib.hid hsz10
      have HQS : Hid (qb ∉ [sb]) := Lib.hid (by simp; omega)
      have b7 := HLT3.out
      obtain ⟨c0, c1, hf⟩ := HS10.out.two
      clear hq10 hsz10 hsz11 hqb
      go_wp2_with fail
      have hs11 : ScanAt (w10.setCell ⟨sb, 1, none⟩ (.int .i64 (a3 + 1))) sb b o c l (a3 + 1) := HS10.out.step (Only.refl [] w10) (a3 + 1)
      have ho11 : Only [sb] w10 (w10.setCell ⟨sb, 1, none⟩ (.int .i64 (a3 + 1))) := (Only.refl _ w10).setCell (.inl (by simp)) _
      have hr11 : SpanAt (w10.setCell ⟨sb, 1, none⟩ (.int .i64 (a3 + 1))) w.heap.size 0 0 := HR10.out.keep ho11 HRNE.out
      have hq11 := ho11.cell_some HQ10.out HQS.out
      have ho11' := HO10.out.trans ho11
      clear c0 c1 hf HO10 HS10 HR10 HQ10 ho11
      generalize w10.setCell ⟨sb, 1, none⟩ (.int .i64 (a3 + 1)) = w11 at *
      refine (while_quo sb b o c (a3 + 1) l w11 hs11 (by omega) (bt l a3) qb hq11 HQS.out).mono ?_
      rintro e w12 ⟨v12, rfl, -, ho12, hs12⟩
      have HO12 := Lib.hid (ho11'.trans ho12)
      have HR12 := Lib.hid (hr11.keep ho12 HRNE.out)
      have hr12 := HR12.out
      have hv12 : SpanAt (w12.alloc (.cells #[.int .i64 0, .int .i64 0] 33)) w12.heap.size 0 0 := alloc_new _ _
      have HV12 := Lib.hid hv12
      have b8 := whL_ge (quoQ (bt l a3)) l (a3 + 1)
      have b9 := whL_le (quoQ (bt l a3)) l (a3 + 1) (by omega)
      have HS12 := Lib.hid hs12
      have hs13 : ScanAt (w12.alloc (.cells #[.int .i64 0, .int .i64 0] 33)) sb b o c l (whL (quoQ (bt l a3)) l (a3 + 1)) := hs12.keep ((Only.refl [] w12).alloc _) (by simp) (by simp)
      obtain ⟨c0, c1, hf⟩ := hs12.two
      clear hs11 ho11' hr11 hq11 ho12 hs12 hr12 hv12 hs13
      generalize hA5 : whL (quoQ (bt l a3)) l (a3 + 1) = a5 at *
      have HA5 := Lib.hid hA5
      clear hA5
      go_wp2_with fail
      have hv13 : SpanAt (w12.alloc (.cells #[.int .i64 (a3 + 1), .int .i64 (a5 - (a3 + 1))] 33)) w12.heap.size (a3 + 1) (a5 - (a3 + 1)) := alloc_new _ _
      have hA13 : Only [] w12 (w12.alloc (.cells #[.int .i64 (a3 + 1), .int .i64 (a5 - (a3 + 1))] 33)) := (Only.refl [] w12).alloc _
      have hs13 := HS12.out.keep hA13 (by simp) (by simp)
      have hr13 := HR12.out.keep hA13 (by simp)
      have hvr : w.heap.size < w12.heap.size := lt_of_block HR12.out
      have hvs : sb < w12.heap.size := lt_of_block HS12.out.1
      have ho13 := HO12.out.trans (hA13.mono (by simp))
      have HQUO := Lib.hid (attrL_quo HA1.out HA2.out HQ.out HA3.out ⟨HLT3.out, HQP.out⟩ HA5.out)
      have hvne : w12.heap.size ≠ w.heap.size ∧ w12.heap.size ≠ sb := ⟨by omega, by omega⟩
      have HVNE := Lib.hid hvne
      clear c0 c1 hf HO12 HR12 HS12 HV12 hA13 hvr hvs hvne
      generalize w12.heap.size = vb at *
      generalize w12.alloc (.cells #[.int .i64 (a3 + 1), .int .i64 (a5 - (a3 + 1))] 33) = w13 at *
      have HV13 := Lib.hid hv13
      have HS13 := Lib.hid hs13
      have HR13 := Lib.hid hr13
      have HO13 := Lib.hid ho13
      obtain ⟨c0, c1, hf⟩ := hs13.two
      clear hv13 hs13 hr13 ho13
      by_cases h5 : a5 < l.length
      · go_quiet (fail)
        go_wp2_with fail
        have hB : Only [sb] w13 ((w13.drewN nq).setCell ⟨sb, 1, none⟩ (.int .i64 (a5 + 1))) := ((Only.refl _ w13).drewN nq).setCell (.inl (by simp)) _
        have hs14 : ScanAt ((w13.drewN nq).setCell ⟨sb, 1, none⟩ (.int .i64 (a5 + 1))) sb b o c l (a5 + 1) := HS13.out.step ((Only.refl [] w13).drewN nq) (a5 + 1)
        have hv14 := HV13.out.keep hB (by simpa using HVNE.out.2)
        have hr14 := HR13.out.keep hB HRNE.out
        have ho14 := HO13.out.trans hB
        have hq5 := HQUO.out
        simp only [h5, if_true] at hq5
        have HQ5 := Lib.hid hq5
        clear hB c0 c1 hf HV13 HS13 HR13 HO13 hq5
        generalize (w13.drewN nq).setCell ⟨sb, 1, none⟩ (.int .i64 (a5 + 1)) = w14 at *
        have v0 : w14.cell? ⟨vb, 0, none⟩ = some (.int .i64 (a3 + 1)) := by rw [cell_blk hv14 0]; rfl
        have v1 : w14.cell? ⟨vb, 0 + 1, none⟩ = some (.int .i64 (a5 - (a3 + 1))) := by rw [cell_blk hv14 (0 + 1)]; rfl
        have r0 : w14.cell? ⟨w.heap.size, 0, none⟩ = some (.int .i64 0) := by rw [cell_blk hr14 0]; rfl
        have r1 : w14.cell? ⟨w.heap.size, 0 + 1, none⟩ = some (.int .i64 0) := by rw [cell_blk hr14 (0 + 1)]; rfl
        have rf0 : w14.frozen? ⟨w.heap.size, 0, none⟩ = false := free_blk hr14 0
        have rf1 : w14.frozen? ⟨w.heap.size, 0 + 1, none⟩ = false := free_blk hr14 (0 + 1)
        have u1 := cell_store_ne (v := .int .i64 (a5 - (a3 + 1))) (cell_store_ne (v := .int .i64 (a3 + 1)) v1 (p := ⟨w.heap.size, 0, none⟩) (by simpa using HVNE.out.1)) (p := ⟨w.heap.size, 1, none⟩) (by simpa using HVNE.out.1)
        have HS14 := Lib.hid hs14
        have HO14 := Lib.hid ho14
        have HR14 := Lib.hid hr14
        clear hv14 hr14 hs14 ho14
        generalize hK : smallL (seg l k a1) = K at *
        have HK := Lib.hid hK
        clear hK
        have hend : ∀ B : Bool, B = (isKey K && decide (0 < a5 - (a3 + 1))) → ∀ w' : World, Only [w.heap.size] w14 w' → Ending.returned (.tuple #[.agg #[.int .i64 (a3 + 1), .int .i64 (a5 - (a3 + 1))], .bool B]) = Ending.returned (.tuple #[.agg #[.int .i64 ((attrL l k).2.1 : Nat), .int .i64 ((attrL l k).2.2.1 : Nat)], .bool (attrL l k).2.2.2]) ∧ Only [sb] w w' ∧ ScanAt w' sb b o c l (attrL l k).1 := by
          intro B hB w' hw'
          rw [HQ5.out]
          refine ⟨?_, HO14.out.trans' hw' (by simp), HS14.out.keep hw' (by have := HSB.out; simp; omega) (by have := HBB.out; simp; omega)⟩
          have e2 : ((a5 - (a3 + 1) : Nat) : Int) = (a5 : Int) - ((a3 : Int) + 1) := by omega
          simp only [hB, e2]
          rfl
        have HEND := Lib.hid hend
        clear hend
        cases e1 : (K == [97, 108, 116])
        · cases e2 : (K == [116, 105, 116, 108, 101])
          · go_region
            go_wp2_with fail
            (try simp only [Exit.inBlock, Exit.then])
            refine bodyPost_ret (ret_span rfl _ _ w.heap.size (a3 + 1) (a5 - (a3 + 1)) rfl (HR14.out.store (a3 + 1) (a5 - (a3 + 1)))) rfl (HEND.out _ ?_ _ (((Only.refl [w.heap.size] w14).setCell (.inl (by simp)) _).setCell (.inl (by simp)) _).drew)
            simp only [isKey, e1, e2]; rfl
          · by_cases h0 : (0 : Int) < (a5 : Int) - ((a3 : Int) + 1)
            · go_region
              go_wp2_with fail
              (try simp only [Exit.inBlock, Exit.then])
              refine bodyPost_ret (ret_span rfl _ _ w.heap.size (a3 + 1) (a5 - (a3 + 1)) rfl (HR14.out.store (a3 + 1) (a5 - (a3 + 1)))) rfl (HEND.out _ ?_ _ (((Only.refl [w.heap.size] w14).setCell (.inl (by simp)) _).setCell (.inl (by simp)) _).drew)
              rw [dec_len a3 a5]
              first | (simp only [isKey, e1, e2]; rfl) | (simp only [isKey, e1]; rfl)
            · go_region
              go_wp2_with fail
              (try simp only [Exit.inBlock, Exit.then])
              refine bodyPost_ret (ret_span rfl _ _ w.heap.size (a3 + 1) (a5 - (a3 + 1)) rfl (HR14.out.store (a3 + 1) (a5 - (a3 + 1)))) rfl (HEND.out _ ?_ _ (((Only.refl [w.heap.size] w14).setCell (.inl (by simp)) _).setCell (.inl (by simp)) _).drew)
              rw [dec_len a3 a5]
              first | (simp only [isKey, e1, e2]; rfl) | (simp only [isKey, e1]; rfl)
        · by_cases h0 : (0 : Int) < (a5 : Int) - ((a3 : Int) + 1)
          · go_region
            go_wp2_with fail
            (try simp only [Exit.inBlock, Exit.then])
            refine bodyPost_ret (ret_span rfl _ _ w.heap.size (a3 + 1) (a5 - (a3 + 1)) rfl (HR14.out.store (a3 + 1) (a5 - (a3 + 1)))) rfl (HEND.out _ ?_ _ (((Only.refl [w.heap.size] w14).setCell (.inl (by simp)) _).setCell (.inl (by simp)) _).drew)
            rw [dec_len a3 a5]
            first | (simp only [isKey, e1, e2]; rfl) | (simp only [isKey, e1]; rfl)
          · go_region
            go_wp2_with fail
            (try simp only [Exit.inBlock, Exit.then])
            refine bodyPost_ret (ret_span rfl _ _ w.heap.size (a3 + 1) (a5 - (a3 + 1)) rfl (HR14.out.store (a3 + 1) (a5 - (a3 + 1)))) rfl (HEND.out _ ?_ _ (((Only.refl [w.heap.size] w14).setCell (.inl (by simp)) _).setCell (.inl (by simp)) _).drew)
            rw [dec_len a3 a5]
            first | (simp only [isKey, e1, e2]; rfl) | (simp only [isKey, e1]; rfl)
      · go_quiet (fail)
        go_wp2_with fail
        have hB : Only [] w13 (w13.drewN nq) := (Only.refl _ w13).drewN nq
        have hs14 : ScanAt (w13.drewN nq) sb b o c l a5 := HS13.out.keep hB (by simp) (by simp)
        have hv14 := HV13.out.keep hB (by simp)
        have hr14 := HR13.out.keep hB (by simp)
        have ho14 := HO13.out.trans (hB.mono (by simp))
        have hq5 := HQUO.out
        simp only [h5, if_false] at hq5
        have HQ5 := Lib.hid hq5
        clear hB c0 c1 hf HV13 HS13 HR13 HO13 hq5
        generalize w13.drewN nq = w14 at *
        have v0 : w14.cell? ⟨vb, 0, none⟩ = some (.int .i64 (a3 + 1)) := by rw [cell_blk hv14 0]; rfl
        have v1 : w14.cell? ⟨vb, 0 + 1, none⟩ = some (.int .i64 (a5 - (a3 + 1))) := by rw [cell_blk hv14 (0 + 1)]; rfl
        have r0 : w14.cell? ⟨w.heap.size, 0, none⟩ = some (.int .i64 0) := by rw [cell_blk hr14 0]; rfl
        have r1 : w14.cell? ⟨w.heap.size, 0 + 1, none⟩ = some (.int .i64 0) := by rw [cell_blk hr14 (0 + 1)]; rfl
        have rf0 : w14.frozen? ⟨w.heap.size, 0, none⟩ = false := free_blk hr14 0
        have rf1 : w14.frozen? ⟨w.heap.size, 0 + 1, none⟩ = false := free_blk hr14 (0 + 1)
        have u1 := cell_store_ne (v := .int .i64 (a5 - (a3 + 1))) (cell_store_ne (v := .int .i64 (a3 + 1)) v1 (p := ⟨w.heap.size, 0, none⟩) (by simpa using HVNE.out.1)) (p := ⟨w.heap.size, 1, none⟩) (by simpa using HVNE.out.1)
        have HS14 := Lib.hid hs14
        have HO14 := Lib.hid ho14
        have HR14 := Lib.hid hr14
        clear hv14 hr14 hs14 ho14
        generalize hK : smallL (seg l k a1) = K at *
        have HK := Lib.hid hK
        clear hK
        have hend : ∀ B : Bool, B = (isKey K && decide (0 < a5 - (a3 + 1))) → ∀ w' : World, Only [w.heap.size] w14 w' → Ending.returned (.tuple #[.agg #[.int .i64 (a3 + 1), .int .i64 (a5 - (a3 + 1))], .bool B]) = Ending.returned (.tuple #[.agg #[.int .i64 ((attrL l k).2.1 : Nat), .int .i64 ((attrL l k).2.2.1 : Nat)], .bool (attrL l k).2.2.2]) ∧ Only [sb] w w' ∧ ScanAt w' sb b o c l (attrL l k).1 := by
          intro B hB w' hw'
          rw [HQ5.out]
          refine ⟨?_, HO14.out.trans' hw' (by simp), HS14.out.keep hw' (by have := HSB.out; simp; omega) (by have := HBB.out; simp; omega)⟩
          have e2 : ((a5 - (a3 + 1) : Nat) : Int) = (a5 : Int) - ((a3 : Int) + 1) := by omega
          simp only [hB, e2]
          rfl
        have HEND := Lib.hid hend
        clear hend
        cases e1 : (K == [97, 108, 116])
        · cases e2 : (K == [116, 105, 116, 108, 101])
          · go_region
            go_wp2_with fail
            (try simp only [Exit.inBlock, Exit.then])
            refine bodyPost_ret (ret_span rfl _ _ w.heap.size (a3 + 1) (a5 - (a3 + 1)) rfl (HR14.out.store (a3 + 1) (a5 - (a3 + 1)))) rfl (HEND.out _ ?_ _ (((Only.refl [w.heap.size] w14).setCell (.inl (by simp)) _).setCell (.inl (by simp)) _).drew)
            simp only [isKey, e1, e2]; rfl
          · by_cases h0 : (0 : Int) < (a5 : Int) - ((a3 : Int) + 1)
            · go_region
              go_wp2_with fail
              (try simp only [Exit.inBlock, Exit.then])
              refine bodyPost_ret (ret_span rfl _ _ w.heap.size (a3 + 1) (a5 - (a3 + 1)) rfl (HR14.out.store (a3 + 1) (a5 - (a3 + 1)))) rfl (HEND.out _ ?_ _ (((Only.refl [w.heap.size] w14).setCell (.inl (by simp)) _).setCell (.inl (by simp)) _).drew)
              rw [dec_len a3 a5]
              first | (simp only [isKey, e1, e2]; rfl) | (simp only [isKey, e1]; rfl)
            · go_region
              go_wp2_with fail
              (try simp only [Exit.inBlock, Exit.then])
              refine bodyPost_ret (ret_span rfl _ _ w.heap.size (a3 + 1) (a5 - (a3 + 1)) rfl (HR14.out.store (a3 + 1) (a5 - (a3 + 1)))) rfl (HEND.out _ ?_ _ (((Only.refl [w.heap.size] w14).setCell (.inl (by simp)) _).setCell (.inl (by simp)) _).drew)
              rw [dec_len a3 a5]
              first | (simp only [isKey, e1, e2]; rfl) | (simp only [isKey, e1]; rfl)
        · by_cases h0 : (0 : Int) < (a5 : Int) - ((a3 : Int) + 1)
          · go_region
            go_wp2_with fail
            (try simp only [Exit.inBlock, Exit.then])
            refine bodyPost_ret (ret_span rfl _ _ w.heap.size (a3 + 1) (a5 - (a3 + 1)) rfl (HR14.out.store (a3 + 1) (a5 - (a3 + 1)))) rfl (HEND.out _ ?_ _ (((Only.refl [w.heap.size] w14).setCell (.inl (by simp)) _).setCell (.inl (by simp)) _).drew)
            rw [dec_len a3 a5]
            first | (simp only [isKey, e1, e2]; rfl) | (simp only [isKey, e1]; rfl)
          · go_region
            go_wp2_with fail
            (try simp only [Exit.inBlock, Exit.then])
            refine bodyPost_ret (ret_span rfl _ _ w.heap.size (a3 + 1) (a5 - (a3 + 1)) rfl (HR14.out.store (a3 + 1) (a5 - (a3 + 1)))) rfl (HEND.out _ ?_ _ (((Only.refl [w.heap.size] w14).setCell (.inl (by simp)) _).setCell (.inl (by simp)) _).drew)
            rw [dec_len a3 a5]
            first | (simp only [isKey, e1, e2]; rfl) | (simp only [isKey, e1]; rfl)
    | false =>
      have H34 := Lib.hid h34
      clear h34
      go_wp2_with fail
      refine (is_any sb b o c a3 l 39 w8 HS8.out).mono ?_
      rintro e w9 ⟨rfl, ho9⟩
      have HO9 := Lib.hid (HO8.out.trans (ho9.mono (by simp)))
      have HS9 := Lib.hid (HS8.out.keep ho9 (by simp) (by simp))
      have HR9 := Lib.hid (HR8.out.keep ho9 (by simp))
      clear HO8 HS8 HR8 ho9
      cases h39 : (decide (a3 < l.length) && (bt l a3 == 39)) with
      | true =>
        have HLT3 : Hid (a3 < l.length) := Lib.hid (by simp at h39; exact h39.1)
        have HQP : Hid (quoP (bt l a3) = true) := Lib.hid (by simp at h39; simp [quoP, h39.2])
        clear h39
        go_wp2_with fail
        have hcq : w9.cell? ⟨b, o + a3, none⟩ = some (.int .u8 (bt l a3)) := HS9.out.2.2.2.2.2 a3 HLT3.out
        obtain ⟨c0, c1, hf⟩ := HS9.out.two
        have hA : Only [] w9 (w9.alloc (.cells #[.int .u8 0] 5)) := (Only.refl [] _).alloc _
        have c0' := hA.cell_some c0 (by simp)
        have c1' := hA.cell_some c1 (by simp)
        have hcq' := hA.cell_some hcq (by simp)
        have hlt3 := HLT3.out
        clear hA
        go_region
        have hA : Only [] w9 ((w9.alloc (.cells #[.int .u8 (bt l a3)] 5)).drew) := ((Only.refl [] _).alloc _).drew
        have hq10 : ((w9.alloc (.cells #[.int .u8 (bt l a3)] 5)).drew).cell? ⟨w9.heap.size, 0, none⟩ = some (.int .u8 (bt l a3)) := by
          have : ((w9.alloc (.cells #[.int .u8 (bt l a3)] 5)).drew).heap[w9.heap.size]? = some (.cells #[.int .u8 (bt l a3)] 5 (0, 0)) := alloc_new _ _
          rw [cell_blk this 0]; rfl
        have hsz10 : w.heap.size < w9.heap.size := lt_of_block HR9.out
        have hsz11 : sb < w9.heap.size := lt_of_block HS9.out.1
        have HO10 := Lib.hid (HO9.out.trans (hA.mono (by simp)))
        have HS10 := Lib.hid (HS9.out.keep hA (by simp) (by simp))
        have HR10 := Lib.hid (HR9.out.keep hA (by simp))
        clear c0 c1 hf c0' c1' hcq hcq' hA hlt3 HO9 HS9 HR9
        generalize hqb : w9.heap.size = qb at *
        generalize (w9.alloc (.cells #[.int .u8 (bt l a3)] 5)).drew = w10 at *
        have HQ10 := Lib.hid hq10
        have HSZ := Lib.hid hsz10
        have HQS : Hid (qb ∉ [sb]) := Lib.hid (by simp; omega)
        have b7 := HLT3.out
        obtain ⟨c0, c1, hf⟩ := HS10.out.two
        clear hq10 hsz10 hsz11 hqb
        go_wp2_with fail
        have hs11 : ScanAt (w10.setCell ⟨sb, 1, none⟩ (.int .i64 (a3 + 1))) sb b o c l (a3 + 1) := HS10.out.step (Only.refl [] w10) (a3 + 1)
        have ho11 : Only [sb] w10 (w10.setCell ⟨sb, 1, none⟩ (.int .i64 (a3 + 1))) := (Only.refl _ w10).setCell (.inl (by simp)) _
        have hr11 : SpanAt (w10.setCell ⟨sb, 1, none⟩ (.int .i64 (a3 + 1))) w.heap.size 0 0 := HR10.out.keep ho11 HRNE.out
        have hq11 := ho11.cell_some HQ10.out HQS.out
        have ho11' := HO10.out.trans ho11
        clear c0 c1 hf HO10 HS10 HR10 HQ10 ho11
        generalize w10.setCell ⟨sb, 1, none⟩ (.int .i64 (a3 + 1)) = w11 at *
        refine (while_quo sb b o c (a3 + 1) l w11 hs11 (by omega) (bt l a3) qb hq11 HQS.out).mono ?_
        rintro e w12 ⟨v12, rfl, -, ho12, hs12⟩
        have HO12 := Lib.hid (ho11'.trans ho12)
        have HR12 := Lib.hid (hr11.keep ho12 HRNE.out)
        have hr12 := HR12.out
        have hv12 : SpanAt (w12.alloc (.cells #[.int .i64 0, .int .i64 0] 33)) w12.heap.size 0 0 := alloc_new _ _
        have HV12 := Lib.hid hv12
        have b8 := whL_ge (quoQ (bt l a3)) l (a3 + 1)
        have b9 := whL_le (quoQ (bt l a3)) l (a3 + 1) (by omega)
        have HS12 := Lib.hid hs12
        have hs13 : ScanAt (w12.alloc (.cells #[.int .i64 0, .int .i64 0] 33)) sb b o c l (whL (quoQ (bt l a3)) l (a3 + 1)) := hs12.keep ((Only.refl [] w12).alloc _) (by simp) (by simp)
        obtain ⟨c0, c1, hf⟩ := hs12.two
        clear hs11 ho11' hr11 hq11 ho12 hs12 hr12 hv12 hs13
        generalize hA5 : whL (quoQ (bt l a3)) l (a3 + 1) = a5 at *
        have HA5 := Lib.hid hA5
        clear hA5
        go_wp2_with fail
        have hv13 : SpanAt (w12.alloc (.cells #[.int .i64 (a3 + 1), .int .i64 (a5 - (a3 + 1))] 33)) w12.heap.size (a3 + 1) (a5 - (a3 + 1)) := alloc_new _ _
        have hA13 : Only [] w12 (w12.alloc (.cells #[.int .i64 (a3 + 1), .int .i64 (a5 - (a3 + 1))] 33)) := (Only.refl [] w12).alloc _
        have hs13 := HS12.out.keep hA13 (by simp) (by simp)
        have hr13 := HR12.out.keep hA13 (by simp)
        have hvr : w.heap.size < w12.heap.size := lt_of_block HR12.out
        have hvs : sb < w12.heap.size := lt_of_block HS12.out.1
        have ho13 := HO12.out.trans (hA13.mono (by simp))
        have HQUO := Lib.hid (attrL_quo HA1.out HA2.out HQ.out HA3.out ⟨HLT3.out, HQP.out⟩ HA5.out)
        have hvne : w12.heap.size ≠ w.heap.size ∧ w12.heap.size ≠ sb := ⟨by omega, by omega⟩
        have HVNE := Lib.hid hvne
        clear c0 c1 hf HO12 HR12 HS12 HV12 hA13 hvr hvs hvne
        generalize w12.heap.size = vb at *
        generalize w12.alloc (.cells #[.int .i64 (a3 + 1), .int .i64 (a5 - (a3 + 1))] 33) = w13 at *
        have HV13 := Lib.hid hv13
        have HS13 := Lib.hid hs13
        have HR13 := Lib.hid hr13
        have HO13 := Lib.hid ho13
        obtain ⟨c0, c1, hf⟩ := hs13.two
        clear hv13 hs13 hr13 ho13
        by_cases h5 : a5 < l.length
        · go_quiet (fail)
          go_wp2_with fail
          have hB : Only [sb] w13 ((w13.drewN nq).setCell ⟨sb, 1, none⟩ (.int .i64 (a5 + 1))) := ((Only.refl _ w13).drewN nq).setCell (.inl (by simp)) _
          have hs14 : ScanAt ((w13.drewN nq).setCell ⟨sb, 1, none⟩ (.int .i64 (a5 + 1))) sb b o c l (a5 + 1) := HS13.out.step ((Only.refl [] w13).drewN nq) (a5 + 1)
          have hv14 := HV13.out.keep hB (by simpa using HVNE.out.2)
          have hr14 := HR13.out.keep hB HRNE.out
          have ho14 := HO13.out.trans hB
          have hq5 := HQUO.out
          simp only [h5, if_true] at hq5
          have HQ5 := Lib.hid hq5
          clear hB c0 c1 hf HV13 HS13 HR13 HO13 hq5
          generalize (w13.drewN nq).setCell ⟨sb, 1, none⟩ (.int .i64 (a5 + 1)) = w14 at *
          have v0 : w14.cell? ⟨vb, 0, none⟩ = some (.int .i64 (a3 + 1)) := by rw [cell_blk hv14 0]; rfl
          have v1 : w14.cell? ⟨vb, 0 + 1, none⟩ = some (.int .i64 (a5 - (a3 + 1))) := by rw [cell_blk hv14 (0 + 1)]; rfl
          have r0 : w14.cell? ⟨w.heap.size, 0, none⟩ = some (.int .i64 0) := by rw [cell_blk hr14 0]; rfl
          have r1 : w14.cell? ⟨w.heap.size, 0 + 1, none⟩ = some (.int .i64 0) := by rw [cell_blk hr14 (0 + 1)]; rfl
          have rf0 : w14.frozen? ⟨w.heap.size, 0, none⟩ = false := free_blk hr14 0
          have rf1 : w14.frozen? ⟨w.heap.size, 0 + 1, none⟩ = false := free_blk hr14 (0 + 1)
          have u1 := cell_store_ne (v := .int .i64 (a5 - (a3 + 1))) (cell_store_ne (v := .int .i64 (a3 + 1)) v1 (p := ⟨w.heap.size, 0, none⟩) (by simpa using HVNE.out.1)) (p := ⟨w.heap.size, 1, none⟩) (by simpa using HVNE.out.1)
          have HS14 := Lib.hid hs14
          have HO14 := Lib.hid ho14
          have HR14 := Lib.hid hr14
          clear hv14 hr14 hs14 ho14
          generalize hK : smallL (seg l k a1) = K at *
          have HK := Lib.hid hK
          clear hK
          have hend : ∀ B : Bool, B = (isKey K && decide (0 < a5 - (a3 + 1))) → ∀ w' : World, Only [w.heap.size] w14 w' → Ending.returned (.tuple #[.agg #[.int .i64 (a3 + 1), .int .i64 (a5 - (a3 + 1))], .bool B]) = Ending.returned (.tuple #[.agg #[.int .i64 ((attrL l k).2.1 : Nat), .int .i64 ((attrL l k).2.2.1 : Nat)], .bool (attrL l k).2.2.2]) ∧ Only [sb] w w' ∧ ScanAt w' sb b o c l (attrL l k).1 := by
            intro B hB w' hw'
            rw [HQ5.out]
            refine ⟨?_, HO14.out.trans' hw' (by simp), HS14.out.keep hw' (by have := HSB.out; simp; omega) (by have := HBB.out; simp; omega)⟩
            have e2 : ((a5 - (a3 + 1) : Nat) : Int) = (a5 : Int) - ((a3 : Int) + 1) := by omega
            simp only [hB, e2]
            rfl
          have HEND := Lib.hid hend
          clear hend
          cases e1 : (K == [97, 108, 116])
          · cases e2 : (K == [116, 105, 116, 108, 101])
            · go_region
              go_wp2_with fail
              (try simp only [Exit.inBlock, Exit.then])
              refine bodyPost_ret (ret_span rfl _ _ w.heap.size (a3 + 1) (a5 - (a3 + 1)) rfl (HR14.out.store (a3 + 1) (a5 - (a3 + 1)))) rfl (HEND.out _ ?_ _ (((Only.refl [w.heap.size] w14).setCell (.inl (by simp)) _).setCell (.inl (by simp)) _).drew)
              simp only [isKey, e1, e2]; rfl
            · by_cases h0 : (0 : Int) < (a5 : Int) - ((a3 : Int) + 1)
              · go_region
                go_wp2_with fail
                (try simp only [Exit.inBlock, Exit.then])
                refine bodyPost_ret (ret_span rfl _ _ w.heap.size (a3 + 1) (a5 - (a3 + 1)) rfl (HR14.out.store (a3 + 1) (a5 - (a3 + 1)))) rfl (HEND.out _ ?_ _ (((Only.refl [w.heap.size] w14).setCell (.inl (by simp)) _).setCell (.inl (by simp)) _).drew)
                rw [dec_len a3 a5]
                first | (simp only [isKey, e1, e2]; rfl) | (simp only [isKey, e1]; rfl)
              · go_region
                go_wp2_with fail
                (try simp only [Exit.inBlock, Exit.then])
                refine bodyPost_ret (ret_span rfl _ _ w.heap.size (a3 + 1) (a5 - (a3 + 1)) rfl (HR14.out.store (a3 + 1) (a5 - (a3 + 1)))) rfl (HEND.out _ ?_ _ (((Only.refl [w.heap.size] w14).setCell (.inl (by simp)) _).setCell (.inl (by simp)) _).drew)
                rw [dec_len a3 a5]
                first | (simp only [isKey, e1, e2]; rfl) | (simp only [isKey, e1]; rfl)
          · by_cases h0 : (0 : Int) < (a5 : Int) - ((a3 : Int) + 1)
            · go_region
              go_wp2_with fail
              (try simp only [Exit.inBlock, Exit.then])
              refine bodyPost_ret (ret_span rfl _ _ w.heap.size (a3 + 1) (a5 - (a3 + 1)) rfl (HR14.out.store (a3 + 1) (a5 - (a3 + 1)))) rfl (HEND.out _ ?_ _ (((Only.refl [w.heap.size] w14).setCell (.inl (by simp)) _).setCell (.inl (by simp)) _).drew)
              rw [dec_len a3 a5]
              first | (simp only [isKey, e1, e2]; rfl) | (simp only [isKey, e1]; rfl)
            · go_region
              go_wp2_with fail
              (try simp only [Exit.inBlock, Exit.then])
              refine bodyPost_ret (ret_span rfl _ _ w.heap.size (a3 + 1) (a5 - (a3 + 1)) rfl (HR14.out.store (a3 + 1) (a5 - (a3 + 1)))) rfl (HEND.out _ ?_ _ (((Only.refl [w.heap.size] w14).setCell (.inl (by simp)) _).setCell (.inl (by simp)) _).drew)
              rw [dec_len a3 a5]
              first | (simp only [isKey, e1, e2]; rfl) | (simp only [isKey, e1]; rfl)
        · go_quiet (fail)
          go_wp2_with fail
          have hB : Only [] w13 (w13.drewN nq) := (Only.refl _ w13).drewN nq
          have hs14 : ScanAt (w13.drewN nq) sb b o c l a5 := HS13.out.keep hB (by simp) (by simp)
          have hv14 := HV13.out.keep hB (by simp)
          have hr14 := HR13.out.keep hB (by simp)
          have ho14 := HO13.out.trans (hB.mono (by simp))
          have hq5 := HQUO.out
          simp only [h5, if_false] at hq5
          have HQ5 := Lib.hid hq5
          clear hB c0 c1 hf HV13 HS13 HR13 HO13 hq5
          generalize w13.drewN nq = w14 at *
          have v0 : w14.cell? ⟨vb, 0, none⟩ = some (.int .i64 (a3 + 1)) := by rw [cell_blk hv14 0]; rfl
          have v1 : w14.cell? ⟨vb, 0 + 1, none⟩ = some (.int .i64 (a5 - (a3 + 1))) := by rw [cell_blk hv14 (0 + 1)]; rfl
          have r0 : w14.cell? ⟨w.heap.size, 0, none⟩ = some (.int .i64 0) := by rw [cell_blk hr14 0]; rfl
          have r1 : w14.cell? ⟨w.heap.size, 0 + 1, none⟩ = some (.int .i64 0) := by rw [cell_blk hr14 (0 + 1)]; rfl
          have rf0 : w14.frozen? ⟨w.heap.size, 0, none⟩ = false := free_blk hr14 0
          have rf1 : w14.frozen? ⟨w.heap.size, 0 + 1, none⟩ = false := free_blk hr14 (0 + 1)
          have u1 := cell_store_ne (v := .int .i64 (a5 - (a3 + 1))) (cell_store_ne (v := .int .i64 (a3 + 1)) v1 (p := ⟨w.heap.size, 0, none⟩) (by simpa using HVNE.out.1)) (p := ⟨w.heap.size, 1, none⟩) (by simpa using HVNE.out.1)
          have HS14 := Lib.hid hs14
          have HO14 := Lib.hid ho14
          have HR14 := Lib.hid hr14
          clear hv14 hr14 hs14 ho14
          generalize hK : smallL (seg l k a1) = K at *
          have HK := Lib.hid hK
          clear hK
          have hend : ∀ B : Bool, B = (isKey K && decide (0 < a5 - (a3 + 1))) → ∀ w' : World, Only [w.heap.size] w14 w' → Ending.returned (.tuple #[.agg #[.int .i64 (a3 + 1), .int .i64 (a5 - (a3 + 1))], .bool B]) = Ending.returned (.tuple #[.agg #[.int .i64 ((attrL l k).2.1 : Nat), .int .i64 ((attrL l k).2.2.1 : Nat)], .bool (attrL l k).2.2.2]) ∧ Only [sb] w w' ∧ ScanAt w' sb b o c l (attrL l k).1 := by
            intro B hB w' hw'
            rw [HQ5.out]
            refine ⟨?_, HO14.out.trans' hw' (by simp), HS14.out.keep hw' (by have := HSB.out; simp; omega) (by have := HBB.out; simp; omega)⟩
            have e2 : ((a5 - (a3 + 1) : Nat) : Int) = (a5 : Int) - ((a3 : Int) + 1) := by omega
            simp only [hB, e2]
            rfl
          have HEND := Lib.hid hend
          clear hend
          cases e1 : (K == [97, 108, 116])
          · cases e2 : (K == [116, 105, 116, 108, 101])
            · go_region
              go_wp2_with fail
              (try simp only [Exit.inBlock, Exit.then])
              refine bodyPost_ret (ret_span rfl _ _ w.heap.size (a3 + 1) (a5 - (a3 + 1)) rfl (HR14.out.store (a3 + 1) (a5 - (a3 + 1)))) rfl (HEND.out _ ?_ _ (((Only.refl [w.heap.size] w14).setCell (.inl (by simp)) _).setCell (.inl (by simp)) _).drew)
              simp only [isKey, e1, e2]; rfl
            · by_cases h0 : (0 : Int) < (a5 : Int) - ((a3 : Int) + 1)
              · go_region
                go_wp2_with fail
                (try simp only [Exit.inBlock, Exit.then])
                refine bodyPost_ret (ret_span rfl _ _ w.heap.size (a3 + 1) (a5 - (a3 + 1)) rfl (HR14.out.store (a3 + 1) (a5 - (a3 + 1)))) rfl (HEND.out _ ?_ _ (((Only.refl [w.heap.size] w14).setCell (.inl (by simp)) _).setCell (.inl (by simp)) _).drew)
                rw [dec_len a3 a5]
                first | (simp only [isKey, e1, e2]; rfl) | (simp only [isKey, e1]; rfl)
              · go_region
                go_wp2_with fail
                (try simp only [Exit.inBlock, Exit.then])
                refine bodyPost_ret (ret_span rfl _ _ w.heap.size (a3 + 1) (a5 - (a3 + 1)) rfl (HR14.out.store (a3 + 1) (a5 - (a3 + 1)))) rfl (HEND.out _ ?_ _ (((Only.refl [w.heap.size] w14).setCell (.inl (by simp)) _).setCell (.inl (by simp)) _).drew)
                rw [dec_len a3 a5]
                first | (simp only [isKey, e1, e2]; rfl) | (simp only [isKey, e1]; rfl)
          · by_cases h0 : (0 : Int) < (a5 : Int) - ((a3 : Int) + 1)
            · go_region
              go_wp2_with fail
              (try simp only [Exit.inBlock, Exit.then])
              refine bodyPost_ret (ret_span rfl _ _ w.heap.size (a3 + 1) (a5 - (a3 + 1)) rfl (HR14.out.store (a3 + 1) (a5 - (a3 + 1)))) rfl (HEND.out _ ?_ _ (((Only.refl [w.heap.size] w14).setCell (.inl (by simp)) _).setCell (.inl (by simp)) _).drew)
              rw [dec_len a3 a5]
              first | (simp only [isKey, e1, e2]; rfl) | (simp only [isKey, e1]; rfl)
            · go_region
              go_wp2_with fail
              (try simp only [Exit.inBlock, Exit.then])
              refine bodyPost_ret (ret_span rfl _ _ w.heap.size (a3 + 1) (a5 - (a3 + 1)) rfl (HR14.out.store (a3 + 1) (a5 - (a3 + 1)))) rfl (HEND.out _ ?_ _ (((Only.refl [w.heap.size] w14).setCell (.inl (by simp)) _).setCell (.inl (by simp)) _).drew)
              rw [dec_len a3 a5]
              first | (simp only [isKey, e1, e2]; rfl) | (simp only [isKey, e1]; rfl)
      | false =>
        have H39 := Lib.hid h39
        clear h39
        go_wp2_with fail
        refine (while_val sb b o c a3 l w9 HS9.out b6).mono ?_
        rintro e w10 ⟨v10, rfl, -, ho10, hs10⟩
        have HO10 := Lib.hid (HO9.out.trans ho10)
        have HS10 := Lib.hid hs10
        have hr10 := HR9.out.keep ho10 HRNE.out
        have HR10 := Lib.hid hr10
        have hr0 : w10.cell? ⟨w.heap.size, 0, none⟩ = some (.int .i64 0) := by rw [cell_blk hr10 0]; rfl
        have hr1 : w10.cell? ⟨w.heap.size, 0 + 1, none⟩ = some (.int .i64 0) := by rw [cell_blk hr10 (0 + 1)]; rfl
        have hrf : w10.frozen? ⟨w.heap.size, 0, none⟩ = false := free_blk hr10 0
        have hrf1 : w10.frozen? ⟨w.heap.size, 0 + 1, none⟩ = false := free_blk hr10 (0 + 1)
        clear hs10 hr10 ho10 HO9 HS9 HR9
        go_wp2_with fail
        have hsp := HR10.out.store 0 0
        (try simp only [Exit.inBlock, Exit.then])
        refine bodyPost_ret (ret_span rfl _ _ w.heap.size 0 0 rfl hsp) rfl ?_
        have ho11 : Only [w.heap.size] w10 ((w10.setCell ⟨w.heap.size, 0, none⟩ (.int .i64 0)).setCell ⟨w.heap.size, 1, none⟩ (.int .i64 0)) := ((Only.refl _ w10).setCell (.inl (by simp)) _).setCell (.inl (by simp)) _
        rw [attrL_val HA1.out HA2.out HQ.out HA3.out H34.out H39.out]
        exact ⟨rfl, HO10.out.trans' ho11 (by simp), HS10.out.keep ho11 (by have := HSB.out; simp; omega) (by have := HBB.out; simp; omega)⟩
end Go.Proofs.YtpohopmggpiomaaDoor
