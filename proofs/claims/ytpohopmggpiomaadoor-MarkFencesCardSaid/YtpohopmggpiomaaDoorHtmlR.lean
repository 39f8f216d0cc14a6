/-
  html.Read: the tag that begins at a place.
-/
import Derived.Test.YtpohopmggpiomaaDoorHtmlT
namespace Go.Proofs.YtpohopmggpiomaaDoor
open Go.RowKit

def spanCells (l : List (Nat × Nat)) : List Value := l.flatMap fun s => [.int .i64 (s.1 : Int), .int .i64 (s.2 : Int)]
theorem spanCells_length (l : List (Nat × Nat)) : (spanCells l).length = l.length * 2 := by
  induction l with
  | nil => rfl
  | cons a l ih => simp [spanCells] at ih ⊢; omega
theorem spanCells_append (a b : List (Nat × Nat)) : spanCells (a ++ b) = spanCells a ++ spanCells b := by simp [spanCells]
theorem infoSpan : (Tryd.prog.info? 33).map (fun i => (i.zero, i.size, i.bytes)) = some (some (.agg #[.int .i64 0, .int .i64 0]), 2, 16) := by kernel_rfl

/-- A tag's cells. -/
def TagAt (w : World) (tb : Nat) (x : Int) (n : List UInt8) (cl : Bool) (v : Value) : Prop := w.heap[tb]? = some (.cells #[.int .i64 x, .string ⟨n.toArray⟩, .bool cl, v] 89 (0, 0))
theorem TagAt.keep {w w' : World} {tb : Nat} {x : Int} {n : List UInt8} {cl : Bool} {v : Value} (h : TagAt w tb x n cl v) {S : List Nat} (ho : Only S w w') (hn : tb ∉ S) : TagAt w' tb x n cl v := Only.keep ho h hn
theorem TagAt.four {w : World} {tb : Nat} {x : Int} {n : List UInt8} {cl : Bool} {v : Value} (h : TagAt w tb x n cl v) :
    w.cell? ⟨tb, 0, none⟩ = some (.int .i64 x) ∧ w.cell? ⟨tb, 0 + 1, none⟩ = some (.string ⟨n.toArray⟩) ∧ w.cell? ⟨tb, 0 + 1 + 1, none⟩ = some (.bool cl) ∧ w.cell? ⟨tb, 0 + 1 + 1 + 1, none⟩ = some v ∧ (∀ k, w.frozen? ⟨tb, k, none⟩ = false) :=
  ⟨by rw [cell_blk h]; rfl, by rw [cell_blk h]; rfl, by rw [cell_blk h]; rfl, by rw [cell_blk h]; rfl, free_blk h⟩
theorem TagAt.set0 {w : World} {tb : Nat} {x : Int} {n : List UInt8} {cl : Bool} {v : Value} (h : TagAt w tb x n cl v) (y : Int) : TagAt (w.setCell ⟨tb, 0, none⟩ (.int .i64 y)) tb y n cl v := setCell_blk h 0 _
theorem TagAt.set1 {w : World} {tb : Nat} {x : Int} {n : List UInt8} {cl : Bool} {v : Value} (h : TagAt w tb x n cl v) (m : List UInt8) : TagAt (w.setCell ⟨tb, 1, none⟩ (.string ⟨m.toArray⟩)) tb x m cl v := setCell_blk h 1 _
theorem TagAt.set2 {w : World} {tb : Nat} {x : Int} {n : List UInt8} {cl : Bool} {v : Value} (h : TagAt w tb x n cl v) (c : Bool) : TagAt (w.setCell ⟨tb, 2, none⟩ (.bool c)) tb x n c v := setCell_blk h 2 _
theorem TagAt.set3 {w : World} {tb : Nat} {x : Int} {n : List UInt8} {cl : Bool} {v : Value} (h : TagAt w tb x n cl v) (u : Value) : TagAt (w.setCell ⟨tb, 3, none⟩ u) tb x n cl u := setCell_blk h 3 _
theorem TagAt.store {w : World} {tb : Nat} {x x' : Int} {n n' : List UInt8} {cl cl' : Bool} {v v' : Value} (h : TagAt w tb x n cl v) : TagAt ((((w.setCell ⟨tb, 0, none⟩ (.int .i64 x')).setCell ⟨tb, 1, none⟩ (.string ⟨n'.toArray⟩)).setCell ⟨tb, 2, none⟩ (.bool cl')).setCell ⟨tb, 3, none⟩ v') tb x' n' cl' v' :=
  (((h.set0 x').set1 n').set2 cl').set3 v'

/-- A tag by value. -/
def tagV (t : TagR) (v : Value) : Value := .agg #[.int .i64 (t.fin : Int), .string ⟨t.name.toArray⟩, .bool t.closes, v]
def tagZ : Value := .agg #[.int .i64 0, .string ⟨#[]⟩, .bool false, .slice none 0 0]
/-- What Read hands back. -/
def ReadOut (w : World) (r : Option TagR) (e : Ending) (w' : World) : Prop :=
  match r with
  | some t => ∃ v, e = .returned (.tuple #[tagV t v, .bool true]) ∧ w'.ownsRow w.heap.size 33 2 v t.prose.length (spanCells t.prose)
  | none => e = .returned (.tuple #[tagZ, .bool false])

theorem ret_tag {fn : Func} {p u : Tmp} (h : fn.results = #[.cell p 89, .tmp u]) (tmps : Array Value) (w : World) (tb : Nat) (x : Int) (n : List UInt8) (cl : Bool) (q : Option Addr) (m k : Nat) (hp : tmps.getD p undef = .pointer (some ⟨tb, 0, none⟩)) (hs : TagAt w tb x n cl (.slice q m k)) :
    (results fn tmps).run Tryd.prog w = .ok (.tuple #[.agg #[.int .i64 x, .string ⟨n.toArray⟩, .bool cl, .slice q m k], tmps.getD u undef]) w := by
  obtain ⟨h0, h1, h2, h3, -⟩ := hs.four
  rw [results_cell_tmp h, hp]
  simp [go_sem, asAddr, Result.andThen, loadVar, h0, h1, h2, h3]

set_option maxRecDepth 100000 in
set_option maxHeartbeats 4000000 in
theorem read_any (b o c at_ : Nat) (l : List UInt8) (w : World) (hl : l.length ≤ 65536) (hc : l.length ≤ c) (hm : c ≤ maxLen) (hcell : ∀ j, j < l.length → w.cell? ⟨b, o + j, none⟩ = some (.int .u8 (bt l j))) (hat : at_ < l.length) :
    Calls Tryd.prog 50 #[.slice (some ⟨b, o, none⟩) l.length c, .int .i64 at_] w fun e w' => ReadOut w (readL l at_) e w' ∧ Only [] w w' := by
  have hl' : (l.length : Int) ≤ 65536 := by omega
  have hcat := hcell at_ hat
  have HCELL := Lib.hid hcell
  have hbw : b < w.heap.size := lt_of_cell hcat
  have HBW := Lib.hid hbw
  clear hcell hbw
  have hA : Only [] w (w.alloc (.cells #[.int .i64 0, .string ⟨#[]⟩, .bool false, .slice none 0 0] 89)) := (Only.refl [] w).alloc _
  have hR : TagAt (w.alloc (.cells #[.int .i64 0, .string ⟨#[]⟩, .bool false, .slice none 0 0] 89)) w.heap.size 0 [] false (.slice none 0 0) := alloc_new _ _
  have hcA := hA.cell_some hcat (by simp)
  have hat' : (at_ : Int) < l.length := by omega
  have hd1 : decide ((at_ : Int) < 0) = false := by simp
  have hd2 : decide (l.length ≤ at_) = false := by simp; omega
  have HAT := Lib.hid hat
  have HA := Lib.hid hA
  have HR := Lib.hid hR
  clear hcat hA hR
  by_cases h60 : bt l at_ = 60
  · have q60 : (bt l at_ != 60) = false := by simp [h60]
    have H60 := Lib.hid h60
    clear h60
    go_enter Tryd.func50, Tryd.ntmps50
    go_wp2_with fail
    have hrb : w.heap.size = w.heap.size := rfl
    have hs1 : ScanAt (((w.alloc (.cells #[.int .i64 0, .string ⟨#[]⟩, .bool false, .slice none 0 0] 89)).alloc (.cells #[.slice (some ⟨b, o, none⟩) l.length c, .int .i64 (at_ + 1)] 101)).alloc (.cells #[.int .i64 0, .string ⟨#[]⟩, .bool false, .slice none 0 0] 89)) (w.heap.size + 1) b o c l (at_ + 1) := by
      refine ⟨alloc_blk (alloc_new' _ (by simp)), hc, hm, hl, by have := HBW.out; omega, fun j hj => ?_⟩
      exact ((((Only.refl [] w).alloc _).alloc _).alloc _).cell_some (HCELL.out j hj) (by simp)
    have ht1 : TagAt (((w.alloc (.cells #[.int .i64 0, .string ⟨#[]⟩, .bool false, .slice none 0 0] 89)).alloc (.cells #[.slice (some ⟨b, o, none⟩) l.length c, .int .i64 (at_ + 1)] 101)).alloc (.cells #[.int .i64 0, .string ⟨#[]⟩, .bool false, .slice none 0 0] 89)) (w.heap.size + 1 + 1) 0 [] false (.slice none 0 0) := alloc_new' _ (by simp)
    have hr1 : TagAt (((w.alloc (.cells #[.int .i64 0, .string ⟨#[]⟩, .bool false, .slice none 0 0] 89)).alloc (.cells #[.slice (some ⟨b, o, none⟩) l.length c, .int .i64 (at_ + 1)] 101)).alloc (.cells #[.int .i64 0, .string ⟨#[]⟩, .bool false, .slice none 0 0] 89)) w.heap.size 0 [] false (.slice none 0 0) := alloc_blk (alloc_blk (alloc_new _ _))
    have ho1 : Only [] w (((w.alloc (.cells #[.int .i64 0, .string ⟨#[]⟩, .bool false, .slice none 0 0] 89)).alloc (.cells #[.slice (some ⟨b, o, none⟩) l.length c, .int .i64 (at_ + 1)] 101)).alloc (.cells #[.int .i64 0, .string ⟨#[]⟩, .bool false, .slice none 0 0] 89)) := (((Only.refl [] w).alloc _).alloc _).alloc _
    have hne : w.heap.size < w.heap.size + 1 ∧ w.heap.size + 1 < w.heap.size + 1 + 1 := ⟨by omega, by omega⟩
    have hrbe : Hid (w.heap.size = w.heap.size) := rfl
    clear hcA
    generalize (((w.alloc (.cells #[.int .i64 0, .string ⟨#[]⟩, .bool false, .slice none 0 0] 89)).alloc (.cells #[.slice (some ⟨b, o, none⟩) l.length c, .int .i64 (at_ + 1)] 101)).alloc (.cells #[.int .i64 0, .string ⟨#[]⟩, .bool false, .slice none 0 0] 89)) = w1 at *
    generalize hsb : w.heap.size + 1 = sb at *
    generalize htb : sb + 1 = tb at *
    refine (is_any sb b o c (at_ + 1) l 47 w1 hs1).mono ?_
    rintro e w2 ⟨rfl, ho2⟩
    have HS2 := Lib.hid (hs1.keep ho2 (by simp) (by simp))
    have HT2 := Lib.hid (ht1.keep ho2 (by simp))
    have HR2 := Lib.hid (hr1.keep ho2 (by simp))
    have HO2 := Lib.hid (ho1.trans ho2)
    clear hs1 ht1 hr1 ho1 ho2
    cases hcl : (decide (at_ + 1 < l.length) && (bt l (at_ + 1) == 47))
    case' false =>
      have HCL : Hid (clsP l (at_ + 1) = false) := Lib.hid hcl
      clear hcl
      have HS3 := HS2
      have HT3 := HT2
      have HR3 := HR2
      have HON := HO2

      have c0 : w2.cell? ⟨sb, 0, none⟩ = some (.slice (some ⟨b, o, none⟩) l.length c) := HS3.out.two.1
      have c1 : w2.cell? ⟨sb, 0 + 1, none⟩ = some (.int .i64 ((at_ : Int) + 1)) := HS3.out.two.2.1
      have hTA : readL l at_ = tagAt l false (at_ + 1) := by unfold readL; rw [if_pos ⟨HAT.out, H60.out⟩, HCL.out]; rfl
      have HTA := Lib.hid hTA
      clear hTA
      by_cases hk1 : at_ + 1 < l.length
      case' neg =>
        have hk1' : l.length ≤ at_ + 1 := by omega
        have hRD : readL l at_ = none := by rw [HTA.out]; unfold tagAt; rw [if_neg (fun h => hk1 h.1)]
        have HRD := Lib.hid hRD
        obtain ⟨r0, r1, r2, r3, rf⟩ := HR3.out.four
        clear hRD
        go_wp2_with fail
        (try simp only [Exit.inBlock, Exit.then])
        refine bodyPost_ret (ret_tag rfl _ _ w.heap.size 0 [] false none 0 0 rfl HR3.out.store) rfl ⟨?_, (((HON.out.setCell (.inr (Nat.le_refl _)) _).setCell (.inr (Nat.le_refl _)) _).setCell (.inr (Nat.le_refl _)) _).setCell (.inr (Nat.le_refl _)) _⟩
        rw [HRD.out]
        exact rfl

      case' pos =>
        have hcb : w2.cell? ⟨b, o + (at_ + 1), none⟩ = some (.int .u8 (bt l (at_ + 1))) := HS3.out.2.2.2.2.2 (at_ + 1) hk1
        have hr := bt_range l (at_ + 1)
        have HRG := Lib.hid hr
        clear hr
        cases hle : letP (bt l (at_ + 1))
        case' false =>
          have hRD : readL l at_ = none := by rw [HTA.out]; unfold tagAt; rw [if_neg (fun h => by simp [hle] at h)]
          have HRD := Lib.hid hRD
          have HLE := Lib.hid hle
          obtain ⟨r0, r1, r2, r3, rf⟩ := HR3.out.four
          clear hRD hle
          go_wp2_with fail
          refine (letter_any (bt l (at_ + 1)) _ HRG.out.1 HRG.out.2).mono ?_
          rw [HLE.out]
          rintro e w4 ⟨rfl, rfl⟩
          go_wp2_with fail
          (try simp only [Exit.inBlock, Exit.then])
          refine bodyPost_ret (ret_tag rfl _ _ w.heap.size 0 [] false none 0 0 rfl HR3.out.store) rfl ⟨?_, (((HON.out.setCell (.inr (Nat.le_refl _)) _).setCell (.inr (Nat.le_refl _)) _).setCell (.inr (Nat.le_refl _)) _).setCell (.inr (Nat.le_refl _)) _⟩
          rw [HRD.out]
          exact rfl

        case' true =>
          have HLE := Lib.hid hle
          clear hle
          go_wp2_with fail
          refine (letter_any (bt l (at_ + 1)) _ HRG.out.1 HRG.out.2).mono ?_
          rw [HLE.out]
          rintro e w4 ⟨rfl, rfl⟩
          go_wp2_with fail
          clear c0 c1 hcb
          generalize w2 = w3 at *
          generalize hK1 : at_ + 1 = k1 at *
          obtain ⟨cl, hcle⟩ : ∃ cl, cl = false := ⟨_, rfl⟩
          rw [← hcle] at HT3 HTA
          clear hcle
    case' true =>
      have HCL : Hid (clsP l (at_ + 1) = true) := Lib.hid hcl
      clear hcl
      have hx3 : Only [sb] w2 (w2.setCell ⟨sb, 1, none⟩ (.int .i64 (at_ + 1 + 1))) := (Only.refl _ w2).setCell (.inl (by simp)) _
      have hy3 : Only [tb] (w2.setCell ⟨sb, 1, none⟩ (.int .i64 (at_ + 1 + 1))) ((w2.setCell ⟨sb, 1, none⟩ (.int .i64 (at_ + 1 + 1))).setCell ⟨tb, 2, none⟩ (.bool true)) := (Only.refl _ _).setCell (.inl (by simp)) _
      have hs3 : ScanAt (w2.setCell ⟨sb, 1, none⟩ (.int .i64 (at_ + 1 + 1))) sb b o c l (at_ + 1 + 1) := HS2.out.step (Only.refl [] w2) (at_ + 1 + 1)
      have HS3 := Lib.hid (hs3.keep hy3 (by simp; omega) (by have := HBW.out; simp; omega))
      have HT3 : Hid (TagAt ((w2.setCell ⟨sb, 1, none⟩ (.int .i64 (at_ + 1 + 1))).setCell ⟨tb, 2, none⟩ (.bool true)) tb 0 [] true (.slice none 0 0)) := Lib.hid ((HT2.out.keep hx3 (by simp; omega)).set2 true)
      have HR3 := Lib.hid ((HR2.out.keep hx3 (by simp; omega)).keep hy3 (by simp; omega))
      have HON : Hid (Only [] w ((w2.setCell ⟨sb, 1, none⟩ (.int .i64 (at_ + 1 + 1))).setCell ⟨tb, 2, none⟩ (.bool true))) := Lib.hid ((HO2.out.setCell (.inr (by simp only; omega)) _).setCell (.inr (by simp only; omega)) _)
      obtain ⟨d0, d1, df⟩ := HS2.out.two
      have t2 : (w2.setCell ⟨sb, 1, none⟩ (.int .i64 (at_ + 1 + 1))).cell? ⟨tb, 0 + 1 + 1, none⟩ = some (.bool false) := (HT2.out.keep hx3 (by simp; omega)).four.2.2.1
      have tf : (w2.setCell ⟨sb, 1, none⟩ (.int .i64 (at_ + 1 + 1))).frozen? ⟨tb, 0 + 1 + 1, none⟩ = false := (HT2.out.keep hx3 (by simp; omega)).four.2.2.2.2 _
      clear hx3 hy3 hs3

      have c0 : ((w2.setCell ⟨sb, 1, none⟩ (.int .i64 (at_ + 1 + 1))).setCell ⟨tb, 2, none⟩ (.bool true)).cell? ⟨sb, 0, none⟩ = some (.slice (some ⟨b, o, none⟩) l.length c) := HS3.out.two.1
      have c1 : ((w2.setCell ⟨sb, 1, none⟩ (.int .i64 (at_ + 1 + 1))).setCell ⟨tb, 2, none⟩ (.bool true)).cell? ⟨sb, 0 + 1, none⟩ = some (.int .i64 ((at_ : Int) + 1 + 1)) := HS3.out.two.2.1
      have hTA : readL l at_ = tagAt l true (at_ + 1 + 1) := by unfold readL; rw [if_pos ⟨HAT.out, H60.out⟩, HCL.out]; rfl
      have HTA := Lib.hid hTA
      clear hTA
      by_cases hk1 : at_ + 1 + 1 < l.length
      case' neg =>
        have hk1' : l.length ≤ at_ + 1 + 1 := by omega
        have hRD : readL l at_ = none := by rw [HTA.out]; unfold tagAt; rw [if_neg (fun h => hk1 h.1)]
        have HRD := Lib.hid hRD
        obtain ⟨r0, r1, r2, r3, rf⟩ := HR3.out.four
        clear hRD
        go_wp2_with fail
        (try simp only [Exit.inBlock, Exit.then])
        refine bodyPost_ret (ret_tag rfl _ _ w.heap.size 0 [] false none 0 0 rfl HR3.out.store) rfl ⟨?_, (((HON.out.setCell (.inr (Nat.le_refl _)) _).setCell (.inr (Nat.le_refl _)) _).setCell (.inr (Nat.le_refl _)) _).setCell (.inr (Nat.le_refl _)) _⟩
        rw [HRD.out]
        exact rfl

      case' pos =>
        have hcb : ((w2.setCell ⟨sb, 1, none⟩ (.int .i64 (at_ + 1 + 1))).setCell ⟨tb, 2, none⟩ (.bool true)).cell? ⟨b, o + (at_ + 1 + 1), none⟩ = some (.int .u8 (bt l (at_ + 1 + 1))) := HS3.out.2.2.2.2.2 (at_ + 1 + 1) hk1
        have hr := bt_range l (at_ + 1 + 1)
        have HRG := Lib.hid hr
        clear hr
        cases hle : letP (bt l (at_ + 1 + 1))
        case' false =>
          have hRD : readL l at_ = none := by rw [HTA.out]; unfold tagAt; rw [if_neg (fun h => by simp [hle] at h)]
          have HRD := Lib.hid hRD
          have HLE := Lib.hid hle
          obtain ⟨r0, r1, r2, r3, rf⟩ := HR3.out.four
          clear hRD hle
          go_wp2_with fail
          refine (letter_any (bt l (at_ + 1 + 1)) _ HRG.out.1 HRG.out.2).mono ?_
          rw [HLE.out]
          rintro e w4 ⟨rfl, rfl⟩
          go_wp2_with fail
          (try simp only [Exit.inBlock, Exit.then])
          refine bodyPost_ret (ret_tag rfl _ _ w.heap.size 0 [] false none 0 0 rfl HR3.out.store) rfl ⟨?_, (((HON.out.setCell (.inr (Nat.le_refl _)) _).setCell (.inr (Nat.le_refl _)) _).setCell (.inr (Nat.le_refl _)) _).setCell (.inr (Nat.le_refl _)) _⟩
          rw [HRD.out]
          exact rfl

        case' true =>
          have HLE := Lib.hid hle
          clear hle
          go_wp2_with fail
          refine (letter_any (bt l (at_ + 1 + 1)) _ HRG.out.1 HRG.out.2).mono ?_
          rw [HLE.out]
          rintro e w4 ⟨rfl, rfl⟩
          go_wp2_with fail
          clear c0 c1 hcb
          generalize ((w2.setCell ⟨sb, 1, none⟩ (.int .i64 (at_ + 1 + 1))).setCell ⟨tb, 2, none⟩ (.bool true)) = w3 at *
          generalize hK1 : at_ + 1 + 1 = k1 at *
          obtain ⟨cl, hcle⟩ : ∃ cl, cl = true := ⟨_, rfl⟩
          rw [← hcle] at HT3 HTA
          clear hcle
    all_goals
      have htx : tagAt l cl k1 = (tagN l (l.length + 1 - whL namP l k1) (whL namP l k1) []).map fun r => ⟨r.1, smallL (seg l k1 (whL namP l k1)), cl, r.2⟩ := by unfold tagAt; rw [if_pos ⟨hk1, HLE.out⟩]
      refine (while_nam sb b o c k1 l w3 HS3.out (by omega)).mono ?_
      rintro e w4 ⟨v4, rfl, hbv4, ho4, hs4⟩
      have b1 := whL_ge namP l k1
      have b2 := whL_le namP l k1 (by omega)
      have hsl : (seg l k1 (whL namP l k1)).length ≤ 65536 := by rw [seg_length _ _ _ b2]; omega
      have HO4 := Lib.hid ho4
      have HS4 := Lib.hid hs4
      have HBV4 := Lib.hid hbv4
      have HTX := Lib.hid htx
      have HSL := Lib.hid hsl
      clear ho4 hs4 hbv4 htx hsl
      go_wp2_with fail
      refine (small_any (seg l k1 (whL namP l k1)) v4 w4 HBV4.out HSL.out).mono ?_
      rintro e w5 ⟨rfl, ho5⟩
      have hT5 := (HT3.out.keep HO4.out (by simp; omega)).keep ho5 (by simp)
      have hS5 := HS4.out.keep ho5 (by simp) (by simp)
      have hR5 := (HR3.out.keep HO4.out (by simp; omega)).keep ho5 (by simp)
      have hO5 : Only [] w w5 := HON.out.trans' (HO4.out.trans (ho5.mono (by simp))) (by intro i hi; simp only [List.mem_cons, List.not_mem_nil, or_false] at hi; right; omega)
      clear HSL HBV4 ho5
      generalize whL namP l k1 = k2 at *
      generalize smallL (seg l k1 k2) = nm at *
      have t1 := hT5.four.2.1
      have tf := hT5.four.2.2.2.2 (0 + 1)
      have hX : Only [tb] w5 (w5.setCell ⟨tb, 1, none⟩ (.string ⟨nm.toArray⟩)) := (Only.refl _ w5).setCell (.inl (by simp)) _
      have HT6 := Lib.hid (hT5.set1 nm)
      have HS6 := Lib.hid (hS5.keep hX (by simp; omega) (by have := HBW.out; simp; omega))
      have HR6 := Lib.hid (hR5.keep hX (by simp; omega))
      have HO6 := Lib.hid (hO5.setCell (p := ⟨tb, 1, none⟩) (.inr (by simp only; omega)) (.string ⟨nm.toArray⟩))
      have hsb5 : sb < w5.heap.size := lt_of_block hS5.1
      have htb5 : tb < w5.heap.size := lt_of_block hT5
      clear hT5 hS5 hR5 hO5 hX HT3 HS3 HR3 HON HO4 HS4
      go_wp2_with fail
      clear t1 tf
      have hsz6 : (w5.setCell ⟨tb, 1, none⟩ (.string ⟨nm.toArray⟩)).heap.size = w5.heap.size := by simp
      generalize w5.setCell ⟨tb, 1, none⟩ (.string ⟨nm.toArray⟩) = w6 at *
      go_loopw [8, 9, 83] (fun _ _ _ wr => ∃ (k : Nat) (ps : List (Nat × Nat)) (pp : Option Addr) (cp : Nat), k2 ≤ k ∧ k ≤ l.length ∧ ps.length ≤ k ∧ tagN l (l.length + 1 - k2) k2 [] = tagN l (l.length + 1 - k) k ps ∧ Only [] w wr ∧ ScanAt wr sb b o c l k ∧ TagAt wr tb 0 nm cl (.slice pp ps.length cp) ∧ TagAt wr w.heap.size 0 [] false (.slice none 0 0) ∧ wr.ownsRow w.heap.size 33 2 (.slice pp ps.length cp) ps.length (spanCells ps) ∧ (∀ i, (Value.slice pp ps.length cp).ownBlock = some i → i ≠ sb ∧ i ≠ tb ∧ i ≠ w.heap.size)) (fun _ _ _ wr => l.length - scanPos wr sb)
      case atStart => exact ⟨k2, [], none, 0, by omega, b2, by simp, rfl, HO6.out, HS6.out, HT6.out, HR6.out, World.ownsRow_nil _ _ _ _, by simp [Value.ownBlock]⟩
      case round =>
        obtain ⟨k, ps, pp, cp, hk2, hkl, hpl, hrun, ho, hs, ht, hr, hown, hsep⟩ := hrel
        have HRUN := Lib.hid hrun
        have HO := Lib.hid ho
        have HS := Lib.hid hs
        have HT := Lib.hid ht
        have HR := Lib.hid hr
        have HOWN := Lib.hid hown
        have HSEP := Lib.hid hsep
        clear hrun ho hs ht hr hown hsep HO6 HS6 HT6 HR6
        go_wp2_with fail
        refine (while_rel sb b o c k l wr HS.out hkl).mono ?_
        rintro e w7 ⟨v7, rfl, -, ho7, hs7⟩
        have b3 := whL_ge relP l k
        have b4 := whL_le relP l k hkl
        have hT7 := HT.out.keep ho7 (by simp; omega)
        have hR7 := HR.out.keep ho7 (by simp; omega)
        have hO7 : Only [] w w7 := HO.out.trans' ho7 (by intro i hi; simp only [List.mem_cons, List.not_mem_nil, or_false] at hi; right; omega)
        have hW7 := ownsRow_only HOWN.out ho7 (fun i hi => by have := (HSEP.out i hi).1; simpa using this)
        have hps := HS.out.pos
        have HPOS := Lib.hid hps
        have HT7 := Lib.hid hT7
        have HR7 := Lib.hid hR7
        have HO7 := Lib.hid hO7
        have HS7 := Lib.hid hs7
        have HW7 := Lib.hid hW7
        have hrn : tagN l (l.length + 1 - k) k ps = if whL relP l k < l.length then (if bt l (whL relP l k) = 62 then some (whL relP l k + 1, ps) else tagN l (l.length - k) (attrL l (whL relP l k)).1 (putA (attrL l (whL relP l k)) ps)) else none := by
          rw [show l.length + 1 - k = (l.length - k) + 1 by omega, tagN]
        have HRN := Lib.hid hrn
        obtain ⟨c0, c1, hf⟩ := hs7.two
        clear hT7 hR7 hO7 ho7 hs7 hW7 hps hrn HO HS HT HR HOWN
        generalize whL relP l k = a at *
        by_cases ha : a < l.length
        · have hd : decide (l.length ≤ a) = false := by simp; omega
          go_wp2_with fail
          refine (is_any sb b o c a l 62 w7 HS7.out).mono ?_
          rintro e w8 ⟨rfl, ho8⟩
          have hT8 := HT7.out.keep ho8 (by simp)
          have hR8 := HR7.out.keep ho8 (by simp)
          have hS8 := HS7.out.keep ho8 (by simp) (by simp)
          have hO8 := HO7.out.trans ho8
          have hW8 := ownsRow_only HW7.out ho8 (by simp)
          have HT8 := Lib.hid hT8
          have HR8 := Lib.hid hR8
          have HS8 := Lib.hid hS8
          have HO8 := Lib.hid hO8
          have HW8 := Lib.hid hW8
          clear c0 c1 hf HT7 HR7 HS7 HO7 HW7 ho8
          cases h62 : (decide (a < l.length) && (bt l a == 62))
          case' true =>
            have H62 : Hid (bt l a = 62) := Lib.hid (by simp at h62; exact h62.2)
            obtain ⟨c0, c1, hf⟩ := hS8.two
            obtain ⟨t0, t1, t2, t3, tf⟩ := hT8.four
            obtain ⟨r0, r1, r2, r3, rf⟩ := hR8.four
            have tf0 := tf 0
            have rf0 := rf 0
            clear h62 hT8 hR8 hS8 hO8 hW8
            go_wp2_with fail
            have hRD : readL l at_ = some ⟨a + 1, nm, cl, ps⟩ := by rw [HTA.out, HTX.out, HRUN.out, HRN.out, if_pos ha, if_pos H62.out]; rfl
            have hX : Only [tb] w8 (w8.setCell ⟨tb, 0, none⟩ (.int .i64 (a + 1))) := (Only.refl _ w8).setCell (.inl (by simp)) _
            (try simp only [Exit.inBlock, Exit.then])
            refine bodyPost_ret (ret_tag rfl _ _ w.heap.size (a + 1) nm cl pp ps.length cp rfl (HR8.out.keep hX (by simp; omega)).store) rfl ⟨?_, ((((HO8.out.setCell (.inr (by simp only; omega)) _).setCell (.inr (Nat.le_refl _)) _).setCell (.inr (Nat.le_refl _)) _).setCell (.inr (Nat.le_refl _)) _).setCell (.inr (Nat.le_refl _)) _⟩
            rw [hRD]
            refine ⟨.slice pp ps.length cp, rfl, ?_⟩
            exact ownsRow_only HW8.out (((((((Only.refl [tb, w.heap.size] w8).setCell (.inl (by simp)) _).setCell (.inl (by simp)) _).setCell (.inl (by simp)) _).setCell (.inl (by simp)) _).setCell (.inl (by simp)) _)) (fun i hi => by have := HSEP.out i hi; simp; omega)
          case' false =>
            have H62 : Hid (¬ bt l a = 62) := Lib.hid (by intro h; simp [ha, h] at h62)
            clear h62 hT8 hR8 hS8 hO8 hW8
            go_wp2_with fail
            refine (attr_any sb b o c a l w8 HS8.out ha).mono ?_
            rintro e w9 ⟨rfl, ho9, hs9⟩
            have hab := attrL_bound l a ha
            have hT9 := HT8.out.keep ho9 (by simp; omega)
            have hR9 := HR8.out.keep ho9 (by simp; omega)
            have hO9 : Only [] w w9 := HO8.out.trans' ho9 (by intro i hi; simp only [List.mem_cons, List.not_mem_nil, or_false] at hi; right; omega)
            have hW9 := ownsRow_only HW8.out ho9 (fun i hi => by have := (HSEP.out i hi).1; simpa using this)
            rw [if_pos ha, if_neg H62.out] at HRN
            generalize attrL l a = r at *
            obtain ⟨ra, rx, ry, rk⟩ := r
            simp only at hab hs9 HRN ⊢
            have hV : Only [] w9 (w9.alloc (.cells #[.int .i64 rx, .int .i64 ry] 33)) := (Only.refl [] w9).alloc _
            have hv10 : SpanAt (w9.alloc (.cells #[.int .i64 rx, .int .i64 ry] 33)) w9.heap.size rx ry := alloc_new _ _
            have HT10 := Lib.hid (hT9.keep hV (by simp))
            have HR10 := Lib.hid (hR9.keep hV (by simp))
            have HO10 := Lib.hid (hO9.trans hV)
            have HS10 := Lib.hid (hs9.keep hV (by simp) (by simp))
            have HOWN10 := Lib.hid (ownsRow_only hW9 hV (by simp))
            have hvl : w.heap.size ≤ w9.heap.size := hO9.size
            have q0 : (w9.alloc (.cells #[.int .i64 rx, .int .i64 ry] 33)).cell? ⟨w9.heap.size, 0, none⟩ = some (.int .i64 rx) := by rw [cell_blk hv10 0]; rfl
            have q1 : (w9.alloc (.cells #[.int .i64 rx, .int .i64 ry] 33)).cell? ⟨w9.heap.size, 0 + 1, none⟩ = some (.int .i64 ry) := by rw [cell_blk hv10 (0 + 1)]; rfl
            obtain ⟨t0, t1, t2, t3, tf⟩ := HT10.out.four
            have tf3 := tf (0 + 1 + 1 + 1)
            clear hT9 hR9 hO9 hs9 hW9 hV hv10 HT8 HR8 HS8 HO8 HW8 tf
            cases rk
            case' false =>
              go_wp2_with fail
              go_roundw
              case' rel => exact ⟨ra, ps, pp, cp, by omega, by omega, by omega, by rw [HRUN.out, HRN.out]; exact tagN_fuel _ _ _ _ (by omega) _ (by omega), HO10.out, HS10.out, HT10.out, HR10.out, HOWN10.out, HSEP.out⟩
              case' measure =>
                have p2 := HS10.out.pos
                rw [HPOS.out]
                exact (congrArg (fun x => l.length - x < l.length - k) p2).mpr (by omega)
            case' true =>
              have hsz9 : (w9.alloc (.cells #[.int .i64 rx, .int .i64 ry] 33)).heap.size = w9.heap.size + 1 := by simp
              have HSZ9 := Lib.hid hsz9
              have hpl2 : ps.length ≤ 65536 := by omega
              have hsbl := lt_of_block HS10.out.1
              have htbl := lt_of_block HT10.out
              rw [hsz9] at hsbl htbl
              clear hsz9
              go_wp2_with (at_builtin; (refine wpList_append_row _ rfl (.tmp 90) (.tmp 92) 87 87 rfl w.heap.size 33 (.agg #[.int .i64 0, .int .i64 0]) 2 16 Tryd.underlying87 infoSpan rfl (by decide) (.slice pp ps.length cp) ps.length (spanCells ps) rfl (HOWN10.out.alloc _) (.slice (some ⟨w9.heap.size + 1, 0, none⟩) 1 1) 1 [.int .i64 rx, .int .i64 ry] rfl (by rw [← HSZ9.out]; exact Src.lit (size := 2) Tryd.underlying87 _ _ 1 [.int .i64 rx, .int .i64 ry] rfl (by simp [Value.oneCell'])) (by unfold maxLen; omega) (by omega) (by simp; omega) ?_))
              intro v' w12 hB2 hg2 _ hfr
              obtain ⟨pb', cb', rfl, -⟩ := ownsRow_shape hB2
              have hX : Only ((Value.slice pp ps.length cp).ownBlock.toList) (w9.alloc (.cells #[.int .i64 rx, .int .i64 ry] 33)) w12 := ((Only.refl _ _).alloc _).grown hg2 (fun i hi => .inl (by rw [hi]; simp))
              have hns : ∀ i, i ∈ (Value.slice pp ps.length cp).ownBlock.toList → i ≠ sb ∧ i ≠ tb ∧ i ≠ w.heap.size := fun i hi => HSEP.out i (Option.mem_toList.1 hi)
              have hnb : b ∉ (Value.slice pp ps.length cp).ownBlock.toList := fun hi => by
                have := HOWN10.out.lt b (Option.mem_toList.1 hi)
                have := HBW.out
                omega
              have hT12 := HT10.out.keep hX (fun hi => (hns _ hi).2.1 rfl)
              have HR12 := Lib.hid (HR10.out.keep hX (fun hi => (hns _ hi).2.2 rfl))
              have HS12 := Lib.hid (HS10.out.keep hX (fun hi => (hns _ hi).1 rfl) hnb)
              have HO12 := Lib.hid (HO10.out.trans' hX (fun i hi => .inr (HOWN10.out.lt i (Option.mem_toList.1 hi)).1))
              have HT12 := Lib.hid hT12
              have t3' := hT12.four.2.2.2.1
              have tf3' := hT12.four.2.2.2.2 (0 + 1 + 1 + 1)
              have HB2 := Lib.hid hB2
              have HFR := Lib.hid hfr
              clear hX hns hnb hT12 hB2 hg2 hfr t0 t1 t2 t3 tf3 q0 q1
              go_wp2_with fail
              have hY : Only [tb] w12 (w12.setCell ⟨tb, 3, none⟩ (.slice pb' (ps.length + 1) cb')) := (Only.refl _ w12).setCell (.inl (by simp)) _
              have hs13 := HS12.out.keep hY (by simp; omega) (by have := HBW.out; simp; omega)
              go_roundw
              case' rel =>
                refine ⟨ra, ps ++ [(rx, ry)], pb', cb', by omega, by omega, by simp; omega, by rw [HRUN.out, HRN.out]; exact tagN_fuel _ _ _ _ (by omega) _ (by omega), HO12.out.trans' hY (by intro i hi; simp only [List.mem_cons, List.not_mem_nil, or_false] at hi; right; omega), hs13, ?_, HR12.out.keep hY (by simp; omega), ?_, ?_⟩
                · have := HT12.out.set3 (.slice pb' (ps.length + 1) cb')
                  simpa using this
                · have hne3 : (Value.slice pb' (ps.length + 1) cb').ownBlock ≠ some tb := by
                    rcases HFR.out with h | h
                    · rw [h]; exact fun e => (HSEP.out _ e).2.1 rfl
                    · rw [h]; simp; omega
                  have := ownsRow_setCell_other HB2.out (a := ⟨tb, 3, none⟩) hne3 (.slice pb' (ps.length + 1) cb')
                  simpa [spanCells_append, spanCells] using this
                · intro i hi
                  have hi' : (Value.slice pb' (ps.length + 1) cb').ownBlock = some i := by simpa using hi
                  rcases HFR.out with h | h
                  · rw [h] at hi'; exact HSEP.out i hi'
                  · rw [h] at hi'
                    simp at hi'
                    omega
              case' measure =>
                have p2 := hs13.pos
                rw [HPOS.out]
                exact (congrArg (fun x => l.length - x < l.length - k) p2).mpr (by omega)
        · have hd : decide (l.length ≤ a) = true := by simp; omega
          obtain ⟨r0, r1, r2, r3, rf⟩ := HR7.out.four
          go_wp2_with fail
          have hRD : readL l at_ = none := by rw [HTA.out, HTX.out, HRUN.out, HRN.out, if_neg ha]; rfl
          (try simp only [Exit.inBlock, Exit.then])
          refine bodyPost_ret (ret_tag rfl _ _ w.heap.size 0 [] false none 0 0 rfl HR7.out.store) rfl ⟨?_, (((HO7.out.setCell (.inr (Nat.le_refl _)) _).setCell (.inr (Nat.le_refl _)) _).setCell (.inr (Nat.le_refl _)) _).setCell (.inr (Nat.le_refl _)) _⟩
          rw [hRD]
          exact rfl
  · have q60 : (bt l at_ != 60) = true := by simpa using h60
    have hrd : readL l at_ = none := by unfold readL; rw [if_neg (fun h => h60 h.2)]
    have HRD := Lib.hid hrd
    obtain ⟨r0, r1, r2, r3, rf⟩ := HR.out.four
    clear h60 hrd
    go_enter Tryd.func50, Tryd.ntmps50
    go_wp2_with fail
    (try simp only [Exit.inBlock, Exit.then])
    refine bodyPost_ret (ret_tag rfl _ _ w.heap.size 0 [] false none 0 0 rfl HR.out) rfl ⟨?_, HA.out⟩
    rw [HRD.out]
    exact rfl
end Go.Proofs.YtpohopmggpiomaaDoor
