/-
  bytes.IndexAny at the signs that end a link, in a short text: what a rune that is no ASCII does.
-/
import Derived.Test.YtpohopmggpiomaaDoorIdxA
import Derived.Lib.MapLaws
import Derived.Lib.SpaceUEq
import Derived.Lib.TrimUEq
import Derived.Laws.Runes
import Derived.Lib.IndexEntry
import Derived.Laws.Externs
namespace Go.Proofs.YtpohopmggpiomaaDoor
open Go.RowKit

theorem has_high (x : UInt8) (h : 128 ≤ x.toNat) : endC.contains x = false := by
  cases e : endC.contains x with
  | false => rfl
  | true =>
    exfalso
    have hm : x ∈ endC := by simpa using e
    have : ∀ y ∈ endC, y.toNat < 128 := by decide
    have := this x hm
    omega
theorem has_index (x : UInt8) : endC.contains x = decide (0 ≤ Lib.indexByte endC x) := Lib.contains_iff_indexByte endC x

/-- A rune that begins with a high byte. -/
theorem dec_high (s : List UInt8) (hne : s ≠ []) (h : 128 ≤ (s.getD 0 0).toNat) :
    128 ≤ (Lib.decodeL s).1 ∧ (Lib.decodeL s).1 ≤ 1114111 ∧ 1 ≤ (Lib.decodeL s).2 ∧ (Lib.decodeL s).2 ≤ 4 ∧ (Lib.decodeL s).2 ≤ s.length ∧ ∀ j, j < (Lib.decodeL s).2 → 128 ≤ (s.getD j 0).toNat := by
  have hl := Lib.decodeL_le s hne
  have hc := Lib.decodeN_conts s.length (s.getD 0 0).toNat (s.getD 1 0).toNat (s.getD 2 0).toNat (s.getD 3 0).toNat
  rw [Lib.decodeL_N] at hl ⊢
  have k0 := (s.getD 0 0).toNat_lt
  have k1 := (s.getD 1 0).toNat_lt
  have k2 := (s.getD 2 0).toNat_lt
  have k3 := (s.getD 3 0).toNat_lt
  have hj : ∀ j, j < (Lib.decodeN s.length (s.getD 0 0).toNat (s.getD 1 0).toNat (s.getD 2 0).toNat (s.getD 3 0).toNat).2 → 128 ≤ (s.getD j 0).toNat := by
    intro j hj
    have : j = 0 ∨ j = 1 ∨ j = 2 ∨ j = 3 := by omega
    rcases this with rfl | rfl | rfl | rfl <;> omega
  refine ⟨?_, ?_, Lib.decodeN_ge1 _ _ _ _ _, hc.2.2.2, hl, hj⟩ <;>
  rcases Lib.decodeN_shape s.length (s.getD 0 0).toNat (s.getD 1 0).toNat (s.getD 2 0).toNat (s.getD 3 0).toNat with ⟨c, e⟩ | ⟨c1, c2, c3, cv, e⟩ | ⟨c1, c2, c3, c4, cv, cs, e⟩ | ⟨c1, c2, c3, c4, c5, cv, cw, e⟩ | e <;> rw [e] <;> dsimp only <;> omega

theorem idx_none (q : ByteArray) (h2 : 2 ≤ q.size) (hlast : 128 ≤ (q[q.size - 1]'(by omega)).toNat) : Lib.index endC q.data.toList = -1 := by
  refine Lib.index_none fun j hj => ?_
  cases e : Lib.occAt endC q.data.toList j with
  | false => rfl
  | true =>
    exfalso
    have hp : q.data.toList <+: endC.drop j := List.isPrefixOf_iff_prefix.1 e
    have hm : q[q.size - 1]'(by omega) ∈ endC := List.mem_of_mem_drop (hp.subset (by
      have hlt : q.size - 1 < q.data.toList.length := by simp; omega
      have : q[q.size - 1]'(by omega) = q.data.toList[q.size - 1]'hlt := rfl
      rw [this]
      exact List.getElem_mem _))
    have : ∀ y ∈ endC, y.toNat < 128 := by decide
    have := this _ hm
    omega
set_option maxRecDepth 100000 in
theorem enc_high (s : List UInt8) (h : 128 ≤ (s.getD 0 0).toNat) (hr : (Lib.decodeL s).1 ≠ 65533) :
    (Utf8.encode ((Lib.decodeL s).1 : Int)).size = (Lib.decodeL s).2 ∧ 2 ≤ (Utf8.encode ((Lib.decodeL s).1 : Int)).size ∧ Lib.index endC (Utf8.encode ((Lib.decodeL s).1 : Int)).data.toList = -1 := by
  rw [Lib.decodeL_N] at hr ⊢
  have k0 := (s.getD 0 0).toNat_lt
  have k1 := (s.getD 1 0).toNat_lt
  have k2 := (s.getD 2 0).toNat_lt
  have k3 := (s.getD 3 0).toNat_lt
  have hsh := Lib.decodeN_shape s.length (s.getD 0 0).toNat (s.getD 1 0).toNat (s.getD 2 0).toNat (s.getD 3 0).toNat
  generalize Lib.decodeN s.length (s.getD 0 0).toNat (s.getD 1 0).toNat (s.getD 2 0).toNat (s.getD 3 0).toNat = d at *
  obtain ⟨r, wd⟩ := d
  have hv : Utf8.valid (r : Int) = true ∧ 128 ≤ (r : Int) := by
    simp only [Prod.mk.injEq] at hsh hr
    simp only [Utf8.valid, Bool.and_eq_true, Bool.or_eq_true, decide_eq_true_eq]
    omega
  have hf := encode_facts (r : Int) hv.1 hv.2
  have hsz : (Utf8.encode (r : Int)).size = wd := by
    unfold Utf8.encode
    simp only [hv.1, if_true, Int.toNat_natCast]
    simp only [Prod.mk.injEq] at hsh hr
    rw [if_neg (by omega)]
    split
    · show 2 = wd; omega
    · split
      · show 3 = wd; omega
      · show 4 = wd; omega
  exact ⟨hsz, hf.1, idx_none _ hf.1 (hf.2.2 (by omega))⟩

theorem NoE.skip {l : List UInt8} {k : Nat} (h : NoE l k) : ∀ d, k + d ≤ l.length → (∀ j, j < d → 128 ≤ (l.getD (k + j) 0).toNat) → NoE l (k + d) := by
  intro d
  induction d with
  | zero => intro _ _; exact h
  | succ d ih =>
    intro h1 h2
    have := ih (by omega) (fun j hj => h2 j (by omega))
    exact this.next (by omega) (has_high _ (h2 d (by omega)))
end Go.Proofs.YtpohopmggpiomaaDoor
