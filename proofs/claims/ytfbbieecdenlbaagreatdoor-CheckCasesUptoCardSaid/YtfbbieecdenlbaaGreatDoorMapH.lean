/-
  Maps with texts as keys and whatever values: what a look-up gives, what a store leaves.
-/
import Derived.Test.YtfbbieecdenlbaaGreatDoorBase
import Derived.Maps.OwnSet
import Derived.Maps.Views
namespace Go.Proofs.YtfbbieecdenlbaaGreatDoor
open Go.RowKit Go.Maps Go.WideMaps

def heldE (v : Value) : Option (DataW Value × List MemPlace) := some (.held v, [])
theorem keyLaw : Maps.Keyed Tryz.prog 9 := string_keyed Tryz.underlying9

/-- Block b is a map with texts as keys, of at most n entries, that tells f. -/
def MapAt (w : World) (b n : Nat) (f : List UInt8 → Option Value) : Prop :=
  ∃ D : DataW Value, w.ownsMap Tryz.prog 9 heldE b n D ∧ Maps.IsMap D ∧ ∀ s : List UInt8, s.length ≤ maxLen → Maps.has D (.string s) = (f s).isSome ∧ ∀ z, D.atKey (.string s) (.held z) = .held ((f s).getD z)

theorem MapAt.made (w : World) : MapAt (w.alloc (.map #[] 0)) w.heap.size 0 (fun _ => none) := by
  refine ⟨.map [], World.ownsMap_made w _ _ _, (World.ownsMap_made (H := Value) w Tryz.prog 9 heldE).isMap, fun s hs => ⟨rfl, fun z => rfl⟩⟩

theorem MapAt.lt {w : World} {b n : Nat} {f : List UInt8 → Option Value} (h : MapAt w b n f) : b < w.heap.size := by
  obtain ⟨D, h1, -⟩ := h
  exact h1.lt

theorem MapAt.only {w w' : World} {S : List Nat} {b n : Nat} {f : List UInt8 → Option Value} (h : MapAt w b n f) (ho : Only S w w') (hb : b ∉ S) : MapAt w' b n f := by
  obtain ⟨D, ⟨es, clock, h1, h2⟩, r⟩ := h
  exact ⟨D, ⟨es, clock, ho.keep h1 hb, h2⟩, r⟩

theorem size_bytes (s : List UInt8) : (⟨s.toArray⟩ : ByteArray).size = s.length := by simp [ByteArray.size]

theorem wpList_lookup_held {w : World} {ops : Array Oper} {rest : List Oper} {o : Oper} {a : Act} {Q : Exit → Act → World → Prop} (hg : o.guard = none) (m x : Operand) (t e : TypeId) (hop : o.op = Op.lookup t m x false)
    (ht : Tryz.prog.underlying t = some (.map 9 e)) {z : Value} (hz : (zeroValue e).run Tryz.prog w = .ok z w) {b n : Nat} {f : List UInt8 → Option Value} (h : MapAt w b n f) (s : List UInt8) (hs : s.length ≤ maxLen)
    (hm : a.eval m = .map (some b)) (hx : a.eval x = .string ⟨s.toArray⟩)
    (hK : wpList Tryz.prog ops Q rest (a.put o.dst ((f s).getD z)) w) : wpList Tryz.prog ops Q (o :: rest) a w := by
  obtain ⟨D, h1, hm', hd⟩ := h
  refine wpList_plain hg fun K' hK' => ?_
  obtain ⟨v, ps, hrun, hv⟩ := h1.lookup keyLaw ht hz (zd := .held z) (zp := []) rfl (keyOf_string_mk Tryz.underlying9 (s := ⟨s.toArray⟩) (by rw [size_bytes]; exact hs))
  have h2 := (hd s hs).2 z
  simp only [heldE, Option.some.injEq, Prod.mk.injEq] at hv
  rw [h2] at hv
  have : v = (f s).getD z := by simpa using hv.1
  subst this
  unfold Oper.wp
  simp [execOp, hop, hm, hx, hrun, Result.andThen]
  exact hK' _ _ hK

theorem wpList_lookup_held_ok {w : World} {ops : Array Oper} {rest : List Oper} {o : Oper} {a : Act} {Q : Exit → Act → World → Prop} (hg : o.guard = none) (m x : Operand) (t e : TypeId) (hop : o.op = Op.lookup t m x true)
    (ht : Tryz.prog.underlying t = some (.map 9 e)) {z : Value} (hz : (zeroValue e).run Tryz.prog w = .ok z w) {b n : Nat} {f : List UInt8 → Option Value} (h : MapAt w b n f) (s : List UInt8) (hs : s.length ≤ maxLen)
    (hm : a.eval m = .map (some b)) (hx : a.eval x = .string ⟨s.toArray⟩)
    (hK : wpList Tryz.prog ops Q rest (a.put o.dst (.tuple #[(f s).getD z, .bool (f s).isSome])) w) : wpList Tryz.prog ops Q (o :: rest) a w := by
  obtain ⟨D, h1, hm', hd⟩ := h
  refine wpList_plain hg fun K' hK' => ?_
  obtain ⟨v, ps, hrun, hv⟩ := h1.look_ok keyLaw ht hz (zd := .held z) (zp := []) rfl (keyOf_string_mk Tryz.underlying9 (s := ⟨s.toArray⟩) (by rw [size_bytes]; exact hs))
  have h2 := (hd s hs).2 z
  have h3 := (hd s hs).1
  simp only [heldE, Option.some.injEq, Prod.mk.injEq] at hv
  rw [h2] at hv
  have : v = (f s).getD z := by simpa using hv.1
  subst this
  unfold Oper.wp
  simp [execOp, hop, hm, hx, hrun, Result.andThen, h3]
  exact hK' _ _ hK

theorem wpList_store_held {w : World} {ops : Array Oper} {rest : List Oper} {o : Oper} {a : Act} {Q : Exit → Act → World → Prop} (hg : o.guard = none) (m x v : Operand) (t e : TypeId) (hop : o.op = Op.mapUpdate t m x v)
    (ht : Tryz.prog.underlying t = some (.map 9 e)) {b n : Nat} {f : List UInt8 → Option Value} (h : MapAt w b n f) (hn : n < maxLen) (s : List UInt8) (hs : s.length ≤ maxLen) (val : Value)
    (hm : a.eval m = .map (some b)) (hx : a.eval x = .string ⟨s.toArray⟩) (hv : a.eval v = val)
    (hK : ∀ w', MapAt w' b (n + 1) (fun u => if u = s then some val else f u) → Only [b] w w' → wpList Tryz.prog ops Q rest (a.put o.dst undef) w') : wpList Tryz.prog ops Q (o :: rest) a w := by
  obtain ⟨D, h1, hm', hd⟩ := h
  refine wpList_mapUpdate_own w hg m x v t hop 9 e keyLaw ht heldE b n D hm h1 hn _ val _ hx hv (keyOf_string_mk Tryz.underlying9 (s := ⟨s.toArray⟩) (by rw [size_bytes]; exact hs)) (.held val) [] rfl ?_
  intro w' h2 h3
  refine hK w' ⟨_, h2, h2.isMap, fun u hu => ?_⟩ ((Only.refl [b] w).grown h3 (by intro k hk; exact Or.inl (by simpa using hk.symm)))
  have hk : WideAt.IsKeyLit (.string s) := by trivial
  by_cases e : u = s
  · subst e
    exact ⟨by rw [Maps.has_put_same hm' hk]; simp, fun z => by rw [Maps.atKey_put_same hm' hk]; simp⟩
  · have hne : Lit.string u ≠ Lit.string s := by simpa using e
    exact ⟨by rw [Maps.has_put_other hne]; simpa [e] using (hd u hu).1, fun z => by rw [Maps.atKey_put_other hne]; simpa [e] using (hd u hu).2 z⟩
end Go.Proofs.YtfbbieecdenlbaaGreatDoor
