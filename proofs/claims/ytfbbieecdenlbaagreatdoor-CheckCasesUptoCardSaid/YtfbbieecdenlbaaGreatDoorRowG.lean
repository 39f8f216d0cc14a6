/-
  append of a literal, once more: what is turned is the row alone; rows of different elements lie apart.
-/
import Derived.Test.YtfbbieecdenlbaaGreatDoorRow
namespace Go.Proofs.YtfbbieecdenlbaaGreatDoor
open Go.RowKit

theorem Only.of_grown {w w' : World} {row : Option Nat} (h : w.grownBy w' row) : Only row.toList w w' := (Only.refl _ w).grown h (by intro k hk; exact Or.inl (by simp [hk]))

theorem row_apart {w : World} {b1 b2 : Nat} {e1 e2 : TypeId} {s1 s2 : Nat} {v1 v2 : Value} {n1 n2 : Nat} {x1 x2 : List Value} (h1 : w.ownsRow b1 e1 s1 v1 n1 x1) (h2 : w.ownsRow b2 e2 s2 v2 n2 x2) (he : e1 ≠ e2) {k : Nat} (hk : v1.ownBlock = some k) : v2.ownBlock ≠ some k := by
  intro hk2
  rcases h1.2 with ⟨rfl, -⟩ | ⟨g, c, cur, rfl, -, hh, -⟩
  · cases hk
  · rcases h2.2 with ⟨rfl, -⟩ | ⟨g', c', cur', rfl, -, hh', -⟩
    · cases hk2
    · simp only [Value.ownBlock, Option.some.injEq] at hk hk2
      subst hk
      subst hk2
      rw [hh] at hh'
      simp only [Option.some.injEq, Obj.cells.injEq] at hh'
      exact he hh'.2.1

/-- A block whose cells are of another type is no row of these. -/
theorem row_not {w : World} {b : Nat} {e t : TypeId} {s : Nat} {v : Value} {n : Nat} {xs : List Value} (h : w.ownsRow b e s v n xs) {k : Nat} {cs : Array Value} {f : Nat × Nat} (hk : w.heap[k]? = some (.cells cs t f)) (he : e ≠ t) : v.ownBlock ≠ some k := by
  intro hk2
  rcases h.2 with ⟨rfl, -⟩ | ⟨g, c, cur, rfl, -, hh, -⟩
  · cases hk2
  · simp only [Value.ownBlock, Option.some.injEq] at hk2
    subst hk2
    rw [hh] at hk
    simp only [Option.some.injEq, Obj.cells.injEq] at hk
    exact he hk.2.1

theorem wpList_append_litg {P : Program} {w : World} {ops : Array Oper} {rest : List Oper} {o : Oper} {a : Act} {Q : Exit → Act → World → Prop} (hgd : o.guard = none) (s x : Operand) (t : TypeId)
    (ho : o.op = .call { callee := .builtin .append, args := #[s, x], argTypes := #[t, t] })
    (base : Nat) (e : TypeId) (z : Value) (size bytes : Nat) (ht : P.underlying t = some (.slice e))
    (hinfo : (P.info? e).map (fun i => (i.zero, i.size, i.bytes)) = some (some z, size, bytes)) (hzs : z.cells.size = size) (hsz : 0 < size)
    (v : Value) (n : Nat) (xs : List Value) (hs : a.eval s = v) (hown : w.ownsRow base e size v n xs) (hbase : base ≤ w.heap.size)
    (g m : Nat) (news : List Value) (hx : a.eval x = .slice (some ⟨g, 0, none⟩) m m) (hgw : w.heap.size = g) (hl : news.length = m * size) (h1 : ∀ u ∈ news, u.oneCell' = true)
    (h63 : n + m ≤ maxLen) (hbytes : (n + m) * bytes ≤ 140737488355328)
    (h : ∀ v' w', w'.ownsRow base e size v' (n + m) (xs ++ news) → Only v.ownBlock.toList w w' → (v'.ownBlock = v.ownBlock ∨ ∃ k, v'.ownBlock = some k ∧ w.heap.size ≤ k) → wpList P ops Q rest (a.put o.dst v') w') :
    wpList P ops Q (o :: rest) a (w.alloc (.cells news.toArray e)) := by
  subst hgw
  refine wpList_append_row _ hgd s x t t ho base e z size bytes ht hinfo hzs hsz v n xs hs (hown.alloc _) _ m news hx (Src.lit ht w e m news hl h1) h63 hbytes (by simp; omega) ?_
  intro v' w' h2 h3 _ h5
  refine h v' w' h2 (((Only.refl _ w).alloc _).trans (Only.of_grown h3)) ?_
  rcases h5 with h5 | h5
  · exact Or.inl h5
  · exact Or.inr ⟨_, h5, by simp⟩
end Go.Proofs.YtfbbieecdenlbaaGreatDoor
