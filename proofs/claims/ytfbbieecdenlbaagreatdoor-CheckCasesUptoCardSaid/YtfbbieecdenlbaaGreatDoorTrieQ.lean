/-
  trie, plainly: a word that was put is found, whatever was put besides.
-/
import Derived.Test.YtfbbieecdenlbaaGreatDoorTokP
namespace Go.Proofs.YtfbbieecdenlbaaGreatDoor
open Go.RowKit

/-- From k along the nodes of a list to m. -/
def Lk (N : List Nd) : Nat → List Nat → Nat → Prop
  | k, [], m => k = m
  | k, x :: xs, m => k = x ∧ 0 < x ∧ x < N.length ∧ Lk N (ndAt N x).other xs m
theorem lk_append {N : List Nd} : ∀ (A B : List Nat) (k m : Nat), Lk N k (A ++ B) m ↔ ∃ j, Lk N k A j ∧ Lk N j B m := by
  intro A B
  induction A with
  | nil => intro k m; exact ⟨fun h => ⟨k, rfl, h⟩, fun ⟨j, h1, h2⟩ => by cases h1; exact h2⟩
  | cons x A ih =>
    intro k m
    constructor
    · rintro ⟨h1, h2, h3, h4⟩
      obtain ⟨j, h5, h6⟩ := (ih _ _).1 h4
      exact ⟨j, ⟨h1, h2, h3, h5⟩, h6⟩
    · rintro ⟨j, ⟨h1, h2, h3, h4⟩, h5⟩
      exact ⟨h1, h2, h3, (ih _ _).2 ⟨j, h4, h5⟩⟩
theorem Lk.lt {N : List Nd} : ∀ {C : List Nat} {k m : Nat}, Lk N k C m → ∀ x ∈ C, 0 < x ∧ x < N.length := by
  intro C
  induction C with
  | nil => intro k m _ x hx; cases hx
  | cons y C ih =>
    rintro k m ⟨_, h2, h3, h4⟩ x hx
    rcases List.mem_cons.1 hx with rfl | hx
    · exact ⟨h2, h3⟩
    · exact ih h4 x hx
theorem Lk.congr {N N' : List Nd} (hl : N.length ≤ N'.length) : ∀ {C : List Nat} {k m : Nat}, Lk N k C m → (∀ x ∈ C, (ndAt N' x).other = (ndAt N x).other) → Lk N' k C m := by
  intro C
  induction C with
  | nil => intro k m h _; exact h
  | cons y C ih =>
    rintro k m ⟨h1, h2, h3, h4⟩ he
    refine ⟨h1, h2, by omega, ?_⟩
    rw [he y (by simp)]
    exact ih h4 fun x hx => he x (by simp [hx])
theorem Lk.sibs {N : List Nd} : ∀ {C : List Nat} {k : Nat}, Lk N k C 0 → ∀ d, C.length ≤ d → sibs N d k = C ∧ okSib N d k = true := by
  intro C
  induction C with
  | nil =>
    intro k h d _
    have h' : k = 0 := h
    subst h'
    cases d <;> simp [Go.Proofs.YtfbbieecdenlbaaGreatDoor.sibs, okSib]
  | cons y C ih =>
    rintro k ⟨h1, h2, h3, h4⟩ d hd
    subst h1
    cases d with
    | zero => simp at hd
    | succ d =>
      obtain ⟨e1, e2⟩ := ih h4 d (by simpa using hd)
      rw [Go.Proofs.YtfbbieecdenlbaaGreatDoor.sibs, okSib, if_neg (by omega), e1, e2]
      exact ⟨rfl, by simp [h3]⟩
theorem nodup_len : ∀ (n : Nat) (l : List Nat), l.Nodup → (∀ x ∈ l, x < n) → l.length ≤ n := by
  intro n
  induction n with
  | zero =>
    intro l _ h
    cases l with
    | nil => simp
    | cons a l => have := h a (by simp); omega
  | succ n ih =>
    intro l hn h
    by_cases hm : n ∈ l
    · have h1 := ih (l.erase n) (hn.erase n) (fun x hx => by
        have := (hn.mem_erase_iff).1 hx
        have := h x this.2
        omega)
      rw [List.length_erase_of_mem hm] at h1
      omega
    · have h1 := ih l hn (fun x hx => by
        have := h x hx
        have : x ≠ n := fun e => hm (e ▸ hx)
        omega)
      omega

/-- Nodes with their children in lists, that rise by their runes, each node the child of one. -/
structure Inv (N : List Nd) (C : Nat → List Nat) : Prop where
  pos : 0 < N.length
  link : ∀ k, k < N.length → Lk N (ndAt N k).kid (C k) 0
  rise : ∀ k, k < N.length → (C k).Pairwise fun x y => (ndAt N x).r < (ndAt N y).r
  own : ∀ j k x, j < N.length → k < N.length → x ∈ C j → x ∈ C k → j = k
theorem rise_nodup {N : List Nd} {l : List Nat} (h : l.Pairwise fun x y => (ndAt N x).r < (ndAt N y).r) : l.Nodup :=
  h.imp fun {a b} hab e => by subst e; omega
theorem Inv.chain {N : List Nd} {C : Nat → List Nat} (h : Inv N C) {k : Nat} (hk : k < N.length) : chain N (ndAt N k).kid = C k ∧ okk N (ndAt N k).kid := by
  have hl := h.link k hk
  exact hl.sibs N.length (nodup_len _ _ (rise_nodup (h.rise k hk)) fun x hx => (hl.lt x hx).2)
theorem Inv.wf {N : List Nd} {C : Nat → List Nat} (h : Inv N C) : wfN N := ⟨h.pos, fun _ hk => (h.chain hk).2⟩

theorem seek_split (N : List Nd) (r : Int) : ∀ (C : List Nat) (b : Nat), ∃ A B, C = A ++ B ∧ (∀ x ∈ A, (ndAt N x).r < r) ∧ (∀ x, B.head? = some x → ¬ (ndAt N x).r < r) ∧ seekL N r b C = (A.getLast?.getD b, B.head?.getD 0) := by
  intro C
  induction C with
  | nil => intro b; exact ⟨[], [], rfl, by simp, by simp, rfl⟩
  | cons y C ih =>
    intro b
    by_cases hy : (ndAt N y).r < r
    · obtain ⟨A, B, h1, h2, h3, h4⟩ := ih y
      refine ⟨y :: A, B, by rw [h1]; rfl, fun x hx => ?_, h3, ?_⟩
      · rcases List.mem_cons.1 hx with rfl | hx
        · exact hy
        · exact h2 x hx
      · rw [seekL, if_pos hy, h4]
        cases A with
        | nil => rfl
        | cons a A => simp [List.getLast?_cons]
    · exact ⟨[], y :: C, rfl, by simp, by simpa using hy, by rw [seekL, if_neg hy]; rfl⟩

/-- What stays as more is put. -/
structure Ext (N : List Nd) (C : Nat → List Nat) (N' : List Nd) (C' : Nat → List Nat) : Prop where
  len : N.length ≤ N'.length
  r : ∀ x, x < N.length → (ndAt N' x).r = (ndAt N x).r
  fin : ∀ x, x < N.length → (ndAt N x).fin = true → (ndAt N' x).fin = true
  sub : ∀ k, k < N.length → ∀ x ∈ C k, x ∈ C' k
theorem Ext.refl (N : List Nd) (C : Nat → List Nat) : Ext N C N C := ⟨Nat.le_refl _, fun _ _ => rfl, fun _ _ h => h, fun _ _ _ h => h⟩
theorem Ext.trans {N N' N'' : List Nd} {C C' C'' : Nat → List Nat} (h : Ext N C N' C') (g : Ext N' C' N'' C'') : Ext N C N'' C'' :=
  ⟨Nat.le_trans h.len g.len, fun x hx => (g.r x (Nat.lt_of_lt_of_le hx h.len)).trans (h.r x hx), fun x hx hf => g.fin x (Nat.lt_of_lt_of_le hx h.len) (h.fin x hx hf), fun k hk x hx => g.sub k (Nat.lt_of_lt_of_le hk h.len) x (h.sub k hk x hx)⟩

theorem ndAt_lt {N : List Nd} {k : Nat} (h : k < N.length) : ndAt N k = N[k] := by
  unfold ndAt
  rw [List.getD_eq_getElem?_getD, List.getElem?_eq_getElem h]
  rfl
theorem ndAt_set (N : List Nd) (k x : Nat) (n : Nd) (hx : x < N.length) : ndAt (N.set k n) x = if k = x then n else ndAt N x := by
  rw [ndAt_lt (by simpa using hx), List.getElem_set]
  split
  · rfl
  · rw [ndAt_lt hx]
theorem ndAt_app {N : List Nd} (n : Nd) {x : Nat} (h : x < N.length) : ndAt (N ++ [n]) x = ndAt N x := by
  rw [ndAt_lt (by simp; omega), ndAt_lt h, List.getElem_append_left h]
theorem ndAt_new (N : List Nd) (n : Nd) : ndAt (N ++ [n]) N.length = n := by
  rw [ndAt_lt (by simp), List.getElem_append_right (Nat.le_refl _)]
  simp

theorem child_new {N : List Nd} {C : Nat → List Nat} (h : Inv N C) {a : Nat} (ha : a < N.length) (r : Int) {A B : List Nat} (hC : C a = A ++ B) (hA : ∀ x ∈ A, (ndAt N x).r < r) (hB : ∀ x ∈ B, r < (ndAt N x).r) {N' : List Nd}
    (hlen : N'.length = N.length + 1) (hr : ∀ x, x < N.length → (ndAt N' x).r = (ndAt N x).r) (hf : ∀ x, x < N.length → (ndAt N' x).fin = (ndAt N x).fin)
    (hk : ∀ x, x < N.length → x ≠ a → (ndAt N' x).kid = (ndAt N x).kid) (ho : ∀ x, x < N.length → x ∉ A → (ndAt N' x).other = (ndAt N x).other)
    (hn : ndAt N' N.length = ⟨r, false, 0, B.head?.getD 0⟩) (hka : Lk N' (ndAt N' a).kid A N.length) :
    ∃ C', Inv N' C' ∧ Ext N C N' C' ∧ N.length ∈ C' a := by
  have hin : ∀ x ∈ C a, 0 < x ∧ x < N.length := (h.link a ha).lt
  have hBl : Lk N (B.head?.getD 0) B 0 := by
    obtain ⟨j, -, h2⟩ := (lk_append A B _ _).1 (hC ▸ h.link a ha)
    cases B with
    | nil => rfl
    | cons b B => obtain ⟨h3, h4⟩ := h2; exact ⟨rfl, h4⟩
  have hri := h.rise a ha
  have hnd := rise_nodup hri
  rw [hC] at hri hnd hin
  refine ⟨fun k => if k = a then A ++ N.length :: B else if k = N.length then [] else C k, ⟨by omega, fun k hkl => ?_, fun k hkl => ?_, fun j k x hj hkl hxj hxk => ?_⟩, ⟨by omega, hr, fun x hx e => (hf x hx).trans e, fun k hkl x hx => ?_⟩, ?_⟩
  · show Lk N' _ (if k = a then _ else _) 0
    split
    · rename_i e
      subst e
      refine (lk_append _ _ _ _).2 ⟨N.length, hka, rfl, by omega, by omega, ?_⟩
      rw [hn]
      exact hBl.congr (by omega) fun x hx => ho x (hin x (by simp [hx])).2 fun hxA => by
        have := List.nodup_append.1 hnd
        exact this.2.2 x hxA x hx rfl
    · rename_i e
      split
      · rename_i e2; subst e2; rw [hn]; rfl
      · rename_i e2
        have hkl' : k < N.length := by omega
        rw [hk k hkl' e]
        refine (h.link k hkl').congr (by omega) fun x hx => ho x ((h.link k hkl').lt x hx).2 fun hxA => ?_
        exact e (h.own k a x hkl' ha hx (by rw [hC]; simp [hxA]))
  · show List.Pairwise _ (if k = a then _ else _)
    split
    · rw [List.pairwise_append] at hri ⊢
      refine ⟨?_, ?_, ?_⟩
      · exact hri.1.imp_of_mem fun {x y} hx hy hxy => by
          rw [hr x (hin x (by simp [hx])).2, hr y (hin y (by simp [hy])).2]; exact hxy
      · rw [List.pairwise_cons]
        refine ⟨fun y hy => ?_, hri.2.1.imp_of_mem fun {x y} hx hy hxy => by
          rw [hr x (hin x (by simp [hx])).2, hr y (hin y (by simp [hy])).2]; exact hxy⟩
        rw [hn, hr y (hin y (by simp [hy])).2]
        exact hB y hy
      · intro x hx y hy
        rcases List.mem_cons.1 hy with rfl | hy
        · rw [hn, hr x (hin x (by simp [hx])).2]; exact hA x hx
        · rw [hr x (hin x (by simp [hx])).2, hr y (hin y (by simp [hy])).2]
          exact hri.2.2 x hx y hy
    · split
      · exact List.Pairwise.nil
      · rename_i e e2
        have hkl' : k < N.length := by omega
        exact (h.rise k hkl').imp_of_mem fun {x y} hx hy hxy => by
          rw [hr x ((h.link k hkl').lt x hx).2, hr y ((h.link k hkl').lt y hy).2]; exact hxy
  · have key : ∀ k, k < N'.length → x ∈ (if k = a then A ++ N.length :: B else if k = N.length then [] else C k) → (x = N.length ∧ k = a) ∨ (k < N.length ∧ x ∈ C k) := by
      intro k hkl hx
      split at hx
      · rename_i e
        subst e
        simp only [List.mem_append, List.mem_cons] at hx
        rcases hx with hx | hx | hx
        · exact Or.inr ⟨ha, by rw [hC]; simp [hx]⟩
        · exact Or.inl ⟨hx, rfl⟩
        · exact Or.inr ⟨ha, by rw [hC]; simp [hx]⟩
      · split at hx
        · cases hx
        · exact Or.inr ⟨by omega, hx⟩
    rcases key j hj hxj with ⟨e1, e2⟩ | ⟨e1, e2⟩
    · rcases key k hkl hxk with ⟨e3, e4⟩ | ⟨e3, e4⟩
      · rw [e2, e4]
      · have := ((h.link k e3).lt x e4).2; omega
    · rcases key k hkl hxk with ⟨e3, e4⟩ | ⟨e3, e4⟩
      · have := ((h.link j e1).lt x e2).2; omega
      · exact h.own j k x e1 e3 e2 e4
  · show x ∈ (if k = a then _ else _)
    split
    · rename_i e; subst e; rw [hC] at hx; simp only [List.mem_append, List.mem_cons] at hx ⊢; rcases hx with hx | hx <;> simp [hx]
    · rw [if_neg (by omega)]; exact hx
  · show N.length ∈ (if a = a then _ else _)
    rw [if_pos rfl]; simp

theorem child_law {N : List Nd} {C : Nat → List Nat} (h : Inv N C) {a : Nat} (ha : a < N.length) (r : Int) :
    ∃ C', Inv (childT N a r).1 C' ∧ Ext N C (childT N a r).1 C' ∧ (childT N a r).2 ∈ C' a ∧ (childT N a r).2 < (childT N a r).1.length ∧ (ndAt (childT N a r).1 (childT N a r).2).r = r := by
  obtain ⟨hch, -⟩ := h.chain ha
  obtain ⟨A, B, hC, hA, hB, hs⟩ := seek_split N r (C a) 0
  have hs' : seekT N a r = (A.getLast?.getD 0, B.head?.getD 0) := by unfold seekT; rw [hch]; exact hs
  have hin : ∀ x ∈ C a, 0 < x ∧ x < N.length := (h.link a ha).lt
  have hri := h.rise a ha
  rw [hC] at hri
  have hpr := List.pairwise_append.1 hri
  unfold childT
  rw [hs']
  dsimp only
  by_cases hf : 0 < B.head?.getD 0 ∧ (ndAt N (B.head?.getD 0)).r = r
  · rw [if_pos hf]
    cases B with
    | nil => simp at hf
    | cons b B =>
      simp only [List.head?_cons, Option.getD_some] at hf
      have hb : b ∈ C a := by rw [hC]; simp
      exact ⟨C, h, Ext.refl N C, hb, (hin b hb).2, hf.2⟩
  · rw [if_neg hf]
    have hB' : ∀ x ∈ B, r < (ndAt N x).r := by
      cases B with
      | nil => simp
      | cons b B =>
        simp only [List.head?_cons, Option.getD_some] at hf
        have h1 := hB b rfl
        have h2 : 0 < b := (hin b (by rw [hC]; simp)).1
        have h3 : r < (ndAt N b).r := by
          have : (ndAt N b).r ≠ r := fun e => hf ⟨h2, e⟩
          omega
        intro x hx
        rcases List.mem_cons.1 hx with rfl | hx
        · exact h3
        · have := (List.pairwise_cons.1 hpr.2.1).1 x hx; omega
    rcases List.eq_nil_or_concat A with hA0 | ⟨A0, z, hA0⟩
    · subst hA0
      rw [if_neg (by simp)]
      dsimp only
      have hx : ∀ x, x < N.length → ndAt (setKid (N ++ [⟨r, false, 0, B.head?.getD 0⟩]) a N.length) x = if a = x then ⟨(ndAt N a).r, (ndAt N a).fin, N.length, (ndAt N a).other⟩ else ndAt N x := by
        intro x hx
        unfold setKid
        rw [ndAt_set _ _ _ _ (by simp; omega), ndAt_app _ ha, ndAt_app _ hx]
      have hn : ndAt (setKid (N ++ [⟨r, false, 0, B.head?.getD 0⟩]) a N.length) N.length = ⟨r, false, 0, B.head?.getD 0⟩ := by
        unfold setKid
        rw [ndAt_set _ _ _ _ (by simp), if_neg (by omega), ndAt_new]
      have hl : (setKid (N ++ [⟨r, false, 0, B.head?.getD 0⟩]) a N.length).length = N.length + 1 := by simp [setKid]
      have hsm : ∀ x, x < N.length → (ndAt (setKid (N ++ [⟨r, false, 0, B.head?.getD 0⟩]) a N.length) x).r = (ndAt N x).r ∧ (ndAt (setKid (N ++ [⟨r, false, 0, B.head?.getD 0⟩]) a N.length) x).fin = (ndAt N x).fin ∧ (ndAt (setKid (N ++ [⟨r, false, 0, B.head?.getD 0⟩]) a N.length) x).other = (ndAt N x).other := by
        intro x hxl
        rw [hx x hxl]
        split
        · rename_i e; rw [e]; exact ⟨rfl, rfl, rfl⟩
        · exact ⟨rfl, rfl, rfl⟩
      obtain ⟨C', h1, h2, h3⟩ := child_new h ha r hC hA hB' hl (fun x hxl => (hsm x hxl).1) (fun x hxl => (hsm x hxl).2.1)
        (fun x hxl hne => by rw [hx x hxl, if_neg (Ne.symm hne)]) (fun x hxl _ => (hsm x hxl).2.2) hn (by rw [hx a ha, if_pos rfl]; rfl)
      exact ⟨C', h1, h2, h3, by rw [hl]; omega, by rw [hn]⟩
    · have hA1 : A = A0 ++ [z] := by rw [hA0]; simp
      subst hA1
      clear hA0
      have hz := hin z (by rw [hC]; simp)
      have hg : (A0 ++ [z]).getLast?.getD 0 = z := by simp
      rw [hg, if_pos hz.1]
      dsimp only
      have hx : ∀ x, x < N.length → ndAt (setOther (N ++ [⟨r, false, 0, B.head?.getD 0⟩]) z N.length) x = if z = x then ⟨(ndAt N z).r, (ndAt N z).fin, (ndAt N z).kid, N.length⟩ else ndAt N x := by
        intro x hx
        unfold setOther
        rw [ndAt_set _ _ _ _ (by simp; omega), ndAt_app _ hz.2, ndAt_app _ hx]
      have hn : ndAt (setOther (N ++ [⟨r, false, 0, B.head?.getD 0⟩]) z N.length) N.length = ⟨r, false, 0, B.head?.getD 0⟩ := by
        unfold setOther
        rw [ndAt_set _ _ _ _ (by simp), if_neg (by omega), ndAt_new]
      have hl : (setOther (N ++ [⟨r, false, 0, B.head?.getD 0⟩]) z N.length).length = N.length + 1 := by simp [setOther]
      have hkid : ∀ x, x < N.length → (ndAt (setOther (N ++ [⟨r, false, 0, B.head?.getD 0⟩]) z N.length) x).kid = (ndAt N x).kid := fun x hxl => by
        rw [hx x hxl]; split
        · rename_i e; rw [e]
        · rfl
      have hlk : Lk (setOther (N ++ [⟨r, false, 0, B.head?.getD 0⟩]) z N.length) (ndAt N a).kid (A0 ++ [z]) N.length := by
        obtain ⟨j, h1, -⟩ := (lk_append (A0 ++ [z]) B _ _).1 (hC ▸ h.link a ha)
        obtain ⟨i, h3, h4, h5, h6, -⟩ := (lk_append A0 [z] _ _).1 h1
        refine (lk_append A0 [z] _ _).2 ⟨i, h3.congr (by omega) fun x hxA => ?_, h4, h5, by omega, ?_⟩
        · have hxl := hin x (by rw [hC]; simp [hxA])
          have : z ≠ x := by
            have hnd := rise_nodup hpr.1
            have := List.nodup_append.1 hnd
            exact fun e => this.2.2 x hxA z (by simp) e.symm
          rw [hx x hxl.2, if_neg this]
        · rw [hx z hz.2, if_pos rfl]; rfl
      have hsm : ∀ x, x < N.length → (ndAt (setOther (N ++ [⟨r, false, 0, B.head?.getD 0⟩]) z N.length) x).r = (ndAt N x).r ∧ (ndAt (setOther (N ++ [⟨r, false, 0, B.head?.getD 0⟩]) z N.length) x).fin = (ndAt N x).fin := by
        intro x hxl
        rw [hx x hxl]
        split
        · rename_i e; rw [e]; exact ⟨rfl, rfl⟩
        · exact ⟨rfl, rfl⟩
      obtain ⟨C', h1, h2, h3⟩ := child_new h ha r hC hA hB' hl (fun x hxl => (hsm x hxl).1) (fun x hxl => (hsm x hxl).2)
        (fun x hxl _ => hkid x hxl) (fun x hxl hne => by rw [hx x hxl, if_neg (fun e => hne (by simp [e]))]) hn (by rw [hkid a ha]; exact hlk)
      exact ⟨C', h1, h2, h3, by rw [hl]; omega, by rw [hn]⟩

/-- From a node along runes. -/
def Walk (N : List Nd) (C : Nat → List Nat) : Nat → List Int → Nat → Prop
  | a, [], k => a = k
  | a, r :: rs, k => ∃ j, j ∈ C a ∧ j < N.length ∧ (ndAt N j).r = r ∧ Walk N C j rs k
theorem Walk.ext {N N' : List Nd} {C C' : Nat → List Nat} (e : Ext N C N' C') : ∀ {l : List Int} {a k : Nat}, a < N.length → Walk N C a l k → Walk N' C' a l k := by
  intro l
  induction l with
  | nil => intro a k _ h; exact h
  | cons r l ih =>
    rintro a k ha ⟨j, h1, h2, h3, h4⟩
    exact ⟨j, e.sub a ha j h1, Nat.lt_of_lt_of_le h2 e.len, (e.r j h2).trans h3, ih h2 h4⟩
theorem put_walk : ∀ (l : List Int) {N : List Nd} {C : Nat → List Nat} (_ : Inv N C) {a : Nat} (_ : a < N.length),
    okPut N a l = true ∧ ∃ C', Inv (putW N a l).1 C' ∧ Ext N C (putW N a l).1 C' ∧ (putW N a l).2 < (putW N a l).1.length ∧ Walk (putW N a l).1 C' a l (putW N a l).2 := by
  intro l
  induction l with
  | nil => intro N C h a ha; exact ⟨by simp [okPut, ha], C, h, Ext.refl N C, ha, rfl⟩
  | cons r l ih =>
    intro N C h a ha
    obtain ⟨C1, h1, h2, h3, h4, h5⟩ := child_law h ha r
    obtain ⟨hok, C2, g1, g2, g3, g4⟩ := ih h1 h4
    refine ⟨?_, C2, g1, h2.trans g2, g3, (childT N a r).2, g2.sub a (Nat.lt_of_lt_of_le ha h2.len) _ h3, Nat.lt_of_lt_of_le h4 g2.len, (g2.r _ h4).trans h5, g4⟩
    rw [okPut, hok]
    have := (h.chain ha).2
    unfold okk at this
    simp [ha, this]
theorem fin_law {N : List Nd} {C : Nat → List Nat} (h : Inv N C) {a : Nat} (ha : a < N.length) : Inv (setFin N a) C ∧ Ext N C (setFin N a) C ∧ (ndAt (setFin N a) a).fin = true := by
  have hx : ∀ x, x < N.length → ndAt (setFin N a) x = if a = x then ⟨(ndAt N a).r, true, (ndAt N a).kid, (ndAt N a).other⟩ else ndAt N x := by
    intro x hx
    unfold setFin
    rw [ndAt_set _ _ _ _ hx]
  have hl : (setFin N a).length = N.length := by simp [setFin]
  have hr : ∀ x, x < N.length → (ndAt (setFin N a) x).r = (ndAt N x).r ∧ (ndAt (setFin N a) x).kid = (ndAt N x).kid ∧ (ndAt (setFin N a) x).other = (ndAt N x).other := by
    intro x hxl
    rw [hx x hxl]
    split
    · rename_i e; rw [e]; exact ⟨rfl, rfl, rfl⟩
    · exact ⟨rfl, rfl, rfl⟩
  refine ⟨⟨by rw [hl]; exact h.pos, fun k hk => ?_, fun k hk => ?_, fun j k x hj hk => h.own j k x (hl ▸ hj) (hl ▸ hk)⟩, ⟨by omega, fun x hxl => (hr x hxl).1, fun x hxl hf => ?_, fun _ _ _ hx => hx⟩, by rw [hx a ha, if_pos rfl]⟩
  · rw [hl] at hk
    rw [(hr k hk).2.1]
    exact (h.link k hk).congr (by omega) fun x hxc => (hr x ((h.link k hk).lt x hxc).2).2.2
  · rw [hl] at hk
    exact (h.rise k hk).imp_of_mem fun {x y} hxc hyc hxy => by
      rw [(hr x ((h.link k hk).lt x hxc).2).1, (hr y ((h.link k hk).lt y hyc).2).1]; exact hxy
  · rw [hx x hxl]
    split
    · rfl
    · exact hf

/-- The words of a trie. -/
def Word (N : List Nd) (C : Nat → List Nat) (l : List Int) : Prop := ∃ k, k < N.length ∧ Walk N C 0 l k ∧ (ndAt N k).fin = true
theorem put_law {N : List Nd} {C : Nat → List Nat} (h : Inv N C) (l : List Int) : okPut N 0 l = true ∧ ∃ C', Inv (putT N l) C' ∧ Word (putT N l) C' l ∧ ∀ m, Word N C m → Word (putT N l) C' m := by
  obtain ⟨h1, C1, h2, h3, h4, h5⟩ := put_walk l h h.pos
  obtain ⟨g1, g2, g3⟩ := fin_law h2 h4
  refine ⟨h1, C1, g1, ⟨_, Nat.lt_of_lt_of_le h4 g2.len, h5.ext g2 h2.pos, g3⟩, ?_⟩
  rintro m ⟨k, k1, k2, k3⟩
  have e := h3.trans g2
  exact ⟨k, Nat.lt_of_lt_of_le k1 e.len, k2.ext e h.pos, e.fin k k1 k3⟩
theorem inv_nil : Inv [nd0] (fun _ => []) := by
  refine ⟨by simp, fun k hk => ?_, fun k _ => List.Pairwise.nil, fun _ _ _ _ _ h => by cases h⟩
  have : k = 0 := by simpa using hk
  subst this
  rfl
theorem pick_none (N : List Nd) (r : Int) : ∀ (C : List Nat) (a : Int), (∀ y ∈ C, (ndAt N y).r ≠ r) → pickI C N r a = a := by
  intro C
  induction C with
  | nil => intro a _; rfl
  | cons y C ih =>
    intro a h
    show pickI C N r (if (ndAt N y).r == r then (y : Int) else a) = a
    rw [if_neg (by simpa using h y (by simp)), ih a fun z hz => h z (by simp [hz])]
theorem pick_some (N : List Nd) (r : Int) : ∀ (C : List Nat) (a : Int) (x : Nat), x ∈ C → (ndAt N x).r = r → (C.Pairwise fun x y => (ndAt N x).r < (ndAt N y).r) → pickI C N r a = x := by
  intro C
  induction C with
  | nil => intro a x h; cases h
  | cons y C ih =>
    intro a x hx hr hp
    obtain ⟨p1, p2⟩ := List.pairwise_cons.1 hp
    show pickI C N r (if (ndAt N y).r == r then (y : Int) else a) = x
    rcases List.mem_cons.1 hx with rfl | hx
    · rw [if_pos (by simpa using hr)]
      exact pick_none N r C _ fun z hz => by have := p1 z hz; omega
    · exact ih _ x hx hr p2
theorem has_law {N : List Nd} {C : Nat → List Nat} (h : Inv N C) : ∀ (l : List Int) (a k : Nat), a < N.length → Walk N C a l k → (ndAt N k).fin = true → hasW N a l = true := by
  intro l
  induction l with
  | nil => rintro a k _ rfl hf; exact hf
  | cons r l ih =>
    rintro a k ha ⟨j, h1, h2, h3, h4⟩ hf
    have e : pickI (chain N (ndAt N a).kid) N r (-1) = j := by
      rw [(h.chain ha).1]
      exact pick_some N r _ _ j h1 h3 (h.rise a ha)
    rw [hasW, e, if_neg (by omega)]
    exact ih j k h2 h4 hf
end Go.Proofs.YtfbbieecdenlbaaGreatDoor
