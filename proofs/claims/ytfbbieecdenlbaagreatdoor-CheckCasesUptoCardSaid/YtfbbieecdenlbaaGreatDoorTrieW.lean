/-
  trie: child, put, Kids, Ends, Has.
-/
import Derived.Test.YtfbbieecdenlbaaGreatDoorTokP
import Derived.Test.YtfbbieecdenlbaaGreatDoorFoldS
import Derived.Deep.QuietTactic
import Derived.BigQuiet
namespace Go.Proofs.YtfbbieecdenlbaaGreatDoor
open Go.RowKit

/-- Block b is a trie of n words, whose nodes are N, in block g. -/
def TrieAt (w : World) (b g : Nat) (N : List Nd) (n : Int) : Prop :=
  ∃ cap, w.heap[b]? = some (.cells #[.slice (some ⟨g, 0, none⟩) N.length cap, .int .i64 n] 108 (0, 0)) ∧ w.ownsRow 0 184 4 (.slice (some ⟨g, 0, none⟩) N.length cap) N.length (nodeCells N)
theorem infoNode : (Tryz.prog.info? 184).map (fun i => (i.zero, i.size, i.bytes)) = some (some (.agg #[.int .i32 0, .bool false, .int .i64 0, .int .i64 0]), 4, 24) := by kernel_rfl

theorem TrieAt.only {w w' : World} {S : List Nat} {b g : Nat} {N : List Nd} {n : Int} (h : TrieAt w b g N n) (ho : Only S w w') (hb : b ∉ S) (hg : g ∉ S) : TrieAt w' b g N n := by
  obtain ⟨cap, h1, h2⟩ := h
  exact ⟨cap, ho.keep h1 hb, ownsRow_only h2 ho (by intro k hk; cases hk; exact hg)⟩

/-- The cells of a node. -/
structure NdAt (w : World) (g k : Nat) (x : Nd) : Prop where
  c0 : w.cell? ⟨g, k * 4, none⟩ = some (.int .i32 x.r)
  c1 : w.cell? ⟨g, k * 4 + 1, none⟩ = some (.bool x.fin)
  c2 : w.cell? ⟨g, k * 4 + 2, none⟩ = some (.int .i64 (x.kid : Int))
  c3 : w.cell? ⟨g, k * 4 + 3, none⟩ = some (.int .i64 (x.other : Int))
theorem TrieAt.node {w : World} {b g : Nat} {N : List Nd} {n : Int} (h : TrieAt w b g N n) {k : Nat} (hk : k < N.length) : NdAt w g k (ndAt N k) := by
  obtain ⟨cap, h1, h2⟩ := h
  obtain ⟨h3, h4, h5, h6⟩ := nodeCells_at N k hk
  exact ⟨by rw [h2.cellAt _ (by omega)]; exact h3, by rw [h2.cellAt _ (by omega)]; exact h4, by rw [h2.cellAt _ (by omega)]; exact h5, by rw [h2.cellAt _ (by omega)]; exact h6⟩

theorem TrieAt.ne {w : World} {b g : Nat} {N : List Nd} {n : Int} (h : TrieAt w b g N n) : b ≠ g := by
  intro e
  subst e
  obtain ⟨cap, h1, h2⟩ := h
  rcases h2.2 with ⟨h3, -⟩ | ⟨g', cap', cur, h3, -, hh, -⟩
  · cases h3
  · simp only [Value.slice.injEq, Option.some.injEq, Addr.mk.injEq, and_true, true_and] at h3
    obtain ⟨rfl, rfl⟩ := h3
    rw [h1] at hh
    simp at hh

/-- Behind an append and the store of the new slice. -/
theorem trie_grown {w0 w3 : World} {b g : Nat} {N : List Nd} {n : Int} (ht : TrieAt w0 b g N n) {x : Nd} {v' : Value} (hown : w3.ownsRow 0 184 4 v' (N.length + 1) (nodeCells N ++ [.int .i32 x.r, .bool x.fin, .int .i64 (x.kid : Int), .int .i64 (x.other : Int)]))
    (hg : w0.grownBy w3 (some g)) (m : Nat) (hloc : v'.ownBlock = some g ∨ v'.ownBlock = some m) :
    ∃ g' cap', v' = .slice (some ⟨g', 0, none⟩) (N.length + 1) cap' ∧ N.length + 1 ≤ cap' ∧ (g' = g ∨ g' = m) ∧ w3.cell? ⟨b, 0, none⟩ = w0.cell? ⟨b, 0, none⟩ ∧ w3.frozen? ⟨b, 0, none⟩ = false ∧ TrieAt (w3.setCell ⟨b, 0, none⟩ v') b g' (N ++ [x]) n := by
  obtain ⟨g', cap', rfl, hb', hnc, -⟩ := ownsRow_some hown (by omega)
  have hbg := ht.ne
  obtain ⟨cap, h1, h2⟩ := ht
  have hb3 : w3.heap[b]? = some (.cells #[.slice (some ⟨g, 0, none⟩) N.length cap, .int .i64 n] 108 (0, 0)) := by
    rw [hg.block b (lt_of_block h1) (by intro e; exact hbg (by simpa using e))]; exact h1
  have hne : b ≠ g' := by
    intro e
    subst e
    rcases hown.2 with ⟨h3, -⟩ | ⟨g'', cap'', cur, h3, -, hh, -⟩
    · cases h3
    · simp only [Value.slice.injEq, Option.some.injEq, Addr.mk.injEq, and_true, true_and] at h3
      obtain ⟨rfl, rfl⟩ := h3
      rw [hb3] at hh
      simp at hh
  refine ⟨g', cap', rfl, hnc, ?_, ?_, free_blk hb3 0, cap', ?_, ?_⟩
  · rcases hloc with h | h
    · left; simpa [Value.ownBlock] using h
    · right; simpa [Value.ownBlock] using h
  · rw [cell_blk hb3, cell_blk h1]
  · rw [setCell_blk hb3]
    simp
  · have hlen : (N ++ [x]).length = N.length + 1 := by simp
    rw [hlen, nodeCells_append]
    exact ownsRow_setCell_other hown (by simp [Value.ownBlock]; exact fun e => hne e.symm) _

/-- A node's cell is written. -/
theorem trie_set {w : World} {b g : Nat} {N N' : List Nd} {n : Int} (ht : TrieAt w b g N n) (hlen : N'.length = N.length) {j : Nat} {u : Value} (hc : nodeCells N' = (nodeCells N).set j u) : w.frozen? ⟨g, j, none⟩ = false ∧ TrieAt (w.setCell ⟨g, j, none⟩ u) b g N' n := by
  have hne := ht.ne
  obtain ⟨cap, h1, h2⟩ := ht
  refine ⟨free_row h2 j, cap, ?_, ?_⟩
  · rw [setCell_blk_other hne, hlen]; exact h1
  · rw [hlen, hc]
    exact (h2.stored j u).1

theorem ndAt_append {N : List Nd} {x : Nd} {k : Nat} (h : k < N.length) : ndAt (N ++ [x]) k = ndAt N k := by
  unfold ndAt
  rw [List.getD_eq_getElem?_getD, List.getD_eq_getElem?_getD, List.getElem?_append_left h]

set_option maxRecDepth 100000 in
set_option maxHeartbeats 2000000 in
theorem child_any (b g : Nat) (N : List Nd) (n : Int) (at' : Nat) (r : Int) (w : World) (ht : TrieAt w b g N n) (hat : at' < N.length) (hk : okk N (ndAt N at').kid) (hN : N.length ≤ 1000000) :
    Calls Tryz.prog 80 #[.pointer (some ⟨b, 0, none⟩), .int .i64 at', .int .i32 r] w fun e w' => ∃ g', e = .returned (.int .i64 ((childT N at' r).2 : Int)) ∧ TrieAt w' b g' (childT N at' r).1 n ∧ (g' = g ∨ w.heap.size ≤ g') ∧ Only [b, g] w w' := by
  obtain ⟨cap, hb, hrow⟩ := id ht
  have hnd := ht.node hat
  have hs : seekT N at' r = seekL N r 0 (chain N (ndAt N at').kid) := rfl
  have HS := Lib.hid hs
  have HT := Lib.hid ht
  have HK := Lib.hid hk
  have hcT := cell_blk hb 0
  have hcT' : w.cell? ⟨b, 0, none⟩ = some (.slice (some ⟨g, 0, none⟩) N.length cap) := hcT
  have a2 := hnd.c2
  have hat' : (at' : Int) < N.length := by omega
  have hN' : (N.length : Int) ≤ 1000000 := by omega
  have HROW0 := Lib.hid hrow
  clear hs ht hk hb hrow hnd hcT
  go_enter Tryz.func80, Tryz.ntmps80
  go_wp2_with fail
  go_quiet (fail)
  go_wp2_with fail
  go_loopw [7, 8] (fun bv kv wr => ∃ bf k : Nat, bv = .int .i64 bf ∧ kv = .int .i64 k ∧ bf < N.length ∧ okk N k ∧ seekL N r 0 (chain N (ndAt N at').kid) = seekL N r bf (chain N k) ∧ Only [] w wr) (fun _ kv _ => (chain N (intOf kv).toNat).length)
  case atStart => exact ⟨0, _, rfl, rfl, by omega, HK.out, rfl, (Only.refl _ _).drewN _⟩
  case round =>
    obtain ⟨bf, k, rfl, rfl, hbf, hok, hseek, ho⟩ := hrel
    have HO := Lib.hid ho
    have HT2 := Lib.hid (HT.out.only ho (by simp) (by simp))
    have hcT2 : wr.cell? ⟨b, 0, none⟩ = some (.slice (some ⟨g, 0, none⟩) N.length cap) := ho.cell_some hcT' (by simp)
    have HROW := Lib.hid (ownsRow_only HROW0.out ho (by simp))
    have hbf' : (bf : Int) < N.length := by omega
    by_cases h0 : k = 0
    · subst h0
      rw [chain_zero] at hseek
      have HS2 : Hid (seekT N at' r = (bf, 0)) := Lib.hid (by rw [HS.out, hseek]; rfl)
      clear hseek hok ho
      have hct : childT N at' r = if 0 < bf then (setOther (N ++ [⟨r, false, 0, 0⟩]) bf N.length, N.length) else (setKid (N ++ [⟨r, false, 0, 0⟩]) at' N.length, N.length) := by
        unfold childT
        rw [HS2.out]
        exact if_neg (fun h => by simp at h)
      have HCT := Lib.hid hct
      clear hct
      go_wp2_with (at_builtin; refine wpList_append_row _ rfl (.tmp 65) (.tmp 69) 106 106 rfl 0 184 (.agg #[.int .i32 0, .bool false, .int .i64 0, .int .i64 0]) 4 24 Tryz.underlying106 infoNode rfl (by decide) (.slice (some ⟨g, 0, none⟩) N.length cap) N.length (nodeCells N) rfl (HROW.out.alloc _) (.slice (some ⟨wr.heap.size, 0, none⟩) 1 1) 1 [.int .i32 r, .bool false, .int .i64 0, .int .i64 0] rfl (Src.lit Tryz.underlying106 wr _ 1 _ rfl (by simp [Value.oneCell'])) (by unfold maxLen; omega) (by omega) (Nat.zero_le _) ?_)
      intro v' w3 hown hgrow hnil hloc
      obtain ⟨g', cap', rfl, hnc, hg', hc3, hf3, ht4⟩ := trie_grown (x := ⟨r, false, 0, 0⟩) (HT2.out.only ((Only.refl [] wr).alloc _) (by simp) (by simp)) hown hgrow _ hloc
      have hcb3 : w3.cell? ⟨b, 0, none⟩ = some (.slice (some ⟨g, 0, none⟩) N.length cap) := by
        rw [hc3]; exact ((Only.refl [] wr).alloc _).cell_some hcT2 (by simp)
      have ho3 : Only [b, g] w w3 := (HO.out.mono (by simp)).trans ((((Only.refl [] wr).alloc _).mono (by simp)).grown hgrow (by intro j hj; cases hj; exact Or.inl (by simp)))
      have hg4 : g' = g ∨ w.heap.size ≤ g' := by
        rcases hg' with h | h
        · exact Or.inl h
        · right; have := HO.out.size; omega
      have ho4 : Only [b, g] w (w3.setCell ⟨b, 0, none⟩ (.slice (some ⟨g', 0, none⟩) (N.length + 1) cap')) := ho3.setCell (Or.inl (by simp)) _
      have k4 : (w3.setCell ⟨b, 0, none⟩ (.slice (some ⟨g', 0, none⟩) (N.length + 1) cap')).cell? ⟨b, 0, none⟩ = some (.slice (some ⟨g', 0, none⟩) (N.length + 1) cap') := World.cell?_setCell_same _ _ _ hcb3
      have HG4 := Lib.hid hg4
      have HT4 := Lib.hid ht4
      have HO4 := Lib.hid ho4
      have hlen4 : (N ++ [(⟨r, false, 0, 0⟩ : Nd)]).length = N.length + 1 := by simp
      by_cases hb0 : 0 < bf
      · have nd4 := (ht4.node (k := bf) (by omega)).c3
        have nf4 := (trie_set (N' := setOther (N ++ [⟨r, false, 0, 0⟩]) bf N.length) ht4 (by simp [setOther]) (nodeCells_other _ bf N.length (by omega))).1
        have HE := Lib.hid (trie_set (N' := setOther (N ++ [⟨r, false, 0, 0⟩]) bf N.length) ht4 (by simp [setOther]) (nodeCells_other _ bf N.length (by omega))).2
        have hcb0 : (0 : Int) < bf := by omega
        have HB := Lib.hid hb0
        clear hown hgrow hnil hloc hg' hc3 ht4 ho3 ho4 hlen4 hb0 hg4
        go_wp2_with fail
        go_ret
        rw [HCT.out, if_pos HB.out]
        exact ⟨g', rfl, HE.out, HG4.out, HO4.out.setCell (HG4.out.elim (fun h => Or.inl (by simp [h])) Or.inr) _⟩
      · obtain rfl : bf = 0 := by omega
        have nd4 := (ht4.node (k := at') (by omega)).c2
        have nf4 := (trie_set (N' := setKid (N ++ [⟨r, false, 0, 0⟩]) at' N.length) ht4 (by simp [setKid]) (nodeCells_kid _ at' N.length (by omega))).1
        have HE := Lib.hid (trie_set (N' := setKid (N ++ [⟨r, false, 0, 0⟩]) at' N.length) ht4 (by simp [setKid]) (nodeCells_kid _ at' N.length (by omega))).2
        clear hown hgrow hnil hloc hg' hc3 ht4 ho3 ho4 hlen4 hb0 hg4
        go_wp2_with fail
        go_ret
        rw [HCT.out, if_neg (by omega)]
        exact ⟨g', rfl, HE.out, HG4.out, HO4.out.setCell (HG4.out.elim (fun h => Or.inl (by simp [h])) Or.inr) _⟩
    · obtain ⟨s1, s2, s3⟩ := chain_step hok (by omega)
      have hk' : (k : Int) < N.length := by omega
      have hk0 : (0 : Int) < k := by omega
      have hnd := HT2.out.node s1
      have d0 := hnd.c0
      have d3 := hnd.c3
      have HOK := Lib.hid hok
      have HS3 := Lib.hid s3
      have HS2 := Lib.hid s2
      rw [s3] at hseek
      by_cases hlt : (ndAt N k).r < r
      · have hsk : seekL N r bf (k :: chain N (ndAt N k).other) = seekL N r k (chain N (ndAt N k).other) := by rw [seekL, if_pos hlt]
        rw [hsk] at hseek
        have HSK := Lib.hid hseek
        clear hseek hok s2 s3 hsk ho hnd
        go_wp2_with fail
        go_quiet (fail)
        go_wp2_with fail
        go_roundw
        case rel => exact ⟨k, _, rfl, rfl, s1, HS2.out, HSK.out, HO.out.drewN _⟩
        case measure =>
          simp only [intOf, Int.toNat_natCast]
          rw [HS3.out]
          simp
      · have hsk : seekL N r bf (k :: chain N (ndAt N k).other) = (bf, k) := by rw [seekL, if_neg hlt]
        rw [hsk] at hseek
        have HSK : Hid (seekT N at' r = (bf, k)) := Lib.hid (by rw [HS.out, hseek])
        clear hseek hok s2 s3 hsk ho hnd
        by_cases heq : (ndAt N k).r = r
        · have hct : childT N at' r = (N, k) := by
            unfold childT
            rw [HSK.out]
            exact if_pos ⟨by show 0 < k; omega, heq⟩
          have HCT := Lib.hid hct
          rw [heq] at d0
          have hrr : (r == r) = true := by simp
          clear hct heq hlt
          go_wp2_with fail
          go_ret
          rw [HCT.out]
          exact ⟨g, rfl, HT2.out, Or.inl rfl, HO.out.mono (by simp)⟩
        · have hbe : ((ndAt N k).r == r) = false := by simpa using heq
          have hct : childT N at' r = if 0 < bf then (setOther (N ++ [⟨r, false, 0, k⟩]) bf N.length, N.length) else (setKid (N ++ [⟨r, false, 0, k⟩]) at' N.length, N.length) := by
            unfold childT
            rw [HSK.out]
            exact if_neg (fun h => heq h.2)
          have HCT := Lib.hid hct
          clear hct
          clear heq
          generalize (ndAt N k).r = y at *
          go_wp2_with (at_builtin; refine wpList_append_row _ rfl (.tmp 65) (.tmp 69) 106 106 rfl 0 184 (.agg #[.int .i32 0, .bool false, .int .i64 0, .int .i64 0]) 4 24 Tryz.underlying106 infoNode rfl (by decide) (.slice (some ⟨g, 0, none⟩) N.length cap) N.length (nodeCells N) rfl (HROW.out.alloc _) (.slice (some ⟨wr.heap.size, 0, none⟩) 1 1) 1 [.int .i32 r, .bool false, .int .i64 0, .int .i64 (k : Int)] rfl (Src.lit Tryz.underlying106 wr _ 1 _ rfl (by simp [Value.oneCell'])) (by unfold maxLen; omega) (by omega) (Nat.zero_le _) ?_)
          intro v' w3 hown hgrow hnil hloc
          obtain ⟨g', cap', rfl, hnc, hg', hc3, hf3, ht4⟩ := trie_grown (x := ⟨r, false, 0, k⟩) (HT2.out.only ((Only.refl [] wr).alloc _) (by simp) (by simp)) hown hgrow _ hloc
          have hcb3 : w3.cell? ⟨b, 0, none⟩ = some (.slice (some ⟨g, 0, none⟩) N.length cap) := by
            rw [hc3]; exact ((Only.refl [] wr).alloc _).cell_some hcT2 (by simp)
          have ho3 : Only [b, g] w w3 := (HO.out.mono (by simp)).trans ((((Only.refl [] wr).alloc _).mono (by simp)).grown hgrow (by intro j hj; cases hj; exact Or.inl (by simp)))
          have hg4 : g' = g ∨ w.heap.size ≤ g' := by
            rcases hg' with h | h
            · exact Or.inl h
            · right; have := HO.out.size; omega
          have ho4 : Only [b, g] w (w3.setCell ⟨b, 0, none⟩ (.slice (some ⟨g', 0, none⟩) (N.length + 1) cap')) := ho3.setCell (Or.inl (by simp)) _
          have k4 : (w3.setCell ⟨b, 0, none⟩ (.slice (some ⟨g', 0, none⟩) (N.length + 1) cap')).cell? ⟨b, 0, none⟩ = some (.slice (some ⟨g', 0, none⟩) (N.length + 1) cap') := World.cell?_setCell_same _ _ _ hcb3
          have HG4 := Lib.hid hg4
          have HT4 := Lib.hid ht4
          have HO4 := Lib.hid ho4
          have hlen4 : (N ++ [(⟨r, false, 0, k⟩ : Nd)]).length = N.length + 1 := by simp
          by_cases hb0 : 0 < bf
          · have nd4 := (ht4.node (k := bf) (by omega)).c3
            have nf4 := (trie_set (N' := setOther (N ++ [⟨r, false, 0, k⟩]) bf N.length) ht4 (by simp [setOther]) (nodeCells_other _ bf N.length (by omega))).1
            have HE := Lib.hid (trie_set (N' := setOther (N ++ [⟨r, false, 0, k⟩]) bf N.length) ht4 (by simp [setOther]) (nodeCells_other _ bf N.length (by omega))).2
            have hcb0 : (0 : Int) < bf := by omega
            have HB := Lib.hid hb0
            clear hown hgrow hnil hloc hg' hc3 ht4 ho3 ho4 hlen4 hb0 hg4
            go_wp2_with fail
            go_ret
            rw [HCT.out, if_pos HB.out]
            exact ⟨g', rfl, HE.out, HG4.out, HO4.out.setCell (HG4.out.elim (fun h => Or.inl (by simp [h])) Or.inr) _⟩
          · obtain rfl : bf = 0 := by omega
            have nd4 := (ht4.node (k := at') (by omega)).c2
            have nf4 := (trie_set (N' := setKid (N ++ [⟨r, false, 0, k⟩]) at' N.length) ht4 (by simp [setKid]) (nodeCells_kid _ at' N.length (by omega))).1
            have HE := Lib.hid (trie_set (N' := setKid (N ++ [⟨r, false, 0, k⟩]) at' N.length) ht4 (by simp [setKid]) (nodeCells_kid _ at' N.length (by omega))).2
            clear hown hgrow hnil hloc hg' hc3 ht4 ho3 ho4 hlen4 hb0 hg4
            go_wp2_with fail
            go_ret
            rw [HCT.out, if_neg (by omega)]
            exact ⟨g', rfl, HE.out, HG4.out, HO4.out.setCell (HG4.out.elim (fun h => Or.inl (by simp [h])) Or.inr) _⟩
end Go.Proofs.YtfbbieecdenlbaaGreatDoor
