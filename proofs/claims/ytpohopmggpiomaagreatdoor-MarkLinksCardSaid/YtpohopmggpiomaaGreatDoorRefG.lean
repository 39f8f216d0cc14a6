/-
  redpenref10: the parts of one label each, and whether two lists of them are the same.
-/
import Derived.Test.YtpohopmggpiomaaGreatDoorRefA
import Derived.Test.YtpohopmggpiomaaGreatDoorLaw0
namespace Go.Proofs.YtpohopmggpiomaaGreatDoor
open Go.RowKit

theorem segsTo_getLast (L : List Int) (k : Nat) : ∃ a m, (segsTo L (k + 1)).getLast? = some (nth L k, a, m) := by
  rw [segsTo, segStep]
  split
  · split
    · rename_i s h1 h2
      exact ⟨_, _, by rw [List.getLast?_append]; simp [h2]; exact ⟨rfl, rfl⟩⟩
    · exact ⟨_, _, by rw [List.getLast?_append]; simp; exact ⟨rfl, rfl⟩⟩
  · exact ⟨_, _, by simp; exact ⟨rfl, rfl⟩⟩

/-- A part begins here. -/
def Begins (L : List Int) (i : Nat) : Prop := i = 0 ∨ nth L (i - 1) ≠ nth L i

theorem segs_run (L : List Int) (i : Nat) (hb : Begins L i) : ∀ d, (∀ j, i ≤ j → j < i + (d + 1) → nth L j = nth L i) → segsTo L (i + (d + 1)) = segsTo L i ++ [(nth L i, i, d + 1)] := by
  intro d
  induction d with
  | zero =>
    intro _
    rw [Nat.zero_add, segsTo, segStep]
    cases i with
    | zero => simp [segsTo]
    | succ i =>
      obtain ⟨a, m, e⟩ := segsTo_getLast L i
      rw [e]
      have : ¬ nth L i = nth L (i + 1) := by
        rcases hb with h | h
        · omega
        · exact h
      simp [this]
  | succ d ih =>
    intro h
    have h1 := ih (fun j h1 h2 => h j h1 (by omega))
    rw [← Nat.add_assoc, segsTo, h1, segStep, h (i + (d + 1)) (by omega) (by omega)]
    simp

set_option maxRecDepth 100000 in
set_option maxHeartbeats 800000 in
theorem rsegs_any (bl : Nat) (L : List Int) (w : World) (h : LabAt w bl L) :
    Calls Tryz.prog 9 #[labV bl L] w fun e w' => ∃ v, e = .returned v ∧ Only [] w w' ∧ w'.ownsRow w.heap.size 41 3 v (segsTo L L.length).length (segCells (segsTo L L.length)) := by
  have hM : (L.length : Int) ≤ 65536 := by have := h.1; omega
  have HLAB := Lib.hid h
  have hb2 := lt_of_block h.2
  clear h
  go_enter Tryz.func9, Tryz.ntmps9
  go_wp2
  go_loopw [3, 4, 5] (fun v iv _ wr => ∃ i : Nat, i ≤ L.length ∧ iv = .int .i64 i ∧ (i = L.length ∨ Begins L i) ∧ Only [] w wr ∧ wr.ownsRow w.heap.size 41 3 v (segsTo L i).length (segCells (segsTo L i))) (fun _ iv _ _ => L.length - (intOf iv).toNat)
  case atStart => exact ⟨0, by omega, rfl, .inr (.inl rfl), Only.refl _ _, World.ownsRow_nil _ _ _ _⟩
  case round =>
    obtain ⟨i, hi, rfl, hbeg, ho, hown⟩ := hrel
    obtain ⟨wo, hwo⟩ : ∃ wo, wo = wr := ⟨_, rfl⟩
    subst hwo
    have hsl := segsTo_length L i
    by_cases hlt : i < L.length
    · have hb : Begins L i := by
        rcases hbeg with h | h
        · omega
        · exact h
      have HB := Lib.hid hb
      have HO := Lib.hid ho
      obtain ⟨p, cap, rfl, hcap⟩ := ownsRow_shape hown
      have HOWN := Lib.hid hown
      have hl := (HLAB.out.keep ho (by simp)).2
      have ci : wo.cell? ⟨bl, i, none⟩ = some (.int .u8 (nth L i)) := by rw [cell_blk hl i, intCells_get _ _ _ hlt]
      clear hb ho hown hbeg hl
      go_wp2
      go_loopw [5] (fun kv w2 => ∃ k : Nat, i ≤ k ∧ k ≤ L.length ∧ kv = .int .i64 k ∧ (∀ j, i ≤ j → j < k → nth L j = nth L i) ∧ Only [] wo w2) (fun kv _ => L.length - (intOf kv).toNat)
      case atStart => exact ⟨i, by omega, by omega, rfl, fun j h1 h2 => by omega, Only.refl _ _⟩
      case round =>
        obtain ⟨k, hik, hk, rfl, hall, ho2⟩ := hrel
        have HALL := Lib.hid hall
        have HO2 := Lib.hid ho2
        have ci2 := ho2.cell_some ci (by simp)
        clear hall ho2
        have hend : i < k → (k = L.length ∨ nth L k ≠ nth L i) → segsTo L k = segsTo L i ++ [(nth L i, i, k - i)] ∧ (k = L.length ∨ Begins L k) := by
          intro h1 h2
          have := segs_run L i HB.out (k - i - 1) (fun j h3 h4 => HALL.out j h3 (by omega))
          rw [show i + (k - i - 1 + 1) = k by omega, show k - i - 1 + 1 = k - i by omega] at this
          refine ⟨this, ?_⟩
          rcases h2 with h | h
          · exact .inl h
          · exact .inr (.inr (by rw [HALL.out (k - 1) (by omega) (by omega)]; exact Ne.symm h))
        have HEND := Lib.hid hend
        clear hend
        by_cases hlk : k < L.length
        · have hl := (HLAB.out.keep (HO.out.trans HO2.out) (by simp)).2
          have ck : wr.cell? ⟨bl, k, none⟩ = some (.int .u8 (nth L k)) := by rw [cell_blk hl k, intCells_get _ _ _ hlk]
          clear hl
          by_cases heq : nth L k = nth L i
          · have heq' : (nth L k == nth L i) = true := by simpa using heq
            go_wp2
            go_quiet (fail)
            go_wp2
            go_roundw
            case rel => exact ⟨k + 1, by omega, by omega, by go_num, fun j h1 h2 => by
              by_cases e : j = k
              · rw [e]; exact heq
              · exact HALL.out j h1 (by omega), HO2.out.drewN nq⟩
            case measure => simp [intOf]; omega
          · have heq' : (nth L k == nth L i) = false := by simpa using heq
            have hik2 : i < k := by
              rcases Nat.lt_or_ge i k with h | h
              · exact h
              · exact absurd (by rw [show k = i by omega]) heq
            obtain ⟨hs1, hs2⟩ := HEND.out hik2 (.inr heq)
            have HS1 := Lib.hid hs1
            have HS2 := Lib.hid hs2
            clear hs1 hs2
            go_wp2
            go_quiet (fail)
            go_wp2_with (at_builtin; refine wpList_append_lit rfl (.tmp 28) (.tmp 39) 31 rfl w [] 41 (.agg #[.int .u8 0, .int .i64 0, .int .i64 0]) 3 24 Tryz.underlying31 infoSeg rfl (by decide) (.slice p (segsTo L i).length cap) (segsTo L i).length (segCells (segsTo L i)) rfl (ownsRow_only HOWN.out (HO2.out.drewN nq) (by simp)) (HO.out.trans (HO2.out.drewN nq)) (wr.drewN nq).heap.size 1 [.int .u8 (nth L i), .int .i64 i, .int .i64 ((k : Int) - i)] rfl rfl rfl ?c1 ?c2 ?c3 ?_)
            case c1 => simp [Value.oneCell']
            case c2 => unfold maxLen; omega
            case c3 => omega
            intro v' w4 hown4 ho5
            have HOWN4 := Lib.hid hown4
            have HO5 := Lib.hid ho5
            clear hown4 ho5
            go_wp2
            go_roundw
            case rel => exact ⟨k, hk, rfl, HS2.out, HO5.out, by
              rw [HS1.out, segCells_append, List.length_append]
              have e : segCells [(nth L i, i, k - i)] = [.int .u8 (nth L i), .int .i64 (i : Int), .int .i64 ((k : Int) - i)] := by
                simp only [segCells, List.flatMap_cons, List.flatMap_nil, List.append_nil]
                rw [show ((k - i : Nat) : Int) = (k : Int) - i by omega]
              rw [e]
              exact HOWN4.out⟩
            case measure => simp [intOf]; omega
        · obtain rfl : k = L.length := by omega
          obtain ⟨hs1, hs2⟩ := HEND.out (by omega) (.inl rfl)
          have HS1 := Lib.hid hs1
          clear hs1 hs2
          go_wp2
          go_quiet (fail)
          go_wp2_with (at_builtin; refine wpList_append_lit rfl (.tmp 28) (.tmp 39) 31 rfl w [] 41 (.agg #[.int .u8 0, .int .i64 0, .int .i64 0]) 3 24 Tryz.underlying31 infoSeg rfl (by decide) (.slice p (segsTo L i).length cap) (segsTo L i).length (segCells (segsTo L i)) rfl (ownsRow_only HOWN.out (HO2.out.drewN nq) (by simp)) (HO.out.trans (HO2.out.drewN nq)) (wr.drewN nq).heap.size 1 [.int .u8 (nth L i), .int .i64 i, .int .i64 ((L.length : Int) - i)] rfl rfl rfl ?c1 ?c2 ?c3 ?_)
          case c1 => simp [Value.oneCell']
          case c2 => unfold maxLen; omega
          case c3 => omega
          intro v' w4 hown4 ho5
          have HOWN4 := Lib.hid hown4
          have HO5 := Lib.hid ho5
          clear hown4 ho5
          go_wp2
          go_roundw
          case rel => exact ⟨L.length, hk, rfl, .inl rfl, HO5.out, by
            rw [HS1.out, segCells_append, List.length_append]
            have e : segCells [(nth L i, i, L.length - i)] = [.int .u8 (nth L i), .int .i64 (i : Int), .int .i64 ((L.length : Int) - i)] := by
              simp only [segCells, List.flatMap_cons, List.flatMap_nil, List.append_nil]
              rw [show ((L.length - i : Nat) : Int) = (L.length : Int) - i by omega]
            rw [e]
            exact HOWN4.out⟩
          case measure => simp [intOf]; omega
    · obtain rfl : i = L.length := by omega
      go_wp2
      go_ret
      exact ⟨_, rfl, ho, hown⟩

set_option maxRecDepth 100000 in
set_option maxHeartbeats 800000 in
theorem rsame_any (l : List (Int × Nat × Nat)) (g g' c c' : Nat) (w : World) (hl : l.length ≤ 65536)
    (h : ∀ (k : Nat) (s : Int × Nat × Nat), l[k]? = some s → w.cell? ⟨g, k * 3, none⟩ = some (.int .u8 s.1) ∧ w.cell? ⟨g, k * 3 + 1, none⟩ = some (.int .i64 s.2.1) ∧ w.cell? ⟨g, k * 3 + 2, none⟩ = some (.int .i64 s.2.2))
    (h' : ∀ (k : Nat) (s : Int × Nat × Nat), l[k]? = some s → w.cell? ⟨g', k * 3, none⟩ = some (.int .u8 s.1) ∧ w.cell? ⟨g', k * 3 + 1, none⟩ = some (.int .i64 s.2.1) ∧ w.cell? ⟨g', k * 3 + 2, none⟩ = some (.int .i64 s.2.2)) :
    Calls Tryz.prog 7 #[.slice (some ⟨g, 0, none⟩) l.length c, .slice (some ⟨g', 0, none⟩) l.length c'] w fun e w' => e = .returned (.bool true) ∧ Only [] w w' := by
  have hM : (l.length : Int) ≤ 65536 := by omega
  have H := Lib.hid h
  have H' := Lib.hid h'
  clear h h'
  go_enter Tryz.func7, Tryz.ntmps7
  go_wp2
  go_loopw [5] (fun v wr => ∃ k : Nat, k ≤ l.length ∧ v = .int .i64 k ∧ Only [] w wr) (fun v _ => l.length - (intOf v).toNat)
  case atStart => exact ⟨0, by omega, rfl, Only.refl _ _⟩
  case round =>
    obtain ⟨k, hk, rfl, ho⟩ := hrel
    have HO := Lib.hid ho
    by_cases hlt : k < l.length
    · obtain ⟨s, hs⟩ : ∃ s, l[k]? = some s := ⟨_, List.getElem?_eq_getElem hlt⟩
      obtain ⟨m0, m1, m2⟩ := H.out k s hs
      obtain ⟨n0, n1, n2⟩ := H'.out k s hs
      have m0 := ho.cell_some m0 (by simp)
      have m1 := ho.cell_some m1 (by simp)
      have m2 := ho.cell_some m2 (by simp)
      have n0 := ho.cell_some n0 (by simp)
      have n1 := ho.cell_some n1 (by simp)
      have n2 := ho.cell_some n2 (by simp)
      clear ho hs
      go_wp2
      go_quiet (fail)
      go_wp2
      go_roundw
      case rel => exact ⟨k + 1, by omega, by go_num, HO.out.drewN nq⟩
      case measure => simp [intOf]; omega
    · go_wp2
      go_ret
      exact ⟨rfl, HO.out⟩
end Go.Proofs.YtpohopmggpiomaaGreatDoor
