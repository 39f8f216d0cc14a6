/-
  A redpenlaw22.Size that comes in: its words, its numbers of corrections, and how much of them there may be.
-/
import Derived.Test.YtfbbieecdenlbaaGreatDoorStrs
import Derived.Test.YtfbbieecdenlbaaGreatDoorBulk
import Derived.Deep.Strs
import Derived.Laws.IdiomArrays
import Derived.OpenShut
import Derived.ProofKit
namespace Go.Proofs.YtfbbieecdenlbaaGreatDoor
open Go.ChangeShapes Go.WideShapes Go.ChangeAt Go.RowKit
set_option maxRecDepth 100000

/-- A slice of threes of small numbers that reads as l. -/
def ThreesV (w : World) (v : Value) (l : List (Int × Int × Int)) : Prop :=
  ∃ p c, v = .slice p l.length c ∧ l.length ≤ c ∧ c ≤ maxLen ∧ (∀ x ∈ l, (0 ≤ x.1 ∧ x.1 ≤ 255) ∧ (0 ≤ x.2.1 ∧ x.2.1 ≤ 255) ∧ 0 ≤ x.2.2 ∧ x.2.2 ≤ 255) ∧
    (0 < l.length → ∃ b o, p = some ⟨b, o, none⟩ ∧ ∀ k (h : k < l.length), w.cell? ⟨b, o + k * 3, none⟩ = some (.int .u8 l[k].1) ∧ w.cell? ⟨b, o + k * 3 + 1, none⟩ = some (.int .u8 l[k].2.1) ∧ w.cell? ⟨b, o + k * 3 + 1 + 1, none⟩ = some (.int .u8 l[k].2.2))

theorem ThreesV.only {w w' : World} {v : Value} {l : List (Int × Int × Int)} (h : ThreesV w v l) (ho : Only [] w w') : ThreesV w' v l := by
  obtain ⟨p, c, h1, h2, h3, h4, h5⟩ := h
  refine ⟨p, c, h1, h2, h3, h4, fun hp => ?_⟩
  obtain ⟨b, o, e, hk⟩ := h5 hp
  refine ⟨b, o, e, fun k hk' => ?_⟩
  obtain ⟨g0, g1, g2⟩ := hk k hk'
  exact ⟨ho.cell_some g0 (by simp), ho.cell_some g1 (by simp), ho.cell_some g2 (by simp)⟩

theorem plain_at {w : World} {a : Addr} {v : Value} (h : w.cell? (a.add 0) = some v) : a = ⟨a.block, a.off, none⟩ := by
  have h1 : (a.add 0).spot = none := World.cell?_spot h
  obtain ⟨b, off, spot⟩ := a
  have hspot : spot = none := h1
  subst hspot
  rfl

section
variable {H : Type} {enc : TypeId × Value → H}

theorem strs_in {W : World} {v : Value} {fuel : Nat} {y : DataW H × List MemPlace} (h : DataW.trod enc Tryz.prog W 0 (fun _ => true) true fuel 22 [v] = some y) :
    ∃ L, StrsV W v L ∧ L.length ≤ Rows.uptoBulk y.1 ∧ ∀ s ∈ L, s.length ≤ Rows.uptoBulk y.1 := by
  rcases Go.Deep.open_strs Tryz.underlying22 Tryz.underlying9 (by kernel_rfl) h with ⟨hcs, rfl⟩ | ⟨a, len, cap, m, Sx, hcs, -, hl, hm, rfl, rfl, hx⟩
  · simp only [List.cons.injEq, and_true] at hcs
    subst hcs
    exact ⟨[], ⟨none, 0, rfl, by simp, by unfold maxLen; omega, fun h => by simp at h⟩, by simp, by simp⟩
  · simp only [List.cons.injEq, and_true] at hcs
    subst hcs
    refine ⟨(List.range len).map fun i => (Sx i).data.toList, ⟨some a, m, by simp, by simpa using hl, hm, fun hp => ?_⟩, ?_, ?_⟩
    · have hp' : 0 < len := by simpa using hp
      have e := plain_at (hx 0 (by omega)).1
      refine ⟨a.block, a.off, by rw [← e], fun k hk => ?_⟩
      have hk' : k < len := by simpa using hk
      have := (hx k (by omega)).1
      rw [e, Go.WideShapes.add_plain] at this
      rw [this, nthS_lt (by simpa using hk')]
      simp
    · have := bulks.slice_le (H := H) ((List.range len).map fun i => .lit (.string (Sx i).data.toList)) ((List.range (m - len)).map fun j => .lit (.string (Sx (len + j)).data.toList))
      simp only [List.length_map, List.length_range] at this ⊢
      exact Nat.le_trans (by omega) this
    · intro s hs
      obtain ⟨i, hi, rfl⟩ := List.mem_map.1 hs
      have h1 := bulks.slice_elems (H := H) ((List.range len).map fun i => .lit (.string (Sx i).data.toList)) ((List.range (m - len)).map fun j => .lit (.string (Sx (len + j)).data.toList))
      have h2 := bulks.part_le (H := H) (d := .lit (.string (Sx i).data.toList)) (l := (List.range len).map fun i => .lit (.string (Sx i).data.toList)) (List.mem_map.2 ⟨i, hi, rfl⟩)
      rw [bulks.string_eq] at h2
      show (Sx i).data.toList.length ≤ _
      exact Nat.le_trans (by omega) h1

theorem u8_in {W : World} {v : Value} {fuel : Nat} {y : DataW H × List MemPlace} (h : DataW.trod enc Tryz.prog W 0 (fun _ => true) true fuel 5 [v] = some y) : ∃ n, v = .int .u8 n ∧ 0 ≤ n ∧ n ≤ 255 := by
  obtain ⟨n, hcs, -, hw⟩ := DataW.trod_int Tryz.underlying5 h
  simp only [List.cons.injEq, and_true] at hcs
  exact ⟨n, hcs, by simpa [Lit.wf] using bounds_u8 hw⟩

theorem threes_in {W : World} {v : Value} {fuel : Nat} {y : DataW H × List MemPlace} (h : DataW.trod enc Tryz.prog W 0 (fun _ => true) true fuel 23 [v] = some y) :
    ∃ l, ThreesV W v l ∧ l.length ≤ Rows.uptoBulk y.1 := by
  have h3 : Tryz.prog.cellsOf 70 = 3 := by kernel_rfl
  rcases Go.Deep.open_slice Tryz.underlying23 h with ⟨hcs, rfl⟩ | ⟨a, len, cap, m, n, D, Pl, hcs, -, hl, hm, rfl, rfl, hx⟩
  · simp only [List.cons.injEq, and_true] at hcs
    subst hcs
    exact ⟨[], ⟨none, 0, rfl, by simp, by unfold maxLen; omega, by simp, fun h => by simp at h⟩, by simp⟩
  · simp only [List.cons.injEq, and_true] at hcs
    subst hcs
    have each : ∀ i, i < m → ∃ z : Int × Int × Int, (W.cell? (a.add (i * 3)) = some (.int .u8 z.1) ∧ W.cell? ((a.add (i * 3)).add 1) = some (.int .u8 z.2.1) ∧ W.cell? ((a.add (i * 3)).add 2) = some (.int .u8 z.2.2)) ∧ (0 ≤ z.1 ∧ z.1 ≤ 255) ∧ (0 ≤ z.2.1 ∧ z.2.1 ≤ 255) ∧ 0 ≤ z.2.2 ∧ z.2.2 ≤ 255 := by
      intro i hi
      obtain ⟨cs', h1, h2⟩ := hx i hi
      rw [h3] at h1
      obtain ⟨-, hlen, hc⟩ := World.cells?_some h1
      match cs', hlen with
      | [c0, c1, c2], _ =>
        obtain ⟨y0, y1, y2, n', -, k0, k1, k2⟩ := trod_array3 Tryz.underlying70 (by kernel_rfl) h2
        obtain ⟨n0, rfl, g0⟩ := u8_in k0
        obtain ⟨n1, rfl, g1⟩ := u8_in k1
        obtain ⟨n2, rfl, g2⟩ := u8_in k2
        have e0 := hc 0 (by omega)
        have e1 := hc 1 (by omega)
        have e2 := hc 2 (by omega)
        refine ⟨(n0, n1, n2), ⟨?_, e1, e2⟩, g0, g1, g2⟩
        simpa [Addr.add] using e0
    obtain ⟨Z, hZ⟩ := Go.Deep.choose_lt each
    refine ⟨(List.range len).map Z, ⟨some a, m, by simp, by simpa using hl, hm, ?_, fun hp => ?_⟩, ?_⟩
    · intro x hx'
      obtain ⟨i, hi, rfl⟩ := List.mem_map.1 hx'
      exact (hZ i (by have := List.mem_range.1 hi; omega)).2
    · have hp' : 0 < len := by simpa using hp
      have e := plain_at (hZ 0 (by omega)).1.1
      refine ⟨a.block, a.off, by rw [← e], fun k hk => ?_⟩
      have hk' : k < len := by simpa using hk
      obtain ⟨⟨q0, q1, q2⟩, -⟩ := hZ k (by omega)
      rw [e, Go.WideShapes.add_plain] at q0 q1 q2
      rw [Go.WideShapes.add_plain] at q1 q2
      simp only [List.getElem_map, List.getElem_range]
      exact ⟨q0, q1, q2⟩
    · have := bulks.slice_le (H := H) ((List.range len).map D) ((List.range (m - len)).map fun j => D (len + j))
      simp only [List.length_map, List.length_range] at this ⊢
      exact Nat.le_trans (by omega) this

theorem bulk_agg (xs : List (DataW H × List MemPlace)) (k : Nat) (y : DataW H × List MemPlace) (h : xs[k]? = some y) : Rows.uptoBulk y.1 ≤ Rows.uptoBulk (DataW.agg (xs.map (·.1))) := by
  have hm : y.1 ∈ xs.map (·.1) := List.mem_map.2 ⟨y, List.mem_of_getElem? h, rfl⟩
  have := bulks.part_le hm
  simp only [Rows.uptoBulk]
  omega

/-- A Size that comes in. -/
theorem size_in {W : World} {v0 v1 v2 v3 v4 v5 v6 v7 : Value} {d : DataW H} {ps : List MemPlace} (h : DataW.Trod enc Tryz.prog W 0 (fun _ => true) true 25 (.agg #[v0, v1, v2, v3, v4, v5, v6, v7]) d ps) :
    ∃ L F, StrsV W v0 L ∧ ThreesV W v1 F ∧ L.length ≤ Rows.uptoBulk d ∧ ∀ s ∈ L, s.length ≤ Rows.uptoBulk d := by
  obtain ⟨fuel, hf⟩ := h
  have c0 : Tryz.prog.cellsOf 22 = 1 := by kernel_rfl
  have c1 : Tryz.prog.cellsOf 23 = 1 := by kernel_rfl
  obtain ⟨xs, n, -, hx, -, hlen, hg⟩ := DataW.trod_struct Tryz.underlying25 hf
  have hlen' : xs.length = 8 := hlen
  obtain ⟨y0, e0⟩ : ∃ x, xs[0]? = some x := ⟨xs[0], List.getElem?_eq_getElem (by omega)⟩
  obtain ⟨y1, e1⟩ : ∃ x, xs[1]? = some x := ⟨xs[1], List.getElem?_eq_getElem (by omega)⟩
  have h0 := hg 0 _ rfl
  have h1 := hg 1 _ rfl
  simp only [Value.cells, e0, e1] at h0 h1
  obtain ⟨L, k1, k2, k3⟩ := strs_in h0
  obtain ⟨F, k4, -⟩ := threes_in h1
  have hd : d = .agg (xs.map (·.1)) := congrArg Prod.fst hx
  have hb := bulk_agg xs 0 y0 e0
  rw [← hd] at hb
  exact ⟨L, F, k1, k4, Nat.le_trans k2 hb, fun s hs => Nat.le_trans (k3 s hs) hb⟩
end
end Go.Proofs.YtfbbieecdenlbaaGreatDoor
