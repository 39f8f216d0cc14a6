/-
  Slices of texts; slices.Contains of runes.
-/
import Derived.Test.YtfbbieecdenlbaaGreatDoorRowG
import Derived.Test.YtfbbieecdenlbaaGreatDoorFoldS
import Derived.Lib.BufferMore
namespace Go.Proofs.YtfbbieecdenlbaaGreatDoor
open Go.RowKit

def nthS (L : List (List UInt8)) (k : Nat) : List UInt8 := L.getD k []
theorem nthS_lt {L : List (List UInt8)} {k : Nat} (h : k < L.length) : nthS L k = L[k] := by simp [nthS, h]
def strRow (L : List (List UInt8)) : List Value := L.map fun s => .string ⟨s.toArray⟩
theorem strRow_len (L : List (List UInt8)) : (strRow L).length = L.length := by simp [strRow]
/-- A slice of texts that reads as L. -/
def StrsV (w : World) (v : Value) (L : List (List UInt8)) : Prop :=
  ∃ p c, v = .slice p L.length c ∧ L.length ≤ c ∧ c ≤ maxLen ∧ (0 < L.length → ∃ b o, p = some ⟨b, o, none⟩ ∧ ∀ k, k < L.length → w.cell? ⟨b, o + k, none⟩ = some (.string ⟨(nthS L k).toArray⟩))
theorem StrsV.keep {w w' : World} {v : Value} {L : List (List UInt8)} (h : StrsV w v L) (hc : ∀ p x, w.cell? p = some x → w'.cell? p = some x) : StrsV w' v L := by
  obtain ⟨p, c, h1, h2, h3, h4⟩ := h
  refine ⟨p, c, h1, h2, h3, fun hp => ?_⟩
  obtain ⟨b, o, e, hk⟩ := h4 hp
  exact ⟨b, o, e, fun k hk' => hc _ _ (hk k hk')⟩
theorem StrsV.only {w w' : World} {v : Value} {L : List (List UInt8)} (h : StrsV w v L) (ho : Only [] w w') : StrsV w' v L := h.keep fun _ _ hc => ho.cell_some hc (by simp)
theorem StrsV.of_row {w : World} {base : Nat} {e : TypeId} {v : Value} {n : Nat} {L : List (List UInt8)} (h : w.ownsRow base e 1 v n (strRow L)) : StrsV w v L := by
  have hl := h.1
  rw [strRow_len, Nat.mul_one] at hl
  subst hl
  rcases h.2 with ⟨rfl, h0⟩ | ⟨g, cap, cur, rfl, hg, hh, h1, h2, h3, h4⟩
  · exact ⟨none, 0, by rw [h0], by omega, by unfold maxLen; omega, fun h => by omega⟩
  · refine ⟨_, cap, rfl, h1, h2, fun hp => ⟨g, 0, rfl, fun k hk => ?_⟩⟩
    rw [Nat.zero_add, h.cellAt k (by omega)]
    simp [strRow, nthS, hk]
theorem strRow_one (L : List (List UInt8)) : ∀ u ∈ strRow L, u.oneCell' = true := by
  intro u hu
  obtain ⟨s, _, rfl⟩ := List.mem_map.1 hu
  rfl
/-- What a slice of texts yields to an append. -/
theorem Src.strs {P : Program} {tx e' : TypeId} (hk : P.underlying tx = some (.slice e')) {w : World} {v : Value} {L : List (List UInt8)} (h : StrsV w v L) : Src P 1 tx v L.length (strRow L) w := by
  obtain ⟨p, c, rfl, hc, hm, hb⟩ := h
  by_cases hl : 0 < L.length
  · obtain ⟨b, o, rfl, hk'⟩ := hb hl
    refine Src.ofSlice _ hk _ _ _ _ (by simp [strRow_len]) ?_ (strRow_one L)
    intro j u hu
    have hj : j < L.length := by have := (List.getElem?_eq_some_iff.1 hu).1; simpa [strRow_len] using this
    have hu' : Value.string ⟨(nthS L j).toArray⟩ = u := by simpa [strRow, nthS, hj] using hu
    have hadd : (⟨b, o, none⟩ : Addr).add j = ⟨b, o + j, none⟩ := by unfold Addr.add; split <;> simp_all
    rw [hadd, hk' j hj, hu']
  · have : L = [] := List.eq_nil_of_length_eq_zero (by omega)
    subst this
    cases p with
    | none => exact Src.ofNil _ hk _
    | some a => exact Src.ofSlice _ hk _ _ _ _ rfl (by intro j u hu; simp [strRow] at hu) (strRow_one [])
theorem infoTxt : (Tryz.prog.info? 9).map (fun i => (i.zero, i.size, i.bytes)) = some (some (.string ⟨#[]⟩), 1, 16) := by kernel_rfl

set_option maxRecDepth 100000 in
set_option maxHeartbeats 1000000 in
theorem clone_any (L : List (List UInt8)) (v : Value) (w : World) (hv : StrsV w v L) (h0 : 0 < L.length) (hl : L.length ≤ 65536) :
    Calls Tryz.prog 21 #[v] w fun e w' => ∃ u, e = .returned u ∧ Only [] w w' ∧ StrsV w' u L := by
  have HV := Lib.hid hv
  obtain ⟨p, c, rfl, hc, hm, hk⟩ := hv
  obtain ⟨b, o, rfl, -⟩ := hk h0
  have hnil : ∀ W, (binOp .eql 22 (.slice (some ⟨b, o, none⟩) L.length c) (.slice none 0 0)).run Tryz.prog W = .ok (.bool false) W := fun W => Lib.run_eql_slice_some_nil W _ _ _ Tryz.underlying22
  go_enter Tryz.func21, Tryz.ntmps21
  go_wp2_with (at_builtin; refine wpList_append_src rfl (.tmp 5) (.tmp 6) 22 22 rfl w [] 9 (.string ⟨#[]⟩) 1 16 Tryz.underlying22 infoTxt rfl (by decide) (.slice (some ⟨w.heap.size, 0, none⟩) 0 0) 0 [] rfl (ownsRow_empty w w.heap.size _ _ (Nat.le_refl _)) ((Only.refl _ _).alloc _) (.slice (some ⟨b, o, none⟩) L.length c) L.length (strRow L) rfl (Src.strs Tryz.underlying22 (HV.out.only ((Only.refl [] w).alloc _))) (by unfold maxLen; omega) (by omega) ?_)
  intro v1 w1 hown ho
  have HOWN := Lib.hid hown
  have HO := Lib.hid ho
  clear hown ho
  go_wp2_with fail
  go_ret
  exact ⟨_, rfl, HO.out, StrsV.of_row HOWN.out⟩

set_option maxRecDepth 100000 in
set_option maxHeartbeats 1000000 in
theorem indexI_any (l : List Int) (x : Int) (v : Value) (w : World) (hv : IntsV .i32 w v l) (hl : l.length ≤ 65536) :
    Calls Tryz.prog 79 #[v, .int .i32 x] w fun e w' => ∃ i : Int, e = .returned (.int .i64 i) ∧ decide (0 ≤ i) = l.contains x ∧ w = w' := by
  obtain ⟨p, c, rfl, hc, hm, hk⟩ := hv
  have HK := Lib.hid hk
  have hl' : (l.length : Int) ≤ 65536 := by omega
  clear hk
  go_enter Tryz.func79, Tryz.ntmps79
  go_wp2_with fail
  go_loopw [5, 8] (fun _ iv wr => wr = w ∧ ∃ k : Nat, k ≤ l.length ∧ iv = .int .i64 k ∧ ∀ j, j < k → nth l j ≠ x) (fun _ iv _ => l.length - (intOf iv).toNat)
  case atStart => exact ⟨rfl, 0, by omega, rfl, fun j h => by omega⟩
  case round =>
    obtain ⟨rfl, k, hkl, rfl, hno⟩ := hrel
    have HNO := Lib.hid hno
    clear hno
    by_cases hlt : k < l.length
    · obtain ⟨b, o, rfl, hcell⟩ := HK.out (by omega)
      have hkc : (k : Int) < c := by omega
      have k0 := hcell k hlt
      have hmem : l.contains (nth l k) = true := by rw [nth_lt hlt]; simp
      have HME := Lib.hid hmem
      clear hcell hmem
      generalize hy : nth l k = y at *
      have HY := Lib.hid hy
      clear hy
      cases hx : (x == y)
      · go_wp2_with fail
        go_roundw
        case rel =>
          refine ⟨trivial, k + 1, by omega, by go_num, fun j hj => ?_⟩
          by_cases e : j = k
          · subst e
            rw [HY.out]
            intro e2
            simp [e2] at hx
          · exact HNO.out j (by omega)
        case measure => simp [intOf]; omega
      · go_wp2_with fail
        go_ret
        have e : x = y := by simpa using hx
        refine ⟨_, rfl, ?_, rfl⟩
        rw [e, HME.out]
        simp
    · obtain rfl : k = l.length := by omega
      go_wp2_with fail
      go_ret
      refine ⟨_, rfl, ?_, rfl⟩
      have : l.contains x = false := by
        rw [Bool.eq_false_iff]
        intro h
        have h2 : x ∈ l := by simpa using h
        obtain ⟨j, hj, e⟩ := List.getElem_of_mem h2
        exact HNO.out j hj (by rw [nth_lt hj]; exact e)
      rw [this]
      rfl

set_option maxRecDepth 100000 in
theorem containsI_any (l : List Int) (x : Int) (v : Value) (w : World) (hv : IntsV .i32 w v l) (hl : l.length ≤ 65536) :
    Calls Tryz.prog 39 #[v, .int .i32 x] w fun e w' => e = .returned (.bool (l.contains x)) ∧ w = w' := by
  have HC := Lib.hid (indexI_any l x v w hv hl)
  clear hv
  go_enter Tryz.func39, Tryz.ntmps39
  go_wp2_with fail
  refine HC.out.mono ?_
  rintro e w1 ⟨i, rfl, hi, rfl⟩
  go_wp2_with fail
  go_ret
  exact ⟨ret_bool (by simp), rfl⟩
end Go.Proofs.YtfbbieecdenlbaaGreatDoor
