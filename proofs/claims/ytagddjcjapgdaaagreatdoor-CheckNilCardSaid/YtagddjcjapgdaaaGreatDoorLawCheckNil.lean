/-
  redpenlaw22.CheckNil: the card: whatever the word, the file and the size, the law is true, and its arguments read as they did.
-/
import Derived.Test.YtagddjcjapgdaaaGreatDoorLawKitC
namespace Go.Proofs.YtagddjcjapgdaaaGreatDoor
open Go.ChangeShapes Go.WideShapes Go.ChangeAt Go.RowKit
set_option maxRecDepth 100000
set_option linter.constructorNameAsVariable false

theorem cell_u8 {w : World} {r : Reach} {base : Nat} {v : Value} (h : Cell.okWide Tryz.prog w r base 5 v) : ∃ n, v = .int .u8 n ∧ 0 ≤ n ∧ n ≤ 255 := by
  simp only [Cell.okWide, Tryz.underlying5] at h
  cases v <;> simp_all [Cell.ok]
  rename_i k n
  exact h.2
theorem cell_slice {w : World} {r : Reach} {base : Nat} {t e : TypeId} (ht : Tryz.prog.underlying t = some (.slice e)) {v : Value} (h : Cell.okWide Tryz.prog w r base t v) : ∃ a l c, v = .slice a l c := by
  simp only [Cell.okWide, ht] at h
  cases v <;> simp_all [Cell.ok]
theorem cell_string {w : World} {r : Reach} {base : Nat} {v : Value} (h : Cell.okWide Tryz.prog w r base 9 v) : ∃ s, v = .string s := by
  simp only [Cell.okWide, Tryz.underlying9] at h
  cases v <;> simp_all [Cell.ok]
theorem row_at {w : World} {r : Reach} {base : Nat} {t : TypeId} {cs : Array Value} {ts : List TypeId} (h : Row.okWide Tryz.prog w r base t cs) (ht : Tryz.prog.cellTypes Tryz.prog.depth t = some ts) (i : Nat) (hi : i < ts.length) (hs : cs.size = ts.length) (u : TypeId) (hu : ts[i]? = some u) :
    ∃ v, cs[i]? = some v ∧ Cell.okWide Tryz.prog w r base u v := by
  obtain ⟨ts', h1, -, h3⟩ := h
  have e : ts' = ts := Option.some.inj (h1.symm.trans ht)
  subst e
  have hc : cs[i]? = some cs[i] := Array.getElem?_eq_getElem (by omega)
  obtain ⟨u', h4, h5⟩ := h3 i _ hc
  rw [Nat.mod_eq_of_lt hi, hu] at h4
  cases h4
  exact ⟨_, hc, h5⟩

theorem file_shape {w : World} {base : Nat} {v : Value} (h : Value.okWide Tryz.prog w .any base 24 v) : ∃ nm p l c, v = .agg #[.string nm, .slice p l c] := by
  simp only [Value.okWide, Tryz.underlying24] at h
  obtain ⟨cs, rfl, hsz, hr⟩ := h
  have ht : Tryz.prog.cellTypes Tryz.prog.depth 24 = some [9, 22] := by kernel_rfl
  have hs : cs.size = 2 := hsz.trans (by kernel_rfl)
  obtain ⟨v0, e0, k0⟩ := row_at hr ht 0 (by decide) hs _ rfl
  obtain ⟨v1, e1, k1⟩ := row_at hr ht 1 (by decide) hs _ rfl
  obtain ⟨nm, rfl⟩ := cell_string k0
  obtain ⟨p, l, c, rfl⟩ := cell_slice Tryz.underlying22 k1
  refine ⟨nm, p, l, c, ?_⟩
  congr 1
  apply Array.ext_getElem?
  intro i
  by_cases h0 : i = 0
  · subst h0; rw [e0]; rfl
  · by_cases h1 : i = 1
    · subst h1; rw [e1]; rfl
    · rw [Array.getElem?_eq_none (by omega), Array.getElem?_eq_none (by simp; omega)]

theorem size_shape {w : World} {base : Nat} {v : Value} (h : Value.okWide Tryz.prog w .any base 28 v) : ∃ (p0 p1 : Option Addr) (l0 c0 l1 c1 : Nat) (a2 a3 a4 a5 a6 a7 : Int), v = .agg #[.slice p0 l0 c0, .slice p1 l1 c1, .int .u8 a2, .int .u8 a3, .int .u8 a4, .int .u8 a5, .int .u8 a6, .int .u8 a7] ∧ (0 ≤ a2 ∧ a2 ≤ 255) ∧ (0 ≤ a3 ∧ a3 ≤ 255) ∧ (0 ≤ a4 ∧ a4 ≤ 255) ∧ (0 ≤ a5 ∧ a5 ≤ 255) ∧ (0 ≤ a6 ∧ a6 ≤ 255) := by
  simp only [Value.okWide, Tryz.underlying28] at h
  obtain ⟨cs, rfl, hsz, hr⟩ := h
  have ht : Tryz.prog.cellTypes Tryz.prog.depth 28 = some [25, 26, 5, 5, 5, 5, 5, 5] := by kernel_rfl
  have hs : cs.size = 8 := hsz.trans (by kernel_rfl)
  obtain ⟨v0, e0, k0⟩ := row_at hr ht 0 (by decide) hs _ rfl
  obtain ⟨v1, e1, k1⟩ := row_at hr ht 1 (by decide) hs _ rfl
  obtain ⟨v2, e2, k2⟩ := row_at hr ht 2 (by decide) hs _ rfl
  obtain ⟨v3, e3, k3⟩ := row_at hr ht 3 (by decide) hs _ rfl
  obtain ⟨v4, e4, k4⟩ := row_at hr ht 4 (by decide) hs _ rfl
  obtain ⟨v5, e5, k5⟩ := row_at hr ht 5 (by decide) hs _ rfl
  obtain ⟨v6, e6, k6⟩ := row_at hr ht 6 (by decide) hs _ rfl
  obtain ⟨v7, e7, k7⟩ := row_at hr ht 7 (by decide) hs _ rfl
  obtain ⟨p0, l0, c0, rfl⟩ := cell_slice Tryz.underlying25 k0
  obtain ⟨p1, l1, c1, rfl⟩ := cell_slice Tryz.underlying26 k1
  obtain ⟨a2, rfl, g2⟩ := cell_u8 k2
  obtain ⟨a3, rfl, g3⟩ := cell_u8 k3
  obtain ⟨a4, rfl, g4⟩ := cell_u8 k4
  obtain ⟨a5, rfl, g5⟩ := cell_u8 k5
  obtain ⟨a6, rfl, g6⟩ := cell_u8 k6
  obtain ⟨a7, rfl, -⟩ := cell_u8 k7
  refine ⟨p0, p1, l0, c0, l1, c1, a2, a3, a4, a5, a6, a7, ?_, g2, g3, g4, g5, g6⟩
  congr 1
  apply Array.ext_getElem?
  intro i
  by_cases hi : i < 8
  · match i, hi with
    | 0, _ => rw [e0]; rfl
    | 1, _ => rw [e1]; rfl
    | 2, _ => rw [e2]; rfl
    | 3, _ => rw [e3]; rfl
    | 4, _ => rw [e4]; rfl
    | 5, _ => rw [e5]; rfl
    | 6, _ => rw [e6]; rfl
    | 7, _ => rw [e7]; rfl
  · rw [Array.getElem?_eq_none (by omega), Array.getElem?_eq_none (by simp; omega)]

set_option maxRecDepth 100000 in
theorem checkNil_lifted (os : Os) (started : os.Started) (H : Type) (enc : TypeId × Value → H) :
    ReturnsInHanded {} Tryz.checked os 3 .any (fun w args => (Rows.checkNilSpec.pre enc Tryz.prog Tryz.f3 Rows.checkNilRow.domain false w args ∧ laidMetH Tryz.prog laidTwo w) ∧ sizedMet enc Tryz.prog Tryz.f3 (OpenSpec.ofChange Rows.checkNilSpec) false w args)
      (Rows.checkNilSpec.post enc Tryz.prog Tryz.f3 false true false false) := by
  refine returnsInHanded_laid (C := Tryz.checked) (X := fun w _ => laidMetH Tryz.prog laidTwo w) (fun _ _ _ hh h => h.of_heap hh) own started (by kernel_rfl) Tryz.func3
    (ChangeSpec.witness_shaped (enc := enc) (C := Tryz.checked) (os := os) (X := fun w _ => laidMetH Tryz.prog laidTwo w) false (World.laidAll Tryz.prog os laidTwo) #[.string ⟨#[]⟩, .agg #[.string ⟨#[]⟩, .slice none 0 0], .agg #[.slice none 0 0, .slice none 0 0, .int .u8 0, .int .u8 0, .int .u8 0, .int .u8 0, .int .u8 0, .int .u8 0]] 8 (World.laidAll_os _ _ _)
      (World.shaped_of_ZipB (by kernel_rfl) (by kernel_rfl)) (by kernel_rfl) (by kernel_rfl) (by kernel_rfl) (witness_laid os _)) ?_
  intro W base args ds gs before hval0 hW _ hL hsh
  have hval : ∀ (j : Nat) t v, Tryz.f3.params[j]? = some t → args[j]? = some v → Value.okWide Tryz.prog W .any base t v := hval0
  have hW' := hW
  obtain ⟨p, q, hA0, hV, rfl, hfz, hnd⟩ := hW
  have hA : DataW.TrodAll enc Tryz.prog W 0 (fun _ => true) true Tryz.f3.params.toList args.toList ds p := hA0
  rw [Tryz.params3] at hA hval
  obtain ⟨v0, vs0, d0, ds0, p0, q0, hargs, rfl, rfl, h0, r0⟩ := trodAll_cons hA
  obtain ⟨v1, vs1, d1, ds1, p1, q1, rfl, rfl, rfl, h1, r1⟩ := trodAll_cons r0
  obtain ⟨v2, vs2, d2, ds2, p2, q2, rfl, rfl, rfl, h2, r2⟩ := trodAll_cons r1
  obtain ⟨rfl, rfl, rfl⟩ := trodAll_nil r2
  obtain rfl : args = #[v0, v1, v2] := by cases args; simp_all
  obtain ⟨rfl, rfl⟩ := trodVars_none hV
  have lt0 : ∀ x ∈ p0, x.block < W.heap.size := by obtain ⟨m, hm⟩ := h0; exact DataW.trod_lt m _ _ _ hm
  have lt1 : ∀ x ∈ p1, x.block < W.heap.size := by obtain ⟨m, hm⟩ := h1; exact DataW.trod_lt m _ _ _ hm
  have lt2 : ∀ x ∈ p2, x.block < W.heap.size := by obtain ⟨m, hm⟩ := h2; exact DataW.trod_lt m _ _ _ hm
  obtain ⟨s, rfl⟩ := okWide_string Tryz.underlying9 (hval 0 9 v0 rfl rfl)
  obtain ⟨nm, fp, fl, fc, rfl⟩ := file_shape (hval 1 24 v1 rfl rfl)
  obtain ⟨sp0, sp1, sl0, sc0, sl1, sc1, a2, a3, a4, a5, a6, a7, rfl, g2, g3, g4, g5, g6⟩ := size_shape (hval 2 28 v2 rfl rfl)
  have hse : s = ⟨s.data.toList.toArray⟩ := rfl
  clear hA0 hval0
  have hwalk := checkNil_walk s.data.toList nm fp fl fc sp0 sp1 sl0 sc0 sl1 sc1 a2 a3 a4 a5 a6 a7 g2 g3 g4 g5 g6 W (env_of hsh)
  rw [← hse] at hwalk
  refine hwalk.mono fun e W' ⟨he, ho⟩ => ?_
  subst he
  have bel := ho.below
  exact ⟨_, rfl, _, _, _, [], _, [], hW', trodAll_mk1 (shut_bool Tryz.underlying4 _), (trodAll_cons_mk (Below.trod laidOut (by kernel_rfl) (of_decide_eq_true (by kernel_rfl)) h0 bel lt0) (trodAll_cons_mk (Below.trod laidOut (by kernel_rfl) (of_decide_eq_true (by kernel_rfl)) h1 bel lt1) (trodAll_cons_mk (Below.trod laidOut (by kernel_rfl) (of_decide_eq_true (by kernel_rfl)) h2 bel lt2) trodAll_mk0))), rfl, bel.frame _, fun h => by cases h⟩

theorem checkNil_over : Rows.CheckNilSaid :=
  OpenClaim.holds_of_wide 3 Tryz.f3 rfl rfl rfl rfl rfl rfl rfl ⟨rfl, rfl, rfl, rfl, rfl⟩ rfl rfl rfl rfl rfl (by kernel_rfl) Tryz.func3 (by kernel_rfl)
    (of_decide_eq_true (by kernel_rfl)) (by unfold Func.isWrapper; first | (rw [if_pos (by decide +kernel)]; kernel_rfl) | (rw [if_neg (by decide +kernel)]; exact ⟨rfl, rfl⟩))
    (fun os started H enc _ => checkNil_lifted os started H enc)

theorem checkNil_holds : Rows.CheckNilCardSaid :=
  Claim7.holds_tied_plain_at .later [] [.data, .data, .data, .data, .sentinel, .sentinel, .data, .widerDeep, .widerDeep, .pinned] true Rows.checkNilCard.stood.harness true checkNil_over (fun _ h => by cases h) (by kernel_rfl) (fun _ h => by cases h) checkNil_row_tie rfl ⟨rfl, rfl⟩ (by kernel_rfl) rfl
    (fun f fn hf hfn => by
      obtain rfl : f = 3 := Option.some.inj ((show Tryz.prog.funcNamed Rows.checkNilRow.func = some 3 by kernel_rfl).symm.trans hf) |>.symm
      obtain rfl : fn = Tryz.f3 := (Option.some.inj (Tryz.func3.symm.trans hfn)).symm
      exact ⟨by kernel_rfl, fun j t ht => by
        rw [Tryz.params3] at ht
        have hm : t ∈ [9, 24, 28] := by have := Array.mem_of_getElem? ht; simp at this ⊢; omega
        have hall : ([9, 24, 28].all fun u => !Tryz.prog.wantsStandIn u) = true := by kernel_rfl
        exact (show Tryz.prog.wantsStandIn t = false by simpa using List.all_eq_true.1 hall t hm)⟩)
    (by kernel_rfl)
#print axioms checkNil_holds
end Go.Proofs.YtagddjcjapgdaaaGreatDoor
