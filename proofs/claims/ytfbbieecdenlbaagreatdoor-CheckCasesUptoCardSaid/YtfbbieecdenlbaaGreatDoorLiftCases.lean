/-
  redpenlaw22.CheckCases, where what it reads is of bulk at most 1048576: the contract.
-/
import Derived.Test.YtfbbieecdenlbaaGreatDoorLawKitU
namespace Go.Proofs.YtfbbieecdenlbaaGreatDoor
open Go.ChangeShapes Go.WideShapes Go.ChangeAt Go.RowKit
set_option maxRecDepth 100000

theorem checkCases_reads (os : Os) {H : Type} (enc : TypeId × Value → H) : ∃ places, DataW.whole enc Tryz.prog ((World.laidAll Tryz.prog os laidTwo).forCall (fun _ _ => 0) ⟨#[], #[.agg #[.slice none 0 0, .slice none 0 0, .int .u8 0, .int .u8 0, .int .u8 0, .int .u8 0, .int .u8 0, .int .u8 0], .int .u8 0, .int .u8 0], []⟩).memory Tryz.f3.params.toList Rows.checkCasesSpec.vars false #[.agg #[.slice none 0 0, .slice none 0 0, .int .u8 0, .int .u8 0, .int .u8 0, .int .u8 0, .int .u8 0, .int .u8 0], .int .u8 0, .int .u8 0].toList 8 = some ([.agg [.nil, .nil, .lit (.int .u8 0), .lit (.int .u8 0), .lit (.int .u8 0), .lit (.int .u8 0), .lit (.int .u8 0), .lit (.int .u8 0)], .lit (.int .u8 0), .lit (.int .u8 0)], [], places) :=
  ⟨[], by kernel_rfl⟩

theorem checkCases_lifted (os : Os) (started : os.Started) (H : Type) (enc : TypeId × Value → H) (F : Stop.Interp) :
    ReturnsInHanded {} Tryz.checked os 3 .any ((Rows.OpenSpec.upto Rows.checkCasesSpec).preRow enc Tryz.prog Tryz.f3 Rows.checkCasesUptoRow.domain false Rows.checkCasesUptoRow.laid) (((Rows.OpenSpec.upto Rows.checkCasesSpec).at F).post enc Tryz.prog Tryz.f3 false true false false) := by
  obtain ⟨places, hx⟩ := checkCases_reads os enc
  refine returnsInHanded_of_row (C := Tryz.checked) (s := Rows.OpenSpec.upto Rows.checkCasesSpec) own started (by kernel_rfl) Tryz.func3
    (witness_row (enc := enc) (C := Tryz.checked) (World.laidAll Tryz.prog os laidTwo) #[.agg #[.slice none 0 0, .slice none 0 0, .int .u8 0, .int .u8 0, .int .u8 0, .int .u8 0, .int .u8 0, .int .u8 0], .int .u8 0, .int .u8 0] (World.laidAll_os _ _ _)
      (World.shaped_of_ZipB (by kernel_rfl) (by kernel_rfl)) (by kernel_rfl)
      (OpenSpec.preRow_of_cond 8 hx (by kernel_rfl) (fun k hk => by cases hk; kernel_rfl) (by kernel_rfl) (witness_laid os _))) ?_
  intro W base args ds gs before hval0 hW _ hcond _ _ hsh _
  have hbound := bulks.bound (hcond _ rfl)
  have hval : ∀ (j : Nat) t v, Tryz.f3.params[j]? = some t → args[j]? = some v → Value.okWide Tryz.prog W .any base t v := hval0
  have hW' := hW
  obtain ⟨p, q, hA0, hV, rfl, hfz, hnd⟩ := hW
  have hA : DataW.TrodAll enc Tryz.prog W 0 (fun _ => true) true Tryz.f3.params.toList args.toList ds p := hA0
  rw [Tryz.params3] at hA hval
  obtain ⟨v0, vs0, d0, ds0, p0, q0, hargs, rfl, rfl, h0, r0⟩ := trodAll_cons hA
  obtain ⟨v1, vs1, d1, ds1, p1, q1, rfl, rfl, rfl, h1, r1⟩ := trodAll_cons r0
  obtain ⟨v2, vs2, d2, ds2, p2, q2, rfl, rfl, rfl, h2, r2⟩ := trodAll_cons r1
  obtain ⟨rfl, rfl, rfl⟩ := trodAll_nil r2
  obtain rfl : args = #[v0, v1, v2] := by cases args; simp_all
  obtain ⟨rfl, rfl⟩ := trodVars_none hV
  have lt0 : ∀ x ∈ p0, x.block < W.heap.size := by obtain ⟨m, hm⟩ := h0; exact DataW.trod_lt m _ _ _ hm
  have lt1 : ∀ x ∈ p1, x.block < W.heap.size := by obtain ⟨m, hm⟩ := h1; exact DataW.trod_lt m _ _ _ hm
  have lt2 : ∀ x ∈ p2, x.block < W.heap.size := by obtain ⟨m, hm⟩ := h2; exact DataW.trod_lt m _ _ _ hm
  obtain ⟨sp0, sp1, sl0, sc0, sl1, sc1, a2, a3, a4, a5, a6, a7, rfl, g2, g3, g4, g5, g6, g7⟩ := size_shape (hval 0 25 v0 rfl rfl)
  have h1' := h1
  have h2' := h2
  obtain ⟨n1, rfl, -, -, w1⟩ := open_int Tryz.underlying5 (hval 1 5 v1 rfl rfl) h1
  obtain ⟨n2, rfl, -, -, w2⟩ := open_int Tryz.underlying5 (hval 2 5 v2 rfl rfl) h2
  have b1 : 0 ≤ n1 ∧ n1 ≤ 255 := by simpa [Lit.wf] using bounds_u8 w1
  have b2 : 0 ≤ n2 ∧ n2 ≤ 255 := by simpa [Lit.wf] using bounds_u8 w2
  obtain ⟨L, T, hL, hT, hl1, hl2⟩ := size_in h0
  have hd : Rows.uptoBulk d0 ≤ 1048576 := by
    have := bulks.part_le (d := d0) (l := [d0, d1, d2] ++ []) (by simp)
    omega
  obtain ⟨q0, d0', e0, -, -, -⟩ := id hL
  obtain ⟨q1, d1', e1, -, -, -⟩ := id hT
  simp only [Value.slice.injEq] at e0 e1
  obtain ⟨rfl, rfl, rfl⟩ := e0
  obtain ⟨rfl, rfl, rfl⟩ := e1
  clear hA0 hval0
  refine (cases_walk _ _ _ _ L T a2 a3 a4 a5 a6 a7 n1 n2 g7 b1 b2 W (env_of hsh) hL hT (by omega) (fun s hs => by have := hl2 s hs; omega)).mono fun e W' ⟨he, ho⟩ => ?_
  subst he
  have bel := ho.below
  exact ⟨_, rfl, _, _, _, [], _, [], hW', trodAll_mk1 (shut_bool Tryz.underlying4 _), (trodAll_cons_mk (Below.trod laidOut (by kernel_rfl) (of_decide_eq_true (by kernel_rfl)) h0 bel lt0) (trodAll_cons_mk (Below.trod laidOut (by kernel_rfl) (of_decide_eq_true (by kernel_rfl)) h1' bel lt1) (trodAll_cons_mk (Below.trod laidOut (by kernel_rfl) (of_decide_eq_true (by kernel_rfl)) h2' bel lt2) trodAll_mk0))), rfl, bel.frame _, fun h => by cases h⟩

end Go.Proofs.YtfbbieecdenlbaaGreatDoor
