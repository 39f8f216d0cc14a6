/-
  What the laws of chapters 22 and 23 need: the row's variables laid, a witness, a Size's shape.
-/
import Derived.Test.YtfbbieecdenlbaaGreatDoorCasesW
import Derived.Test.YtfbbieecdenlbaaGreatDoorTie
import Derived.Test.YtfbbieecdenlbaaGreatDoorCards
import Derived.ProofKit
import Derived.OpenShut
import Derived.ShutString
import Derived.ChangeOld
import Derived.LaidMore
import Derived.Lay
import Derived.SevenTiedAt
import Derived.Stop.Joined
import Derived.HandedShaped
import Derived.Deep.DeepHandedRow
namespace Go.Proofs.YtfbbieecdenlbaaGreatDoor
open Go.ChangeShapes Go.WideShapes Go.ChangeAt Go.RowKit
open Go.ChangeMaps (open_string shut_string)
set_option maxRecDepth 100000

theorem own : ownKnob Tryz.prog.godebug = none := by kernel_rfl
theorem laidOut : laidOutB Tryz.prog = true := by kernel_rfl

/-- The variables that the rows list. -/
def laidTwo : List (String × DataW Unit) := Rows.checkCasesRow.laid

theorem env_of {W : World} (hs : W.ShapedOpen Tryz.prog) : EnvL W := Tryz.laysM219.s1_3 W hs

theorem witness_laid (os : Os) (args : Array Value) : laidMetH Tryz.prog laidTwo ((World.laidAll Tryz.prog os laidTwo).forCall (fun _ _ => 0) { blocks := #[], args := args }).memory := by
  rw [MakeChecks.laidMetH_plain _ _ _ (by kernel_rfl)]; exact laidMet_laidAll _ (by kernel_rfl) (by kernel_rfl)

/-- There is an input that fits. -/
theorem witness_row {H : Type} {enc : TypeId × Value → H} {C : Checked} {os : Os} {f : FuncId} {fn : Func} {s : OpenSpec} {conds : List PathCond} {apart : Bool} {laid : List (String × DataW Unit)} (w0 : World) (args : Array Value) (hos : w0.os = os)
    (hsh : (w0.forCall (fun _ _ => 0) ⟨#[], args, []⟩).Shaped C.prog)
    (hok : Input.okWideB C.prog (w0.forCall (fun _ _ => 0) ⟨#[], args, []⟩) f ⟨#[], args, []⟩ = true)
    (hrow : s.preRow enc C.prog fn conds apart laid (w0.forCall (fun _ _ => 0) ⟨#[], args, []⟩).memory args) :
    ∃ (w : World) (tape : Tape) (i : Input), w.os = os ∧ (w.forCall tape i).Shaped C.prog ∧ i.vars = [] ∧ Input.okWide C.prog (w.forCall tape i) .any w.heap.size f i ∧
      s.preRow enc C.prog fn conds apart laid (w.forCall tape i).memory i.args ∧ ({} : Assume).holds C.prog (lone (Frame.enter C.prog f i.args .normal) [] (w.forCall tape i)) :=
  ⟨w0, fun _ _ => 0, ⟨#[], args, []⟩, hos, hsh, (Input.okWide_of_okWideB (base := 0) hok).1, (Input.okWide_of_okWideB hok).2, hrow, by
    simp only [Assume.holds]
    exact ⟨by simp, by simp, fun _ => Modest.zero, by simp, by simp⟩⟩

theorem cell_u8 {w : World} {r : Reach} {base : Nat} {v : Value} (h : Cell.okWide Tryz.prog w r base 5 v) : ∃ n, v = .int .u8 n ∧ 0 ≤ n ∧ n ≤ 255 := by
  simp only [Cell.okWide, Tryz.underlying5] at h
  cases v <;> simp_all [Cell.ok]
  rename_i k n
  exact h.2
theorem cell_slice {w : World} {r : Reach} {base : Nat} {t e : TypeId} (ht : Tryz.prog.underlying t = some (.slice e)) {v : Value} (h : Cell.okWide Tryz.prog w r base t v) : ∃ a l c, v = .slice a l c := by
  simp only [Cell.okWide, ht] at h
  cases v <;> simp_all [Cell.ok]
theorem cell_string {w : World} {r : Reach} {base : Nat} {v : Value} (h : Cell.okWide Tryz.prog w r base 9 v) : ∃ s, v = .string s := by
  simp only [Cell.okWide, Tryz.underlying9] at h
  cases v <;> simp_all [Cell.ok]
theorem row_at {w : World} {r : Reach} {base : Nat} {t : TypeId} {cs : Array Value} {ts : List TypeId} (h : Row.okWide Tryz.prog w r base t cs) (ht : Tryz.prog.cellTypes Tryz.prog.depth t = some ts) (i : Nat) (hi : i < ts.length) (hs : cs.size = ts.length) (u : TypeId) (hu : ts[i]? = some u) :
    ∃ v, cs[i]? = some v ∧ Cell.okWide Tryz.prog w r base u v := by
  obtain ⟨ts', h1, -, h3⟩ := h
  have e : ts' = ts := Option.some.inj (h1.symm.trans ht)
  subst e
  have hc : cs[i]? = some cs[i] := Array.getElem?_eq_getElem (by omega)
  obtain ⟨u', h4, h5⟩ := h3 i _ hc
  rw [Nat.mod_eq_of_lt hi, hu] at h4
  cases h4
  exact ⟨_, hc, h5⟩

theorem size_shape {w : World} {base : Nat} {v : Value} (h : Value.okWide Tryz.prog w .any base 25 v) : ∃ (p0 p1 : Option Addr) (l0 c0 l1 c1 : Nat) (a2 a3 a4 a5 a6 a7 : Int), v = .agg #[.slice p0 l0 c0, .slice p1 l1 c1, .int .u8 a2, .int .u8 a3, .int .u8 a4, .int .u8 a5, .int .u8 a6, .int .u8 a7] ∧ (0 ≤ a2 ∧ a2 ≤ 255) ∧ (0 ≤ a3 ∧ a3 ≤ 255) ∧ (0 ≤ a4 ∧ a4 ≤ 255) ∧ (0 ≤ a5 ∧ a5 ≤ 255) ∧ (0 ≤ a6 ∧ a6 ≤ 255) ∧ (0 ≤ a7 ∧ a7 ≤ 255) := by
  simp only [Value.okWide, Tryz.underlying25] at h
  obtain ⟨cs, rfl, hsz, hr⟩ := h
  have ht : Tryz.prog.cellTypes Tryz.prog.depth 25 = some [22, 23, 5, 5, 5, 5, 5, 5] := by kernel_rfl
  have hs : cs.size = 8 := hsz.trans (by kernel_rfl)
  obtain ⟨v0, e0, k0⟩ := row_at hr ht 0 (by decide) hs _ rfl
  obtain ⟨v1, e1, k1⟩ := row_at hr ht 1 (by decide) hs _ rfl
  obtain ⟨v2, e2, k2⟩ := row_at hr ht 2 (by decide) hs _ rfl
  obtain ⟨v3, e3, k3⟩ := row_at hr ht 3 (by decide) hs _ rfl
  obtain ⟨v4, e4, k4⟩ := row_at hr ht 4 (by decide) hs _ rfl
  obtain ⟨v5, e5, k5⟩ := row_at hr ht 5 (by decide) hs _ rfl
  obtain ⟨v6, e6, k6⟩ := row_at hr ht 6 (by decide) hs _ rfl
  obtain ⟨v7, e7, k7⟩ := row_at hr ht 7 (by decide) hs _ rfl
  obtain ⟨p0, l0, c0, rfl⟩ := cell_slice Tryz.underlying22 k0
  obtain ⟨p1, l1, c1, rfl⟩ := cell_slice Tryz.underlying23 k1
  obtain ⟨a2, rfl, g2⟩ := cell_u8 k2
  obtain ⟨a3, rfl, g3⟩ := cell_u8 k3
  obtain ⟨a4, rfl, g4⟩ := cell_u8 k4
  obtain ⟨a5, rfl, g5⟩ := cell_u8 k5
  obtain ⟨a6, rfl, g6⟩ := cell_u8 k6
  obtain ⟨a7, rfl, g7⟩ := cell_u8 k7
  refine ⟨p0, p1, l0, c0, l1, c1, a2, a3, a4, a5, a6, a7, ?_, g2, g3, g4, g5, g6, g7⟩
  congr 1
  apply Array.ext_getElem?
  intro i
  by_cases hi : i < 8
  · match i, hi with
    | 0, _ => rw [e0]; rfl
    | 1, _ => rw [e1]; rfl
    | 2, _ => rw [e2]; rfl
    | 3, _ => rw [e3]; rfl
    | 4, _ => rw [e4]; rfl
    | 5, _ => rw [e5]; rfl
    | 6, _ => rw [e6]; rfl
    | 7, _ => rw [e7]; rfl
  · rw [Array.getElem?_eq_none (by omega), Array.getElem?_eq_none (by simp; omega)]

end Go.Proofs.YtfbbieecdenlbaaGreatDoor
