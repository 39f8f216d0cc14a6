/-
  html: what goes through bytes.
-/
import Derived.Test.YtpohopmggpiomaaDoorHtmlA
namespace Go.Proofs.YtpohopmggpiomaaDoor
open Go.RowKit

/-- A scan in block sb: over the bytes l at block b, at place k. -/
def ScanAt (w : World) (sb b o c : Nat) (l : List UInt8) (k : Nat) : Prop :=
  w.heap[sb]? = some (.cells #[.slice (some ⟨b, o, none⟩) l.length c, .int .i64 k] 101 (0, 0)) ∧ l.length ≤ c ∧ c ≤ maxLen ∧ l.length ≤ 65536 ∧ sb ≠ b ∧ ∀ j, j < l.length → w.cell? ⟨b, o + j, none⟩ = some (.int .u8 (bt l j))

theorem ScanAt.keep {w w' : World} {sb b o c k : Nat} {l : List UInt8} (h : ScanAt w sb b o c l k) {S : List Nat} (ho : Only S w w') (h1 : sb ∉ S) (h2 : b ∉ S) : ScanAt w' sb b o c l k :=
  ⟨ho.keep h.1 h1, h.2.1, h.2.2.1, h.2.2.2.1, h.2.2.2.2.1, fun j hj => ho.cell_some (h.2.2.2.2.2 j hj) h2⟩

set_option maxHeartbeats 400000 in
theorem is_any (sb b o c k : Nat) (l : List UInt8) (x : Int) (w : World) (h : ScanAt w sb b o c l k) :
    Calls Tryd.prog 65 #[.pointer (some ⟨sb, 0, none⟩), .int .u8 x] w fun e w' => e = .returned (.bool (decide (k < l.length) && (bt l k == x))) ∧ Only [] w w' := by
  obtain ⟨hb, hc, hm, hl, hne, hcell⟩ := h
  have c0 : w.cell? ⟨sb, 0, none⟩ = some (.slice (some ⟨b, o, none⟩) l.length c) := by rw [cell_blk hb 0]; rfl
  have c1 : w.cell? ⟨sb, 0 + 1, none⟩ = some (.int .i64 k) := by rw [cell_blk hb (0 + 1)]; rfl
  have hl' : (l.length : Int) ≤ 65536 := by omega
  by_cases hlt : k < l.length
  · have ck := hcell k hlt
    clear hcell hb
    have hd : decide (k < l.length) = true := by simp [hlt]
    go_enter Tryd.func65, Tryd.ntmps65
    go_wp2
    go_quiet (fail)
    go_wp2
    go_ret
    exact ⟨ret_bool (by rw [hd, Bool.true_and]), Only.drewN (Only.refl _ w) nq⟩
  · have hd : decide (k < l.length) = false := by simp [hlt]
    clear hcell hb
    go_enter Tryd.func65, Tryd.ntmps65
    go_wp2
    go_quiet (fail)
    go_wp2
    go_ret
    exact ⟨ret_bool (by rw [hd, Bool.false_and]), Only.drewN (Only.refl _ w) nq⟩
end Go.Proofs.YtpohopmggpiomaaDoor
