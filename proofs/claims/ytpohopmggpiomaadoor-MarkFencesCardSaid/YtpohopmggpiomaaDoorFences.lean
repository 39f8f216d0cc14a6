/-
  redpenlaw12.MarkFences: true at every input.
-/
import Derived.Test.YtpohopmggpiomaaDoorFenW
import Derived.OpenShut
namespace Go.Proofs.YtpohopmggpiomaaDoor
open Go.RowKit

set_option maxRecDepth 100000 in
set_option maxHeartbeats 1000000 in
theorem fences_long (cs : List UInt8) (v : Value) (a1 : Int) (tl : Bool) (bs : List UInt8) (v3 : Value) (w : World) (hE : Env w) (hv : BytesV w v cs) (hv3 : BytesV w v3 bs) (h : 500 < cs.length ∨ 300 < bs.length) :
    Calls Tryd.prog 4 #[v, .int .u8 a1, .bool tl, v3] w fun e w' => e = .returned (.bool true) ∧ Only [] w w' := by
  obtain ⟨p, cp, rfl, -⟩ := hv
  obtain ⟨p3, cp3, rfl, -⟩ := hv3
  have HE := Lib.hid hE
  clear hE
  by_cases h5 : 500 < cs.length
  · have hl0' : decide ((500 : Int) < (cs.length : Int)) = true := decide_eq_true (by omega)
    go_enter Tryd.func4, Tryd.ntmps4
    go_wp2_with (go_at_call 7; refine (awake_any _ HE.out).mono ?_; rintro e w1 ⟨rfl, ho1⟩; have HO1 := Lib.hid ho1; clear ho1)
    go_ret
    exact ⟨rfl, HO1.out⟩
  · have hl0' : decide ((500 : Int) < (cs.length : Int)) = false := decide_eq_false (by omega)
    have hl3' : decide ((300 : Int) < (bs.length : Int)) = true := decide_eq_true (by omega)
    go_enter Tryd.func4, Tryd.ntmps4
    go_wp2_with (go_at_call 7; refine (awake_any _ HE.out).mono ?_; rintro e w1 ⟨rfl, ho1⟩; have HO1 := Lib.hid ho1; clear ho1)
    go_ret
    exact ⟨rfl, HO1.out⟩

theorem markFences_calls (c0 : List UInt8) (v0 : Value) (a1 : Int) (b2 : Bool) (c3 : List UInt8) (v3 : Value) (w : World) (hE : Env w) (h0 : BytesV w v0 c0) (h1 : (Lit.int .u8 a1).wf = true) (h3 : BytesV w v3 c3) :
    Calls Tryd.prog 4 #[v0, .int .u8 a1, .bool b2, v3] w fun e w' => e = .returned (.bool true) ∧ Below w.heap.size w w' := by
  have hr : 0 ≤ a1 ∧ a1 ≤ 255 := by simpa [Lit.wf] using bounds_u8 h1
  by_cases hl : 500 < c0.length ∨ 300 < c3.length
  · exact (fences_long c0 v0 a1 b2 c3 v3 w hE h0 h3 hl).mono fun _ _ ⟨e1, e2⟩ => ⟨e1, e2.below⟩
  · have hm : 3 + a1 % 5 = ((3 + a1 % 5).toNat : Int) := by omega
    cases b2
    · exact (fences_walk_t c0 v0 a1 (3 + a1 % 5).toNat c3 v3 w hE h0 h3 hr hm (by omega) (by omega)).mono fun _ _ ⟨e1, e2⟩ => ⟨e1, e2.below⟩
    · exact (fences_walk_w c0 v0 a1 (3 + a1 % 5).toNat c3 v3 w hE h0 h3 hr hm (by omega) (by omega)).mono fun _ _ ⟨e1, e2⟩ => ⟨e1, e2.below⟩
end Go.Proofs.YtpohopmggpiomaaDoor
