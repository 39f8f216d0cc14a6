/-
  A nil book: File, Knows, Fix; redpenlaw22's options.
-/
import Derived.Test.YtagddjcjapgdaaaGreatDoorAwake
import Derived.Test.YtagddjcjapgdaaaGreatDoorRef1F
namespace Go.Proofs.YtagddjcjapgdaaaGreatDoor
open Go.RowKit

set_option maxRecDepth 100000 in
theorem knows_nil (s : ByteArray) (w : World) : Calls Tryz.prog 7 #[.pointer none, .string s] w fun e w' => e = .returned (.bool false) ∧ w = w' := by
  go_enter Tryz.func7, Tryz.ntmps7
  go_wp2_with fail
  go_ret
  exact ⟨rfl, rfl⟩
set_option maxRecDepth 100000 in
theorem fix_nil (s : ByteArray) (w : World) : Calls Tryz.prog 8 #[.pointer none, .string s] w fun e w' => e = .returned (.string ⟨#[]⟩) ∧ w = w' := by
  go_enter Tryz.func8, Tryz.ntmps8
  go_wp2_with fail
  go_ret
  exact ⟨rfl, rfl⟩
set_option maxRecDepth 100000 in
set_option maxHeartbeats 1000000 in
theorem file_nil (num : Int) (nm : ByteArray) (p : Option Addr) (l c : Nat) (x0 x1 x2 x3 x4 x5 : Int) (b6 b7 : Bool) (w : World) :
    Calls Tryz.prog 5 #[.pointer none, .int .i64 num, .agg #[.string nm, .slice p l c], .agg #[.int .i64 x0, .int .i64 x1, .int .i64 x2, .int .i64 x3, .int .i64 x4, .int .i64 x5, .bool b6, .bool b7]] w fun e w' => e = .returned (.tuple #[.slice none 0 0, .int .i64 1]) ∧ Only [] w w' := by
  go_enter Tryz.func5, Tryz.ntmps5
  go_wp2_with fail
  go_ret2
  exact ⟨rfl, ((Only.refl _ _).alloc _).alloc _⟩

theorem ret_opts {fn : Func} {p : Tmp} (h : fn.results = #[.cell p 36]) (tmps : Array Value) (w : World) (rb : Nat) (x0 x1 x2 x3 x4 x5 : Int) (b6 b7 : Bool) (hp : tmps.getD p undef = .pointer (some ⟨rb, 0, none⟩))
    (hs : w.heap[rb]? = some (.cells #[.int .i64 x0, .int .i64 x1, .int .i64 x2, .int .i64 x3, .int .i64 x4, .int .i64 x5, .bool b6, .bool b7] 36 (0, 0))) :
    (results fn tmps).run Tryz.prog w = .ok (.agg #[.int .i64 x0, .int .i64 x1, .int .i64 x2, .int .i64 x3, .int .i64 x4, .int .i64 x5, .bool b6, .bool b7]) w := by
  exact results_cell_row h tmps w rb 36 _ (0, 0) _ hp hs Tryz.underlying36 rfl (by kernel_rfl)

set_option maxRecDepth 100000 in
set_option maxHeartbeats 4000000 in
theorem options_any (v0 v1 : Value) (p0 p1 : Option Addr) (l0 c0 l1 c1 : Nat) (h0 : v0 = .slice p0 l0 c0) (h1 : v1 = .slice p1 l1 c1) (a2 a3 a4 a5 a6 a7 : Int) (r2 : 0 ≤ a2 ∧ a2 ≤ 255) (r3 : 0 ≤ a3 ∧ a3 ≤ 255) (r4 : 0 ≤ a4 ∧ a4 ≤ 255) (r5 : 0 ≤ a5 ∧ a5 ≤ 255) (r6 : 0 ≤ a6 ∧ a6 ≤ 255) (w : World) :
    Calls Tryz.prog 6 #[.agg #[v0, v1, .int .u8 a2, .int .u8 a3, .int .u8 a4, .int .u8 a5, .int .u8 a6, .int .u8 a7]] w fun e w' => e = .returned (.agg #[.int .i64 (a2 % 10 - 1), .int .i64 (1 + a3 % 4), .int .i64 (min (1 + a3 % 4 + a4 % 70) 64), .int .i64 (a5 % 9), .int .i64 (a6 % 4), .int .i64 (a5 % 5), .bool (bits .and .u8 a7 16 != 0), .bool (bits .and .u8 a7 32 != 0)]) ∧ Only [] w w' := by
  subst h0
  subst h1
  go_enter Tryz.func6, Tryz.ntmps6
  go_wp2_with fail
  refine bodyPost_ret (ret_opts rfl _ _ (w.heap.size + 1) _ _ _ _ _ _ _ _ rfl (alloc_new' _ (by simp))) rfl ?_
  exact ⟨rfl, ((Only.refl _ _).alloc _).alloc _⟩
end Go.Proofs.YtagddjcjapgdaaaGreatDoor
