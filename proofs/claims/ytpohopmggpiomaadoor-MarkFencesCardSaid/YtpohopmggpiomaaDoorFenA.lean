/-
  MarkFences: what the law's walk needs of append.
-/
import Derived.Test.YtpohopmggpiomaaDoorPnt
import Derived.Test.YtpohopmggpiomaaDoorFenceP
import Derived.Test.YtpohopmggpiomaaDoorLaw0
namespace Go.Proofs.YtpohopmggpiomaaDoor
open Go.RowKit

theorem lex_full (l : List UInt8) (v : Value) (w : World) (hE : Env w) (hv : BytesV w v l) (hl : l.length ≤ 65536) (h0 : 0 < l.length) :
    Calls Tryd.prog 8 #[v] w (SheetNew w (markL (pntL l) l)) :=
  lex_some (pntL l) l v w hE hv hl h0 (fun to hto => pntL_ok l to hto) (fun bd bs bl b o c to k L' w' hto hk _ hD hS hE' hne _ => pointed_any bd bs bl b o c to k l L' w' hto hk hD hS hE' hne)

theorem bytesV_row {w : World} {g cap : Nat} {l : List UInt8} (hc : l.length ≤ cap) (hm : cap ≤ maxLen) (h : ∀ j, j < l.length → w.cell? ⟨g, j, none⟩ = some (.int .u8 (bt l j))) : BytesV w (.slice (some ⟨g, 0, none⟩) l.length cap) l :=
  ⟨_, cap, rfl, hc, hm, fun _ => ⟨g, 0, rfl, fun k hk => by rw [Nat.zero_add]; exact h k hk⟩⟩

/-- append to a text that has no room. -/
theorem run_append_two (w : World) (g : Nat) (pre l : List UInt8) (x : Value) (ty : TypeId)
    (hcell : ∀ j, j < pre.length → w.cell? ⟨g, j, none⟩ = some (.int .u8 (bt pre j))) (hs : Src Tryd.prog 1 22 x l.length (byteRow l) w) (h63 : pre.length + l.length ≤ 140737488355328) :
    ∃ v' w', (Builtin.append_ #[22, 22] ty #[.slice (some ⟨g, 0, none⟩) pre.length pre.length, x]).run Tryd.prog w = .ok v' w' ∧ Only [] w w' ∧ BytesV w' v' (pre ++ l) ∧
      (0 < l.length → w'.ownsRow w.heap.size 5 1 v' (pre ++ l).length (byteRow (pre ++ l))) := by
  obtain ⟨i, hi, hz, hi1, hi2⟩ := info_parts infoByte
  have hM : maxLen = 9223372036854775807 := rfl
  by_cases hm : l.length = 0
  · obtain rfl : l = [] := List.eq_nil_of_length_eq_zero hm
    refine ⟨.slice (some ⟨g, 0, none⟩) pre.length pre.length, w, ?_, Only.refl _ _, ?_, fun h => by simp at h⟩
    · have h1 := hs.len
      have h2 := hs.cells
      simp only [List.length_nil] at h1 h2
      simp [Builtin.append_, run_underlying Tryd.underlying22, sizeOf, typeInfo, hi, hi1, h1, h2, byteRow, storeCells]
    · rw [List.append_nil]
      exact bytesV_row (Nat.le_refl _) (by omega) hcell
  · have hold : (Builtin.firstCells i.size pre.length (.slice (some ⟨g, 0, none⟩) pre.length pre.length)).run Tryd.prog w.drew = .ok (byteRow pre).toArray w.drew :=
      run_firstCells_some (P := Tryd.prog) w.drew i.size pre.length ⟨g, 0, none⟩ pre.length pre.length (byteRow pre) (by rw [hi1, byteRow_length, Nat.mul_one]) (fun j u hu => by
        have hj : j < pre.length := by
          have := (List.getElem?_eq_some_iff.1 hu).1
          rwa [byteRow_length] at this
        rw [byteRow_get _ _ hj] at hu
        rw [Lib.add_plain', Nat.zero_add]
        have := hcell j hj
        rw [← hu]
        exact this)
    have hs' : Src Tryd.prog i.size 22 x l.length (byteRow l) w := by rw [hi1]; exact hs
    have hr := run_append_grow_src (P := Tryd.prog) w 22 22 ty 5 i (.int .u8 0) Tryd.underlying22 hi hz (some ⟨g, 0, none⟩) pre.length pre.length (byteRow pre) hold x l.length (byteRow l) hs' (by omega) (by omega) (growslice_fits (by omega) (by rw [hi2]; omega))
    have hge := grownCap_ge w (pre.length + l.length) pre.length 5
    have hcm := grownCap_le_maxLen w (pre.length + l.length) pre.length 5 (by omega)
    have hbr : byteRow pre ++ byteRow l = byteRow (pre ++ l) := by simp [byteRow]
    have hown : (w.drew.alloc (.cells ((byteRow pre ++ byteRow l).toArray ++ Builtin.zeroCells (Value.cells (.int .u8 0)) (grownCap w (pre.length + l.length) pre.length 5 - (pre.length + l.length))) 5)).ownsRow w.heap.size 5 1
        (.slice (some ⟨w.heap.size, 0, none⟩) (pre.length + l.length) (grownCap w (pre.length + l.length) pre.length 5)) (pre.length + l.length) (byteRow pre ++ byteRow l) := by
      have hlen : (byteRow pre ++ byteRow l).length = (pre.length + l.length) * 1 := by rw [List.length_append, byteRow_length, byteRow_length, Nat.mul_one]
      refine ⟨hlen, .inr ⟨w.heap.size, _, _, rfl, Nat.le_refl _, heap_alloc_new w.drew _, hge, hcm, ?_, ?_⟩⟩
      · simp only [Array.size_append, List.size_toArray, size_zeroCells, hlen]
        have : (Value.cells (.int .u8 0)).size = 1 := rfl
        rw [this]
        omega
      · simp only [Array.toList_append]
        rw [← hlen]
        exact List.take_left
    refine ⟨_, _, hr, ((Only.refl [] w).drew).alloc _, ?_, fun _ => ?_⟩
    · rw [hbr] at hown
      have := BytesV.of_row (l := pre ++ l) (n := pre.length + l.length) hown
      rw [hbr]
      exact this
    · rw [hbr] at hown ⊢
      rw [List.length_append]
      exact hown
theorem wp_append_two {w : World} {ops : Array Oper} {rest : List Oper} {op : Oper} {a : Act} {Q : Exit → Act → World → Prop} (hgd : op.guard = none) (s x : Operand)
    (ho : op.op = .call { callee := .builtin .append, args := #[s, x], argTypes := #[22, 22] })
    (g : Nat) (pre l : List UInt8) (n : Nat) (hn : pre.length = n) (xv : Value) (hs : a.eval s = .slice (some ⟨g, 0, none⟩) n n) (hx : a.eval x = xv)
    (hcell : ∀ j, j < pre.length → w.cell? ⟨g, j, none⟩ = some (.int .u8 (bt pre j))) (hsrc : Src Tryd.prog 1 22 xv l.length (byteRow l) w) (h63 : pre.length + l.length ≤ 140737488355328)
    (h : ∀ v' w', Only [] w w' → BytesV w' v' (pre ++ l) → (0 < l.length → w'.ownsRow w.heap.size 5 1 v' (pre ++ l).length (byteRow (pre ++ l))) → wpList Tryd.prog ops Q rest (a.put op.dst v') w') :
    wpList Tryd.prog ops Q (op :: rest) a w := by
  subst hn
  obtain ⟨v', w', hr, h2, h3, h4⟩ := run_append_two w g pre l xv op.type hcell hsrc h63
  refine wpList_plain hgd fun K hK => ?_
  unfold Oper.wp execOp
  simp only [ho, resolve, invoke, builtin, Sem.run_bind, Sem.run_pure, Result.andThen_ok, List.map_toArray, List.map_cons, List.map_nil, hs, hx, hr]
  exact hK _ _ (h v' w' h2 h3 h4)
end Go.Proofs.YtpohopmggpiomaaDoor
