/-
  html.Lay: a tag's bytes on a sheet.
-/
import Derived.Test.YtpohopmggpiomaaDoorHtmlR
import Derived.Test.YtpohopmggpiomaaDoorLabel
import Derived.Test.YtpohopmggpiomaaDoorMovP
namespace Go.Proofs.YtpohopmggpiomaaDoor
open Go.RowKit

theorem spanCells_at (l : List (Nat × Nat)) (k : Nat) (h : k < l.length) : (spanCells l)[k * 2]? = some (.int .i64 (l[k].1 : Int)) ∧ (spanCells l)[k * 2 + 1]? = some (.int .i64 (l[k].2 : Int)) := by
  induction l generalizing k with
  | nil => simp at h
  | cons a l ih =>
    cases k with
    | zero => exact ⟨rfl, rfl⟩
    | succ k =>
      have := ih k (by simpa using h)
      rw [show (k + 1) * 2 = k * 2 + 1 + 1 by omega]
      simpa [spanCells] using this
/-- The labels behind k spans. -/
def layTo (L : List Int) (ps : List (Nat × Nat)) (k : Nat) : List Int := (ps.take k).foldl (fun L q => putR L q.1 (q.1 + q.2) 1) L
theorem layTo_succ (L : List Int) (ps : List (Nat × Nat)) (k : Nat) (h : k < ps.length) : layTo L ps (k + 1) = putR (layTo L ps k) ps[k].1 (ps[k].1 + ps[k].2) 1 := by
  unfold layTo
  rw [List.take_succ_eq_append_getElem h, List.foldl_append]
  rfl
theorem layL_to (at_ : Nat) (t : TagR) (L : List Int) : layL at_ t L = layTo (putR L at_ t.fin 2) t.prose t.prose.length := by
  unfold layL layTo
  rw [List.take_length]

set_option maxRecDepth 100000 in
set_option maxHeartbeats 1000000 in
theorem lay_any (bs bl at_ base : Nat) (t : TagR) (v : Value) (L : List Int) (w : World) (h : SheetAt w bs bl L) (hat : at_ ≤ 65536) (hfin : t.fin ≤ 65536) (hq : ∀ q ∈ t.prose, q.1 + q.2 ≤ 65536) (hn : t.prose.length ≤ 65536)
    (hown : w.ownsRow base 33 2 v t.prose.length (spanCells t.prose)) (hbl : bl < base) :
    Calls Tryd.prog 51 #[.pointer (some ⟨bs, 0, none⟩), .int .i64 at_, tagV t v] w fun e w' => e = .returned (.tuple #[]) ∧ Only [bl] w w' ∧ SheetAt w' bs bl (layL at_ t L) := by
  obtain ⟨fin, name, cl, ps⟩ := t
  simp only at hfin hq hn hown
  obtain ⟨pp, cp, rfl, hcp⟩ := ownsRow_shape hown
  rw [layL_to]
  simp only [tagV]
  have hA : Only [] w (w.alloc (.cells #[.int .i64 fin, .string ⟨name.toArray⟩, .bool cl, .slice pp ps.length cp] 89)) := (Only.refl [] w).alloc _
  have hT : TagAt (w.alloc (.cells #[.int .i64 fin, .string ⟨name.toArray⟩, .bool cl, .slice pp ps.length cp] 89)) w.heap.size fin name cl (.slice pp ps.length cp) := alloc_new _ _
  have HS := Lib.hid (h.keep hA (by simp) (by simp))
  have HO := Lib.hid hA
  have HT := Lib.hid hT
  have HW := Lib.hid (ownsRow_only hown hA (by simp))
  have HQ := Lib.hid hq
  have hblw : bl < w.heap.size := lt_of_block h.2.2.2
  have hn' : (ps.length : Int) ≤ 65536 := by omega
  obtain ⟨t0, t1, t2, t3, tf⟩ := hT.four
  clear hA hT h hown hq
  go_enter Tryd.func51, Tryd.ntmps51
  go_wp2_with fail
  generalize w.alloc (.cells #[.int .i64 fin, .string ⟨name.toArray⟩, .bool cl, .slice pp ps.length cp] 89) = w1 at *
  refine (set_any bs bl 2 at_ fin L w1 HS.out (by omega) (by omega)).mono ?_
  rintro e w2 ⟨rfl, ho2, hs2⟩
  have hT2 := HT.out.keep ho2 (by simp; omega)
  have HS2 := Lib.hid hs2
  have HO2 := Lib.hid ((HO.out.mono (by simp)).trans ho2)
  have HW2 := Lib.hid (ownsRow_only HW.out ho2 (fun i hi => by have := HW.out.lt i hi; simp; omega))
  obtain ⟨u0, u1, u2, u3, uf⟩ := hT2.four
  clear t0 t1 t2 t3 tf ho2 hs2 hT2 HS HO HT HW
  go_wp2_with fail
  go_loopw [7, 16] (fun _ i wr => ∃ k : Nat, k ≤ ps.length ∧ i = .int .i64 k ∧ Only [bl] w2 wr ∧ SheetAt wr bs bl (layTo (putR L at_ fin 2) ps k)) (fun _ i _ => ps.length - (intOf i).toNat)
  case atStart => exact ⟨0, by omega, rfl, Only.refl _ _, HS2.out⟩
  case round =>
    obtain ⟨k, hk, rfl, ho, hs⟩ := hrel
    by_cases hlt : k < ps.length
    · have hw := ownsRow_only HW2.out ho (fun i hi => by have := HW2.out.lt i hi; simp; omega)
      obtain ⟨g, cg, hpr, hg, -⟩ := ownsRow_some hw (by omega)
      simp only [Value.slice.injEq, true_and] at hpr
      obtain ⟨rfl, rfl⟩ := hpr
      have hsa := spanCells_at ps k hlt
      have k0 : wr.cell? ⟨g, k * 2, none⟩ = some (.int .i64 (ps[k].1 : Int)) := by rw [hw.cellAt (k * 2) (by omega)]; exact hsa.1
      have k1 : wr.cell? ⟨g, k * 2 + 1, none⟩ = some (.int .i64 (ps[k].2 : Int)) := by rw [hw.cellAt (k * 2 + 1) (by omega)]; exact hsa.2
      have HLS := Lib.hid (layTo_succ (putR L at_ fin 2) ps k hlt)
      have hqk := HQ.out ps[k] (List.getElem_mem hlt)
      have hqi : ((ps[k].1 : Int) + (ps[k].2 : Int)) ≤ 65536 := by omega
      generalize ps[k].1 = x at *
      generalize ps[k].2 = y at *
      have hA3 : Only [] wr (wr.alloc (.cells #[.int .i64 x, .int .i64 y] 33)) := (Only.refl [] _).alloc _
      have hv : SpanAt (wr.alloc (.cells #[.int .i64 x, .int .i64 y] 33)) wr.heap.size x y := alloc_new _ _
      have q0 : (wr.alloc (.cells #[.int .i64 x, .int .i64 y] 33)).cell? ⟨wr.heap.size, 0, none⟩ = some (.int .i64 x) := by rw [cell_blk hv 0]; rfl
      have q1 : (wr.alloc (.cells #[.int .i64 x, .int .i64 y] 33)).cell? ⟨wr.heap.size, 0 + 1, none⟩ = some (.int .i64 y) := by rw [cell_blk hv (0 + 1)]; rfl
      have HS3 := Lib.hid (hs.keep hA3 (by simp) (by simp))
      have HO3 := Lib.hid (ho.trans (hA3.mono (by simp)))
      clear hw hsa hA3 hv ho hs
      go_wp2_with fail
      refine (set_any bs bl 1 x (x + y) _ _ HS3.out (by omega) (by omega)).mono ?_
      rintro e w4 ⟨rfl, ho4, hs4⟩
      have HS4 := Lib.hid hs4
      have HO4 := Lib.hid (HO3.out.trans ho4)
      clear ho4 hs4
      go_wp2_with fail
      go_roundw
      case rel => exact ⟨k + 1, by omega, by go_num, HO4.out, by rw [HLS.out]; exact HS4.out⟩
      case measure => simp [intOf]; omega
    · obtain rfl : k = ps.length := by omega
      have HS3 := Lib.hid hs
      have HO3 := Lib.hid ho
      clear hs ho
      go_wp2_with fail
      go_end0
      exact ⟨rfl, HO2.out.trans HO3.out, HS3.out⟩
end Go.Proofs.YtpohopmggpiomaaDoor
