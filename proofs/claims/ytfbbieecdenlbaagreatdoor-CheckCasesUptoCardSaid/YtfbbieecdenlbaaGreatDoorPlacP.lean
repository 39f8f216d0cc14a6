/-
  lines.Line, Place; near.Words of no suggestion.
  lines.Place.
-/
import Derived.Test.YtfbbieecdenlbaaGreatDoorChkX
namespace Go.Proofs.YtfbbieecdenlbaaGreatDoor
open Go.RowKit

set_option maxRecDepth 100000 in
set_option maxHeartbeats 2000000 in
theorem near_none (t : Value) (pv : Option Addr) (nv cv : Nat) (s : List UInt8) (most : Nat) (w : World) (hs : s.length ≤ 10000) (hr : (runesU s).length ≤ 64) (hm : most ≤ 3) :
    Calls Tryz.prog 38 #[t, .string ⟨s.toArray⟩, .int .i64 most, .int .i64 0, .slice pv nv cv] w fun e w' => e = .returned (.tuple #[.slice none 0 0, .int .i64 0]) ∧ Only [] w w' := by
  have z1 : decide ((most : Int) < 0) = false := decide_eq_false (by omega)
  have z2 : decide ((3 : Int) < most) = false := decide_eq_false (by omega)
  have z3 : decide ((64 : Int) < ((runesU s).length : Nat)) = false := decide_eq_false (by omega)
  have HR : Hid (∀ w', Calls Tryz.prog 22 #[.string ⟨s.toArray⟩] w' fun e w'' => ∃ u, e = .returned u ∧ Only [] w' w'' ∧ w''.ownsRow w'.heap.size 21 1 u (runesU s).length ((runesU s).map (Value.int .i32))) := Lib.hid fun w' => runes_any s w' (by omega)
  generalize runesU s = U at *
  go_enter Tryz.func38, Tryz.ntmps38
  go_wp2_with fail
  refine (HR.out _).mono ?_
  rintro e w2 ⟨u, rfl, ho2, hu⟩
  obtain ⟨pu, cu, rfl, -⟩ := ownsRow_shape hu
  have HO2 := Lib.hid (((Only.refl [] w).alloc _).trans ho2)
  clear hu ho2
  go_wp2_with fail
  go_ret2
  exact ⟨rfl, HO2.out⟩

theorem cnt_sorted (a : Nat) : ∀ (l : List Nat), l.Pairwise (· < ·) → ∀ (i : Nat) (h : i < l.length), (l[i] ≤ a ↔ i < l.countP (fun x => decide (x ≤ a))) := by
  intro l
  induction l with
  | nil => intro _ i h; simp at h
  | cons x xs ih =>
    intro hp i h
    obtain ⟨h1, h2⟩ := List.pairwise_cons.1 hp
    by_cases hx : x ≤ a
    · rw [List.countP_cons_of_pos (by simpa using hx)]
      cases i with
      | zero => simpa using hx
      | succ i =>
        have := ih h2 i (by simpa using h)
        simp only [List.getElem_cons_succ]
        omega
    · have h0 : (x :: xs).countP (fun x => decide (x ≤ a)) = 0 := by
        rw [List.countP_eq_zero]
        intro y hy
        rcases List.mem_cons.1 hy with rfl | hy
        · simpa using hx
        · have := h1 y hy; simp; omega
      rw [h0]
      have h3 : a < (x :: xs)[i] := by
        cases i with
        | zero => simp; omega
        | succ i =>
          have hi : i < xs.length := Nat.lt_of_succ_lt_succ h
          have := h1 xs[i] (List.getElem_mem hi)
          simp only [List.getElem_cons_succ]
          omega
      omega
def cntLe (l : List UInt8) (a : Nat) : Nat := (begs l l.length).countP (fun x => decide (x ≤ a))
/-- On which line a place lies. -/
def lineNo (l : List UInt8) (a : Nat) : Nat := max (min (cntLe l a) (nLines l)) 1
theorem cntLe_spec (l : List UInt8) (a i : Nat) (h : i < nb l) : bg l i ≤ a ↔ i < cntLe l a := by
  rw [bg_eq l i h]
  exact cnt_sorted a _ (begs_sorted l l.length) i h
theorem cntLe_le (l : List UInt8) (a : Nat) : cntLe l a ≤ nb l := List.countP_le_length

set_option maxRecDepth 100000 in
set_option maxHeartbeats 2000000 in
theorem clo_place (base bi : Nat) (l : List UInt8) (at' : Nat) (bx ba : Nat) (i : Nat) (w : World) (h : IndexAt w base bi l) (hl : l.length ≤ 65536) (hi : i < nb l) (hx : w.cell? ⟨bx, 0, none⟩ = some (.pointer (some ⟨bi, 0, none⟩))) (ha : w.cell? ⟨ba, 0, none⟩ = some (.int .i64 at')) :
    Calls Tryz.prog 109 #[.int .i64 i, .pointer (some ⟨bx, 0, none⟩), .pointer (some ⟨ba, 0, none⟩)] w fun e w' => e = .returned (.bool (decide (cntLe l at' ≤ i))) ∧ Only [] w w' := by
  obtain ⟨g, c, py, cy, m, hm, hmc, hml, hc1, hc2, hg, -⟩ := h.opens
  have hgi := hg i (by omega)
  have hsp := cntLe_spec l at' i hi
  have hlt : (i : Int) < m + 1 := by omega
  have hml' : (m : Int) ≤ 65536 := by omega
  have hd : decide (cntLe l at' ≤ i) = decide ((at' : Int) < (bg l i : Nat)) := by
    congr 1
    exact propext (by omega)
  have HD := Lib.hid hd
  clear h hg hsp hd
  generalize bg l i = x at *
  go_enter Tryz.func109, Tryz.ntmps109
  go_wp2_with fail
  refine wp_region_calm w [] (by kernel_rfl) (by kernel_rfl) (Only.refl _ w) ?_
  repeat (first | go_big_quiet_skip | (go_big_quiet_want; go_big_quiet_op; first | go_big_quiet_on | (refine ⟨_, fun _ _ => rfl, ?_⟩; go_big_quiet_on) | (apply Exists.intro; refine ⟨fun w' hw' => ?_, ?_⟩; (rw [hw'.cell_some hx (by simp)]; exact ⟨rfl, rfl⟩); go_big_quiet_on) | (apply Exists.intro; refine ⟨fun w' hw' => ?_, ?_⟩; (rw [hw'.cell_some ha (by simp)]; exact ⟨rfl, rfl⟩); go_big_quiet_on) | (apply Exists.intro; refine ⟨fun w' hw' => ?_, ?_⟩; (rw [hw'.cell_some hc1 (by simp)]; exact ⟨rfl, rfl⟩); go_big_quiet_on) | (apply Exists.intro; refine ⟨fun w' hw' => ?_, ?_⟩; (rw [hw'.cell_some hgi (by simp)]; exact ⟨rfl, rfl⟩); go_big_quiet_on)))
  refine wpQuiet_nil ?_
  intro w2 ho2
  go_wp2_with fail
  go_ret
  exact ⟨ret_bool (by rw [HD.out]; first | rfl | simp), ho2⟩

set_option maxRecDepth 100000 in
set_option maxHeartbeats 2000000 in
theorem search_any (n r : Nat) (p1 p2 : Value) (w : World) (hr : r ≤ n) (hn : n ≤ 70000) (HC : Hid (∀ (x : Int) (i : Nat), x = i → i < n → ∀ w', Only [] w w' → Calls Tryz.prog 109 #[.int .i64 x, p1, p2] w' fun e w'' => e = .returned (.bool (decide (r ≤ i))) ∧ Only [] w' w'')) :
    Calls Tryz.prog 108 #[.int .i64 n, .func (.func 109) #[] #[p1, p2]] w fun e w' => e = .returned (.int .i64 r) ∧ Only [] w w' := by
  have hn' : (n : Int) ≤ 70000 := by omega
  go_enter Tryz.func108, Tryz.ntmps108
  go_wp2_with fail
  go_loopw [5, 6] (fun iv jv wr => ∃ i j : Nat, i ≤ r ∧ r ≤ j ∧ j ≤ n ∧ iv = .int .i64 i ∧ jv = .int .i64 j ∧ Only [] w wr) (fun iv jv _ => (intOf jv).toNat - (intOf iv).toNat)
  case atStart => exact ⟨0, n, by omega, hr, Nat.le_refl _, rfl, rfl, Only.refl _ _⟩
  case round =>
    obtain ⟨i, j, hir, hrj, hjn, rfl, rfl, ho⟩ := hrel
    have HO := Lib.hid ho
    by_cases hlt : i < j
    · have hlt' : (i : Int) < j := by omega
      have hjn' : (j : Int) ≤ 70000 := by omega
      have HCL := Lib.hid (HC.out (((i : Int) + j) / 2) ((i + j) / 2) (by omega) (by omega) wr ho)
      clear ho
      cases hd : decide (r ≤ (i + j) / 2)
      · rw [hd] at HCL
        have hd' := of_decide_eq_false hd
        clear hd
        go_wp2_with fail
        refine HCL.out.mono ?_
        rintro e w2 ⟨rfl, ho2⟩
        have HO2 := Lib.hid (HO.out.trans ho2)
        clear ho2
        go_wp2_with fail
        go_roundw
        case rel => exact ⟨(i + j) / 2 + 1, j, by omega, hrj, hjn, by go_num, rfl, HO2.out⟩
        case measure => simp [intOf]; omega
      · rw [hd] at HCL
        have hd' := of_decide_eq_true hd
        clear hd
        go_wp2_with fail
        refine HCL.out.mono ?_
        rintro e w2 ⟨rfl, ho2⟩
        have HO2 := Lib.hid (HO.out.trans ho2)
        clear ho2
        go_wp2_with fail
        go_roundw
        case rel => exact ⟨i, (i + j) / 2, hir, by omega, by omega, rfl, by go_num, HO2.out⟩
        case measure => simp [intOf]; omega
    · obtain rfl : i = j := by omega
      obtain rfl : i = r := by omega
      clear ho
      go_wp2_with fail
      go_ret
      exact ⟨rfl, HO.out⟩

set_option maxRecDepth 100000 in
set_option maxHeartbeats 4000000 in
theorem line_any (base bi : Nat) (l : List UInt8) (at' : Nat) (w : World) (h : IndexAt w base bi l) (hl : l.length ≤ 65536) (hat : at' ≤ l.length) :
    Calls Tryz.prog 68 #[.pointer (some ⟨bi, 0, none⟩), .int .i64 at'] w fun e w' => e = .returned (.tuple #[.int .i64 (lineNo l at' : Nat), .int .i64 0]) ∧ Only [] w w' := by
  obtain ⟨g, c, py, cy, m, hm, hmc, hml, hc1, hc2, hg, -⟩ := h.opens
  have HI := Lib.hid h
  have hb0 := lt_of_cell hc1
  have ho1 : Only [] w ((w.alloc (.cells #[.pointer (some ⟨bi, 0, none⟩)] 100)).alloc (.cells #[.int .i64 at'] 3)) := ((Only.refl _ _).alloc _).alloc _
  have hq1 := alloc_new w (.cells #[.pointer (some ⟨bi, 0, none⟩)] 100)
  have hq2 := alloc_blk (o' := .cells #[.int .i64 at'] 3) hq1
  have hq3 := alloc_new' (w := w.alloc (.cells #[.pointer (some ⟨bi, 0, none⟩)] 100)) (b := w.heap.size + 1) (.cells #[.int .i64 at'] 3) (by simp)
  have d1 : ((w.alloc (.cells #[.pointer (some ⟨bi, 0, none⟩)] 100)).alloc (.cells #[.int .i64 at'] 3)).cell? ⟨w.heap.size, 0, none⟩ = some (.pointer (some ⟨bi, 0, none⟩)) := cell_blk hq2 0
  have d2 : ((w.alloc (.cells #[.pointer (some ⟨bi, 0, none⟩)] 100)).alloc (.cells #[.int .i64 at'] 3)).cell? ⟨w.heap.size + 1, 0, none⟩ = some (.int .i64 at') := cell_blk hq3 0
  have d3 := ho1.cell_some hc1 (by simp)
  have d4 := ho1.cell_some hc2 (by simp)
  clear h hq1 hq2 hq3
  have z1 : decide ((at' : Int) < 0) = false := decide_eq_false (by omega)
  have z2 : decide ((l.length : Int) < at') = false := decide_eq_false (by omega)
  have z3 : decide (l.length < at') = false := decide_eq_false (by omega)
  have hml' : (m : Int) ≤ 65536 := by omega
  go_enter Tryz.func68, Tryz.ntmps68
  go_wp2_with fail
  generalize hwA : (w.alloc (.cells #[.pointer (some ⟨bi, 0, none⟩)] 100)).alloc (.cells #[.int .i64 at'] 3) = wA at *
  have HOA := Lib.hid ho1
  clear hwA ho1
  refine wp_region_calm wA [] (by kernel_rfl) (by kernel_rfl) (Only.refl _ wA) ?_
  repeat (first | go_big_quiet_skip | (go_big_quiet_want; go_big_quiet_op; first | go_big_quiet_on | (refine ⟨_, fun _ _ => rfl, ?_⟩; go_big_quiet_on) | (apply Exists.intro; refine ⟨fun w' hw' => ?_, ?_⟩; (rw [hw'.cell_some d1 (by simp)]; exact ⟨rfl, rfl⟩); go_big_quiet_on) | (apply Exists.intro; refine ⟨fun w' hw' => ?_, ?_⟩; (rw [hw'.cell_some d2 (by simp)]; exact ⟨rfl, rfl⟩); go_big_quiet_on) | (apply Exists.intro; refine ⟨fun w' hw' => ?_, ?_⟩; (rw [hw'.cell_some d4 (by simp)]; exact ⟨rfl, rfl⟩); go_big_quiet_on)))
  refine wpQuiet_nil ?_
  intro w2 ho2
  have HO2 := Lib.hid (HOA.out.trans ho2)
  have e1 := ho2.cell_some d1 (by simp)
  have e2 := ho2.cell_some d2 (by simp)
  have e3 := ho2.cell_some d3 (by simp)
  clear d1 d2 d3 d4 ho2
  have HSE : Hid (∀ (x : Int) (i : Nat), x = i → i < m + 1 → ∀ w', Only [] w2 w' → Calls Tryz.prog 109 #[.int .i64 x, .pointer (some ⟨w.heap.size, 0, none⟩), .pointer (some ⟨w.heap.size + 1, 0, none⟩)] w' fun e w'' => e = .returned (.bool (decide (cntLe l at' ≤ i))) ∧ Only [] w' w'') := Lib.hid fun x i hx hi w' hw => by
    subst hx
    exact clo_place base bi l at' _ _ i w' (HI.out.keep (HO2.out.trans hw) (by simp)) hl (by omega) (hw.cell_some e1 (by simp)) (hw.cell_some e2 (by simp))
  have hcl := cntLe_le l at'
  rw [hm] at hcl
  have HS := Lib.hid (search_any (m + 1) (cntLe l at') _ _ w2 hcl (by omega) HSE)
  have hln : lineNo l at' = max (min (cntLe l at') (nLines l)) 1 := rfl
  have hnl : nLines l ≤ m + 1 := by unfold nLines; rw [hm]; split <;> omega
  have HLN := Lib.hid hln
  clear hln
  generalize cntLe l at' = r at *
  go_wp2_with fail
  refine HS.out.mono ?_
  rintro e w3 ⟨rfl, ho3⟩
  have HO3 := Lib.hid (HO2.out.trans ho3)
  have e1' := ho3.cell_some e1 (by simp)
  have HL3 := Lib.hid (lines_any base bi l w3 (HI.out.keep HO3.out (by simp)) (by omega))
  generalize nLines l = nl at *
  have hr' : (r : Int) ≤ 65537 := by omega
  have hnl' : (nl : Int) ≤ 65537 := by omega
  clear ho3 e1 e2 e3 HSE HS
  go_wp2_with fail
  refine HL3.out.mono ?_
  rintro e w4 ⟨rfl, ho4⟩
  have HO4 := Lib.hid (HO3.out.trans ho4)
  clear ho4 e1'
  go_wp2_with fail
  go_ret2
  refine ⟨?_, HO4.out⟩
  have e : max (min (r : Int) nl) 1 = ((lineNo l at' : Nat) : Int) := by rw [HLN.out]; omega
  rw [← e]
  rfl
end Go.Proofs.YtfbbieecdenlbaaGreatDoor
namespace Go.Proofs.YtfbbieecdenlbaaGreatDoor
open Go.RowKit

/-- How many signs stand between two places. -/
def colN (l : List UInt8) (a : Nat) : Nat → Nat → Nat
  | 0, _ => 0
  | d + 1, i => if i < a then 1 + colN l a d (i + (nextU (l.drop i)).2) else 0
def colT (l : List UInt8) (a i : Nat) : Nat := colN l a (a - i) i
theorem colN_fuel (l : List UInt8) (a : Nat) (ha : a ≤ l.length) : ∀ d i, a ≤ i + d → ∀ e, a ≤ i + e → colN l a d i = colN l a e i := by
  intro d
  induction d with
  | zero =>
    intro i h e he
    cases e with
    | zero => rfl
    | succ e => rw [colN, colN, if_neg (by omega)]
  | succ d ih =>
    intro i h e he
    cases e with
    | zero => rw [colN, colN, if_neg (by omega)]
    | succ e =>
      rw [colN, colN]
      split
      · rename_i hi
        have := nextU_pos _ (drop_ne (s := l) (k := i) (by omega))
        rw [ih _ (by omega) e (by omega)]
      · rfl
theorem colT_step (l : List UInt8) (a i : Nat) (ha : a ≤ l.length) (h : i < a) : colT l a i = 1 + colT l a (i + (nextU (l.drop i)).2) := by
  have := nextU_pos _ (drop_ne (s := l) (k := i) (by omega))
  unfold colT
  rw [show a - i = (a - i - 1) + 1 by omega, colN, if_pos h, colN_fuel l a ha (a - i - 1) _ (by omega) (a - (i + (nextU (l.drop i)).2)) (by omega)]
theorem colT_end (l : List UInt8) (a i : Nat) (h : a ≤ i) : colT l a i = 0 := by
  unfold colT
  rw [show a - i = 0 by omega]
  rfl
/-- A place's column. -/
def colNo (l : List UInt8) (a : Nat) : Nat := 1 + colT l a (bg l (lineNo l a - 1))

def PlaceAt (w : World) (rb : Nat) (x y : Int) : Prop := w.heap[rb]? = some (.cells #[.int .i64 x, .int .i64 y] 51 (0, 0))
theorem ret_place {fn : Func} {p u : Tmp} (h : fn.results = #[.cell p 51, .tmp u]) (tmps : Array Value) (w : World) (rb : Nat) (x y : Int) (hp : tmps.getD p undef = .pointer (some ⟨rb, 0, none⟩)) (hs : PlaceAt w rb x y) :
    (results fn tmps).run Tryz.prog w = .ok (.tuple #[.agg #[.int .i64 x, .int .i64 y], tmps.getD u undef]) w := by
  have h0 : w.cell? ⟨rb, 0, none⟩ = some (.int .i64 x) := by rw [cell_blk hs 0]; rfl
  have h1 : w.cell? ⟨rb, 0 + 1, none⟩ = some (.int .i64 y) := by rw [cell_blk hs (0 + 1)]; rfl
  rw [results_cell_tmp h, hp]
  simp [go_sem, asAddr, Result.andThen, loadVar, h0, h1]

theorem lineNo_pos (l : List UInt8) (a : Nat) : 1 ≤ lineNo l a := by unfold lineNo; omega
theorem lineNo_le (l : List UInt8) (a : Nat) : lineNo l a - 1 < nb l := by
  have h1 := nb_pos l
  have h2 : nLines l ≤ nb l := by unfold nLines; split <;> omega
  unfold lineNo
  omega

set_option maxRecDepth 100000 in
set_option maxHeartbeats 4000000 in
theorem place_any (base bi : Nat) (l : List UInt8) (at' : Nat) (w : World) (h : IndexAt w base bi l) (hl : l.length ≤ 65536) (hat : at' ≤ l.length) :
    Calls Tryz.prog 37 #[.pointer (some ⟨bi, 0, none⟩), .int .i64 at'] w fun e w' => e = .returned (.tuple #[.agg #[.int .i64 (lineNo l at' : Nat), .int .i64 (colNo l at' : Nat)], .int .i64 0]) ∧ Only [] w w' := by
  have HI := Lib.hid h
  have hp1 := lineNo_pos l at'
  have hp2 := lineNo_le l at'
  have hcol : colNo l at' = 1 + colT l at' (bg l (lineNo l at' - 1)) := rfl
  have HCOL := Lib.hid hcol
  have hbg := bg_le l (lineNo l at' - 1) hp2
  clear h hcol
  have ho1 : Only [] w (w.alloc (.cells #[.int .i64 0, .int .i64 0] 51)) := (Only.refl _ _).alloc _
  have hq1 := alloc_new w (.cells #[.int .i64 0, .int .i64 0] 51)
  have HLI := Lib.hid (line_any base bi l at' (w.alloc (.cells #[.int .i64 0, .int .i64 0] 51)) (HI.out.keep ho1 (by simp)) hl hat)
  have HO1 := Lib.hid ho1
  have HQ1 := Lib.hid hq1
  clear ho1 hq1
  generalize hln : lineNo l at' = ln at *
  have HLN := Lib.hid hln
  clear hln
  go_enter Tryz.func37, Tryz.ntmps37
  go_wp2_with fail
  refine HLI.out.mono ?_
  rintro e w2 ⟨rfl, ho2⟩
  have HO2 := Lib.hid (HO1.out.trans ho2)
  have HQ2 := Lib.hid (ho2.keep HQ1.out (by simp))
  have HI2 := Lib.hid (HI.out.keep HO2.out (by simp))
  clear ho2
  obtain ⟨g, c, py, cy, m, hm, hmc, hml, hc1, hc2, hg, hby⟩ := HI2.out.opens
  have HBY := Lib.hid hby
  obtain ⟨k, rfl⟩ : ∃ k, ln = k + 1 := ⟨ln - 1, by omega⟩
  rw [Nat.add_sub_cancel] at hp2 hbg HCOL
  have hgk := hg k (by omega)
  have hkm : (k : Int) < m + 1 := by omega
  have hmc' : (m : Int) + 1 ≤ c := by omega
  have hmi : (m : Int) ≤ 65536 := by omega
  clear hg hby
  generalize bg l k = i0 at *
  go_wp2_with fail
  go_loopw [8, 9] (fun cv iv wr => ∃ i cl : Nat, i ≤ l.length ∧ cl ≤ 1 + i ∧ iv = .int .i64 i ∧ cv = .int .i64 cl ∧ colNo l at' = cl + colT l at' i ∧ Only [] w2 wr) (fun _ iv _ => l.length - (intOf iv).toNat)
  case atStart => exact ⟨i0, 1, hbg, by omega, rfl, rfl, HCOL.out, Only.refl _ _⟩
  case round =>
    obtain ⟨i, cl, hil, hci, rfl, rfl, hcs, ho⟩ := hrel
    have HO := Lib.hid ho
    have HQ3 := Lib.hid (ho.keep HQ2.out (by simp))
    have c2' := ho.cell_some hc2 (by simp)
    have hll : (l.length : Int) ≤ 65536 := by omega
    by_cases hlt : i < at'
    · have hby3 := HBY.out.only ho
      obtain ⟨p3, c3, e3, hc3, hm3⟩ := hby3.shape
      simp only [Value.slice.injEq, true_and] at e3
      obtain ⟨rfl, rfl⟩ := e3
      obtain ⟨p4, c4, e4, h4c, h4m, hkb⟩ := id hby3
      simp only [Value.slice.injEq, true_and] at e4
      obtain ⟨rfl, rfl⟩ := e4
      obtain ⟨bb, ob, rfl, hcell⟩ := hkb (by omega)
      have hstep := colT_step l at' i hat hlt
      have hpos := nextU_pos _ (drop_ne (s := l) (k := i) (by omega))
      rw [List.length_drop] at hpos
      have hv := seg_bytes (w := wr) hcell hm3 hil hc3
      have HN := Lib.hid (next_any (l.drop i) _ wr hv (by rw [List.length_drop]; omega))
      have hlt' : (i : Int) < at' := by omega
      have hia : (i : Int) < l.length := by omega
      have hcy : (l.length : Int) ≤ cy := by omega
      rw [hstep] at hcs
      have HCS := Lib.hid hcs
      clear hby3 hkb hcell hv hstep hcs ho
      generalize nextU (l.drop i) = r at *
      obtain ⟨r1, r2⟩ := r
      simp only at hpos
      have hr2 : (i : Int) + r2 ≤ l.length := by omega
      have hcl' : (cl : Int) ≤ 65537 := by omega
      go_wp2_with fail
      refine HN.out.mono ?_
      rintro e w3 ⟨rfl, rfl⟩
      simp only [nextV]
      go_wp2_with fail
      go_roundw
      case rel => exact ⟨i + r2, cl + 1, by omega, by omega, by go_num, by go_num, by rw [HCS.out]; omega, HO.out⟩
      case measure => simp [intOf]; omega
    · rw [colT_end l at' i (by omega), Nat.add_zero] at hcs
      have HCS := Lib.hid hcs
      have hq0 := cell_blk HQ3.out 0
      have hq1 := cell_blk HQ3.out 1
      have q0 : wr.cell? ⟨w.heap.size, 0, none⟩ = some (.int .i64 0) := hq0
      have q1 : wr.cell? ⟨w.heap.size, 0 + 1, none⟩ = some (.int .i64 0) := hq1
      have fz0 : wr.frozen? ⟨w.heap.size, 0, none⟩ = false := free_blk HQ3.out 0
      have fz1 : wr.frozen? ⟨w.heap.size, 0 + 1, none⟩ = false := free_blk HQ3.out 1
      have hge : ¬ ((i : Int) < at') := by omega
      clear ho hcs hq0 hq1
      go_wp2_with fail
      have hst : PlaceAt ((wr.setCell ⟨w.heap.size, 0, none⟩ (.int .i64 ((k : Int) + 1))).setCell ⟨w.heap.size, 1, none⟩ (.int .i64 cl)) w.heap.size ((k : Int) + 1) cl :=
        setCell_blk (setCell_blk HQ3.out 0 (.int .i64 ((k : Int) + 1))) 1 (.int .i64 cl)
      refine bodyPost_ret (ret_place rfl _ _ w.heap.size _ _ rfl hst) rfl ?_
      refine ⟨by rw [HCS.out]; rfl, ?_⟩
      exact ((HO2.out.trans HO.out).setCell (Or.inr (Nat.le_refl _)) _).setCell (Or.inr (Nat.le_refl _)) _
end Go.Proofs.YtfbbieecdenlbaaGreatDoor
