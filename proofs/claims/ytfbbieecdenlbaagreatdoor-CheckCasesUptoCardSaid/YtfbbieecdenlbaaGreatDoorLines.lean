/-
  lines: New, Lines, Span, Split.
-/
import Derived.Test.YtfbbieecdenlbaaGreatDoorRow
import Derived.Deep.QuietTactic
import Derived.BigQuiet
namespace Go.Proofs.YtfbbieecdenlbaaGreatDoor
open Go.RowKit

/-- Where the lines of the first k bytes begin. -/
def begs (l : List UInt8) : Nat → List Nat
  | 0 => [0]
  | k + 1 => if bt l k = 10 then begs l k ++ [k + 1] else begs l k

theorem begs_length (l : List UInt8) (k : Nat) : 0 < (begs l k).length ∧ (begs l k).length ≤ k + 1 := by
  induction k with
  | zero => simp [begs]
  | succ k ih =>
    simp only [begs]
    split
    · simp; omega
    · omega

/-- Numbers as cells. -/
def natRow (l : List Nat) : List Value := l.map fun (n : Nat) => Value.int .i64 (n : Int)

theorem infoInt : (Tryz.prog.info? 3).map (fun i => (i.zero, i.size, i.bytes)) = some (some (.int .i64 0), 1, 8) := by kernel_rfl
theorem infoByte : (Tryz.prog.info? 5).map (fun i => (i.zero, i.size, i.bytes)) = some (some (.int .u8 0), 1, 1) := by kernel_rfl
theorem infoStr : (Tryz.prog.info? 9).map (fun i => (i.zero, i.size, i.bytes)) = some (some (.string ⟨#[]⟩), 1, 16) := by kernel_rfl

/-- An index of bytes, at block bi, its rows in blocks from base on. -/
def IndexAt (w : World) (base bi : Nat) (l : List UInt8) : Prop :=
  ∃ vb vy, base ≤ bi ∧ w.heap[bi]? = some (.cells #[vb, vy] 162 (0, 0)) ∧
    w.ownsRow base 3 1 vb (begs l l.length).length (natRow (begs l l.length)) ∧ w.ownsRow base 5 1 vy l.length (byteRow l)

set_option maxHeartbeats 400000 in
theorem lnew_any (l : List UInt8) (v : Value) (w : World) (h : BytesV w v l) (hl : l.length ≤ 1099511627776) :
    Calls Tryz.prog 36 #[v] w fun e w' => ∃ bi, e = .returned (.pointer (some ⟨bi, 0, none⟩)) ∧ Only [] w w' ∧ IndexAt w' w.heap.size bi l := by
  have HV := Lib.hid h
  obtain ⟨p, c, rfl, hc, hm, hk⟩ := h
  have HL := Lib.hid hl
  clear hl
  go_enter Tryz.func36, Tryz.ntmps36
  go_wp2_with (at_builtin; refine wpList_append_row _ rfl (.tmp 7) (.tmp 8) 44 44 rfl w.heap.size 5 (.int .u8 0) 1 1 Tryz.underlying44 infoByte rfl (by decide) (.slice (some ⟨w.heap.size + 1, 0, none⟩) 0 0) 0 [] rfl ?c1 (.slice p l.length c) l.length (byteRow l) rfl ?c2 ?c3 ?c4 ?c5 ?_)
  case c1 => have := ownsRow_empty (w.alloc (.cells #[.int .i64 0] 3)) w.heap.size 5 1 (by simp); simpa using this
  case c2 => exact Src.bytes Tryz.underlying44 (HV.out.keep fun p x hp => by rw [World.cell?_of_block (alloc_old2 _ _ _ _ (lt_of_cell hp))]; exact hp)
  case c3 => have := HL.out; unfold maxLen; omega
  case c4 => have := HL.out; omega
  case c5 => simp; omega
  intro vy w1 hy hg1 _ hfr
  obtain ⟨py, cy, rfl, -⟩ := ownsRow_shape hy
  have ho1 : Only [] w w1 := (((Only.refl [] w).alloc _).alloc _).grown hg1 (by intro b hb; simp [Value.ownBlock] at hb; right; omega)
  have hb1 : w1.heap[w.heap.size]? = some (.cells #[.int .i64 0] 3 (0, 0)) := by
    rw [hg1.block _ (by simp; omega) (by simp [Value.ownBlock]), Below.heap_alloc _ _ _ (by simp), alloc_new]
  have hylt := hy.lt
  have hyne : (Value.slice py l.length cy).ownBlock ≠ some w.heap.size := by
    rcases hfr with h | h <;> rw [h] <;> simp [Value.ownBlock] <;> omega
  have hsz1 := ho1.size
  have hlt1 := lt_of_block hb1
  have hr0 : w1.ownsRow w.heap.size 3 1 (.slice (some ⟨w.heap.size, 0, none⟩) 1 1) 1 [.int .i64 0] :=
    ⟨rfl, .inr ⟨_, 1, #[.int .i64 0], rfl, Nat.le_refl _, hb1, by omega, by unfold maxLen; omega, rfl, rfl⟩⟩
  have hnew : (w1.alloc (.cells #[.slice (some ⟨w.heap.size, 0, none⟩) 1 1, .slice py l.length cy] 162)).heap[w1.heap.size]? = some (.cells #[.slice (some ⟨w.heap.size, 0, none⟩) 1 1, .slice py l.length cy] 162 (0, 0)) := alloc_new _ _
  clear hfr hg1 hb1
  have HO := Lib.hid ho1
  have HN := Lib.hid hnew
  have HR := Lib.hid hr0
  have HY := Lib.hid hy
  have HYL := Lib.hid hylt
  have HYN := Lib.hid hyne
  have HSEPY : Hid ((Value.slice py l.length cy).ownBlock ≠ some w1.heap.size) := fun e => by have := hylt _ e; omega
  clear ho1 hnew hr0 hy hylt hyne
  go_wp2
  go_loopw [4, 5, 14] (fun _ _ i wr => ∃ k : Nat, k ≤ l.length ∧ i = .int .i64 k ∧ Only [] w wr ∧ ∃ pb cb, wr.heap[w1.heap.size]? = some (.cells #[.slice pb (begs l k).length cb, .slice py l.length cy] 162 (0, 0)) ∧
    wr.ownsRow w.heap.size 3 1 (.slice pb (begs l k).length cb) (begs l k).length (natRow (begs l k)) ∧ wr.ownsRow w.heap.size 5 1 (.slice py l.length cy) l.length (byteRow l) ∧ (∀ b, (Value.slice pb (begs l k).length cb).ownBlock = some b → b ≠ w1.heap.size ∧ (Value.slice py l.length cy).ownBlock ≠ some b)) (fun _ _ i _ => l.length - (intOf i).toNat)
  case atStart =>
    refine ⟨0, by omega, rfl, HO.out.alloc _, some ⟨w.heap.size, 0, none⟩, 1, HN.out, (HR.out).alloc _, HY.out.alloc _, ?_⟩
    intro b hb
    simp only [Value.ownBlock, Option.some.injEq] at hb
    subst hb
    exact ⟨by omega, HYN.out⟩
  case round =>
    obtain ⟨k, hk', rfl, ho, pb, cb, hbi, hB, hY, hsep⟩ := hrel
    have hbl := begs_length l k
    by_cases hlt : k < l.length
    · obtain ⟨b, o, rfl, hcb⟩ := hk (by omega)
      have hc1 := ho.cell_some (hcb k hlt) (by simp)
      have hc2 : wr.cell? ⟨w1.heap.size, 0, none⟩ = some (.slice pb (begs l k).length cb) := by rw [cell_blk hbi 0]; rfl
      have hf := free_blk hbi 0
      have HBI' := Lib.hid hbi
      have HB := Lib.hid hB
      have HY' := Lib.hid hY
      have HSEP := Lib.hid hsep
      have hL : (l.length : Int) ≤ 1099511627776 := by have := HL.out; omega
      clear hbi hB hY hsep hcb hk
      by_cases h10 : bt l k = 10
      · go_wp2_with (at_builtin; refine wpList_append_row _ rfl (.tmp 25) (.tmp 28) 116 116 rfl w.heap.size 3 (.int .i64 0) 1 8 Tryz.underlying116 infoInt rfl (by decide) (.slice pb (begs l k).length cb) (begs l k).length (natRow (begs l k)) rfl ?c1 (.slice (some ⟨wr.heap.size, 0, none⟩) 1 1) 1 [.int .i64 ((k : Int) + 1)] rfl ?c2 ?c3 ?c4 ?c5 ?_)
        case c1 => exact HB.out.alloc _
        case c2 => exact Src.lit (size := 1) Tryz.underlying116 wr _ 1 [.int .i64 ((k : Int) + 1)] rfl (by simp [Value.oneCell'])
        case c3 => unfold maxLen; omega
        case c4 => omega
        case c5 => have := ho.size; simp; omega
        intro v' w2 hB2 hg2 _ hfr
        obtain ⟨pb', cb', rfl, -⟩ := ownsRow_shape hB2
        have ho2 := (ho.alloc _).grown hg2 (fun b' hb' => .inr (by have := HB.out.lt b' hb'; omega))
        have hbi2 : w2.heap[w1.heap.size]? = some (.cells #[.slice pb (begs l k).length cb, .slice py l.length cy] 162 (0, 0)) := by
          rw [hg2.block _ (by have := lt_of_block HBI'.out; simp; omega) (fun e => (HSEP.out _ e.symm).1 rfl)]
          exact alloc_blk HBI'.out
        have hf2 := free_blk hbi2 0
        have hc3 : w2.cell? ⟨w1.heap.size, 0, none⟩ = some (.slice pb (begs l k).length cb) := by rw [cell_blk hbi2 0]; rfl
        have HB2 := Lib.hid hB2
        have HG2 := Lib.hid hg2
        have HFR := Lib.hid hfr
        have HBI2 := Lib.hid hbi2
        clear hB2 hg2 hfr hbi2
        go_wp2
        go_roundw
        case rel =>
          have hx : begs l (k + 1) = begs l k ++ [k + 1] := by rw [begs, if_pos h10]
          have hx' : (begs l (k + 1)).length = (begs l k).length + 1 := by rw [hx]; simp
          refine ⟨k + 1, by omega, by go_num, ho2.setCell (.inr (by omega)) _, pb', cb', ?_⟩
          rw [hx']
          have hbl := lt_of_block HBI'.out
          refine ⟨?_, ?_, ?_, ?_⟩
          · rw [setCell_blk HBI2.out]; rfl
          · rw [hx]
            have hh := ownsRow_setCell_other HB2.out (a := ⟨w1.heap.size, 0, none⟩) (by
              rcases HFR.out with h | h
              · rw [h]; exact fun e => (HSEP.out _ e).1 rfl
              · rw [h]; simp; omega) (.slice pb' ((begs l k).length + 1) cb')
            simpa [natRow] using hh
          · have hh := (HY'.out.alloc (.cells #[.int .i64 ((k : Int) + 1)] 3)).kept HG2.out (by
              cases e : (Value.slice py l.length cy).ownBlock with
              | none => exact .inl rfl
              | some y => exact .inr fun h => (HSEP.out y h.symm).2 e)
            exact ownsRow_setCell_other hh (fun e => HSEPY.out e) _
          · intro b' hb'
            rcases HFR.out with h | h
            · rw [h] at hb'; exact HSEP.out _ hb'
            · rw [h] at hb'
              simp only [Option.some.injEq] at hb'
              refine ⟨by omega, fun e => ?_⟩
              have := HY'.out.lt _ e
              omega
        case measure => simp [intOf]; omega
      · have h10' : (bt l k == 10) = false := by simpa using h10
        go_wp2
        go_roundw
        case rel =>
          have hx : begs l (k + 1) = begs l k := by rw [begs, if_neg h10]
          refine ⟨k + 1, by omega, by go_num, ho, pb, cb, ?_⟩
          rw [hx]
          exact ⟨HBI'.out, HB.out, HY'.out, HSEP.out⟩
        case measure => simp [intOf]; omega
    · obtain rfl : k = l.length := by omega
      go_wp2
      go_ret
      exact ⟨_, rfl, ho, _, _, by omega, hbi, hB, hY⟩
/-- How many lines begin. -/
def nb (l : List UInt8) : Nat := (begs l l.length).length
/-- Where one begins. -/
def bg (l : List UInt8) (j : Nat) : Nat := (begs l l.length).getD j 0
/-- How many lines there are. -/
def nLines (l : List UInt8) : Nat := if bg l (nb l - 1) = l.length then nb l - 1 else nb l

theorem begs_le (l : List UInt8) (k : Nat) : ∀ x ∈ begs l k, x ≤ k := by
  induction k with
  | zero => simp [begs]
  | succ k ih =>
    intro x hx
    simp only [begs] at hx
    split at hx
    · rcases List.mem_append.1 hx with h | h
      · have := ih x h; omega
      · simp at h; omega
    · have := ih x hx; omega

theorem bg_le (l : List UInt8) (j : Nat) (h : j < nb l) : bg l j ≤ l.length := by
  unfold bg nb at *
  rw [List.getD_eq_getElem?_getD, List.getElem?_eq_getElem h]
  exact begs_le l l.length _ (List.getElem_mem h)

theorem IndexAt.keep {w w' : World} {base bi : Nat} {l : List UInt8} (h : IndexAt w base bi l) {S : List Nat} (ho : Only S w w') (hS : ∀ k, k ∈ S → k < base) : IndexAt w' base bi l := by
  obtain ⟨vb, vy, h1, h2, h3, h4⟩ := h
  refine ⟨vb, vy, h1, ho.keep h2 (fun e => by have := hS _ e; omega), ownsRow_only h3 ho (fun k hk e => ?_), ownsRow_only h4 ho (fun k hk e => ?_)⟩
  · have := (h3.lt k hk).1; have := hS _ e; omega
  · have := (h4.lt k hk).1; have := hS _ e; omega

/-- What an index holds. -/
theorem IndexAt.opens {w : World} {base bi : Nat} {l : List UInt8} (h : IndexAt w base bi l) : ∃ g c py cy m, nb l = m + 1 ∧ m + 1 ≤ c ∧ m ≤ l.length ∧ w.cell? ⟨bi, 0, none⟩ = some (.slice (some ⟨g, 0, none⟩) (m + 1) c) ∧
    w.cell? ⟨bi, 0 + 1, none⟩ = some (.slice py l.length cy) ∧ (∀ j, j < m + 1 → w.cell? ⟨g, j, none⟩ = some (.int .i64 (bg l j : Nat))) ∧ BytesV w (.slice py l.length cy) l := by
  obtain ⟨vb, vy, h1, h2, h3, h4⟩ := h
  have hb := begs_length l l.length
  obtain ⟨m, hm⟩ : ∃ m, nb l = m + 1 := ⟨nb l - 1, by unfold nb; omega⟩
  have hm' : (begs l l.length).length = m + 1 := hm
  rw [hm'] at h3
  obtain ⟨g, c, rfl, hg, hc, hcm⟩ := ownsRow_some h3 (by omega)
  obtain ⟨py, cy, rfl, hcy⟩ := ownsRow_shape h4
  refine ⟨g, c, py, cy, m, hm, hc, by omega, by rw [cell_blk h2 0]; rfl, by rw [cell_blk h2 (0 + 1)]; rfl, fun j hj => ?_, BytesV.of_row h4⟩
  rw [h3.cellAt j (by omega)]
  have hj' : j < (begs l l.length).length := by omega
  simp [natRow, bg, hj']

set_option maxHeartbeats 400000 in
theorem lines_any (base bi : Nat) (l : List UInt8) (w : World) (h : IndexAt w base bi l) (hl : l.length ≤ 1099511627776) :
    Calls Tryz.prog 83 #[.pointer (some ⟨bi, 0, none⟩)] w fun e w' => e = .returned (.int .i64 (nLines l : Nat)) ∧ Only [] w w' := by
  obtain ⟨g, c, py, cy, m, hm, hmc, hml, hc1, hc2, hg, -⟩ := h.opens
  have hg0 := hg m (by omega)
  have hL : (m : Int) ≤ 1099511627776 := by omega
  have hN : nLines l = if bg l m = l.length then m else m + 1 := by unfold nLines; rw [hm]; rfl
  have HM := Lib.hid hm
  have HN := Lib.hid hN
  clear hN hm hg hl h
  by_cases hq : bg l m = l.length
  · have hq' : (((bg l m : Nat) : Int) == ((l.length : Nat) : Int)) = true := by simp [hq]
    have HQ := Lib.hid hq
    clear hq
    go_enter Tryz.func83, Tryz.ntmps83
    go_wp2
    go_quiet (fail)
    go_wp2
    go_ret
    exact ⟨ret_int (by rw [HN.out, if_pos HQ.out]), Only.drewN (Only.refl _ _) _⟩
  · have hq' : (((bg l m : Nat) : Int) == ((l.length : Nat) : Int)) = false := by simpa using (by omega : ¬ ((bg l m : Nat) : Int) = ((l.length : Nat) : Int))
    have HQ := Lib.hid hq
    clear hq
    go_enter Tryz.func83, Tryz.ntmps83
    go_wp2
    go_quiet (fail)
    go_wp2
    go_ret
    exact ⟨ret_int (by rw [HN.out, if_neg HQ.out]; omega), Only.drewN (Only.refl _ _) _⟩
/-- Where a line ends. -/
def lend (l : List UInt8) (j : Nat) : Nat := if j + 1 < nb l then bg l (j + 1) else l.length

set_option maxHeartbeats 400000 in
theorem span_any (base bi : Nat) (l : List UInt8) (j : Nat) (w : World) (h : IndexAt w base bi l) (hl : l.length ≤ 1099511627776) (hj : j < nLines l) (hbb : bg l j ≤ lend l j) :
    Calls Tryz.prog 84 #[.pointer (some ⟨bi, 0, none⟩), .int .i64 ((j : Int) + 1)] w fun e w' => e = .returned (.tuple #[.agg #[.int .i64 (bg l j : Nat), .int .i64 ((lend l j - bg l j : Nat) : Int)], .int .i64 0]) ∧ Only [] w w' := by
  obtain ⟨g, c, py, cy, m, hm, hmc, hml, hc1, hc2, hg, -⟩ := h.opens
  have hn : nLines l ≤ m + 1 := by unfold nLines; rw [hm]; split <;> omega
  have hg0 := hg j (by omega)
  have hL : (m : Int) ≤ 1099511627776 := by omega
  have hjm : j < m + 1 := by omega
  have HJ := Lib.hid hj
  have HH := Lib.hid h
  have HL := Lib.hid hl
  have HM := Lib.hid hm
  have hb1 := bg_le l j (by omega)
  have HB := Lib.hid hb1
  have hll : (l.length : Int) ≤ 1099511627776 := by omega
  have hcmp : decide ((nLines l : Int) < (j : Int) + 1) = false := by simp; omega
  have hn2 : (nLines l : Int) ≤ m + 1 := by omega
  clear hm hj hl h hn hb1
  by_cases hlast : j < m
  · have hg1 := hg (j + 1) (by omega)
    have he : lend l j = bg l (j + 1) := by unfold lend; rw [HM.out, if_pos (by omega)]
    have hb2 := bg_le l (j + 1) (by have := HM.out; omega)
    rw [he] at hbb ⊢
    have HBB := Lib.hid hbb
    clear hg he hbb
    have HC1 := Lib.hid hc1
    have HC2 := Lib.hid hc2
    have HG0 := Lib.hid hg0
    have HG1 := Lib.hid hg1
    clear hc1 hc2 hg0 hg1
    go_enter Tryz.func84, Tryz.ntmps84
    go_wp2_with (go_at_call 83; refine (lines_any base bi l _ (HH.out.keep (S := []) ((Only.refl [] w).alloc _) (by simp)) HL.out).mono ?_; rintro e w1 ⟨rfl, ho⟩; have k1 := ho.cell_alloc HC1.out (by simp); have k2 := ho.cell_alloc HC2.out (by simp); have k3 := ho.cell_alloc HG0.out (by simp); have k4 := ho.cell_alloc HG1.out (by simp); obtain ⟨r0, r1, r2, r3⟩ := two_blk (ho.keep (alloc_new _ _) (by simp)); have ho' := ((Only.refl [] w).alloc _).trans ho; clear ho)
    have hs : wrap64 ((bg l (j + 1) : Nat) - (bg l j : Nat) : Int) = ((bg l (j + 1) - bg l j : Nat) : Int) := by
      have := HBB.out; have := HB.out; unfold wrap64; omega
    refine bodyPost_ret (v := .tuple #[.agg #[.int .i64 (bg l j : Nat), .int .i64 ((bg l (j + 1) - bg l j : Nat) : Int)], .int .i64 0]) ?_ rfl ⟨rfl, ?_⟩
    · simp [results, Tryz.results84, go_sem, r0, r1, hs]
    · exact (ho'.setCell (.inr (Nat.le_refl _)) _).setCell (.inr (Nat.le_refl _)) _
  · have he : lend l j = l.length := by unfold lend; rw [HM.out, if_neg (by omega)]
    rw [he] at hbb ⊢
    have HBB := Lib.hid hbb
    clear hg he hbb
    have HC1 := Lib.hid hc1
    have HC2 := Lib.hid hc2
    have HG0 := Lib.hid hg0
    clear hc1 hc2 hg0
    go_enter Tryz.func84, Tryz.ntmps84
    go_wp2_with (go_at_call 83; refine (lines_any base bi l _ (HH.out.keep (S := []) ((Only.refl [] w).alloc _) (by simp)) HL.out).mono ?_; rintro e w1 ⟨rfl, ho⟩; have k1 := ho.cell_alloc HC1.out (by simp); have k2 := ho.cell_alloc HC2.out (by simp); have k3 := ho.cell_alloc HG0.out (by simp); obtain ⟨r0, r1, r2, r3⟩ := two_blk (ho.keep (alloc_new _ _) (by simp)); have ho' := ((Only.refl [] w).alloc _).trans ho; clear ho)
    have hs : wrap64 ((l.length : Nat) - (bg l j : Nat) : Int) = ((l.length - bg l j : Nat) : Int) := by
      have := HBB.out; have := HB.out; unfold wrap64; omega
    refine bodyPost_ret (v := .tuple #[.agg #[.int .i64 (bg l j : Nat), .int .i64 ((l.length - bg l j : Nat) : Int)], .int .i64 0]) ?_ rfl ⟨rfl, ?_⟩
    · simp [results, Tryz.results84, go_sem, r0, r1, hs]
    · exact (ho'.setCell (.inr (Nat.le_refl _)) _).setCell (.inr (Nat.le_refl _)) _

/-- Bytes as lines. -/
def splitTo (l : List UInt8) (k : Nat) : List (List UInt8) := (List.range k).map fun j => (l.drop (bg l j)).take (lend l j - bg l j)
def splitL (l : List UInt8) : List (List UInt8) := splitTo l (nLines l)

theorem splitTo_succ (l : List UInt8) (k : Nat) : splitTo l (k + 1) = splitTo l k ++ [(l.drop (bg l k)).take (lend l k - bg l k)] := by
  simp [splitTo, List.range_succ]

theorem splitTo_length (l : List UInt8) (k : Nat) : (splitTo l k).length = k := by simp [splitTo]

set_option maxRecDepth 100000 in
set_option maxHeartbeats 400000 in
theorem split_any (l : List UInt8) (v : Value) (w : World) (h : BytesV w v l) (hl : l.length ≤ 1099511627776) (hmono : ∀ j, j < nLines l → bg l j < lend l j ∧ lend l j ≤ l.length) :
    Calls Tryz.prog 50 #[v] w fun e w' => ∃ r, e = .returned r ∧ Only [] w w' ∧ w'.ownsRow w.heap.size 9 1 r (splitL l).length ((splitL l).map sv) := by
  have HV := Lib.hid h
  obtain ⟨p, c, rfl, hc, hm, hk⟩ := h
  have HL := Lib.hid hl
  have HMO := Lib.hid hmono
  have hll : (l.length : Int) ≤ 1099511627776 := by omega
  have hn : nLines l ≤ l.length + 1 := by
    have := begs_length l l.length
    unfold nLines nb; split <;> omega
  clear hl hmono
  go_enter Tryz.func50, Tryz.ntmps50
  go_wp2_with (first | (go_at_call 36; refine (lnew_any l _ _ HV.out HL.out).mono ?_; rintro e w1 ⟨bi, rfl, ho1, hi1⟩; have HO1 := Lib.hid ho1; have HI1 := Lib.hid hi1; clear ho1 hi1) | (go_at_call 83; refine (lines_any w.heap.size bi l _ HI1.out HL.out).mono ?_; rintro e w2 ⟨rfl, ho2⟩; have HO2 := Lib.hid ho2; clear ho2))
  go_loopw [3, 5, 6, 7, 12] (fun v _ _ _ i wr => ∃ k : Nat, k ≤ nLines l ∧ i = .int .i64 k ∧ Only [] w2 wr ∧ wr.ownsRow w2.heap.size 9 1 v k ((splitTo l k).map sv)) (fun _ _ _ _ i _ => nLines l - (intOf i).toNat)
  case atStart => exact ⟨0, by omega, rfl, Only.refl _ _, World.ownsRow_nil _ _ _ _⟩
  case round =>
    obtain ⟨k, hk', rfl, ho, hown⟩ := hrel
    obtain ⟨po, co, rfl, hco⟩ := ownsRow_shape hown
    by_cases hlt : k < nLines l
    · have hpos : 0 < l.length := by
        rcases Nat.eq_zero_or_pos l.length with h0 | h0
        · have := List.eq_nil_of_length_eq_zero h0
          subst this
          have : nLines [] = 0 := by decide
          omega
        · exact h0
      obtain ⟨b, o, rfl, hcb⟩ := hk hpos
      have ⟨hm1, hm2⟩ := HMO.out k hlt
      have HO := Lib.hid ho
      have HOWN := Lib.hid hown
      have HK := Lib.hid hk
      have HCB := Lib.hid hcb
      have hcv0 : ∀ w3, Only [] wr w3 → ∀ o', (convert 44 9 (.slice (some ⟨b, o + bg l k, none⟩) (lend l k - bg l k) (c - bg l k))).run Tryz.prog (w3.alloc o') = .ok (sv ((l.drop (bg l k)).take (lend l k - bg l k))) (w3.alloc o') := by
        intro w3 ho3 o'
        refine conv_bytes (BytesV.part (fun j hj => ?_) (by omega) _ (by omega) (by omega)) _ _ 5 Tryz.underlying44 Tryz.underlying5 Tryz.underlying9
        exact ((HO1.out.trans HO2.out).trans (HO.out.trans (ho3.alloc o'))).cell_some (HCB.out j hj) (by simp)
      clear ho hown hk hcb
      go_wp2_with (first | (at_builtin; refine wpList_append_lit rfl (.tmp 22) (.tmp 33) 22 rfl w2 [] 9 (.string ⟨#[]⟩) 1 16 Tryz.underlying22 infoStr rfl (by decide) (.slice po k co) k ((splitTo l k).map sv) rfl (HOWN3.out.alloc _) (HO4.out.alloc _) (w3.heap.size + 1) 1 [sv ((l.drop (bg l k)).take (lend l k - bg l k))] rfl ?c0 rfl ?c1 ?c2 ?c3 ?_) | (go_at_call 84; refine (span_any w.heap.size bi l k _ ((HI1.out.keep HO2.out (by simp)).keep HO.out (by simp)) HL.out hlt (by omega)).mono ?_; rintro e w3 ⟨rfl, ho3⟩; have hcv := hcv0 w3 ho3; have ho4 : Only [] w2 w3 := HO.out.trans ho3; have hown3 := ownsRow_only HOWN.out ho3 (by simp); have HO4 := Lib.hid ho4; have HOWN3 := Lib.hid hown3; clear ho3 ho4 hown3))
      case c0 => simp
      case c1 => simp [Value.oneCell']
      case c2 => unfold maxLen; omega
      case c3 => omega
      intro v' w4 hown4 ho5
      have HOWN4 := Lib.hid hown4
      have HO5 := Lib.hid ho5
      clear hown4 ho5
      go_wp2
      go_roundw
      case rel => exact ⟨k + 1, by omega, by go_num, HO5.out, by rw [splitTo_succ]; simpa using HOWN4.out⟩
      case measure => simp [intOf]; omega
    · obtain rfl : k = nLines l := by omega
      go_wp2
      go_ret
      refine ⟨_, rfl, (HO1.out.trans HO2.out).trans ho, ?_⟩
      rw [splitL, splitTo_length]
      exact ownsRow_base hown (fun b hb => by have := (hown.lt b hb).1; have := (HO1.out.trans HO2.out).size; omega)
end Go.Proofs.YtfbbieecdenlbaaGreatDoor
