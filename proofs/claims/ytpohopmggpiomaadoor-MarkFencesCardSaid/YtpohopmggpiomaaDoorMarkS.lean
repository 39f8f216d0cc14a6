/-
  mark: the functions over a line's text.
-/
import Derived.Test.YtpohopmggpiomaaDoorStr
namespace Go.Proofs.YtpohopmggpiomaaDoor
open Go.RowKit

theorem decode_low {s : ByteArray} {k : Nat} (h : k < s.size) (hc : bt s.data.toList k < 128) : (Utf8.decode s k).1 = (bt s.data.toList k).toNat ∧ (Utf8.decode s k).2 = 1 := by
  have e := bt_str h
  have := decode_ascii s k h (by omega)
  rw [this, ← e]
  simp

theorem decode_ne {s : ByteArray} {k : Nat} (h : k < s.size) {c : UInt8} (hc : c.toNat < 128) : (((Utf8.decode s k).1 : Int) == (c.toNat : Int)) = (bt s.data.toList k == (c.toNat : Int)) := by
  have e := bt_str h
  by_cases ha : (s[k]'h).toNat < 128
  · rw [(decode_low h (by omega)).1, ← e]; simp
  · have := (decode_high s k h (by omega)).1
    rw [← e]
    rw [Bool.eq_iff_iff]; simp; omega

/-- A text without a sign at its begin; at its end. -/
def cutL (l : List UInt8) (c : UInt8) : List UInt8 := l.dropWhile (· == c)
def cutR (l : List UInt8) (c : UInt8) : List UInt8 := (l.reverse.dropWhile (· == c)).reverse

theorem cut_extract (s : ByteArray) (c : UInt8) (k : Nat) (hk : k ≤ s.size) (hall : ∀ j, j < k → bt s.data.toList j = c.toNat) (hstop : k < s.size → bt s.data.toList k ≠ c.toNat) :
    s.extract k s.size = ⟨(s.data.toList.dropWhile (· == c)).toArray⟩ := by
  have hlen : s.data.toList.length = s.size := by simp
  have hkey : ∀ (l : List UInt8) (k : Nat), k ≤ l.length → (∀ j, j < k → bt l j = c.toNat) → (k < l.length → bt l k ≠ c.toNat) → l.dropWhile (· == c) = l.drop k := by
    intro l
    induction l with
    | nil => intro k hk _ _; simp
    | cons x l ih =>
      intro k hk h1 h2
      cases k with
      | zero =>
        have := h2 (by simp)
        have hx : (x == c) = false := by
          simp only [beq_eq_false_iff_ne]; rintro rfl; simp [bt] at this
        simp [hx]
      | succ k =>
        have := h1 0 (by omega)
        have hx : (x == c) = true := by
          simp only [beq_iff_eq]; simp [bt] at this; exact UInt8.toNat_inj.1 (by omega)
        simp only [List.dropWhile_cons, hx, if_true, List.drop_succ_cons]
        refine ih k (by simpa using hk) (fun j hj => ?_) (fun hj => ?_)
        · have := h1 (j + 1) (by omega); simpa [bt] using this
        · have := h2 (by simpa using hj); simpa [bt] using this
  rw [hkey s.data.toList k (by omega) hall (by rw [hlen]; exact hstop)]
  apply ByteArray.ext
  apply Array.ext'
  rw [ByteArray.data_extract, Array.toList_extract]
  simp [List.take_of_length_le]

set_option maxRecDepth 100000 in
set_option maxHeartbeats 400000 in
theorem cutLeft_any (s : ByteArray) (c : UInt8) (w : World) (hs : s.size ≤ maxLen) (hc : c.toNat < 128) :
    Calls Tryd.prog 29 #[.string s, .string ⟨#[c]⟩] w fun e w' => e = .returned (.string ⟨(cutL s.data.toList c).toArray⟩) ∧ Only [] w w' := by
  unfold maxLen at hs
  go_enter Tryd.func29, Tryd.ntmps29
  go_wp2
  go_loopw [7] (fun _ wr => ∃ k : Nat, k ≤ s.size ∧ wr.heap[w.heap.size]? = some (.stringIter s k) ∧ Only [] w wr ∧ ∀ j, j < k → bt s.data.toList j = c.toNat) (fun _ wr => s.size - wr.iterPos w.heap.size)
  case atStart => exact ⟨0, by omega, World.iter_heap _ _ _, (Only.refl [] w).alloc _, fun j hj => by omega⟩
  case round =>
    obtain ⟨k, hk, hit, ho, hall⟩ := hrel
    have HA := Lib.hid hall
    have HIT := Lib.hid hit
    have HO := Lib.hid ho
    clear hall hit ho
    by_cases hlt : k < s.size
    · obtain ⟨w2, hnx, f1, f2, f3⟩ := next_at (P := Tryd.prog) wr w.heap.size s k HIT.out hlt
      have hd := decode_ne hlt hc
      have n1 : ∀ ty, (Instr.next (.pointer (some ⟨w2.heap.size, 0, none⟩)) true ty).run Tryd.prog (w2.iter ⟨#[c]⟩ 0) = .ok (.tuple #[.bool true, .int .i64 0, .int .i32 (c.toNat : Int)]) (w2.iter ⟨#[c]⟩ 1) := fun ty => run_next_ascii w2 ⟨#[c]⟩ 0 ty (by show 0 < 1; omega) hc
      have n2 : ∀ ty, (Instr.next (.pointer (some ⟨w2.heap.size, 0, none⟩)) true ty).run Tryd.prog (w2.iter ⟨#[c]⟩ 1) = _ := fun ty => run_next_end w2 ⟨#[c]⟩ 1 ty (by show ¬ 1 < 1; omega)
      have F1 := Lib.hid f1
      have F2 := Lib.hid f2
      have F3 := Lib.hid f3
      clear f1 f2 f3
      by_cases he : bt s.data.toList k = c.toNat
      · have he' : (bt s.data.toList k == (c.toNat : Int)) = true := by simp [he]
        rw [he'] at hd
        clear he'
        go_wp2
        refine wp_loop_rounds 2 ?_
        rw [rounds_succ]
        go_wp2
        rw [rounds_succ]
        go_wp2
        go_roundw
        case rel =>
          have hw := (decode_low hlt (by omega)).2
          refine ⟨k + 1, by omega, ?_, HO.out.trans' (F2.out.trans' (((Only.refl [] w2).alloc (.stringIter ⟨#[c]⟩ 1)).mono (S' := [w.heap.size]) (by simp)) (by simp)) (by simp), fun j hj => ?_⟩
          · rw [hw] at F1
            exact alloc_blk F1.out
          · by_cases e : j = k
            · subst e; exact he
            · exact HA.out j (by omega)
        case measure =>
          have hw := (decode_low hlt (by omega)).2
          rw [hw] at F1
          have e : (w2.iter ⟨#[c]⟩ 1).iterPos w.heap.size = k + 1 := iterPos_of (alloc_blk F1.out)
          rw [e, iterPos_of HIT.out]
          omega
      · have he' : (bt s.data.toList k == (c.toNat : Int)) = false := by simpa using he
        rw [he'] at hd
        clear he'
        go_wp2
        refine wp_loop_rounds 2 ?_
        rw [rounds_succ]
        go_wp2
        rw [rounds_succ]
        go_wp2
        go_ret
        refine ⟨ret_str (cut_extract s c k (by omega) HA.out (fun _ => he)), ?_⟩
        exact HO.out.trans' (F2.out.trans' (((Only.refl [] w2).alloc (.stringIter ⟨#[c]⟩ 1)).mono (S' := [w.heap.size]) (by simp)) (by simp)) (by simp)
    · have hnx := next_at_end (P := Tryd.prog) wr w.heap.size s k HIT.out hlt
      go_wp2
      go_ret
      have h0 := cut_extract s c k hk HA.out (fun h => absurd h hlt)
      have h1 : s.extract k s.size = ⟨#[]⟩ := by
        obtain rfl : k = s.size := by omega
        apply ByteArray.ext; apply Array.ext'
        rw [ByteArray.data_extract, Array.toList_extract]
        simp
      rw [h1] at h0
      exact ⟨ret_str h0, HO.out⟩
/-- A text without blanks at its end. -/
def trimL (l : List UInt8) : List UInt8 := Lib.trimRightS l [32, 9, 13, 10]

theorem info256 : (Tryd.prog.info? (Tryd.lays162_ren.t 116)).map (fun i => (i.zero, i.size)) = some (some (.agg (Array.replicate 256 (.bool false))), 256) := by kernel_rfl

set_option maxHeartbeats 400000 in
theorem trim_any (s : ByteArray) (w : World) (hs : s.size ≤ maxLen) :
    Calls Tryd.prog 22 #[.string s] w fun e w' => e = .returned (.string ⟨(trimL s.data.toList).toArray⟩) ∧ Only [] w w' := by
  go_enter Tryd.func22, Tryd.ntmps22
  go_wp2_with (go_at_call 28; refine (Any.strings_TrimRight_laid Tryd.lays162 info256 s ⟨#[32, 9, 13, 10]⟩ _ hs (by decide) (by intro j b hb; match j, hb with | 0, hb => simp at hb; subst hb; decide | 1, hb => simp at hb; subst hb; decide | 2, hb => simp at hb; subst hb; decide | 3, hb => simp at hb; subst hb; decide)).mono ?_; rintro e w1 ⟨rfl, hb⟩)
  go_ret
  exact ⟨rfl, Only.of_below hb (Nat.le_refl _)⟩

/-- The indent of what follows k blanks. -/
def indK (l : List UInt8) (k : Nat) : Nat := if k < 4 ∧ k < l.length ∧ bt l k = 9 then 4 else k
/-- How many blanks, from k on, four at most. -/
def indN (l : List UInt8) : Nat → Nat → Nat
  | 0, k => k
  | d + 1, k => if k < 4 ∧ k < l.length ∧ bt l k = 32 then indN l d (k + 1) else k
def indentL (l : List UInt8) : Nat := indK l (indN l 4 0)

theorem indN_step (l : List UInt8) (k : Nat) (hk : k < 4) (h : k < l.length) (hb : bt l k = 32) : indN l (4 - k) k = indN l (4 - (k + 1)) (k + 1) := by
  rw [show 4 - k = (4 - (k + 1)) + 1 by omega, indN, if_pos ⟨hk, h, hb⟩]
theorem indN_stop (l : List UInt8) (d k : Nat) (h : ¬ (k < 4 ∧ k < l.length ∧ bt l k = 32)) : indN l d k = k := by
  cases d with
  | zero => rfl
  | succ d => rw [indN, if_neg h]

set_option maxHeartbeats 400000 in
theorem indent_any (s : ByteArray) (w : World) (hs : s.size ≤ maxLen) :
    Calls Tryd.prog 24 #[.string s] w fun e w' => e = .returned (.int .i64 (indentL s.data.toList : Nat)) ∧ w = w' := by
  unfold maxLen at hs
  have hlen : s.data.toList.length = s.size := by simp
  have HL := Lib.hid hlen
  clear hlen
  go_enter Tryd.func24, Tryd.ntmps24
  go_wp2
  go_loop [3] (fun n => ∃ k : Nat, k ≤ 4 ∧ k ≤ s.size ∧ n = .int .i64 k ∧ indN s.data.toList 4 0 = indN s.data.toList (4 - k) k) (fun n => 4 - (intOf n).toNat)
  case atStart => exact ⟨0, by omega, by omega, rfl, rfl⟩
  case round =>
    obtain ⟨k, hk, hk2, rfl, hrest⟩ := hrel
    have HR := Lib.hid hrest
    clear hrest
    by_cases h4 : k < 4
    · by_cases hsz : k < s.size
      · have hb := bt_str hsz
        by_cases h32 : bt s.data.toList k = 32
        · go_wp2
          go_round
          case rel => exact ⟨k + 1, by omega, by omega, by go_num, by rw [HR.out, indN_step _ _ h4 (by rw [HL.out]; exact hsz) h32]⟩
          case measure => simp [intOf]; omega
        · have h32' : (bt s.data.toList k == 32) = false := by simpa using h32
          have hstop := Lib.hid (indN_stop s.data.toList (4 - k) k (by simp [h32]))
          by_cases h9 : bt s.data.toList k = 9
          · go_wp2
            go_ret
            exact ⟨ret_int (by rw [indentL, HR.out, hstop.out, indK, if_pos ⟨h4, by rw [HL.out]; exact hsz, h9⟩]; rfl), rfl⟩
          · have h9' : (bt s.data.toList k == 9) = false := by simpa using h9
            go_wp2
            go_ret
            exact ⟨ret_int (by rw [indentL, HR.out, hstop.out, indK, if_neg (by simp [h9])]), rfl⟩
      · have hstop := Lib.hid (indN_stop s.data.toList (4 - k) k (by rw [HL.out]; simp [hsz]))
        go_wp2
        go_ret
        exact ⟨ret_int (by rw [indentL, HR.out, hstop.out, indK, if_neg (by rw [HL.out]; simp [hsz])]), rfl⟩
    · have hstop := Lib.hid (indN_stop s.data.toList (4 - k) k (by simp [h4]))
      go_wp2
      go_ret
      exact ⟨ret_int (by rw [indentL, HR.out, hstop.out, indK, if_neg (by simp [h4])]), rfl⟩
end Go.Proofs.YtpohopmggpiomaaDoor
