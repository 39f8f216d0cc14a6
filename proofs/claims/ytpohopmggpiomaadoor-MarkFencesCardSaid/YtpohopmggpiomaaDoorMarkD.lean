/-
  mark: punct, run, span, shut: functions that only read.
-/
import Derived.Test.YtpohopmggpiomaaDoorMarkT
namespace Go.Proofs.YtpohopmggpiomaaDoor
open Go.RowKit

/-- Is a byte an ASCII sign that is neither letter, digit, nor blank? -/
def punctB (c : Int) : Bool := decide (32 < c) && (decide (c < 127) && !(decide (48 ≤ c) && decide (c ≤ 57) || (decide (97 ≤ c) && decide (c ≤ 122) || decide (65 ≤ c) && decide (c ≤ 90))))

set_option maxRecDepth 100000 in
set_option maxHeartbeats 1000000 in
theorem punct_any (c : Int) (w : World) (h0 : 0 ≤ c) (h1 : c ≤ 255) :
    Calls Tryd.prog 34 #[.int .u8 c] w fun e w' => e = .returned (.bool (punctB c)) ∧ w = w' := by
  have H1 := Lib.hid h1
  go_enter Tryd.func34, Tryd.ntmps34
  go_wp2
  all_goals
    go_ret
    refine ⟨ret_bool ?_, rfl⟩
    rw [punctB]
    first | rfl | (simp; omega) | (rw [Bool.eq_iff_iff]; simp; omega) | grind

/-- What the functions read of a file that is gone through. -/
structure DocR (w : World) (bd bs b o c : Nat) (l : List UInt8) : Prop where
  sheet : w.cell? ⟨bd, 0, none⟩ = some (.pointer (some ⟨bs, 0, none⟩))
  bytes : w.cell? ⟨bd, 0 + 1, none⟩ = some (.slice (some ⟨b, o, none⟩) l.length c)
  cells : ∀ k, k < l.length → w.cell? ⟨b, o + k, none⟩ = some (.int .u8 (bt l k))
  len : l.length ≤ 65536
  cap : l.length ≤ c
  max : c ≤ maxLen
  some : 0 < l.length

theorem DocR.keep {w w' : World} {bd bs b o c : Nat} {l : List UInt8} (h : DocR w bd bs b o c l) {S : List Nat} (ho : Only S w w') (h1 : bd ∉ S) (h2 : b ∉ S) : DocR w' bd bs b o c l :=
  ⟨ho.cell_some h.sheet h1, ho.cell_some h.bytes h1, fun k hk => ho.cell_some (h.cells k hk) h2, h.len, h.cap, h.max, h.some⟩

/-- How many of a sign there are at a place. -/
def runN (l : List UInt8) (at_ to : Nat) : Nat → Nat → Nat
  | 0, n => n
  | d + 1, n => if at_ + n < to ∧ bt l (at_ + n) = bt l at_ then runN l at_ to d (n + 1) else n
def runL (l : List UInt8) (at_ to : Nat) : Nat := runN l at_ to (to - at_) 0

theorem runN_step (l : List UInt8) (at_ to n : Nat) (h : at_ + n < to ∧ bt l (at_ + n) = bt l at_) : runN l at_ to (to - at_ - n) n = runN l at_ to (to - at_ - (n + 1)) (n + 1) := by
  rw [show to - at_ - n = (to - at_ - (n + 1)) + 1 by omega, runN, if_pos h]
theorem runN_stop (l : List UInt8) (at_ to d n : Nat) (h : ¬ (at_ + n < to ∧ bt l (at_ + n) = bt l at_)) : runN l at_ to d n = n := by
  cases d with
  | zero => rfl
  | succ d => rw [runN, if_neg h]
theorem runN_le (l : List UInt8) (at_ to d n : Nat) (h : at_ + n ≤ to) : n ≤ runN l at_ to d n ∧ at_ + runN l at_ to d n ≤ to := by
  induction d generalizing n with
  | zero => exact ⟨Nat.le_refl _, h⟩
  | succ d ih =>
    rw [runN]
    split
    · have := ih (n + 1) (by omega); omega
    · exact ⟨Nat.le_refl _, h⟩
theorem runL_pos (l : List UInt8) (at_ to : Nat) (h : at_ < to) : 0 < runL l at_ to ∧ at_ + runL l at_ to ≤ to := by
  unfold runL
  rw [show to - at_ = (to - at_ - 1) + 1 by omega, runN, if_pos ⟨by omega, rfl⟩]
  have := runN_le l at_ to (to - at_ - 1) 1 (by omega)
  simp only [Nat.zero_add]
  exact ⟨by omega, this.2⟩

set_option maxRecDepth 100000 in
set_option maxHeartbeats 400000 in
theorem run_any (bd bs b o c at_ to : Nat) (l : List UInt8) (w : World) (h : DocR w bd bs b o c l) (hat : at_ ≤ to) (hto : to ≤ l.length) :
    Calls Tryd.prog 35 #[.pointer (some ⟨bd, 0, none⟩), .int .i64 at_, .int .i64 to] w fun e w' => e = .returned (.int .i64 (runL l at_ to : Nat)) ∧ Only [] w w' := by
  have HD := Lib.hid h
  have hl : (l.length : Int) ≤ 65536 := by have := h.len; omega
  clear h
  go_enter Tryd.func35, Tryd.ntmps35
  go_wp2
  go_loopw [7] (fun n wr => ∃ k : Nat, at_ + k ≤ to ∧ n = .int .i64 k ∧ runL l at_ to = runN l at_ to (to - at_ - k) k ∧ Only [] w wr) (fun n _ => to - (intOf n).toNat)
  case atStart => exact ⟨0, by omega, rfl, rfl, Only.refl _ _⟩
  case round =>
    obtain ⟨k, hk, rfl, hrun, ho⟩ := hrel
    have HR := Lib.hid hrun
    have HO := Lib.hid ho
    clear hrun ho
    by_cases hlt : at_ + k < to
    · have hd := HD.out.keep HO.out (by simp) (by simp)
      have c1 := hd.bytes
      have c2 := hd.cells (at_ + k) (by omega)
      have c3 := hd.cells at_ (by omega)
      clear hd
      have hg : ((at_ : Int) + (k : Int) < (to : Int)) := by omega
      by_cases he : bt l (at_ + k) = bt l at_
      · go_wp2
        go_quiet (fail)
        go_wp2
        go_roundw
        case rel => exact ⟨k + 1, by omega, by go_num, by rw [HR.out, runN_step _ _ _ _ ⟨hlt, he⟩], HO.out.drewN _⟩
        case measure => simp [intOf]; omega
      · have he' : (bt l (at_ + k) == bt l at_) = false := by simpa using he
        go_wp2
        go_quiet (fail)
        go_wp2
        go_ret
        exact ⟨ret_int (by rw [HR.out, runN_stop _ _ _ _ _ (by simp [he])]), HO.out.drewN _⟩
    · have hg : decide ((at_ : Int) + (k : Int) < (to : Int)) = false := by simp; omega
      go_wp2
      go_quiet (fail)
      go_wp2
      go_ret
      exact ⟨ret_int (by rw [HR.out, runN_stop _ _ _ _ _ (by simp [hlt])]), HO.out.drewN _⟩

/-- Where a code span ends that begins with n ticks ahead of a place. -/
def spanN (l : List UInt8) (to n : Nat) : Nat → Nat → Option Nat
  | 0, _ => none
  | d + 1, k => if k < to then (if bt l k = 96 then (if runL l k to = n then some (k + runL l k to) else spanN l to n d (k + runL l k to)) else spanN l to n d (k + 1)) else none
def spanL (l : List UInt8) (at_ to n : Nat) : Option Nat := spanN l to n (to - at_ + 1) at_

/-- A number and whether there is one. -/
def optV : Option Nat → Value
  | some k => .tuple #[.int .i64 (k : Int), .bool true]
  | none => .tuple #[.int .i64 0, .bool false]

theorem ret_some {o : Option Nat} {m : Nat} {i : Int} (h : o = some m) (hm : i = (m : Int)) : Ending.returned (.tuple #[.int .i64 i, .bool true]) = Ending.returned (optV o) := by subst h hm; rfl
theorem ret_none {o : Option Nat} (h : o = none) : Ending.returned (.tuple #[.int .i64 0, .bool false]) = Ending.returned (optV o) := by subst h; rfl

theorem spanN_fuel (l : List UInt8) (to n : Nat) : ∀ d k, to < k + d → ∀ e, to < k + e → spanN l to n d k = spanN l to n e k := by
  intro d
  induction d with
  | zero => intro k h e he; cases e with
    | zero => rfl
    | succ e => rw [spanN, spanN, if_neg (by omega)]
  | succ d ih =>
    intro k h e he
    cases e with
    | zero => rw [spanN, spanN, if_neg (by omega)]
    | succ e =>
      rw [spanN, spanN]
      by_cases hk : k < to
      · have := runL_pos l k to hk
        rw [if_pos hk, if_pos hk, ih (k + runL l k to) (by omega) e (by omega), ih (k + 1) (by omega) e (by omega)]
      · rw [if_neg hk, if_neg hk]

set_option maxRecDepth 100000 in
set_option maxHeartbeats 400000 in
theorem span_any' (bd bs b o c at_ to n : Nat) (l : List UInt8) (w : World) (h : DocR w bd bs b o c l) (hto : to ≤ l.length) (hat : at_ ≤ to) :
    Calls Tryd.prog 36 #[.pointer (some ⟨bd, 0, none⟩), .int .i64 at_, .int .i64 to, .int .i64 n] w fun e w' => e = .returned (optV (spanL l at_ to n)) ∧ Only [] w w' := by
  have HD := Lib.hid h
  have hl : (l.length : Int) ≤ 65536 := by have := h.len; omega
  clear h
  go_enter Tryd.func36, Tryd.ntmps36
  go_wp2
  go_loopw [1, 10] (fun v _ wr => ∃ k : Nat, k ≤ to ∧ v = .int .i64 k ∧ spanL l at_ to n = spanN l to n (to - k + 1) k ∧ Only [] w wr) (fun v _ _ => to - (intOf v).toNat)
  case atStart => exact ⟨at_, hat, rfl, rfl, Only.refl _ _⟩
  case round =>
    obtain ⟨k, hk, rfl, hrun, ho⟩ := hrel
    have HR := Lib.hid hrun
    have HO := Lib.hid ho
    clear hrun ho
    by_cases hlt : k < to
    · have hd := HD.out.keep HO.out (by simp) (by simp)
      have c1 := hd.bytes
      have c2 := hd.cells k (by omega)
      have HDR := Lib.hid hd
      clear hd
      by_cases he : bt l k = 96
      · have hr := runL_pos l k to hlt
        have he' : (bt l k == 96) = true := by simp [he]
        by_cases hn : runL l k to = n
        · have hn' : ((runL l k to : Int) == (n : Int)) = true := by simp [hn]
          go_wp2_with (go_at_call 35; refine (run_any bd bs b o c k to l _ HDR.out (by omega) hto).mono ?_; rintro e w1 ⟨rfl, ho1⟩; have HO1 := Lib.hid ho1; clear ho1)
          go_ret2
          exact ⟨ret_some (by rw [HR.out, spanN, if_pos hlt, if_pos he, if_pos hn]) (by omega), HO.out.trans HO1.out⟩
        · have hn' : ((runL l k to : Int) == (n : Int)) = false := by simp; omega
          go_wp2_with (go_at_call 35; refine (run_any bd bs b o c k to l _ HDR.out (by omega) hto).mono ?_; rintro e w1 ⟨rfl, ho1⟩; have HO1 := Lib.hid ho1; clear ho1)
          go_roundw
          case rel => exact ⟨k + runL l k to, by omega, by go_num, by rw [HR.out, spanN, if_pos hlt, if_pos he, if_neg hn]; exact spanN_fuel _ _ _ _ _ (by omega) _ (by omega), HO.out.trans HO1.out⟩
          case measure => simp [intOf]; omega
      · have he' : (bt l k == 96) = false := by simpa using he
        go_wp2
        go_roundw
        case rel => exact ⟨k + 1, by omega, by go_num, by rw [HR.out, spanN, if_pos hlt, if_neg he]; exact spanN_fuel _ _ _ _ _ (by omega) _ (by omega), HO.out⟩
        case measure => simp [intOf]; omega
    · go_wp2
      go_ret2
      exact ⟨ret_none (by rw [HR.out, spanN, if_neg hlt]), HO.out⟩

/-- Where the bracket that is open ahead of a place is shut. -/
def shutN (l : List UInt8) (to : Nat) : Nat → Nat → Nat → Option Nat
  | 0, _, _ => none
  | d + 1, k, deep => if k < to then
      (if bt l k = 92 then shutN l to d (k + 1 + 1) deep
       else if bt l k = 40 then (if 32 < deep + 1 then none else shutN l to d (k + 1) (deep + 1))
       else if bt l k = 41 then (if deep = 1 then some (k + 1) else shutN l to d (k + 1) (deep - 1))
       else shutN l to d (k + 1) deep) else none
def shutL (l : List UInt8) (at_ to : Nat) : Option Nat := shutN l to (to - at_ + 1) at_ 1

theorem shutN_fuel (l : List UInt8) (to : Nat) : ∀ d k deep, to < k + d → ∀ e, to < k + e → shutN l to d k deep = shutN l to e k deep := by
  intro d
  induction d with
  | zero => intro k deep h e he; cases e with
    | zero => rfl
    | succ e => rw [shutN, shutN, if_neg (by omega)]
  | succ d ih =>
    intro k deep h e he
    cases e with
    | zero => rw [shutN, shutN, if_neg (by omega)]
    | succ e =>
      rw [shutN, shutN]
      by_cases hk : k < to
      · rw [if_pos hk, if_pos hk, ih (k + 1 + 1) deep (by omega) e (by omega), ih (k + 1) deep (by omega) e (by omega), ih (k + 1) (deep + 1) (by omega) e (by omega), ih (k + 1) (deep - 1) (by omega) e (by omega)]
      · rw [if_neg hk, if_neg hk]

set_option maxRecDepth 100000 in
set_option maxHeartbeats 800000 in
theorem shut_any (bd bs b o c at_ to : Nat) (l : List UInt8) (w : World) (h : DocR w bd bs b o c l) (hto : to ≤ l.length) (hat : at_ ≤ to) :
    Calls Tryd.prog 37 #[.pointer (some ⟨bd, 0, none⟩), .int .i64 at_, .int .i64 to] w fun e w' => e = .returned (optV (shutL l at_ to)) ∧ Only [] w w' := by
  have HD := Lib.hid h
  have hl : (l.length : Int) ≤ 65536 := by have := h.len; omega
  clear h
  go_enter Tryd.func37, Tryd.ntmps37
  go_wp2
  go_loopw [1, 8] (fun v dv wr => ∃ k deep : Nat, k ≤ to + 1 ∧ 1 ≤ deep ∧ deep ≤ 32 ∧ v = .int .i64 k ∧ dv = .int .i64 deep ∧ shutL l at_ to = shutN l to (to + 2 - k) k deep ∧ w = wr) (fun v _ _ => to + 1 - (intOf v).toNat)
  case atStart => exact ⟨at_, 1, by omega, by omega, by omega, rfl, rfl, shutN_fuel _ _ _ _ _ (by omega) _ (by omega), rfl⟩
  case round =>
    obtain ⟨k, deep, hk, hd1, hd2, rfl, rfl, hrun, rfl⟩ := hrel
    have HR := Lib.hid hrun
    clear hrun
    by_cases hlt : k < to
    · have c1 := HD.out.bytes
      have c2 := HD.out.cells k (by omega)
      have hf : to + 2 - k = (to + 1 - k) + 1 := by omega
      have HF := Lib.hid hf
      clear hf
      by_cases h92 : bt l k = 92
      · have h92' : (bt l k == 92) = true := by simp [h92]
        go_wp2
        go_roundw
        case rel => exact ⟨k + 1 + 1, deep, by omega, hd1, hd2, by go_num, rfl, by rw [HR.out, HF.out, shutN, if_pos hlt, if_pos h92]; exact shutN_fuel _ _ _ _ _ (by omega) _ (by omega), trivial⟩
        case measure => simp [intOf]; omega
      · have h92' : (bt l k == 92) = false := by simpa using h92
        by_cases h40 : bt l k = 40
        · have h40' : (bt l k == 40) = true := by simp [h40]
          by_cases h32 : deep = 32
          · subst h32
            go_wp2
            go_ret2
            exact ⟨ret_none (by rw [HR.out, HF.out, shutN, if_pos hlt, if_neg h92, if_pos h40, if_pos (by omega)]), Only.refl _ _⟩
          · have h32' : decide ((32 : Int) < (deep : Int) + 1) = false := by simp; omega
            go_wp2
            go_roundw
            case rel => exact ⟨k + 1, deep + 1, by omega, by omega, by omega, by go_num, by go_num, by rw [HR.out, HF.out, shutN, if_pos hlt, if_neg h92, if_pos h40, if_neg (by omega)]; exact shutN_fuel _ _ _ _ _ (by omega) _ (by omega), trivial⟩
            case measure => simp [intOf]; omega
        · have h40' : (bt l k == 40) = false := by simpa using h40
          by_cases h41 : bt l k = 41
          · have h41' : (bt l k == 41) = true := by simp [h41]
            obtain ⟨dp, rfl⟩ : ∃ dp, deep = dp + 1 := ⟨deep - 1, by omega⟩
            by_cases h1 : dp = 0
            · subst h1
              go_wp2
              go_ret2
              exact ⟨ret_some (by rw [HR.out, HF.out, shutN, if_pos hlt, if_neg h92, if_neg h40, if_pos h41, if_pos rfl]) (by omega), Only.refl _ _⟩
            · have h1' : ((dp : Int) == 0) = false := by simpa using h1
              go_wp2
              go_roundw
              case rel => exact ⟨k + 1, dp, by omega, by omega, by omega, by go_num, rfl, by rw [HR.out, HF.out, shutN, if_pos hlt, if_neg h92, if_neg h40, if_pos h41, if_neg (by omega), show dp + 1 - 1 = dp from rfl]; exact shutN_fuel _ _ _ _ _ (by omega) _ (by omega), trivial⟩
              case measure => simp [intOf]; omega
          · have h41' : (bt l k == 41) = false := by simpa using h41
            go_wp2
            go_roundw
            case rel => exact ⟨k + 1, deep, by omega, hd1, hd2, by go_num, rfl, by rw [HR.out, HF.out, shutN, if_pos hlt, if_neg h92, if_neg h40, if_neg h41]; exact shutN_fuel _ _ _ _ _ (by omega) _ (by omega), trivial⟩
            case measure => simp [intOf]; omega
    · go_wp2
      go_ret2
      exact ⟨ret_none (by rw [HR.out]; cases hq : to + 2 - k with | zero => rfl | succ q => rw [shutN, if_neg hlt]), Only.refl _ _⟩
end Go.Proofs.YtpohopmggpiomaaDoor
