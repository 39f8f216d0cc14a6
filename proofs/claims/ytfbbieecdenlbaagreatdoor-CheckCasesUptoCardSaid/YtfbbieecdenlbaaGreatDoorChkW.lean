/-
  check.Check, Lex, Words of a plain text without a mark.
-/
import Derived.Test.YtfbbieecdenlbaaGreatDoorPragR
import Derived.Test.YtfbbieecdenlbaaGreatDoorTokW
import Derived.Test.YtfbbieecdenlbaaGreatDoorDecU
import Derived.Test.YtfbbieecdenlbaaGreatDoorSegs
namespace Go.Proofs.YtfbbieecdenlbaaGreatDoor
open Go.RowKit

/-- Options. -/
structure OptR where
  fo : Int
  le : Nat
  mo : Nat
  ne : Nat
  di : Nat
  co : Nat
  st : Bool
  me : Bool
def optV (o : OptR) : Value := .agg #[.int .i64 o.fo, .int .i64 o.le, .int .i64 o.mo, .int .i64 o.ne, .int .i64 o.di, .int .i64 o.co, .bool o.st, .bool o.me]
structure OkOpt (o : OptR) : Prop where
  f0 : -1 ≤ o.fo
  f1 : o.fo < 9
  l0 : 1 ≤ o.le
  l1 : o.le ≤ o.mo
  m1 : o.mo ≤ 64
  n1 : o.ne ≤ 32
  d1 : o.di ≤ 3
  c1 : o.co ≤ 16

set_option maxRecDepth 100000 in
set_option maxHeartbeats 4000000 in
theorem check_ok (o : OptR) (w : World) (h : OkOpt o) :
    Calls Tryz.prog 60 #[optV o] w fun e w' => e = .returned (.int .i64 0) ∧ Only [] w w' := by
  obtain ⟨fo, le, mo, ne, di, co, st, me⟩ := o
  obtain ⟨f0, f1, l0, l1, m1, n1, d1, c1⟩ := h
  simp only at f0 f1 l0 l1 m1 n1 d1 c1
  have z0 : decide (fo < -1) = false := decide_eq_false (by omega)
  have z1 : decide ((9 : Int) ≤ fo) = false := decide_eq_false (by omega)
  have z2 : decide ((le : Int) < 1) = false := decide_eq_false (by omega)
  have z3 : decide ((mo : Int) < le) = false := decide_eq_false (by omega)
  have z4 : decide ((64 : Int) < mo) = false := decide_eq_false (by omega)
  have z5 : decide ((ne : Int) < 0) = false := decide_eq_false (by omega)
  have z6 : decide ((32 : Int) < ne) = false := decide_eq_false (by omega)
  have z7 : decide ((di : Int) < 0) = false := decide_eq_false (by omega)
  have z8 : decide ((3 : Int) < di) = false := decide_eq_false (by omega)
  have z9 : decide ((co : Int) < 0) = false := decide_eq_false (by omega)
  have za : decide ((16 : Int) < co) = false := decide_eq_false (by omega)
  unfold optV
  simp only
  go_enter Tryz.func60, Tryz.ntmps60
  go_wp2_with fail
  go_ret
  exact ⟨rfl, (Only.refl _ _).alloc _⟩

set_option maxRecDepth 100000 in
set_option maxHeartbeats 2000000 in
theorem lex_plain (b : List UInt8) (v : Value) (w : World) (hv : BytesV w v b) (hl : b.length ≤ 65536) :
    Calls Tryz.prog 61 #[.int .u8 0, v] w fun e w' => ∃ bs bl, e = .returned (.tuple #[.pointer (some ⟨bs, 0, none⟩), .int .i64 0]) ∧ Only [] w w' ∧ SheetAt w' bs bl (List.replicate b.length 1) := by
  obtain ⟨p, c, rfl, -, -⟩ := hv.shape
  have HC := Lib.hid (new_ok b.length w (by omega))
  clear hv
  go_enter Tryz.func61, Tryz.ntmps61
  go_wp2_with fail
  refine HC.out.mono ?_
  rintro e w1 ⟨bs, bl, rfl, ho, -, -, hne, h1, h2⟩
  have HO := Lib.hid ho
  have HS : Hid (SheetAt w1 bs bl (List.replicate b.length 1)) := Lib.hid ⟨hne, by simpa using hl, by simpa using h1, h2⟩
  clear ho h1 h2
  go_wp2_with fail
  go_ret2
  exact ⟨_, bl, rfl, HO.out, HS.out⟩

theorem segs_prose (n : Nat) : ∀ k, k ≤ n → segsTo (List.replicate n 1) k = if k = 0 then [] else [(1, 0, k)] := by
  intro k
  induction k with
  | zero => intro _; rfl
  | succ k ih =>
    intro h
    have hn : nth (List.replicate n (1 : Int)) k = 1 := by rw [nth_lt (by simp; omega)]; simp
    rw [segsTo, ih (by omega), hn]
    by_cases h0 : k = 0
    · subst h0; rfl
    · rw [if_neg h0]
      simp [segStep]

/-- The words of a plain text. -/
def unitsP (b : List UInt8) : List (Int × Nat × Nat) := unitsF b 0
def wordsP (b : List UInt8) (least most : Nat) : List WordR := wordsT b (unitsP b) least most (runsT (runesL (unitsP b)) 0)
theorem words_text (b : List UInt8) (L : List (Int × Nat × Nat)) (least most : Nat) (rs : List (Nat × Nat)) : ∀ x ∈ wordsT b L least most rs, x.text.length ≤ 4 * most := by
  intro x hx
  unfold wordsT at hx
  obtain ⟨r, hr, hx⟩ := List.mem_flatMap.1 hx
  unfold wordsRun at hx
  obtain ⟨p, hp, rfl⟩ := List.mem_map.1 hx
  have h1 := (List.mem_filter.1 hp).2
  have h2 := of_decide_eq_true (Bool.and_eq_true_iff.1 h1).2
  have h3 := textU_len (runesL (partL L p))
  rw [runesL_length] at h3
  have h4 : (partL L p).length ≤ p.2 - p.1 := by unfold partL; rw [List.length_take]; omega
  show (textU (runesL (partL L p))).length ≤ _
  omega
theorem unitsF_bound (b : List UInt8) : ∀ d k, b.length ≤ k + d → ∀ u ∈ unitsF b k, u.2.1 + u.2.2 ≤ b.length := by
  intro d
  induction d with
  | zero => intro k h u hu; rw [unitsF_end b k (by omega)] at hu; simp at hu
  | succ d ih =>
    intro k h u hu
    by_cases hk : k < b.length
    · have hp := nextU_pos _ (drop_ne hk)
      rw [List.length_drop] at hp
      rw [unitsF_step b k hk] at hu
      rcases List.mem_cons.1 hu with rfl | hu
      · show k + (nextU (b.drop k)).2 ≤ _; omega
      · exact ih _ (by omega) u hu
    · rw [unitsF_end b k (by omega)] at hu; simp at hu
theorem unitsP_at (b : List UInt8) (k : Nat) (h : k < (unitsP b).length) : (unAt (unitsP b) k).2.1 + (unAt (unitsP b) k).2.2 ≤ b.length := by
  rw [unAt_lt h]
  exact unitsF_bound b b.length 0 (by omega) _ (List.getElem_mem h)
theorem unitsP_len (b : List UInt8) : (unitsP b).length ≤ b.length := unitsF_len b b.length 0 (by omega)
end Go.Proofs.YtfbbieecdenlbaaGreatDoor
