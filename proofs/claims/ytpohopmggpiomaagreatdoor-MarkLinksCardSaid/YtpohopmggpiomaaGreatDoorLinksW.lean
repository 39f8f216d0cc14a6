/-
  redpenlaw12.MarkLinks: the walk of the law.
-/
import Derived.Test.YtpohopmggpiomaaGreatDoorRefMark
import Derived.Test.YtpohopmggpiomaaGreatDoorRefG
import Derived.Test.YtpohopmggpiomaaGreatDoorLaw0
namespace Go.Proofs.YtpohopmggpiomaaGreatDoor
open Go.RowKit

theorem str_append2 (a b : List UInt8) : (⟨a.toArray⟩ : ByteArray) ++ ⟨b.toArray⟩ = ⟨(a ++ b).toArray⟩ := by
  apply ByteArray.ext; apply Array.ext'
  simp

/-- One sign of a link's place. -/
def sgnL : Nat → UInt8
  | 0 => 97 | 1 => 98 | 2 => 46 | _ => 47

theorem sgnL_tab (n : Nat) (h : n < (⟨#[97, 98, 46, 47]⟩ : ByteArray).size) : (⟨#[97, 98, 46, 47]⟩ : ByteArray)[n] = sgnL n := by
  have h' : n < 4 := h
  have : n = 0 ∨ n = 1 ∨ n = 2 ∨ n = 3 := by omega
  rcases this with rfl | rfl | rfl | rfl <;> rfl

def opn : Nat → List UInt8
  | 0 => [91, 120, 93, 40]
  | k + 1 => opn k ++ [40]
def lk (cs A : List UInt8) : Nat → List UInt8
  | 0 => A
  | k + 1 => if k < 9 then lk cs A k ++ [sgnL (bt cs k % 4).toNat] else lk cs A k
def shu (A : List UInt8) : Nat → List UInt8
  | 0 => A
  | k + 1 => shu A k ++ [41]

theorem opn_len (k : Nat) : (opn k).length = 4 + k := by
  induction k with
  | zero => rfl
  | succ k ih => rw [opn, List.length_append, ih]; rfl
theorem shu_len (A : List UInt8) (k : Nat) : (shu A k).length = A.length + k := by
  induction k with
  | zero => rfl
  | succ k ih => rw [shu, List.length_append, ih]; rfl
theorem lk_len (cs A : List UInt8) (k : Nat) : A.length ≤ (lk cs A k).length ∧ (lk cs A k).length ≤ A.length + 9 := by
  have h : ∀ k, A.length ≤ (lk cs A k).length ∧ (lk cs A k).length ≤ A.length + k ∧ (lk cs A k).length ≤ A.length + 9 := by
    intro k
    induction k with
    | zero => simp [lk]
    | succ k ih =>
      rw [lk]
      split
      · simp only [List.length_append, List.length_singleton]; omega
      · omega
  exact ⟨(h k).1, (h k).2.2⟩

/-- What is put together for a depth. -/
def linkQ (cs : List UInt8) (n : Nat) : List UInt8 := shu (lk cs (opn n) cs.length) n

theorem at_int (bs bl : Nat) (i : Int) (k : Nat) (hi : i = (k : Int)) (l : List Int) (w : World) (h : SheetAt w bs bl l) (hk : k < l.length) :
    Calls Tryz.prog 6 #[.pointer (some ⟨bs, 0, none⟩), .int .i64 i] w fun e w' => e = .returned (.int .u8 (nth l k)) ∧ w = w' := by
  subst hi; exact at_in bs bl k l w h hk

theorem rsegs_int (bl n : Nat) (L : List Int) (hn : L.length = n) (w : World) (h : LabAt w bl L) :
    Calls Tryz.prog 9 #[.slice (some ⟨bl, 0, none⟩) n n] w fun e w' => ∃ v, e = .returned v ∧ Only [] w w' ∧ w'.ownsRow w.heap.size 41 3 v (segsTo L L.length).length (segCells (segsTo L L.length)) := by
  subst hn; exact rsegs_any bl L w h

set_option maxRecDepth 100000 in
set_option maxHeartbeats 2000000 in
theorem links_walk_s (a0 : Int) (n : Nat) (cs B : List UInt8) (v : Value) (w : World) (hE : Env w) (hv : BytesV w v cs) (h0 : 0 ≤ a0 ∧ a0 ≤ 255)
    (hn : a0 % 40 = (n : Int)) (hn32 : n < 32) (hB : B = linkQ cs n ++ [41, 32, 121])
    (hone : OneLine B) (hm : markL P0 B = inlL (P0 B.length) B 0 B.length (List.replicate B.length 1)) (hL : (markL P0 B).length = B.length) (hs0 : 0 < (segsTo (markL P0 B) B.length).length)
    (h3 : nth (markL P0 B) 3 = 2) (h1 : nth (markL P0 B) 1 = 1) (hl : nth (markL P0 B) (B.length - 1) = 1)
    (hno : ∀ k, k < B.length → bt B k ≠ 60) :
    Calls Tryz.prog 3 #[.int .u8 a0, .bool true, v] w fun e w' => e = .returned (.bool true) ∧ Only [] w w' := by
  have HV := Lib.hid hv
  obtain ⟨p, c, rfl, hc, hmx, hk⟩ := hv
  have HE := Lib.hid hE
  have HONE := Lib.hid hone
  have HM := Lib.hid hm
  have HLEN := Lib.hid hL
  have HS0 := Lib.hid hs0
  have H3 := Lib.hid h3
  have H1 := Lib.hid h1
  have HL := Lib.hid hl
  have HNO := Lib.hid hno
  have HK := Lib.hid hk
  have HN := Lib.hid hn
  have hn40 : n < 40 := by omega
  have hql : (linkQ cs n).length = (lk cs (opn n) cs.length).length + n := shu_len _ _
  have hlk := lk_len cs (opn n) cs.length
  rw [opn_len] at hlk
  have hq1 : 4 ≤ (linkQ cs n).length ∧ (linkQ cs n).length ≤ 100 := by omega
  have hlB : B.length = (linkQ cs n).length + 3 := by simp [hB]
  have hbv : (⟨B.toArray⟩ : ByteArray) = ⟨(linkQ cs n ++ [41, 32, 121]).toArray⟩ := by rw [hB]
  have HBV := Lib.hid hbv
  have HLB := Lib.hid hlB
  clear hE hone hm hL hs0 h3 h1 hl hno hk hbv hB hlB hql hlk
  go_enter Tryz.func3, Tryz.ntmps3
  go_wp2_with (go_at_call 4; refine (awake_any _ HE.out).mono ?_; rintro e w1 ⟨rfl, ho1⟩; have HO1 := Lib.hid ho1; clear ho1)
  go_loopw [8, 19] (fun bv iv wr => ∃ k : Nat, k ≤ n ∧ iv = .int .i64 k ∧ bv = .string ⟨(opn k).toArray⟩ ∧ wr = w1) (fun _ iv _ => n - (intOf iv).toNat)
  case atStart => exact ⟨0, by omega, rfl, rfl, rfl⟩
  case round =>
    obtain ⟨k, hk, rfl, rfl, rfl⟩ := hrel
    have hcat := str_append2 (opn k) [40]
    have hol := opn_len k
    by_cases hlt : k < n
    · have hcmp : decide ((k : Int) < a0 % 40) = true := by rw [HN.out]; simp; omega
      have hcmp' : (k : Int) < a0 % 40 := by rw [HN.out]; omega
      go_wp2_with fail
      go_roundw
      case rel => first | exact ⟨k + 1, by omega, by go_num, rfl, rfl⟩ | exact ⟨k + 1, by omega, by go_num, rfl, trivial⟩
      case measure => simp [intOf]; omega
    · obtain rfl : k = n := by omega
      have hcmp' : ¬ (k : Int) < a0 % 40 := by rw [HN.out]; omega
      clear hcat hol
      go_wp2_with fail
      go_loopw [8, 9, 10, 26] (fun bv _ _ iv wr => ∃ j : Nat, j ≤ cs.length ∧ iv = .int .i64 j ∧ bv = .string ⟨(lk cs (opn k) j).toArray⟩ ∧ Only [] w wr) (fun _ _ _ iv _ => cs.length - (intOf iv).toNat)
      case atStart => exact ⟨0, by omega, rfl, rfl, HO1.out⟩
      case round =>
        obtain ⟨j, hj, rfl, rfl, ho⟩ := hrel
        have HO := Lib.hid ho
        clear ho
        unfold maxLen at hmx
        have hlk := lk_len cs (opn k) j
        rw [opn_len] at hlk
        by_cases hltj : j < cs.length
        · obtain ⟨b, o, rfl, hcb⟩ := HK.out (by omega)
          have c1 := HO.out.cell_some (hcb j hltj) (by simp)
          have hr := bt_range cs j
          by_cases h9 : j < 9
          · have htab := sgnL_tab (bt cs j % 4).toNat
            have hcat := str_append2 (lk cs (opn k) j) [sgnL (bt cs j % 4).toNat]
            have hcv : (convert 22 9 (.slice (some ⟨wr.heap.size, 0, none⟩) 1 1)).run Tryz.prog (wr.alloc (.cells #[.int .u8 ((sgnL (bt cs j % 4).toNat).toNat : Int)] 5)) = .ok (.string ⟨[sgnL (bt cs j % 4).toNat].toArray⟩) (wr.alloc (.cells #[.int .u8 ((sgnL (bt cs j % 4).toNat).toNat : Int)] 5)) :=
              conv_bytes (l := [sgnL (bt cs j % 4).toNat]) ⟨_, 1, rfl, by simp, by unfold maxLen; omega, fun _ => ⟨_, 0, rfl, fun i hi => by
                obtain rfl : i = 0 := by simp at hi; omega
                rw [Nat.zero_add, cell_blk (alloc_new wr _)]; rfl⟩⟩ _ _ 5 Tryz.underlying22 Tryz.underlying5 Tryz.underlying9
            go_wp2_with fail
            go_roundw
            case rel => exact ⟨j + 1, by omega, by go_num, by rw [lk, if_pos h9], HO.out.alloc _⟩
            case measure => simp [intOf]; omega
          · go_wp2_with fail
            go_roundw
            case rel => exact ⟨j + 1, by omega, by go_num, by rw [lk, if_neg h9], HO.out⟩
            case measure => simp [intOf]; omega
        · obtain rfl : j = cs.length := by omega
          obtain ⟨wo, hwo⟩ : ∃ wo, wo = wr := ⟨_, rfl⟩
          subst hwo
          go_wp2_with fail
          go_loopw [8, 42] (fun bv iv wr => ∃ i : Nat, i ≤ k ∧ iv = .int .i64 i ∧ bv = .string ⟨(shu (lk cs (opn k) cs.length) i).toArray⟩ ∧ wr = wo) (fun _ iv _ => k - (intOf iv).toNat)
          case atStart => exact ⟨0, by omega, rfl, rfl, rfl⟩
          case round =>
            obtain ⟨i, hi, rfl, rfl, rfl⟩ := hrel
            by_cases hlti : i < k
            · have hcat := str_append2 (shu (lk cs (opn k) cs.length) i) [41]
              have hsl := shu_len (lk cs (opn k) cs.length) i
              have hcmp' : (i : Int) < a0 % 40 := by rw [HN.out]; omega
              go_wp2_with fail
              go_roundw
              case rel => first | exact ⟨i + 1, by omega, by go_num, rfl, rfl⟩ | exact ⟨i + 1, by omega, by go_num, rfl, trivial⟩
              case measure => simp [intOf]; omega
            · obtain rfl : i = k := by omega
              have hcmp' : ¬ (i : Int) < a0 % 40 := by rw [HN.out]; omega
              obtain ⟨c', w3, hcv, ho3, hv3⟩ := conv_str B (by rw [HLB.out]; unfold maxLen; omega) wr
              have HO3 := Lib.hid (HO.out.trans ho3)
              have HV3 := Lib.hid hv3
              clear ho3 hv3 hlk
              rw [HBV.out] at hcv
              rw [show shu (lk cs (opn i) cs.length) i = linkQ cs i from rfl]
              have hc0 := str_append2 (linkQ cs i) [41]
              have hc1 := str_append2 (linkQ cs i ++ [41]) [32, 121]
              go_wp2_with fail
              refine (lex_plain B _ w3 (HE.out.keep0 HO3.out) HV3.out (by rw [HLB.out]; omega) HNO.out).mono ?_
              rintro e w4 ⟨bs, bl, rfl, ho4, -, -, hs4⟩
              have HO4 := Lib.hid (HO3.out.trans ho4)
              have HS4 := Lib.hid hs4
              clear ho4 hs4 hcv hcmp'
              go_wp2_with fail
              refine (at_int bs bl 3 3 rfl _ w4 HS4.out (by rw [HLEN.out, HLB.out]; omega)).mono ?_
              rintro e w5 ⟨rfl, rfl⟩
              rw [H3.out]
              have hcmp2 : a0 % 40 < 32 := by rw [HN.out]; omega
              go_wp2_with fail
              refine (at_int bs bl _ (B.length - 1) ?ci _ w4 HS4.out (by rw [HLEN.out, HLB.out]; omega)).mono ?_
              case ci => rw [HLB.out]; omega
              rintro e w5 ⟨rfl, rfl⟩
              rw [HL.out]
              go_wp2_with fail
              refine (at_int bs bl 1 1 rfl _ w4 HS4.out (by rw [HLEN.out, HLB.out]; omega)).mono ?_
              rintro e w5 ⟨rfl, rfl⟩
              rw [H1.out]
              go_wp2_with fail
              refine (segs_any bs bl _ w4 HS4.out).mono ?_
              rintro e w5 ⟨va, rfl, ho5, hv5⟩
              rw [HLEN.out] at hv5
              obtain ⟨g, cg, rfl, -, hcg, hmem⟩ := segs_mem hv5 HS0.out
              have HMEM := Lib.hid hmem
              have HO5 := Lib.hid (HO4.out.trans ho5)
              clear hmem hv5 ho5
              go_wp2_with fail
              rw [← HBV.out]
              refine (rmark_one (P0 B.length) B w5 HONE.out (P0_ok _ _)).mono ?_
              rintro e w6 ⟨bl2, rfl, ho6, -, hlab6⟩
              rw [← HM.out] at hlab6
              have HLAB6 := Lib.hid hlab6
              have HO6 := Lib.hid ho6
              clear hlab6 ho6
              go_wp2_with fail
              refine (rsegs_int bl2 B.length _ HLEN.out w6 HLAB6.out).mono ?_
              rintro e w7 ⟨vb, rfl, ho7, hv7⟩
              rw [HLEN.out] at hv7
              obtain ⟨g2, cg2, rfl, -, hcg2, hmem2⟩ := segs_mem hv7 HS0.out
              have HMEM2 := Lib.hid hmem2
              have HO7 := Lib.hid (HO6.out.trans ho7)
              have hsl := segsTo_length (markL P0 B) B.length
              have HSL := Lib.hid hsl
              clear hmem2 hv7 ho7 hsl
              go_wp2_with fail
              refine (rsame_any (segsTo (markL P0 B) B.length) g g2 cg cg2 w7 (by have := HSL.out; have := HLB.out; omega) (fun k s hs => by
                obtain ⟨m0, m1, m2⟩ := HMEM.out k s hs
                exact ⟨HO7.out.cell_some m0 (by simp), HO7.out.cell_some m1 (by simp), HO7.out.cell_some m2 (by simp)⟩) HMEM2.out).mono ?_
              rintro e w8 ⟨rfl, ho8⟩
              have HO8 := Lib.hid (HO5.out.trans (HO7.out.trans ho8))
              clear ho8
              go_wp2_with fail
              go_ret
              exact ⟨rfl, HO8.out⟩

set_option maxRecDepth 100000 in
set_option maxHeartbeats 2000000 in
theorem links_walk_d (a0 : Int) (n : Nat) (cs B : List UInt8) (v : Value) (w : World) (hE : Env w) (hv : BytesV w v cs) (h0 : 0 ≤ a0 ∧ a0 ≤ 255)
    (hn : a0 % 40 = (n : Int)) (hn32 : 32 ≤ n) (hB : B = linkQ cs n ++ [41, 32, 121])
    (hone : OneLine B) (hm : markL P0 B = inlL (P0 B.length) B 0 B.length (List.replicate B.length 1)) (hL : (markL P0 B).length = B.length) (hs0 : 0 < (segsTo (markL P0 B) B.length).length)
    (h3 : nth (markL P0 B) 3 = 1) (h1 : nth (markL P0 B) 1 = 1) (hl : nth (markL P0 B) (B.length - 1) = 1)
    (hno : ∀ k, k < B.length → bt B k ≠ 60) :
    Calls Tryz.prog 3 #[.int .u8 a0, .bool true, v] w fun e w' => e = .returned (.bool true) ∧ Only [] w w' := by
  have HV := Lib.hid hv
  obtain ⟨p, c, rfl, hc, hmx, hk⟩ := hv
  have HE := Lib.hid hE
  have HONE := Lib.hid hone
  have HM := Lib.hid hm
  have HLEN := Lib.hid hL
  have HS0 := Lib.hid hs0
  have H3 := Lib.hid h3
  have H1 := Lib.hid h1
  have HL := Lib.hid hl
  have HNO := Lib.hid hno
  have HK := Lib.hid hk
  have HN := Lib.hid hn
  have hn40 : n < 40 := by omega
  have hql : (linkQ cs n).length = (lk cs (opn n) cs.length).length + n := shu_len _ _
  have hlk := lk_len cs (opn n) cs.length
  rw [opn_len] at hlk
  have hq1 : 4 ≤ (linkQ cs n).length ∧ (linkQ cs n).length ≤ 100 := by omega
  have hlB : B.length = (linkQ cs n).length + 3 := by simp [hB]
  have hbv : (⟨B.toArray⟩ : ByteArray) = ⟨(linkQ cs n ++ [41, 32, 121]).toArray⟩ := by rw [hB]
  have HBV := Lib.hid hbv
  have HLB := Lib.hid hlB
  clear hE hone hm hL hs0 h3 h1 hl hno hk hbv hB hlB hql hlk
  go_enter Tryz.func3, Tryz.ntmps3
  go_wp2_with (go_at_call 4; refine (awake_any _ HE.out).mono ?_; rintro e w1 ⟨rfl, ho1⟩; have HO1 := Lib.hid ho1; clear ho1)
  go_loopw [8, 19] (fun bv iv wr => ∃ k : Nat, k ≤ n ∧ iv = .int .i64 k ∧ bv = .string ⟨(opn k).toArray⟩ ∧ wr = w1) (fun _ iv _ => n - (intOf iv).toNat)
  case atStart => exact ⟨0, by omega, rfl, rfl, rfl⟩
  case round =>
    obtain ⟨k, hk, rfl, rfl, rfl⟩ := hrel
    have hcat := str_append2 (opn k) [40]
    have hol := opn_len k
    by_cases hlt : k < n
    · have hcmp : decide ((k : Int) < a0 % 40) = true := by rw [HN.out]; simp; omega
      have hcmp' : (k : Int) < a0 % 40 := by rw [HN.out]; omega
      go_wp2_with fail
      go_roundw
      case rel => first | exact ⟨k + 1, by omega, by go_num, rfl, rfl⟩ | exact ⟨k + 1, by omega, by go_num, rfl, trivial⟩
      case measure => simp [intOf]; omega
    · obtain rfl : k = n := by omega
      have hcmp' : ¬ (k : Int) < a0 % 40 := by rw [HN.out]; omega
      clear hcat hol
      go_wp2_with fail
      go_loopw [8, 9, 10, 26] (fun bv _ _ iv wr => ∃ j : Nat, j ≤ cs.length ∧ iv = .int .i64 j ∧ bv = .string ⟨(lk cs (opn k) j).toArray⟩ ∧ Only [] w wr) (fun _ _ _ iv _ => cs.length - (intOf iv).toNat)
      case atStart => exact ⟨0, by omega, rfl, rfl, HO1.out⟩
      case round =>
        obtain ⟨j, hj, rfl, rfl, ho⟩ := hrel
        have HO := Lib.hid ho
        clear ho
        unfold maxLen at hmx
        have hlk := lk_len cs (opn k) j
        rw [opn_len] at hlk
        by_cases hltj : j < cs.length
        · obtain ⟨b, o, rfl, hcb⟩ := HK.out (by omega)
          have c1 := HO.out.cell_some (hcb j hltj) (by simp)
          have hr := bt_range cs j
          by_cases h9 : j < 9
          · have htab := sgnL_tab (bt cs j % 4).toNat
            have hcat := str_append2 (lk cs (opn k) j) [sgnL (bt cs j % 4).toNat]
            have hcv : (convert 22 9 (.slice (some ⟨wr.heap.size, 0, none⟩) 1 1)).run Tryz.prog (wr.alloc (.cells #[.int .u8 ((sgnL (bt cs j % 4).toNat).toNat : Int)] 5)) = .ok (.string ⟨[sgnL (bt cs j % 4).toNat].toArray⟩) (wr.alloc (.cells #[.int .u8 ((sgnL (bt cs j % 4).toNat).toNat : Int)] 5)) :=
              conv_bytes (l := [sgnL (bt cs j % 4).toNat]) ⟨_, 1, rfl, by simp, by unfold maxLen; omega, fun _ => ⟨_, 0, rfl, fun i hi => by
                obtain rfl : i = 0 := by simp at hi; omega
                rw [Nat.zero_add, cell_blk (alloc_new wr _)]; rfl⟩⟩ _ _ 5 Tryz.underlying22 Tryz.underlying5 Tryz.underlying9
            go_wp2_with fail
            go_roundw
            case rel => exact ⟨j + 1, by omega, by go_num, by rw [lk, if_pos h9], HO.out.alloc _⟩
            case measure => simp [intOf]; omega
          · go_wp2_with fail
            go_roundw
            case rel => exact ⟨j + 1, by omega, by go_num, by rw [lk, if_neg h9], HO.out⟩
            case measure => simp [intOf]; omega
        · obtain rfl : j = cs.length := by omega
          obtain ⟨wo, hwo⟩ : ∃ wo, wo = wr := ⟨_, rfl⟩
          subst hwo
          go_wp2_with fail
          go_loopw [8, 42] (fun bv iv wr => ∃ i : Nat, i ≤ k ∧ iv = .int .i64 i ∧ bv = .string ⟨(shu (lk cs (opn k) cs.length) i).toArray⟩ ∧ wr = wo) (fun _ iv _ => k - (intOf iv).toNat)
          case atStart => exact ⟨0, by omega, rfl, rfl, rfl⟩
          case round =>
            obtain ⟨i, hi, rfl, rfl, rfl⟩ := hrel
            by_cases hlti : i < k
            · have hcat := str_append2 (shu (lk cs (opn k) cs.length) i) [41]
              have hsl := shu_len (lk cs (opn k) cs.length) i
              have hcmp' : (i : Int) < a0 % 40 := by rw [HN.out]; omega
              go_wp2_with fail
              go_roundw
              case rel => first | exact ⟨i + 1, by omega, by go_num, rfl, rfl⟩ | exact ⟨i + 1, by omega, by go_num, rfl, trivial⟩
              case measure => simp [intOf]; omega
            · obtain rfl : i = k := by omega
              have hcmp' : ¬ (i : Int) < a0 % 40 := by rw [HN.out]; omega
              obtain ⟨c', w3, hcv, ho3, hv3⟩ := conv_str B (by rw [HLB.out]; unfold maxLen; omega) wr
              have HO3 := Lib.hid (HO.out.trans ho3)
              have HV3 := Lib.hid hv3
              clear ho3 hv3 hlk
              rw [HBV.out] at hcv
              rw [show shu (lk cs (opn i) cs.length) i = linkQ cs i from rfl]
              have hc0 := str_append2 (linkQ cs i) [41]
              have hc1 := str_append2 (linkQ cs i ++ [41]) [32, 121]
              go_wp2_with fail
              refine (lex_plain B _ w3 (HE.out.keep0 HO3.out) HV3.out (by rw [HLB.out]; omega) HNO.out).mono ?_
              rintro e w4 ⟨bs, bl, rfl, ho4, -, -, hs4⟩
              have HO4 := Lib.hid (HO3.out.trans ho4)
              have HS4 := Lib.hid hs4
              clear ho4 hs4 hcv hcmp'
              go_wp2_with fail
              refine (at_int bs bl 3 3 rfl _ w4 HS4.out (by rw [HLEN.out, HLB.out]; omega)).mono ?_
              rintro e w5 ⟨rfl, rfl⟩
              rw [H3.out]
              have hcmp3 : decide ((i : Int) < 32) = false := by simp; omega
              go_wp2_with fail
              refine (at_int bs bl _ (B.length - 1) ?ci _ w4 HS4.out (by rw [HLEN.out, HLB.out]; omega)).mono ?_
              case ci => rw [HLB.out]; omega
              rintro e w5 ⟨rfl, rfl⟩
              rw [HL.out]
              go_wp2_with fail
              refine (at_int bs bl 1 1 rfl _ w4 HS4.out (by rw [HLEN.out, HLB.out]; omega)).mono ?_
              rintro e w5 ⟨rfl, rfl⟩
              rw [H1.out]
              go_wp2_with fail
              refine (segs_any bs bl _ w4 HS4.out).mono ?_
              rintro e w5 ⟨va, rfl, ho5, hv5⟩
              rw [HLEN.out] at hv5
              obtain ⟨g, cg, rfl, -, hcg, hmem⟩ := segs_mem hv5 HS0.out
              have HMEM := Lib.hid hmem
              have HO5 := Lib.hid (HO4.out.trans ho5)
              clear hmem hv5 ho5
              go_wp2_with fail
              rw [← HBV.out]
              refine (rmark_one (P0 B.length) B w5 HONE.out (P0_ok _ _)).mono ?_
              rintro e w6 ⟨bl2, rfl, ho6, -, hlab6⟩
              rw [← HM.out] at hlab6
              have HLAB6 := Lib.hid hlab6
              have HO6 := Lib.hid ho6
              clear hlab6 ho6
              go_wp2_with fail
              refine (rsegs_int bl2 B.length _ HLEN.out w6 HLAB6.out).mono ?_
              rintro e w7 ⟨vb, rfl, ho7, hv7⟩
              rw [HLEN.out] at hv7
              obtain ⟨g2, cg2, rfl, -, hcg2, hmem2⟩ := segs_mem hv7 HS0.out
              have HMEM2 := Lib.hid hmem2
              have HO7 := Lib.hid (HO6.out.trans ho7)
              have hsl := segsTo_length (markL P0 B) B.length
              have HSL := Lib.hid hsl
              clear hmem2 hv7 ho7 hsl
              go_wp2_with fail
              refine (rsame_any (segsTo (markL P0 B) B.length) g g2 cg cg2 w7 (by have := HSL.out; have := HLB.out; omega) (fun k s hs => by
                obtain ⟨m0, m1, m2⟩ := HMEM.out k s hs
                exact ⟨HO7.out.cell_some m0 (by simp), HO7.out.cell_some m1 (by simp), HO7.out.cell_some m2 (by simp)⟩) HMEM2.out).mono ?_
              rintro e w8 ⟨rfl, ho8⟩
              have HO8 := Lib.hid (HO5.out.trans (HO7.out.trans ho8))
              clear ho8
              go_wp2_with fail
              go_ret
              exact ⟨rfl, HO8.out⟩

set_option maxRecDepth 100000 in
set_option maxHeartbeats 2000000 in
theorem links_walk_o (a0 : Int) (n : Nat) (cs B : List UInt8) (v : Value) (w : World) (hE : Env w) (hv : BytesV w v cs) (h0 : 0 ≤ a0 ∧ a0 ≤ 255)
    (hn : a0 % 40 = (n : Int)) (hB : B = linkQ cs n ++ [32, 121])
    (hone : OneLine B) (hm : markL P0 B = inlL (P0 B.length) B 0 B.length (List.replicate B.length 1)) (hL : (markL P0 B).length = B.length) (hs0 : 0 < (segsTo (markL P0 B) B.length).length)
    (h3 : nth (markL P0 B) 3 = 1) (h1 : nth (markL P0 B) 1 = 1) (hl : nth (markL P0 B) (B.length - 1) = 1)
    (hno : ∀ k, k < B.length → bt B k ≠ 60) :
    Calls Tryz.prog 3 #[.int .u8 a0, .bool false, v] w fun e w' => e = .returned (.bool true) ∧ Only [] w w' := by
  have HV := Lib.hid hv
  obtain ⟨p, c, rfl, hc, hmx, hk⟩ := hv
  have HE := Lib.hid hE
  have HONE := Lib.hid hone
  have HM := Lib.hid hm
  have HLEN := Lib.hid hL
  have HS0 := Lib.hid hs0
  have H3 := Lib.hid h3
  have H1 := Lib.hid h1
  have HL := Lib.hid hl
  have HNO := Lib.hid hno
  have HK := Lib.hid hk
  have HN := Lib.hid hn
  have hn40 : n < 40 := by omega
  have hql : (linkQ cs n).length = (lk cs (opn n) cs.length).length + n := shu_len _ _
  have hlk := lk_len cs (opn n) cs.length
  rw [opn_len] at hlk
  have hq1 : 4 ≤ (linkQ cs n).length ∧ (linkQ cs n).length ≤ 100 := by omega
  have hlB : B.length = (linkQ cs n).length + 2 := by simp [hB]
  have hbv : (⟨B.toArray⟩ : ByteArray) = ⟨(linkQ cs n ++ [32, 121]).toArray⟩ := by rw [hB]
  have HBV := Lib.hid hbv
  have HLB := Lib.hid hlB
  clear hE hone hm hL hs0 h3 h1 hl hno hk hbv hB hlB hql hlk
  go_enter Tryz.func3, Tryz.ntmps3
  go_wp2_with (go_at_call 4; refine (awake_any _ HE.out).mono ?_; rintro e w1 ⟨rfl, ho1⟩; have HO1 := Lib.hid ho1; clear ho1)
  go_loopw [8, 19] (fun bv iv wr => ∃ k : Nat, k ≤ n ∧ iv = .int .i64 k ∧ bv = .string ⟨(opn k).toArray⟩ ∧ wr = w1) (fun _ iv _ => n - (intOf iv).toNat)
  case atStart => exact ⟨0, by omega, rfl, rfl, rfl⟩
  case round =>
    obtain ⟨k, hk, rfl, rfl, rfl⟩ := hrel
    have hcat := str_append2 (opn k) [40]
    have hol := opn_len k
    by_cases hlt : k < n
    · have hcmp : decide ((k : Int) < a0 % 40) = true := by rw [HN.out]; simp; omega
      have hcmp' : (k : Int) < a0 % 40 := by rw [HN.out]; omega
      go_wp2_with fail
      go_roundw
      case rel => first | exact ⟨k + 1, by omega, by go_num, rfl, rfl⟩ | exact ⟨k + 1, by omega, by go_num, rfl, trivial⟩
      case measure => simp [intOf]; omega
    · obtain rfl : k = n := by omega
      have hcmp' : ¬ (k : Int) < a0 % 40 := by rw [HN.out]; omega
      clear hcat hol
      go_wp2_with fail
      go_loopw [8, 9, 10, 26] (fun bv _ _ iv wr => ∃ j : Nat, j ≤ cs.length ∧ iv = .int .i64 j ∧ bv = .string ⟨(lk cs (opn k) j).toArray⟩ ∧ Only [] w wr) (fun _ _ _ iv _ => cs.length - (intOf iv).toNat)
      case atStart => exact ⟨0, by omega, rfl, rfl, HO1.out⟩
      case round =>
        obtain ⟨j, hj, rfl, rfl, ho⟩ := hrel
        have HO := Lib.hid ho
        clear ho
        unfold maxLen at hmx
        have hlk := lk_len cs (opn k) j
        rw [opn_len] at hlk
        by_cases hltj : j < cs.length
        · obtain ⟨b, o, rfl, hcb⟩ := HK.out (by omega)
          have c1 := HO.out.cell_some (hcb j hltj) (by simp)
          have hr := bt_range cs j
          by_cases h9 : j < 9
          · have htab := sgnL_tab (bt cs j % 4).toNat
            have hcat := str_append2 (lk cs (opn k) j) [sgnL (bt cs j % 4).toNat]
            have hcv : (convert 22 9 (.slice (some ⟨wr.heap.size, 0, none⟩) 1 1)).run Tryz.prog (wr.alloc (.cells #[.int .u8 ((sgnL (bt cs j % 4).toNat).toNat : Int)] 5)) = .ok (.string ⟨[sgnL (bt cs j % 4).toNat].toArray⟩) (wr.alloc (.cells #[.int .u8 ((sgnL (bt cs j % 4).toNat).toNat : Int)] 5)) :=
              conv_bytes (l := [sgnL (bt cs j % 4).toNat]) ⟨_, 1, rfl, by simp, by unfold maxLen; omega, fun _ => ⟨_, 0, rfl, fun i hi => by
                obtain rfl : i = 0 := by simp at hi; omega
                rw [Nat.zero_add, cell_blk (alloc_new wr _)]; rfl⟩⟩ _ _ 5 Tryz.underlying22 Tryz.underlying5 Tryz.underlying9
            go_wp2_with fail
            go_roundw
            case rel => exact ⟨j + 1, by omega, by go_num, by rw [lk, if_pos h9], HO.out.alloc _⟩
            case measure => simp [intOf]; omega
          · go_wp2_with fail
            go_roundw
            case rel => exact ⟨j + 1, by omega, by go_num, by rw [lk, if_neg h9], HO.out⟩
            case measure => simp [intOf]; omega
        · obtain rfl : j = cs.length := by omega
          obtain ⟨wo, hwo⟩ : ∃ wo, wo = wr := ⟨_, rfl⟩
          subst hwo
          go_wp2_with fail
          go_loopw [8, 42] (fun bv iv wr => ∃ i : Nat, i ≤ k ∧ iv = .int .i64 i ∧ bv = .string ⟨(shu (lk cs (opn k) cs.length) i).toArray⟩ ∧ wr = wo) (fun _ iv _ => k - (intOf iv).toNat)
          case atStart => exact ⟨0, by omega, rfl, rfl, rfl⟩
          case round =>
            obtain ⟨i, hi, rfl, rfl, rfl⟩ := hrel
            by_cases hlti : i < k
            · have hcat := str_append2 (shu (lk cs (opn k) cs.length) i) [41]
              have hsl := shu_len (lk cs (opn k) cs.length) i
              have hcmp' : (i : Int) < a0 % 40 := by rw [HN.out]; omega
              go_wp2_with fail
              go_roundw
              case rel => first | exact ⟨i + 1, by omega, by go_num, rfl, rfl⟩ | exact ⟨i + 1, by omega, by go_num, rfl, trivial⟩
              case measure => simp [intOf]; omega
            · obtain rfl : i = k := by omega
              have hcmp' : ¬ (i : Int) < a0 % 40 := by rw [HN.out]; omega
              obtain ⟨c', w3, hcv, ho3, hv3⟩ := conv_str B (by rw [HLB.out]; unfold maxLen; omega) wr
              have HO3 := Lib.hid (HO.out.trans ho3)
              have HV3 := Lib.hid hv3
              clear ho3 hv3 hlk
              rw [HBV.out] at hcv
              rw [show shu (lk cs (opn i) cs.length) i = linkQ cs i from rfl]
              have hc0 := str_append2 (linkQ cs i) [32, 121]
              go_wp2_with fail
              refine (lex_plain B _ w3 (HE.out.keep0 HO3.out) HV3.out (by rw [HLB.out]; omega) HNO.out).mono ?_
              rintro e w4 ⟨bs, bl, rfl, ho4, -, -, hs4⟩
              have HO4 := Lib.hid (HO3.out.trans ho4)
              have HS4 := Lib.hid hs4
              clear ho4 hs4 hcv hcmp'
              go_wp2_with fail
              refine (at_int bs bl 3 3 rfl _ w4 HS4.out (by rw [HLEN.out, HLB.out]; omega)).mono ?_
              rintro e w5 ⟨rfl, rfl⟩
              rw [H3.out]

              go_wp2_with fail
              refine (at_int bs bl _ (B.length - 1) ?ci _ w4 HS4.out (by rw [HLEN.out, HLB.out]; omega)).mono ?_
              case ci => rw [HLB.out]; omega
              rintro e w5 ⟨rfl, rfl⟩
              rw [HL.out]
              go_wp2_with fail
              refine (at_int bs bl 1 1 rfl _ w4 HS4.out (by rw [HLEN.out, HLB.out]; omega)).mono ?_
              rintro e w5 ⟨rfl, rfl⟩
              rw [H1.out]
              go_wp2_with fail
              refine (segs_any bs bl _ w4 HS4.out).mono ?_
              rintro e w5 ⟨va, rfl, ho5, hv5⟩
              rw [HLEN.out] at hv5
              obtain ⟨g, cg, rfl, -, hcg, hmem⟩ := segs_mem hv5 HS0.out
              have HMEM := Lib.hid hmem
              have HO5 := Lib.hid (HO4.out.trans ho5)
              clear hmem hv5 ho5
              go_wp2_with fail
              rw [← HBV.out]
              refine (rmark_one (P0 B.length) B w5 HONE.out (P0_ok _ _)).mono ?_
              rintro e w6 ⟨bl2, rfl, ho6, -, hlab6⟩
              rw [← HM.out] at hlab6
              have HLAB6 := Lib.hid hlab6
              have HO6 := Lib.hid ho6
              clear hlab6 ho6
              go_wp2_with fail
              refine (rsegs_int bl2 B.length _ HLEN.out w6 HLAB6.out).mono ?_
              rintro e w7 ⟨vb, rfl, ho7, hv7⟩
              rw [HLEN.out] at hv7
              obtain ⟨g2, cg2, rfl, -, hcg2, hmem2⟩ := segs_mem hv7 HS0.out
              have HMEM2 := Lib.hid hmem2
              have HO7 := Lib.hid (HO6.out.trans ho7)
              have hsl := segsTo_length (markL P0 B) B.length
              have HSL := Lib.hid hsl
              clear hmem2 hv7 ho7 hsl
              go_wp2_with fail
              refine (rsame_any (segsTo (markL P0 B) B.length) g g2 cg cg2 w7 (by have := HSL.out; have := HLB.out; omega) (fun k s hs => by
                obtain ⟨m0, m1, m2⟩ := HMEM.out k s hs
                exact ⟨HO7.out.cell_some m0 (by simp), HO7.out.cell_some m1 (by simp), HO7.out.cell_some m2 (by simp)⟩) HMEM2.out).mono ?_
              rintro e w8 ⟨rfl, ho8⟩
              have HO8 := Lib.hid (HO5.out.trans (HO7.out.trans ho8))
              clear ho8
              go_wp2_with fail
              go_ret
              exact ⟨rfl, HO8.out⟩
end Go.Proofs.YtpohopmggpiomaaGreatDoor
