/-
  redpenlaw12.MarkFences: the walk of the law.
-/
import Derived.Test.YtpohopmggpiomaaDoorFenA
namespace Go.Proofs.YtpohopmggpiomaaDoor
open Go.RowKit

/-- The text without the sign, so far. -/
def clT (c : UInt8) (t : List UInt8) (k : Nat) : List UInt8 := (t.take k).filter fun b => b != c
theorem clT_succ (c : UInt8) (t : List UInt8) (k : Nat) (h : k < t.length) : clT c t (k + 1) = if t.getD k 0 = c then clT c t k else clT c t k ++ [t.getD k 0] := by
  unfold clT
  rw [List.take_succ_eq_append_getElem h, List.filter_append]
  have e : t.getD k 0 = t[k] := by simp [List.getD_eq_getElem?_getD, h]
  rw [e]
  by_cases hc : t[k] = c
  · rw [if_pos hc]; simp [hc]
  · rw [if_neg hc]; simp [hc]
theorem clT_len (c : UInt8) (t : List UInt8) (k : Nat) : (clT c t k).length ≤ k := by
  unfold clT
  have := List.length_filter_le (fun b => b != c) (t.take k)
  rw [List.length_take] at this
  omega
theorem clT_ne (c : UInt8) (t : List UInt8) (k : Nat) : ∀ b ∈ clT c t k, b ≠ c := by
  intro b hb
  have := (List.mem_filter.1 hb).2
  simpa using this
theorem byteRow_app (a b : List UInt8) : byteRow (a ++ b) = byteRow a ++ byteRow b := by simp [byteRow]

theorem right_nth (A M : List Int) (i : Nat) : nth (A ++ M) (A.length + i) = nth M i := by
  simp [nth, List.getD_eq_getElem?_getD, List.getElem?_append_right]
theorem fence_nth (n : Nat) (M : List Int) (j : Nat) (h : j < n) : nth (putR (List.replicate n 1) 2 n 4 ++ M) j = if 2 ≤ j then 4 else 1 := by
  have h1 : nth (putR (List.replicate n 1) 2 n 4 ++ M) j = nth (putR (List.replicate n 1) 2 n 4) j := by
    unfold nth
    rw [List.getD_eq_getElem?_getD, List.getD_eq_getElem?_getD, List.getElem?_append_left (by rw [putR_length, List.length_replicate]; exact h)]
  rw [h1, putR_get _ _ _ _ _ (by rw [List.length_replicate]; exact h), nth_replicate _ _ _ h]
  by_cases h2 : 2 ≤ j
  · rw [if_pos ⟨h2, h⟩, if_pos h2]
  · rw [if_neg (fun hh => h2 hh.1), if_neg h2]
theorem at_int (bs bl : Nat) (i : Int) (n : Nat) (l : List Int) (w : World) (hi : i = (n : Int)) (h : SheetAt w bs bl l) (hn : n < l.length) :
    Calls Tryd.prog 10 #[.pointer (some ⟨bs, 0, none⟩), .int .i64 i] w fun e w' => e = .returned (.int .u8 (nth l n)) ∧ w = w' := by
  subst hi
  exact at_in bs bl n l w h hn

set_option maxRecDepth 100000 in
set_option maxHeartbeats 4000000 in
theorem fences_walk_t (cs : List UInt8) (v : Value) (a1 : Int) (m : Nat) (bs : List UInt8) (v3 : Value) (w : World) (hE : Env w) (hv : BytesV w v cs) (hv3 : BytesV w v3 bs) (h1 : 0 ≤ a1 ∧ a1 ≤ 255) (hm : 3 + a1 % 5 = (m : Int))
    (hl0 : cs.length ≤ 500) (hl3 : bs.length ≤ 300) :
    Calls Tryd.prog 4 #[v, .int .u8 a1, .bool false, v3] w fun e w' => e = .returned (.bool true) ∧ Only [] w w' := by
  have HV3 := Lib.hid hv3
  have HE := Lib.hid hE
  obtain ⟨p, cp, rfl, hcc, hmm, hk⟩ := hv
  obtain ⟨p3, cp3, rfl, hcc3, hmm3, -⟩ := hv3
  have HK := Lib.hid hk
  have HM := Lib.hid hm
  have hm7 : 3 ≤ m ∧ m ≤ 7 := by omega
  have hm7' : (m : Int) ≤ 7 := by omega
  clear hE hk hm
  have hl0' : decide ((500 : Int) < (cs.length : Int)) = false := decide_eq_false (by omega)
  have hl3' : decide ((300 : Int) < (bs.length : Int)) = false := decide_eq_false (by omega)
  go_enter Tryd.func4, Tryd.ntmps4
  go_wp2_with (go_at_call 7; refine (awake_any _ HE.out).mono ?_; rintro e w1 ⟨rfl, ho1⟩; have HO1 := Lib.hid ho1; clear ho1)
  go_loopw [10, 13, 35] (fun cv _ iv wr => ∃ k : Nat, k ≤ cs.length ∧ iv = .int .i64 k ∧ Only [] w wr ∧ wr.ownsRow w.heap.size 5 1 cv (clT 96 cs k).length (byteRow (clT 96 cs k))) (fun _ _ iv _ => cs.length - (intOf iv).toNat)
  case atStart => exact ⟨0, by omega, rfl, HO1.out, World.ownsRow_nil _ _ _ _⟩
  case round =>
    obtain ⟨k, hk, rfl, ho, hown⟩ := hrel
    obtain ⟨pc, cc, rfl, -⟩ := ownsRow_shape hown
    have HO := Lib.hid ho
    have HOWN := Lib.hid hown
    clear ho hown
    by_cases hlt : k < cs.length
    · obtain ⟨b, o, rfl, hcb⟩ := HK.out (by omega)
      have c1 := HO.out.cell_some (hcb k hlt) (by simp)
      have hcl := clT_len 96 cs k
      have hsu := clT_succ 96 cs k hlt
      have hr := bt_range cs k
      rw [bt_u8] at c1 hr
      generalize cs.getD k 0 = x at *
      by_cases hx : x = 96
      · subst hx
        rw [if_pos rfl] at hsu
        have HSU := Lib.hid hsu
        clear hsu hcb
        go_wp2_with fail
        go_roundw
        case rel => exact ⟨k + 1, by omega, by go_num, HO.out, by rw [HSU.out]; exact HOWN.out⟩
        case measure => simp [intOf]; omega
      · rw [if_neg hx] at hsu
        have hxi : (((x.toNat : Nat) : Int) != 96) = true := by
          simp only [bne_iff_ne, ne_eq]
          intro e
          exact hx (UInt8.toNat_inj.1 (by have : (96 : UInt8).toNat = 96 := rfl; omega))
        have HSU := Lib.hid hsu
        clear hsu hcb hx
        go_wp2_with (at_builtin; refine wpList_append_lit rfl (.tmp 42) (.tmp 44) 22 rfl w [] 5 (.int .u8 0) 1 1 Tryd.underlying22 infoByte rfl (by decide) (.slice pc (clT 96 cs k).length cc) (clT 96 cs k).length (byteRow (clT 96 cs k)) rfl HOWN.out HO.out wr.heap.size 1 [.int .u8 (x.toNat : Int)] rfl rfl rfl (by simp [Value.oneCell']) (by unfold maxLen; omega) (by omega) ?_)
        intro v' w2 hown2 ho2
        have HOWN2 := Lib.hid hown2
        have HO2 := Lib.hid ho2
        clear hown2 ho2
        go_wp2_with fail
        go_roundw
        case rel => exact ⟨k + 1, by omega, by go_num, HO2.out, by rw [HSU.out, List.length_append, byteRow_app]; exact HOWN2.out⟩
        case measure => simp [intOf]; omega
    · obtain rfl : k = cs.length := by omega
      go_wp2_with fail
      have hclen := clT_len 96 cs cs.length
      have hcne := clT_ne 96 cs cs.length
      generalize hCC : clT 96 cs cs.length = C at *
      have HCNE := Lib.hid hcne
      clear hcne hCC
      obtain ⟨wo, hwo⟩ : ∃ wo, wo = wr := ⟨_, rfl⟩
      subst hwo
      go_loopw [11, 50] (fun fv iv wr => ∃ k : Nat, k ≤ m ∧ iv = .int .u8 k ∧ Only [] wo wr ∧ wr.ownsRow wo.heap.size 5 1 fv k (byteRow (List.replicate k 96))) (fun _ iv _ => m - (intOf iv).toNat)
      case atStart => exact ⟨0, by omega, rfl, Only.refl _ _, World.ownsRow_nil _ _ _ _⟩
      case round =>
        obtain ⟨k, hk, rfl, ho, hown⟩ := hrel
        obtain ⟨pf, cf, rfl, -⟩ := ownsRow_shape hown
        have HOF := Lib.hid ho
        have HOWNF := Lib.hid hown
        clear ho hown
        by_cases hlt : k < m
        · have hki : (k : Int) < 3 + a1 % 5 := by have := HM.out; omega
          go_wp2_with (at_builtin; refine wpList_append_lit rfl (.tmp 52) (.tmp 54) 22 rfl wo [] 5 (.int .u8 0) 1 1 Tryd.underlying22 infoByte rfl (by decide) (.slice pf k cf) k (byteRow (List.replicate k 96)) rfl HOWNF.out HOF.out wr.heap.size 1 [.int .u8 96] rfl rfl rfl (by simp [Value.oneCell']) (by unfold maxLen; omega) (by omega) ?_)
          intro v' w2 hown2 ho2
          have HOWN2 := Lib.hid hown2
          have HO2 := Lib.hid ho2
          clear hown2 ho2
          go_wp2_with fail
          go_roundw
          case rel => exact ⟨k + 1, by omega, by go_num, HO2.out, by rw [List.replicate_succ', byteRow_app]; exact HOWN2.out⟩
          case measure => simp [intOf]; omega
        · obtain rfl : k = m := by omega
          have hki : ¬ ((k : Int) < 3 + a1 % 5) := by have := HM.out; omega
          have kc := fun (w : World) (C : Array Value) (n c : Nat) => Lib.run_convert_bytes_const (P := Tryd.prog) w 22 5 C n c Tryd.underlying22 Tryd.underlying5
          have hCr := ownsRow_only HOWN.out HOF.out (by simp)
          have hFl : (List.replicate k (96 : UInt8)).length = k := List.length_replicate
          have hFb := BytesV.of_row (l := List.replicate k (96 : UInt8)) (n := k) HOWNF.out
          have hCb := BytesV.of_row (l := C) (n := C.length) hCr
          have HFB := Lib.hid hFb
          have HCB := Lib.hid hCb
          have HOW := Lib.hid (HO.out.trans HOF.out)
          clear hCr hFb hCb HOWN HOWNF HOF HO
          generalize hF : List.replicate k (96 : UInt8) = F at *
          have HF := Lib.hid hF
          clear hF
          go_wp2_with (at_builtin; refine wp_append_two rfl (.tmp 58) (.tmp 59) rfl wr.heap.size [120, 10] F 2 rfl (.slice pf k cf) rfl rfl ?_ ?_ ?_ ?_)
          · intro j hj
            have hg := alloc_new wr (.cells #[.int .u8 120, .int .u8 10] 5 (2, 3))
            rw [cell_blk hg]
            have hj2 : j < 2 := hj
            have : j = 0 ∨ j = 1 := by omega
            rcases this with rfl | rfl <;> rfl
          · have := Src.bytes Tryd.underlying22 (HFB.out.keep fun p x hp => ((Only.refl [] wr).alloc (.cells #[.int .u8 120, .int .u8 10] 5 (2, 3))).cell_some hp (by simp))
            simpa [hFl] using this
          · show 2 + _ ≤ _
            omega
          intro v6 w6 ho6 _ hr6
          have h5 : (wr.alloc (.cells #[.int .u8 120, .int .u8 10] 5 (2, 3))).heap.size = wr.heap.size + 1 := by simp
          have hown6 := hr6 (by omega)
          rw [← h5] at hown6
          have hA5 : Only [] wr (wr.alloc (.cells #[.int .u8 120, .int .u8 10] 5 (2, 3))) := (Only.refl [] wr).alloc _
          have HFB5 := Lib.hid (HFB.out.keep fun p x hp => hA5.cell_some hp (by simp))
          have HCB5 := Lib.hid (HCB.out.keep fun p x hp => hA5.cell_some hp (by simp))
          have HOW5 := Lib.hid (HOW.out.trans hA5)
          clear hr6 h5 hA5 HFB HCB HOW
          generalize wr.alloc (.cells #[.int .u8 120, .int .u8 10] 5 (2, 3)) = w5 at *
          obtain ⟨n6, hn6⟩ : ∃ n6, n6 = k + 1 + 1 := ⟨_, rfl⟩
          rw [← hn6] at hown6
          generalize hX6 : byteRow (120 :: 10 :: F) = X6 at *
          generalize hXC : byteRow C = XC at *
          generalize hXF : byteRow F = XF at *
          have HX := Lib.hid (And.intro hX6 (And.intro hXC hXF))
          obtain ⟨p6, c6, rfl, -⟩ := ownsRow_shape hown6
          have HW6 := Lib.hid hown6
          have HO6 := Lib.hid ho6
          have hn6b : n6 ≤ 9 := by omega
          have HN6 := Lib.hid hn6
          clear hown6 ho6 hX6 hXC hXF hn6
          go_wp2_with (at_builtin; refine wpList_append_lit rfl (.tmp 60) (.tmp 61) 22 rfl w5 [] 5 (.int .u8 0) 1 1 Tryd.underlying22 infoByte rfl (by decide) (.slice p6 n6 c6) n6 X6 rfl HW6.out HO6.out w6.heap.size 1 [.int .u8 10] rfl rfl rfl (by simp [Value.oneCell']) (by unfold maxLen; omega) (by omega) ?_)
          intro v7 w7 hown7 ho7
          obtain ⟨n7, hn7⟩ : ∃ N, N = n6 + 1 := ⟨_, rfl⟩
          obtain ⟨X7, hX7⟩ : ∃ X, X = X6 ++ [.int .u8 10] := ⟨_, rfl⟩
          have hq7 : w7.ownsRow w5.heap.size 5 1 v7 n7 X7 := by rw [hn7, hX7]; simpa using hown7
          have hb7 : n7 ≤ 10 := by omega
          obtain ⟨p7, c7, rfl, -⟩ := ownsRow_shape hq7
          have HW7 := Lib.hid hq7
          have HO7 := Lib.hid ho7
          have HN7 := Lib.hid hn7
          have HX7 := Lib.hid hX7
          clear hown7 ho7 hq7 hn7 hX7
          go_wp2_with (at_builtin; refine wpList_append_src rfl (.tmp 63) (.tmp 64) 22 22 rfl w5 [] 5 (.int .u8 0) 1 1 Tryd.underlying22 infoByte rfl (by decide) (.slice p7 n7 c7) n7 X7 rfl HW7.out HO7.out _ C.length XC rfl (by have := Src.bytes Tryd.underlying22 (HCB5.out.keep fun p x hp => HO7.out.cell_some hp (by simp)); rw [HX.out.2.1] at this; exact this) (by unfold maxLen; omega) (by omega) ?_)
          intro v8 w8 hown8 ho8
          obtain ⟨n8, hn8⟩ : ∃ N, N = n7 + C.length := ⟨_, rfl⟩
          obtain ⟨X8, hX8⟩ : ∃ X, X = X7 ++ XC := ⟨_, rfl⟩
          have hq8 : w8.ownsRow w5.heap.size 5 1 v8 n8 X8 := by rw [hn8, hX8]; simpa using hown8
          have hb8 : n8 ≤ 510 := by omega
          obtain ⟨p8, c8, rfl, -⟩ := ownsRow_shape hq8
          have HW8 := Lib.hid hq8
          have HO8 := Lib.hid ho8
          have HN8 := Lib.hid hn8
          have HX8 := Lib.hid hX8
          clear hown8 ho8 hq8 hn8 hX8
          go_wp2_with (at_builtin; refine wpList_append_lit rfl (.tmp 65) (.tmp 66) 22 rfl w5 [] 5 (.int .u8 0) 1 1 Tryd.underlying22 infoByte rfl (by decide) (.slice p8 n8 c8) n8 X8 rfl HW8.out HO8.out w8.heap.size 1 [.int .u8 10] rfl rfl rfl (by simp [Value.oneCell']) (by unfold maxLen; omega) (by omega) ?_)
          intro v9 w9 hown9 ho9
          obtain ⟨n9, hn9⟩ : ∃ N, N = n8 + 1 := ⟨_, rfl⟩
          obtain ⟨X9, hX9⟩ : ∃ X, X = X8 ++ [.int .u8 10] := ⟨_, rfl⟩
          have hq9 : w9.ownsRow w5.heap.size 5 1 v9 n9 X9 := by rw [hn9, hX9]; simpa using hown9
          have hb9 : n9 ≤ 511 := by omega
          obtain ⟨p9, c9, rfl, -⟩ := ownsRow_shape hq9
          have HW9 := Lib.hid hq9
          have HO9 := Lib.hid ho9
          have HN9 := Lib.hid hn9
          have HX9 := Lib.hid hX9
          clear hown9 ho9 hq9 hn9 hX9
          go_wp2_with (at_builtin; refine wpList_append_src rfl (.tmp 67) (.tmp 68) 22 22 rfl w5 [] 5 (.int .u8 0) 1 1 Tryd.underlying22 infoByte rfl (by decide) (.slice p9 n9 c9) n9 X9 rfl HW9.out HO9.out _ k XF rfl (by have := Src.bytes Tryd.underlying22 (HFB5.out.keep fun p x hp => HO9.out.cell_some hp (by simp)); rw [HX.out.2.2, hFl] at this; exact this) (by unfold maxLen; omega) (by omega) ?_)
          intro v10 w10 hown10 ho10
          obtain ⟨n10, hn10⟩ : ∃ N, N = n9 + k := ⟨_, rfl⟩
          obtain ⟨X10, hX10⟩ : ∃ X, X = X9 ++ XF := ⟨_, rfl⟩
          have hq10 : w10.ownsRow w5.heap.size 5 1 v10 n10 X10 := by rw [hn10, hX10]; simpa using hown10
          have hb10 : n10 ≤ 518 := by omega
          obtain ⟨p10, c10, rfl, -⟩ := ownsRow_shape hq10
          have HW10 := Lib.hid hq10
          have HO10 := Lib.hid ho10
          have HN10 := Lib.hid hn10
          have HX10 := Lib.hid hX10
          clear hown10 ho10 hq10 hn10 hX10
          go_wp2_with (at_builtin; refine wpList_append_lit rfl (.tmp 70) (.tmp 71) 22 rfl w5 [] 5 (.int .u8 0) 1 1 Tryd.underlying22 infoByte rfl (by decide) (.slice p10 n10 c10) n10 X10 rfl HW10.out HO10.out w10.heap.size 1 [.int .u8 10] rfl rfl rfl (by simp [Value.oneCell']) (by unfold maxLen; omega) (by omega) ?_)
          intro v11 w11 hown11 ho11
          obtain ⟨n11, hn11⟩ : ∃ N, N = n10 + 1 := ⟨_, rfl⟩
          obtain ⟨X11, hX11⟩ : ∃ X, X = X10 ++ [.int .u8 10] := ⟨_, rfl⟩
          have hq11 : w11.ownsRow w5.heap.size 5 1 v11 n11 X11 := by rw [hn11, hX11]; simpa using hown11
          have hb11 : n11 ≤ 519 := by omega
          obtain ⟨p11, c11, rfl, -⟩ := ownsRow_shape hq11
          have HW11 := Lib.hid hq11
          have HO11 := Lib.hid ho11
          have HN11 := Lib.hid hn11
          have HX11 := Lib.hid hX11
          clear hown11 ho11 hq11 hn11 hX11
          have hXB : X11 = byteRow (fen 96 k C) := by
            rw [HX11.out, HX10.out, HX9.out, HX8.out, HX7.out, ← HX.out.1, ← HX.out.2.1, ← HX.out.2.2, ← HF.out]
            simp [fen, byteRow]
          have hnB : (fen 96 k C).length = n11 := by
            have h := HW11.out.1
            rw [hXB, byteRow_length] at h
            omega
          have HV35 := Lib.hid (HV3.out.keep fun p x hp => HOW5.out.cell_some hp (by simp))
          have HXB := Lib.hid hXB
          have HNB := Lib.hid hnB
          clear hXB hnB
          go_wp2_with (at_builtin; refine wpList_append_src rfl (.tmp 76) (.tmp 77) 22 22 rfl w5 [] 5 (.int .u8 0) 1 1 Tryd.underlying22 infoByte rfl (by decide) (.slice p11 n11 c11) n11 X11 rfl HW11.out HO11.out _ bs.length (byteRow bs) rfl (Src.bytes Tryd.underlying22 (HV35.out.keep fun p x hp => HO11.out.cell_some hp (by simp))) (by unfold maxLen; omega) (by omega) ?_)
          intro v12 w12 hown12 ho12
          have hB12 : BytesV w12 v12 (fen 96 k C ++ bs) := by
            have h : w12.ownsRow w5.heap.size 5 1 v12 (fen 96 k C ++ bs).length (byteRow (fen 96 k C ++ bs)) := by
              rw [byteRow_app, List.length_append, HNB.out, ← HXB.out]; exact hown12
            exact BytesV.of_row (l := fen 96 k C ++ bs) (n := (fen 96 k C ++ bs).length) h
          have hlenB : (fen 96 k C ++ bs).length = n11 + bs.length := by rw [List.length_append, HNB.out]
          have hsgn : Sgn 96 := by unfold Sgn; decide
          have hml := mark_fence hsgn k hm7.1 C bs HCNE.out
          have HML := Lib.hid hml
          have HB12 := Lib.hid hB12
          have HO12 := Lib.hid (HOW5.out.trans ho12)
          have HLB := Lib.hid hlenB
          clear hown12 ho12 hB12 hml hlenB hsgn
          go_wp2_with fail
          refine (lex_full (fen 96 k C ++ bs) v12 w12 (HE.out.keep0 HO12.out) HB12.out (by rw [HLB.out]; omega) (by rw [HLB.out]; have := HN11.out; omega)).mono ?_
          rintro e w13 ⟨s1, t1, rfl, ho13, -, -, hs13⟩
          rw [HML.out, HNB.out] at hs13
          have HS13 := Lib.hid hs13
          have HO13 := Lib.hid (HO12.out.trans ho13)
          clear hs13 ho13
          go_wp2_with (at_builtin; refine wp_append_two rfl (.tmp 84) (.tmp 85) rfl w13.heap.size [121, 10] bs 2 rfl (.slice p3 bs.length cp3) rfl rfl ?_ ?_ ?_ ?_)
          · intro j hj
            have hg := alloc_new w13 (.cells #[.int .u8 121, .int .u8 10] 5 (2, 3))
            rw [cell_blk hg]
            have hj2 : j < 2 := hj
            have : j = 0 ∨ j = 1 := by omega
            rcases this with rfl | rfl <;> rfl
          · exact Src.bytes Tryd.underlying22 (HV3.out.keep fun p x hp => (HO13.out.alloc (.cells #[.int .u8 121, .int .u8 10] 5 (2, 3))).cell_some hp (by simp))
          · show 2 + _ ≤ _
            omega
          intro v14 w14 ho14 hB14 _
          have hm2 := mark_other bs
          have hA14 : Only [] w13 w14 := ((Only.refl [] w13).alloc _).trans ho14
          have HS14 := Lib.hid (HS13.out.keep hA14 (by simp) (by simp))
          have HO14 := Lib.hid (HO13.out.trans hA14)
          have HB14 : Hid (BytesV w14 v14 ([121, 10] ++ bs)) := Lib.hid hB14
          have HM2 := Lib.hid hm2
          clear hB14 ho14 hm2 hA14 HS13 HO13
          go_wp2_with fail
          refine (lex_full ([121, 10] ++ bs) v14 w14 (HE.out.keep0 HO14.out) HB14.out (by simp; omega) (by simp)).mono ?_
          rintro e w15 ⟨s2, t2, rfl, ho15, -, -, hs15⟩
          rw [HM2.out] at hs15
          have HS15 := Lib.hid hs15
          have HS16 := Lib.hid (HS14.out.keep ho15 (by simp) (by simp))
          have HO15 := Lib.hid (HO14.out.trans ho15)
          clear hs15 ho15 HS14 HO14
          have hn2 : 2 ≤ n11 := by have := HN11.out; have := HN6.out; have := HN7.out; have := HN8.out; have := HN9.out; have := HN10.out; omega
          have HLEN1 : Hid ((putR (List.replicate n11 1) 2 n11 4 ++ behL bs).length = n11 + bs.length) := Lib.hid (by rw [List.length_append, putR_length, List.length_replicate, behL_length])
          have HLEN2 : Hid (([1, 1] ++ behL bs : List Int).length = 2 + bs.length) := Lib.hid (by rw [List.length_append, behL_length]; rfl)
          have HN1 := Lib.hid (fence_nth n11 (behL bs))
          have HR1 := Lib.hid (fun i => right_nth (putR (List.replicate n11 1) 2 n11 4) (behL bs) i)
          have HR2 := Lib.hid (fun i => right_nth [1, 1] (behL bs) i)
          generalize putR (List.replicate n11 1) 2 n11 4 ++ behL bs = L1 at *
          generalize ([1, 1] ++ behL bs : List Int) = L2 at *
          go_wp2_with fail
          have e0 := HN1.out 0 (by omega)
          have e1 := HN1.out 1 (by omega)
          refine (at_in s1 t1 0 _ w15 HS16.out (by rw [HLEN1.out]; omega)).mono ?_
          rintro e w16 ⟨rfl, rfl⟩
          rw [e0]
          go_wp2_with fail
          refine (at_in s1 t1 1 _ w15 HS16.out (by rw [HLEN1.out]; omega)).mono ?_
          rintro e w16 ⟨rfl, rfl⟩
          rw [e1]
          clear e0 e1
          go_wp2_with fail
          go_loopw [20] (fun iv wr => wr = w15 ∧ ∃ j : Nat, 2 ≤ j ∧ j ≤ n11 ∧ iv = .int .i64 j) (fun iv _ => n11 - (intOf iv).toNat)
          case atStart => exact ⟨rfl, 2, by omega, by omega, rfl⟩
          case round =>
            obtain ⟨rfl, j, hj2, hjn, rfl⟩ := hrel
            by_cases hjl : j < n11
            · have ej := HN1.out j hjl
              rw [if_pos hj2] at ej
              have EJ := Lib.hid ej
              have HA := Lib.hid (at_in s1 t1 j _ wr HS16.out (by rw [HLEN1.out]; omega))
              clear ej
              go_wp2_with fail
              refine HA.out.mono ?_
              rintro e w16 ⟨rfl, rfl⟩
              rw [EJ.out]
              go_wp2_with fail
              go_roundw
              case rel => exact ⟨by first | rfl | trivial, j + 1, by omega, by omega, by go_num⟩
              case measure => simp [intOf]; omega
            · go_wp2_with fail
              obtain ⟨wo2, hwo2⟩ : ∃ wo2, wo2 = wr := ⟨_, rfl⟩
              subst hwo2
              go_loopw [21, 109] (fun _ iv wr => wr = wo2 ∧ ∃ j : Nat, j ≤ bs.length ∧ iv = .int .i64 j) (fun _ iv _ => bs.length - (intOf iv).toNat)
              case atStart => exact ⟨rfl, 0, by omega, rfl⟩
              case round =>
                obtain ⟨rfl, j, hjn, rfl⟩ := hrel
                by_cases hjl : j < bs.length
                · have ea : nth L1 (n11 + j) = nth (behL bs) j := by
                    have := HR1.out j
                    rwa [putR_length, List.length_replicate] at this
                  have eb : nth L2 (2 + j) = nth (behL bs) j := HR2.out j
                  have HA := Lib.hid (at_int s1 t1 ((n11 : Int) + j) (n11 + j) _ wr (by omega) HS16.out (by rw [HLEN1.out]; omega))
                  have HB := Lib.hid (at_int s2 t2 (2 + (j : Int)) (2 + j) _ wr (by omega) HS15.out (by rw [HLEN2.out]; omega))
                  rw [ea] at HA
                  rw [eb] at HB
                  clear ea eb
                  generalize nth (behL bs) j = y at *
                  go_wp2_with fail
                  refine HA.out.mono ?_
                  rintro e w16 ⟨rfl, rfl⟩
                  go_wp2_with fail
                  refine HB.out.mono ?_
                  rintro e w16 ⟨rfl, rfl⟩
                  go_wp2_with fail
                  go_roundw
                  case rel => exact ⟨by first | rfl | trivial, j + 1, by omega, by go_num⟩
                  case measure => simp [intOf]; omega
                · go_wp2_with fail
                  go_ret
                  exact ⟨rfl, HO15.out⟩

set_option maxRecDepth 100000 in
set_option maxHeartbeats 4000000 in
theorem fences_walk_w (cs : List UInt8) (v : Value) (a1 : Int) (m : Nat) (bs : List UInt8) (v3 : Value) (w : World) (hE : Env w) (hv : BytesV w v cs) (hv3 : BytesV w v3 bs) (h1 : 0 ≤ a1 ∧ a1 ≤ 255) (hm : 3 + a1 % 5 = (m : Int))
    (hl0 : cs.length ≤ 500) (hl3 : bs.length ≤ 300) :
    Calls Tryd.prog 4 #[v, .int .u8 a1, .bool true, v3] w fun e w' => e = .returned (.bool true) ∧ Only [] w w' := by
  have HV3 := Lib.hid hv3
  have HE := Lib.hid hE
  obtain ⟨p, cp, rfl, hcc, hmm, hk⟩ := hv
  obtain ⟨p3, cp3, rfl, hcc3, hmm3, -⟩ := hv3
  have HK := Lib.hid hk
  have HM := Lib.hid hm
  have hm7 : 3 ≤ m ∧ m ≤ 7 := by omega
  have hm7' : (m : Int) ≤ 7 := by omega
  clear hE hk hm
  have hl0' : decide ((500 : Int) < (cs.length : Int)) = false := decide_eq_false (by omega)
  have hl3' : decide ((300 : Int) < (bs.length : Int)) = false := decide_eq_false (by omega)
  go_enter Tryd.func4, Tryd.ntmps4
  go_wp2_with (go_at_call 7; refine (awake_any _ HE.out).mono ?_; rintro e w1 ⟨rfl, ho1⟩; have HO1 := Lib.hid ho1; clear ho1)
  go_loopw [10, 13, 35] (fun cv _ iv wr => ∃ k : Nat, k ≤ cs.length ∧ iv = .int .i64 k ∧ Only [] w wr ∧ wr.ownsRow w.heap.size 5 1 cv (clT 126 cs k).length (byteRow (clT 126 cs k))) (fun _ _ iv _ => cs.length - (intOf iv).toNat)
  case atStart => exact ⟨0, by omega, rfl, HO1.out, World.ownsRow_nil _ _ _ _⟩
  case round =>
    obtain ⟨k, hk, rfl, ho, hown⟩ := hrel
    obtain ⟨pc, cc, rfl, -⟩ := ownsRow_shape hown
    have HO := Lib.hid ho
    have HOWN := Lib.hid hown
    clear ho hown
    by_cases hlt : k < cs.length
    · obtain ⟨b, o, rfl, hcb⟩ := HK.out (by omega)
      have c1 := HO.out.cell_some (hcb k hlt) (by simp)
      have hcl := clT_len 126 cs k
      have hsu := clT_succ 126 cs k hlt
      have hr := bt_range cs k
      rw [bt_u8] at c1 hr
      generalize cs.getD k 0 = x at *
      by_cases hx : x = 126
      · subst hx
        rw [if_pos rfl] at hsu
        have HSU := Lib.hid hsu
        clear hsu hcb
        go_wp2_with fail
        go_roundw
        case rel => exact ⟨k + 1, by omega, by go_num, HO.out, by rw [HSU.out]; exact HOWN.out⟩
        case measure => simp [intOf]; omega
      · rw [if_neg hx] at hsu
        have hxi : (((x.toNat : Nat) : Int) != 126) = true := by
          simp only [bne_iff_ne, ne_eq]
          intro e
          exact hx (UInt8.toNat_inj.1 (by have : (126 : UInt8).toNat = 126 := rfl; omega))
        have HSU := Lib.hid hsu
        clear hsu hcb hx
        go_wp2_with (at_builtin; refine wpList_append_lit rfl (.tmp 42) (.tmp 44) 22 rfl w [] 5 (.int .u8 0) 1 1 Tryd.underlying22 infoByte rfl (by decide) (.slice pc (clT 126 cs k).length cc) (clT 126 cs k).length (byteRow (clT 126 cs k)) rfl HOWN.out HO.out wr.heap.size 1 [.int .u8 (x.toNat : Int)] rfl rfl rfl (by simp [Value.oneCell']) (by unfold maxLen; omega) (by omega) ?_)
        intro v' w2 hown2 ho2
        have HOWN2 := Lib.hid hown2
        have HO2 := Lib.hid ho2
        clear hown2 ho2
        go_wp2_with fail
        go_roundw
        case rel => exact ⟨k + 1, by omega, by go_num, HO2.out, by rw [HSU.out, List.length_append, byteRow_app]; exact HOWN2.out⟩
        case measure => simp [intOf]; omega
    · obtain rfl : k = cs.length := by omega
      go_wp2_with fail
      have hclen := clT_len 126 cs cs.length
      have hcne := clT_ne 126 cs cs.length
      generalize hCC : clT 126 cs cs.length = C at *
      have HCNE := Lib.hid hcne
      clear hcne hCC
      obtain ⟨wo, hwo⟩ : ∃ wo, wo = wr := ⟨_, rfl⟩
      subst hwo
      go_loopw [11, 50] (fun fv iv wr => ∃ k : Nat, k ≤ m ∧ iv = .int .u8 k ∧ Only [] wo wr ∧ wr.ownsRow wo.heap.size 5 1 fv k (byteRow (List.replicate k 126))) (fun _ iv _ => m - (intOf iv).toNat)
      case atStart => exact ⟨0, by omega, rfl, Only.refl _ _, World.ownsRow_nil _ _ _ _⟩
      case round =>
        obtain ⟨k, hk, rfl, ho, hown⟩ := hrel
        obtain ⟨pf, cf, rfl, -⟩ := ownsRow_shape hown
        have HOF := Lib.hid ho
        have HOWNF := Lib.hid hown
        clear ho hown
        by_cases hlt : k < m
        · have hki : (k : Int) < 3 + a1 % 5 := by have := HM.out; omega
          go_wp2_with (at_builtin; refine wpList_append_lit rfl (.tmp 52) (.tmp 54) 22 rfl wo [] 5 (.int .u8 0) 1 1 Tryd.underlying22 infoByte rfl (by decide) (.slice pf k cf) k (byteRow (List.replicate k 126)) rfl HOWNF.out HOF.out wr.heap.size 1 [.int .u8 126] rfl rfl rfl (by simp [Value.oneCell']) (by unfold maxLen; omega) (by omega) ?_)
          intro v' w2 hown2 ho2
          have HOWN2 := Lib.hid hown2
          have HO2 := Lib.hid ho2
          clear hown2 ho2
          go_wp2_with fail
          go_roundw
          case rel => exact ⟨k + 1, by omega, by go_num, HO2.out, by rw [List.replicate_succ', byteRow_app]; exact HOWN2.out⟩
          case measure => simp [intOf]; omega
        · obtain rfl : k = m := by omega
          have hki : ¬ ((k : Int) < 3 + a1 % 5) := by have := HM.out; omega
          have kc := fun (w : World) (C : Array Value) (n c : Nat) => Lib.run_convert_bytes_const (P := Tryd.prog) w 22 5 C n c Tryd.underlying22 Tryd.underlying5
          have hCr := ownsRow_only HOWN.out HOF.out (by simp)
          have hFl : (List.replicate k (126 : UInt8)).length = k := List.length_replicate
          have hFb := BytesV.of_row (l := List.replicate k (126 : UInt8)) (n := k) HOWNF.out
          have hCb := BytesV.of_row (l := C) (n := C.length) hCr
          have HFB := Lib.hid hFb
          have HCB := Lib.hid hCb
          have HOW := Lib.hid (HO.out.trans HOF.out)
          clear hCr hFb hCb HOWN HOWNF HOF HO
          generalize hF : List.replicate k (126 : UInt8) = F at *
          have HF := Lib.hid hF
          clear hF
          go_wp2_with (at_builtin; refine wp_append_two rfl (.tmp 58) (.tmp 59) rfl wr.heap.size [120, 10] F 2 rfl (.slice pf k cf) rfl rfl ?_ ?_ ?_ ?_)
          · intro j hj
            have hg := alloc_new wr (.cells #[.int .u8 120, .int .u8 10] 5 (2, 3))
            rw [cell_blk hg]
            have hj2 : j < 2 := hj
            have : j = 0 ∨ j = 1 := by omega
            rcases this with rfl | rfl <;> rfl
          · have := Src.bytes Tryd.underlying22 (HFB.out.keep fun p x hp => ((Only.refl [] wr).alloc (.cells #[.int .u8 120, .int .u8 10] 5 (2, 3))).cell_some hp (by simp))
            simpa [hFl] using this
          · show 2 + _ ≤ _
            omega
          intro v6 w6 ho6 _ hr6
          have h5 : (wr.alloc (.cells #[.int .u8 120, .int .u8 10] 5 (2, 3))).heap.size = wr.heap.size + 1 := by simp
          have hown6 := hr6 (by omega)
          rw [← h5] at hown6
          have hA5 : Only [] wr (wr.alloc (.cells #[.int .u8 120, .int .u8 10] 5 (2, 3))) := (Only.refl [] wr).alloc _
          have HFB5 := Lib.hid (HFB.out.keep fun p x hp => hA5.cell_some hp (by simp))
          have HCB5 := Lib.hid (HCB.out.keep fun p x hp => hA5.cell_some hp (by simp))
          have HOW5 := Lib.hid (HOW.out.trans hA5)
          clear hr6 h5 hA5 HFB HCB HOW
          generalize wr.alloc (.cells #[.int .u8 120, .int .u8 10] 5 (2, 3)) = w5 at *
          obtain ⟨n6, hn6⟩ : ∃ n6, n6 = k + 1 + 1 := ⟨_, rfl⟩
          rw [← hn6] at hown6
          generalize hX6 : byteRow (120 :: 10 :: F) = X6 at *
          generalize hXC : byteRow C = XC at *
          generalize hXF : byteRow F = XF at *
          have HX := Lib.hid (And.intro hX6 (And.intro hXC hXF))
          obtain ⟨p6, c6, rfl, -⟩ := ownsRow_shape hown6
          have HW6 := Lib.hid hown6
          have HO6 := Lib.hid ho6
          have hn6b : n6 ≤ 9 := by omega
          have HN6 := Lib.hid hn6
          clear hown6 ho6 hX6 hXC hXF hn6
          go_wp2_with (at_builtin; refine wpList_append_lit rfl (.tmp 60) (.tmp 61) 22 rfl w5 [] 5 (.int .u8 0) 1 1 Tryd.underlying22 infoByte rfl (by decide) (.slice p6 n6 c6) n6 X6 rfl HW6.out HO6.out w6.heap.size 1 [.int .u8 10] rfl rfl rfl (by simp [Value.oneCell']) (by unfold maxLen; omega) (by omega) ?_)
          intro v7 w7 hown7 ho7
          obtain ⟨n7, hn7⟩ : ∃ N, N = n6 + 1 := ⟨_, rfl⟩
          obtain ⟨X7, hX7⟩ : ∃ X, X = X6 ++ [.int .u8 10] := ⟨_, rfl⟩
          have hq7 : w7.ownsRow w5.heap.size 5 1 v7 n7 X7 := by rw [hn7, hX7]; simpa using hown7
          have hb7 : n7 ≤ 10 := by omega
          obtain ⟨p7, c7, rfl, -⟩ := ownsRow_shape hq7
          have HW7 := Lib.hid hq7
          have HO7 := Lib.hid ho7
          have HN7 := Lib.hid hn7
          have HX7 := Lib.hid hX7
          clear hown7 ho7 hq7 hn7 hX7
          go_wp2_with (at_builtin; refine wpList_append_src rfl (.tmp 63) (.tmp 64) 22 22 rfl w5 [] 5 (.int .u8 0) 1 1 Tryd.underlying22 infoByte rfl (by decide) (.slice p7 n7 c7) n7 X7 rfl HW7.out HO7.out _ C.length XC rfl (by have := Src.bytes Tryd.underlying22 (HCB5.out.keep fun p x hp => HO7.out.cell_some hp (by simp)); rw [HX.out.2.1] at this; exact this) (by unfold maxLen; omega) (by omega) ?_)
          intro v8 w8 hown8 ho8
          obtain ⟨n8, hn8⟩ : ∃ N, N = n7 + C.length := ⟨_, rfl⟩
          obtain ⟨X8, hX8⟩ : ∃ X, X = X7 ++ XC := ⟨_, rfl⟩
          have hq8 : w8.ownsRow w5.heap.size 5 1 v8 n8 X8 := by rw [hn8, hX8]; simpa using hown8
          have hb8 : n8 ≤ 510 := by omega
          obtain ⟨p8, c8, rfl, -⟩ := ownsRow_shape hq8
          have HW8 := Lib.hid hq8
          have HO8 := Lib.hid ho8
          have HN8 := Lib.hid hn8
          have HX8 := Lib.hid hX8
          clear hown8 ho8 hq8 hn8 hX8
          go_wp2_with (at_builtin; refine wpList_append_lit rfl (.tmp 65) (.tmp 66) 22 rfl w5 [] 5 (.int .u8 0) 1 1 Tryd.underlying22 infoByte rfl (by decide) (.slice p8 n8 c8) n8 X8 rfl HW8.out HO8.out w8.heap.size 1 [.int .u8 10] rfl rfl rfl (by simp [Value.oneCell']) (by unfold maxLen; omega) (by omega) ?_)
          intro v9 w9 hown9 ho9
          obtain ⟨n9, hn9⟩ : ∃ N, N = n8 + 1 := ⟨_, rfl⟩
          obtain ⟨X9, hX9⟩ : ∃ X, X = X8 ++ [.int .u8 10] := ⟨_, rfl⟩
          have hq9 : w9.ownsRow w5.heap.size 5 1 v9 n9 X9 := by rw [hn9, hX9]; simpa using hown9
          have hb9 : n9 ≤ 511 := by omega
          obtain ⟨p9, c9, rfl, -⟩ := ownsRow_shape hq9
          have HW9 := Lib.hid hq9
          have HO9 := Lib.hid ho9
          have HN9 := Lib.hid hn9
          have HX9 := Lib.hid hX9
          clear hown9 ho9 hq9 hn9 hX9
          go_wp2_with (at_builtin; refine wpList_append_src rfl (.tmp 67) (.tmp 68) 22 22 rfl w5 [] 5 (.int .u8 0) 1 1 Tryd.underlying22 infoByte rfl (by decide) (.slice p9 n9 c9) n9 X9 rfl HW9.out HO9.out _ k XF rfl (by have := Src.bytes Tryd.underlying22 (HFB5.out.keep fun p x hp => HO9.out.cell_some hp (by simp)); rw [HX.out.2.2, hFl] at this; exact this) (by unfold maxLen; omega) (by omega) ?_)
          intro v10 w10 hown10 ho10
          obtain ⟨n10, hn10⟩ : ∃ N, N = n9 + k := ⟨_, rfl⟩
          obtain ⟨X10, hX10⟩ : ∃ X, X = X9 ++ XF := ⟨_, rfl⟩
          have hq10 : w10.ownsRow w5.heap.size 5 1 v10 n10 X10 := by rw [hn10, hX10]; simpa using hown10
          have hb10 : n10 ≤ 518 := by omega
          obtain ⟨p10, c10, rfl, -⟩ := ownsRow_shape hq10
          have HW10 := Lib.hid hq10
          have HO10 := Lib.hid ho10
          have HN10 := Lib.hid hn10
          have HX10 := Lib.hid hX10
          clear hown10 ho10 hq10 hn10 hX10
          go_wp2_with (at_builtin; refine wpList_append_lit rfl (.tmp 70) (.tmp 71) 22 rfl w5 [] 5 (.int .u8 0) 1 1 Tryd.underlying22 infoByte rfl (by decide) (.slice p10 n10 c10) n10 X10 rfl HW10.out HO10.out w10.heap.size 1 [.int .u8 10] rfl rfl rfl (by simp [Value.oneCell']) (by unfold maxLen; omega) (by omega) ?_)
          intro v11 w11 hown11 ho11
          obtain ⟨n11, hn11⟩ : ∃ N, N = n10 + 1 := ⟨_, rfl⟩
          obtain ⟨X11, hX11⟩ : ∃ X, X = X10 ++ [.int .u8 10] := ⟨_, rfl⟩
          have hq11 : w11.ownsRow w5.heap.size 5 1 v11 n11 X11 := by rw [hn11, hX11]; simpa using hown11
          have hb11 : n11 ≤ 519 := by omega
          obtain ⟨p11, c11, rfl, -⟩ := ownsRow_shape hq11
          have HW11 := Lib.hid hq11
          have HO11 := Lib.hid ho11
          have HN11 := Lib.hid hn11
          have HX11 := Lib.hid hX11
          clear hown11 ho11 hq11 hn11 hX11
          have hXB : X11 = byteRow (fen 126 k C) := by
            rw [HX11.out, HX10.out, HX9.out, HX8.out, HX7.out, ← HX.out.1, ← HX.out.2.1, ← HX.out.2.2, ← HF.out]
            simp [fen, byteRow]
          have hnB : (fen 126 k C).length = n11 := by
            have h := HW11.out.1
            rw [hXB, byteRow_length] at h
            omega
          have HV35 := Lib.hid (HV3.out.keep fun p x hp => HOW5.out.cell_some hp (by simp))
          have HXB := Lib.hid hXB
          have HNB := Lib.hid hnB
          clear hXB hnB
          go_wp2_with (at_builtin; refine wpList_append_src rfl (.tmp 76) (.tmp 77) 22 22 rfl w5 [] 5 (.int .u8 0) 1 1 Tryd.underlying22 infoByte rfl (by decide) (.slice p11 n11 c11) n11 X11 rfl HW11.out HO11.out _ bs.length (byteRow bs) rfl (Src.bytes Tryd.underlying22 (HV35.out.keep fun p x hp => HO11.out.cell_some hp (by simp))) (by unfold maxLen; omega) (by omega) ?_)
          intro v12 w12 hown12 ho12
          have hB12 : BytesV w12 v12 (fen 126 k C ++ bs) := by
            have h : w12.ownsRow w5.heap.size 5 1 v12 (fen 126 k C ++ bs).length (byteRow (fen 126 k C ++ bs)) := by
              rw [byteRow_app, List.length_append, HNB.out, ← HXB.out]; exact hown12
            exact BytesV.of_row (l := fen 126 k C ++ bs) (n := (fen 126 k C ++ bs).length) h
          have hlenB : (fen 126 k C ++ bs).length = n11 + bs.length := by rw [List.length_append, HNB.out]
          have hsgn : Sgn 126 := by unfold Sgn; decide
          have hml := mark_fence hsgn k hm7.1 C bs HCNE.out
          have HML := Lib.hid hml
          have HB12 := Lib.hid hB12
          have HO12 := Lib.hid (HOW5.out.trans ho12)
          have HLB := Lib.hid hlenB
          clear hown12 ho12 hB12 hml hlenB hsgn
          go_wp2_with fail
          refine (lex_full (fen 126 k C ++ bs) v12 w12 (HE.out.keep0 HO12.out) HB12.out (by rw [HLB.out]; omega) (by rw [HLB.out]; have := HN11.out; omega)).mono ?_
          rintro e w13 ⟨s1, t1, rfl, ho13, -, -, hs13⟩
          rw [HML.out, HNB.out] at hs13
          have HS13 := Lib.hid hs13
          have HO13 := Lib.hid (HO12.out.trans ho13)
          clear hs13 ho13
          go_wp2_with (at_builtin; refine wp_append_two rfl (.tmp 84) (.tmp 85) rfl w13.heap.size [121, 10] bs 2 rfl (.slice p3 bs.length cp3) rfl rfl ?_ ?_ ?_ ?_)
          · intro j hj
            have hg := alloc_new w13 (.cells #[.int .u8 121, .int .u8 10] 5 (2, 3))
            rw [cell_blk hg]
            have hj2 : j < 2 := hj
            have : j = 0 ∨ j = 1 := by omega
            rcases this with rfl | rfl <;> rfl
          · exact Src.bytes Tryd.underlying22 (HV3.out.keep fun p x hp => (HO13.out.alloc (.cells #[.int .u8 121, .int .u8 10] 5 (2, 3))).cell_some hp (by simp))
          · show 2 + _ ≤ _
            omega
          intro v14 w14 ho14 hB14 _
          have hm2 := mark_other bs
          have hA14 : Only [] w13 w14 := ((Only.refl [] w13).alloc _).trans ho14
          have HS14 := Lib.hid (HS13.out.keep hA14 (by simp) (by simp))
          have HO14 := Lib.hid (HO13.out.trans hA14)
          have HB14 : Hid (BytesV w14 v14 ([121, 10] ++ bs)) := Lib.hid hB14
          have HM2 := Lib.hid hm2
          clear hB14 ho14 hm2 hA14 HS13 HO13
          go_wp2_with fail
          refine (lex_full ([121, 10] ++ bs) v14 w14 (HE.out.keep0 HO14.out) HB14.out (by simp; omega) (by simp)).mono ?_
          rintro e w15 ⟨s2, t2, rfl, ho15, -, -, hs15⟩
          rw [HM2.out] at hs15
          have HS15 := Lib.hid hs15
          have HS16 := Lib.hid (HS14.out.keep ho15 (by simp) (by simp))
          have HO15 := Lib.hid (HO14.out.trans ho15)
          clear hs15 ho15 HS14 HO14
          have hn2 : 2 ≤ n11 := by have := HN11.out; have := HN6.out; have := HN7.out; have := HN8.out; have := HN9.out; have := HN10.out; omega
          have HLEN1 : Hid ((putR (List.replicate n11 1) 2 n11 4 ++ behL bs).length = n11 + bs.length) := Lib.hid (by rw [List.length_append, putR_length, List.length_replicate, behL_length])
          have HLEN2 : Hid (([1, 1] ++ behL bs : List Int).length = 2 + bs.length) := Lib.hid (by rw [List.length_append, behL_length]; rfl)
          have HN1 := Lib.hid (fence_nth n11 (behL bs))
          have HR1 := Lib.hid (fun i => right_nth (putR (List.replicate n11 1) 2 n11 4) (behL bs) i)
          have HR2 := Lib.hid (fun i => right_nth [1, 1] (behL bs) i)
          generalize putR (List.replicate n11 1) 2 n11 4 ++ behL bs = L1 at *
          generalize ([1, 1] ++ behL bs : List Int) = L2 at *
          go_wp2_with fail
          have e0 := HN1.out 0 (by omega)
          have e1 := HN1.out 1 (by omega)
          refine (at_in s1 t1 0 _ w15 HS16.out (by rw [HLEN1.out]; omega)).mono ?_
          rintro e w16 ⟨rfl, rfl⟩
          rw [e0]
          go_wp2_with fail
          refine (at_in s1 t1 1 _ w15 HS16.out (by rw [HLEN1.out]; omega)).mono ?_
          rintro e w16 ⟨rfl, rfl⟩
          rw [e1]
          clear e0 e1
          go_wp2_with fail
          go_loopw [20] (fun iv wr => wr = w15 ∧ ∃ j : Nat, 2 ≤ j ∧ j ≤ n11 ∧ iv = .int .i64 j) (fun iv _ => n11 - (intOf iv).toNat)
          case atStart => exact ⟨rfl, 2, by omega, by omega, rfl⟩
          case round =>
            obtain ⟨rfl, j, hj2, hjn, rfl⟩ := hrel
            by_cases hjl : j < n11
            · have ej := HN1.out j hjl
              rw [if_pos hj2] at ej
              have EJ := Lib.hid ej
              have HA := Lib.hid (at_in s1 t1 j _ wr HS16.out (by rw [HLEN1.out]; omega))
              clear ej
              go_wp2_with fail
              refine HA.out.mono ?_
              rintro e w16 ⟨rfl, rfl⟩
              rw [EJ.out]
              go_wp2_with fail
              go_roundw
              case rel => exact ⟨by first | rfl | trivial, j + 1, by omega, by omega, by go_num⟩
              case measure => simp [intOf]; omega
            · go_wp2_with fail
              obtain ⟨wo2, hwo2⟩ : ∃ wo2, wo2 = wr := ⟨_, rfl⟩
              subst hwo2
              go_loopw [21, 109] (fun _ iv wr => wr = wo2 ∧ ∃ j : Nat, j ≤ bs.length ∧ iv = .int .i64 j) (fun _ iv _ => bs.length - (intOf iv).toNat)
              case atStart => exact ⟨rfl, 0, by omega, rfl⟩
              case round =>
                obtain ⟨rfl, j, hjn, rfl⟩ := hrel
                by_cases hjl : j < bs.length
                · have ea : nth L1 (n11 + j) = nth (behL bs) j := by
                    have := HR1.out j
                    rwa [putR_length, List.length_replicate] at this
                  have eb : nth L2 (2 + j) = nth (behL bs) j := HR2.out j
                  have HA := Lib.hid (at_int s1 t1 ((n11 : Int) + j) (n11 + j) _ wr (by omega) HS16.out (by rw [HLEN1.out]; omega))
                  have HB := Lib.hid (at_int s2 t2 (2 + (j : Int)) (2 + j) _ wr (by omega) HS15.out (by rw [HLEN2.out]; omega))
                  rw [ea] at HA
                  rw [eb] at HB
                  clear ea eb
                  generalize nth (behL bs) j = y at *
                  go_wp2_with fail
                  refine HA.out.mono ?_
                  rintro e w16 ⟨rfl, rfl⟩
                  go_wp2_with fail
                  refine HB.out.mono ?_
                  rintro e w16 ⟨rfl, rfl⟩
                  go_wp2_with fail
                  go_roundw
                  case rel => exact ⟨by first | rfl | trivial, j + 1, by omega, by go_num⟩
                  case measure => simp [intOf]; omega
                · go_wp2_with fail
                  go_ret
                  exact ⟨rfl, HO15.out⟩
end Go.Proofs.YtpohopmggpiomaaDoor
