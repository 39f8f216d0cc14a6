/-
  utf.Text: runes as bytes.
  fold.Fold, Letter.
  fold.Of, As: a word's case, a text in a case.
  fold.As: a text in a case.
-/
import Derived.Test.YtfbbieecdenlbaaGreatDoorPut
import Derived.Test.YtfbbieecdenlbaaGreatDoorFoldA
import Derived.Test.YtfbbieecdenlbaaGreatDoorFoldP
import Derived.Laws.OwnMore
namespace Go.Proofs.YtfbbieecdenlbaaGreatDoor
open Go.RowKit

theorem BytesV.only {w w' : World} {v : Value} {l : List UInt8} (h : BytesV w v l) (ho : Only [] w w') : BytesV w' v l := h.keep fun _ _ hc => ho.cell_some hc (by simp)
theorem BytesV.shape {w : World} {v : Value} {l : List UInt8} (h : BytesV w v l) : ∃ p c, v = .slice p l.length c ∧ l.length ≤ c ∧ c ≤ maxLen := by
  obtain ⟨p, c, h1, h2, h3, -⟩ := h
  exact ⟨p, c, h1, h2, h3⟩
theorem BytesV.nil (w : World) : BytesV w (.slice none 0 0) [] := ⟨none, 0, rfl, by simp, by unfold maxLen; omega, fun h => by simp at h⟩

set_option maxRecDepth 100000 in
set_option maxHeartbeats 1000000 in
theorem text_any (l : List Int) (v : Value) (w : World) (hv : IntsV .i32 w v l) (hl : l.length ≤ 65536) :
    Calls Tryz.prog 25 #[v] w fun e w' => e = .returned (.string ⟨(textU l).toArray⟩) ∧ Only [] w w' := by
  obtain ⟨p, c, rfl, hc, hm, hk⟩ := hv
  have HK := Lib.hid hk
  have hl' : (l.length : Int) ≤ 65536 := by omega
  have htl : ∀ k, (textU (l.take k)).length ≤ 262144 := fun k => by
    have h1 := textU_len (l.take k)
    have h2 : (l.take k).length ≤ 65536 := by rw [List.length_take]; omega
    omega
  have HTL := Lib.hid htl
  clear hk htl
  go_enter Tryz.func25, Tryz.ntmps25
  go_wp2_with fail
  go_loopw [3, 5, 6, 7, 10] (fun bv _ _ _ iv wr => ∃ k : Nat, k ≤ l.length ∧ iv = .int .i64 k ∧ Only [] w wr ∧ BytesV wr bv (textU (l.take k))) (fun _ _ _ _ iv _ => l.length - (intOf iv).toNat)
  case atStart => exact ⟨0, by omega, rfl, Only.refl _ _, BytesV.nil _⟩
  case round =>
    obtain ⟨k, hkl, rfl, ho, hb⟩ := hrel
    obtain ⟨pb, cb, rfl, -⟩ := hb.shape
    have HO := Lib.hid ho
    have HB := Lib.hid hb
    have HL := Lib.hid (HTL.out k)
    clear hb
    by_cases hlt : k < l.length
    · obtain ⟨b, o, rfl, hcell⟩ := HK.out (by omega)
      have hkc : (k : Int) < c := by omega
      have k0 : wr.cell? ⟨b, o + k, none⟩ = some (.int .i32 (nth l k)) := ho.cell_some (hcell k hlt) (by simp)
      have htk := textU_take l k hlt
      rw [← nth_lt hlt] at htk
      have HTK := Lib.hid htk
      clear hcell ho htk
      generalize nth l k = r at *
      have HC := Lib.hid (put_any (textU (l.take k)) _ r wr HB.out (by have := HL.out; omega))
      go_wp2_with fail
      refine HC.out.mono ?_
      rintro e w2 ⟨u, rfl, ho2, hok, hno⟩
      have HO2 := Lib.hid ho2
      have HOK := Lib.hid hok
      clear ho2 hok hno
      cases hr : okU r
      case' true =>
        obtain ⟨pu, cu, rfl, -⟩ := (HOK.out hr).shape
        have HB2 := Lib.hid (HOK.out hr)
      case' false =>
        have henc : encU r = [] := by simp [encU, hr]
        have HB2 : Hid (BytesV w2 (.slice pb (textU (l.take k)).length cb) (textU (l.take k) ++ encU r)) := Lib.hid (by rw [henc, List.append_nil]; exact HB.out.only HO2.out)
      all_goals
        clear HOK
        go_wp2_with fail
        go_roundw
        case rel => exact ⟨k + 1, by omega, by go_num, HO.out.trans HO2.out, by rw [HTK.out]; first | exact HB2.out | (have h := HB2.out; rw [List.length_append] at h; exact h)⟩
        case measure => simp [intOf]; omega
    · obtain rfl : k = l.length := by omega
      rw [List.take_length] at *
      have hcv := conv_bytes (P := Tryz.prog) HB.out 44 9 5 Tryz.underlying44 Tryz.underlying5 Tryz.underlying9
      clear ho
      go_wp2_with fail
      go_ret
      exact ⟨rfl, HO.out⟩
end Go.Proofs.YtfbbieecdenlbaaGreatDoor
namespace Go.Proofs.YtfbbieecdenlbaaGreatDoor
open Go.RowKit

set_option maxRecDepth 100000 in
set_option maxHeartbeats 1000000 in
theorem fold_any (s : List UInt8) (w : World) (hl : s.length ≤ 65536) :
    Calls Tryz.prog 19 #[.string ⟨s.toArray⟩] w fun e w' => e = .returned (.string ⟨(foldU s).toArray⟩) ∧ Only [] w w' := by
  have hfu : foldU s = textU ((runesU s).map downU) := rfl
  have HFU := Lib.hid hfu
  have hrl := runesU_len s
  have hrl' : ((runesU s).length : Int) ≤ 65536 := by omega
  have hrr := runesU_range s
  have HRR := Lib.hid hrr
  clear hfu hrr
  go_enter Tryz.func19, Tryz.ntmps19
  go_wp2_with fail
  refine (runes_any s w (by omega)).mono ?_
  rintro e w2 ⟨u, rfl, ho2, hu⟩
  obtain ⟨pu, cu, rfl, -⟩ := ownsRow_shape hu
  generalize runesU s = U at *
  have HU := Lib.hid hu
  have HO2 := Lib.hid ho2
  clear hu ho2
  go_wp2_with fail
  go_loopw [3, 5, 9] (fun rv _ iv wr => ∃ k : Nat, k ≤ U.length ∧ iv = .int .i64 k ∧ Only [] w2 wr ∧ wr.ownsRow w2.heap.size 21 1 rv k (((U.take k).map downU).map (Value.int .i32))) (fun _ _ iv _ => U.length - (intOf iv).toNat)
  case atStart => exact ⟨0, by omega, rfl, Only.refl _ _, World.ownsRow_nil _ _ _ _⟩
  case round =>
    obtain ⟨k, hk, rfl, ho, hown⟩ := hrel
    obtain ⟨pr, cr, rfl, -⟩ := ownsRow_shape hown
    have HO := Lib.hid ho
    have HOWN := Lib.hid hown
    clear hown
    by_cases hlt : k < U.length
    · have hw := ownsRow_only HU.out ho (by simp)
      obtain ⟨g, cg, hpr, hg, -⟩ := ownsRow_some hw (by omega)
      simp only [Value.slice.injEq, true_and] at hpr
      obtain ⟨rfl, rfl⟩ := hpr
      have k0 : wr.cell? ⟨g, k, none⟩ = some (.int .i32 U[k]) := by
        rw [hw.cellAt k (by omega), List.getElem?_map, List.getElem?_eq_getElem hlt]; rfl
      have hxr := HRR.out U[k] (List.getElem_mem hlt)
      have htk : (U.take (k + 1)).map downU = (U.take k).map downU ++ [downU U[k]] := by rw [List.take_succ_eq_append_getElem hlt, List.map_append]; rfl
      have HTK := Lib.hid htk
      clear hw ho htk
      generalize U[k] = x at *
      go_wp2_with fail
      refine (down_any x wr hxr.1 hxr.2).mono ?_
      rintro e w3 ⟨rfl, rfl⟩
      generalize downU x = y at *
      go_wp2_with (at_builtin; refine wpList_append_lit rfl (.tmp 13) (.tmp 16) 78 rfl w2 [] 21 (.int .i32 0) 1 4 Tryz.underlying78 infoRune rfl (by decide) (.slice pr k cr) k _ rfl HOWN.out HO.out wr.heap.size 1 [.int .i32 y] rfl rfl rfl (by simp [Value.oneCell']) (by unfold maxLen; omega) (by omega) ?_)
      intro v' w3 hown3 ho3
      have HOWN3 := Lib.hid hown3
      have HO3 := Lib.hid ho3
      clear hown3 ho3
      go_wp2_with fail
      go_roundw
      case rel => exact ⟨k + 1, by omega, by go_num, HO3.out, by rw [HTK.out]; simpa using HOWN3.out⟩
      case measure => simp [intOf]; omega
    · obtain rfl : k = U.length := by omega
      have h := HOWN.out
      rw [List.take_length] at h
      have hlen : (U.map downU).length ≤ 65536 := by rw [List.length_map]; exact Nat.le_trans hrl hl
      have HC := Lib.hid (text_any (U.map downU) (.slice pr U.length cr) wr (IntsV.of_row h) hlen)
      clear h ho
      go_wp2_with fail
      refine HC.out.mono ?_
      rintro e w4 ⟨rfl, ho4⟩
      have HO4 := Lib.hid ho4
      clear ho4
      rw [← HFU.out]
      go_wp2_with fail
      go_ret
      exact ⟨rfl, HO2.out.trans (HO.out.trans HO4.out)⟩

set_option maxRecDepth 100000 in
set_option maxHeartbeats 4000000 in
theorem letter_any (r : Int) (w : World) : Calls Tryz.prog 141 #[.int .i32 r] w fun e w' => e = .returned (.bool (letterU r)) ∧ w = w' := by
  have G := Lib.hid (great_any r w)
  have S := Lib.hid (small_anyU r w)
  have hdef : letterU r = (greatU r || (smallU r || (r == 223 || ((decide (255 ≤ r) && decide (r ≤ 591)) || ((decide (880 ≤ r) && decide (r ≤ 1023)) || (decide (1024 ≤ r) && decide (r ≤ 1327))))))) := rfl
  have HD := Lib.hid hdef
  clear hdef
  cases hg : greatU r
  case' true => rw [hg] at G HD
  case' false =>
    rw [hg] at G HD
    cases hs : smallU r
    case' true => rw [hs] at S HD
    case' false =>
      rw [hs] at S HD
      by_cases a1 : 255 ≤ r <;> by_cases a2 : r ≤ 591 <;> by_cases a3 : 880 ≤ r <;> by_cases a4 : r ≤ 1023 <;> by_cases a5 : 1024 ≤ r <;> by_cases a6 : r ≤ 1327 <;> cases a0 : (r == 223)
  all_goals first | (exfalso; omega) | skip
  all_goals first | (exfalso; simp at a0; omega) | skip
  all_goals
    go_enter Tryz.func141, Tryz.ntmps141
    go_wp2_with fail
    refine G.out.mono ?_
    rintro e w1 ⟨rfl, rfl⟩
    go_wp2_with fail
  all_goals first | (refine S.out.mono ?_; rintro e w2 ⟨rfl, rfl⟩; go_wp2_with fail) | skip
  all_goals
    go_ret
    exact ⟨ret_bool (by rw [HD.out]; first | (simp [*]; done) | (simp [*]; omega) | (simp [*, Bool.or_assoc]; done)), rfl⟩
end Go.Proofs.YtfbbieecdenlbaaGreatDoor
namespace Go.Proofs.YtfbbieecdenlbaaGreatDoor
open Go.RowKit

theorem countP_take (f : Int → Bool) (l : List Int) (k : Nat) (h : k < l.length) : (l.take (k + 1)).countP f = (l.take k).countP f + (if f (nth l k) then 1 else 0) := by
  rw [List.take_succ_eq_append_getElem h, List.countP_append, List.countP_singleton, nth_lt h]
theorem countP_take_le (f : Int → Bool) (l : List Int) (k : Nat) : (l.take k).countP f ≤ l.length :=
  Nat.le_trans List.countP_le_length (by rw [List.length_take]; omega)

/-- What Of counts up to a place. -/
def firstG (l : List Int) (k : Nat) : Bool := decide (0 < k) && greatU (nth l 0)

set_option maxRecDepth 100000 in
set_option maxHeartbeats 2000000 in
theorem of_any (s : List UInt8) (w : World) (hl : s.length ≤ 65536) :
    Calls Tryz.prog 11 #[.string ⟨s.toArray⟩] w fun e w' => e = .returned (.int .u8 (ofU s)) ∧ Only [] w w' := by
  have hrl := runesU_len s
  have hrl' : ((runesU s).length : Int) ≤ 65536 := by omega
  have hou : ofU s = ofR (runesU s) := rfl
  have HOU := Lib.hid hou
  clear hou
  go_enter Tryz.func11, Tryz.ntmps11
  go_wp2_with fail
  refine (runes_any s w (by omega)).mono ?_
  rintro e w2 ⟨u, rfl, ho2, hu⟩
  obtain ⟨pu, cu, rfl, -⟩ := ownsRow_shape hu
  generalize runesU s = U at *
  have HU := Lib.hid hu
  have HO2 := Lib.hid ho2
  clear hu ho2
  go_wp2_with fail
  go_loopw [3, 4, 5, 6, 7, 11] (fun gv sv fv _ _ iv wr => wr = w2 ∧ ∃ k : Nat, k ≤ U.length ∧ iv = .int .i64 k ∧ gv = .int .i64 (((U.take k).countP greatU : Nat) : Int) ∧ sv = .int .i64 (((U.take k).countP (fun r => !greatU r && smallU r) : Nat) : Int) ∧ fv = .bool (firstG U k)) (fun _ _ _ _ _ iv _ => U.length - (intOf iv).toNat)
  case atStart => exact ⟨rfl, 0, by omega, rfl, rfl, rfl, rfl⟩
  case round =>
    obtain ⟨rfl, k, hk, rfl, rfl, rfl, rfl⟩ := hrel
    have b1 := countP_take_le greatU U k
    have b2 := countP_take_le (fun r => !greatU r && smallU r) U k
    by_cases hlt : k < U.length
    · have hw := HU.out
      obtain ⟨g, cg, hpr, hg, -⟩ := ownsRow_some hw (by omega)
      simp only [Value.slice.injEq, true_and] at hpr
      obtain ⟨rfl, rfl⟩ := hpr
      have k0 : wr.cell? ⟨g, k, none⟩ = some (.int .i32 (nth U k)) := by
        rw [hw.cellAt k (by omega), List.getElem?_map, List.getElem?_eq_getElem hlt, nth_lt hlt]; rfl
      have c1 := countP_take greatU U k hlt
      have c2 := countP_take (fun r => !greatU r && smallU r) U k hlt
      have hf : firstG U (k + 1) = (firstG U k || ((k : Int) == 0) && greatU (nth U k)) := by
        unfold firstG
        by_cases h0 : k = 0
        · subst h0; simp
        · have : ((k : Int) == 0) = false := by simpa using (by omega : ¬ (k : Int) = 0)
          rw [this]
          simp
          omega
      have C1 := Lib.hid c1
      have C2 := Lib.hid c2
      have HF := Lib.hid hf
      clear hw c1 c2 hf
      generalize (U.take k).countP greatU = n1 at *
      generalize (U.take k).countP (fun r => !greatU r && smallU r) = n2 at *
      generalize firstG U k = fb at *
      generalize nth U k = x at *
      have G := Lib.hid (great_any x wr)
      have S := Lib.hid (small_anyU x wr)
      cases hg : greatU x <;> cases hs : smallU x <;> cases h0 : ((k : Int) == 0) <;> cases fb
      all_goals rw [hg] at G C1 C2 HF
      all_goals rw [hs] at S C2
      all_goals
        go_wp2_with fail
        refine G.out.mono ?_
        rintro e w3 ⟨rfl, rfl⟩
        go_wp2_with fail
      all_goals first | (refine S.out.mono ?_; rintro e w4 ⟨rfl, rfl⟩; go_wp2_with fail) | skip
      all_goals
        go_roundw
        case rel => exact ⟨trivial, k + 1, by omega, by go_num, by rw [C1.out]; simp, by rw [C2.out]; simp, by rw [HF.out]; simp [*]⟩
        case measure => simp [intOf]; omega
    · obtain rfl : k = U.length := by omega
      rw [List.take_length] at *
      have hof : ofR U = if U.countP greatU = 0 then 1 else if 1 < U.countP greatU ∧ (U.countP fun r => !greatU r && smallU r) = 0 then 3 else if U.countP greatU = 1 ∧ greatU (nth U 0) then 2 else 0 := rfl
      have hfg : firstG U U.length = true ↔ 0 < U.length ∧ greatU (nth U 0) = true := by unfold firstG; simp
      have hcp : 0 < U.countP greatU → 0 < U.length := fun h => Nat.lt_of_lt_of_le h List.countP_le_length
      have HOF := Lib.hid (HOU.out.trans hof)
      have HFG := Lib.hid hfg
      have HCP := Lib.hid hcp
      clear hof hfg hcp
      generalize U.countP greatU = n1 at *
      generalize (U.countP fun r => !greatU r && smallU r) = n2 at *
      generalize firstG U U.length = fb at *
      by_cases z1 : n1 = 0
      · subst z1
        go_wp2_with fail
        go_ret
        exact ⟨ret_int (by rw [HOF.out]; simp), HO2.out⟩
      · have y1 : ((n1 : Int) == 0) = false := by simpa using z1
        by_cases z2 : 1 < n1
        · have y2 : decide ((1 : Int) < n1) = true := by simp; omega
          have y3 : ((n1 : Int) == 1) = false := by simp; omega
          by_cases z3 : n2 = 0
          · subst z3
            go_wp2_with fail
            go_ret
            exact ⟨ret_int (by rw [HOF.out, if_neg z1, if_pos ⟨z2, trivial⟩]), HO2.out⟩
          · have y4 : ((n2 : Int) == 0) = false := by simpa using z3
            have Z := Lib.hid (⟨z1, z2, z3⟩ : ¬ n1 = 0 ∧ 1 < n1 ∧ ¬ n2 = 0)
            clear z1 z2 z3
            go_wp2_with fail
            go_ret
            exact ⟨ret_int (by rw [HOF.out, if_neg Z.out.1, if_neg (fun h => Z.out.2.2 h.2), if_neg (fun h => by have := Z.out.2.1; omega)]), HO2.out⟩
        · obtain rfl : n1 = 1 := by omega
          have hU := HCP.out (by omega)
          cases hb : fb
          all_goals
            rw [hb] at HFG
            go_wp2_with fail
            go_ret
            refine ⟨ret_int ?_, HO2.out⟩
            have h := HFG.out
            rw [HOF.out, if_neg (by omega), if_neg (by omega)]
            simp [hU] at h
            simp [h]
end Go.Proofs.YtfbbieecdenlbaaGreatDoor
namespace Go.Proofs.YtfbbieecdenlbaaGreatDoor
open Go.RowKit

theorem free_row {w : World} {base : Nat} {e : TypeId} {size : Nat} {g n cap : Nat} {xs : List Value} (h : w.ownsRow base e size (.slice (some ⟨g, 0, none⟩) n cap) n xs) (j : Nat) : w.frozen? ⟨g, j, none⟩ = false := by
  rcases h.2 with ⟨h1, -⟩ | ⟨g', cap', cur, h1, -, hh, -⟩
  · cases h1
  · simp only [Value.slice.injEq, Option.some.injEq, Addr.mk.injEq, and_true, true_and] at h1
    obtain ⟨rfl, rfl⟩ := h1
    exact free_blk hh j

theorem textAs_len (c : Int) (l : List Int) : (asR c l).length = l.length := by simp [asR]

set_option maxRecDepth 100000 in
set_option maxHeartbeats 2000000 in
theorem as_any (c : Int) (s : List UInt8) (w : World) (hl : s.length ≤ 65536) :
    Calls Tryz.prog 8 #[.int .u8 c, .string ⟨s.toArray⟩] w fun e w' => e = .returned (.string ⟨(asU c s).toArray⟩) ∧ Only [] w w' := by
  have hrl := runesU_len s
  have hrl' : ((runesU s).length : Int) ≤ 65536 := by omega
  have hrr := runesU_range s
  have hau : asU c s = textU (asR c (runesU s)) := rfl
  have HAU := Lib.hid hau
  have HRR := Lib.hid hrr
  clear hau hrr
  go_enter Tryz.func8, Tryz.ntmps8
  go_wp2_with fail
  refine (runes_any s w (by omega)).mono ?_
  rintro e w2 ⟨u, rfl, ho2, hu⟩
  obtain ⟨pu, cu, rfl, -⟩ := ownsRow_shape hu
  generalize runesU s = U at *
  have HU := Lib.hid hu
  have HO2 := Lib.hid ho2
  clear hu ho2
  go_wp2_with fail
  go_loopw [6, 7, 12] (fun _ _ iv wr => ∃ k : Nat, k ≤ U.length ∧ iv = .int .i64 k ∧ Only [] w wr ∧ wr.ownsRow w.heap.size 21 1 (.slice pu U.length cu) U.length ((asN c k U).map (Value.int .i32))) (fun _ _ iv _ => U.length - (intOf iv).toNat)
  case atStart => exact ⟨0, by omega, rfl, HO2.out, by rw [asN_zero]; exact HU.out⟩
  case round =>
    obtain ⟨k, hk, rfl, ho, hown⟩ := hrel
    have HO := Lib.hid ho
    have HOWN := Lib.hid hown
    clear ho
    by_cases hlt : k < U.length
    · obtain ⟨g, cg, hpr, hg, -⟩ := ownsRow_some hown (by omega)
      simp only [Value.slice.injEq, true_and] at hpr
      obtain ⟨rfl, rfl⟩ := hpr
      have k0 : wr.cell? ⟨g, k, none⟩ = some (.int .i32 (nth U k)) := by
        rw [hown.cellAt k (by omega), List.getElem?_map, List.getElem?_eq_getElem (by rw [asN_length]; exact hlt), ← nth_lt, asN_nth c k U k hlt (Nat.le_refl _)]; rfl
      have kf := free_row hown k
      have hxr := HRR.out (nth U k) (by rw [nth_lt hlt]; exact List.getElem_mem hlt)
      have hst : ∀ y : Int, asI c k (nth U k) = y → (wr.setCell ⟨g, k, none⟩ (.int .i32 y)).ownsRow w.heap.size 21 1 (.slice (some ⟨g, 0, none⟩) U.length cu) U.length ((asN c (k + 1) U).map (Value.int .i32)) := by
        intro y hy
        have := (HOWN.out.stored k (.int .i32 y)).1
        subst hy
        rwa [← List.map_set, ← asN_succ c k U hlt] at this
      have hns : asI c k (nth U k) = nth U k → wr.ownsRow w.heap.size 21 1 (.slice (some ⟨g, 0, none⟩) U.length cu) U.length ((asN c (k + 1) U).map (Value.int .i32)) := by
        intro hy
        have h1 : asN c (k + 1) U = asN c k U := by
          rw [asN_succ c k U hlt, hy]
          apply List.ext_getElem (by simp)
          intro i h1 h2
          rw [List.getElem_set]
          split
          · rename_i e
            subst e
            rw [← nth_lt h2, asN_nth c k U k hlt (Nat.le_refl _)]
          · rfl
        rw [h1]
        exact HOWN.out
      have HST := Lib.hid hst
      have HNS := Lib.hid hns
      clear hown hst hns
      have UP := Lib.hid (up_any (nth U k) wr hxr.1 hxr.2)
      have DN := Lib.hid (down_any (nth U k) wr hxr.1 hxr.2)
      generalize nth U k = x at *
      have hAI : asI c k x = if c == 3 then upU x else if c == 2 then (if k == 0 then upU x else downU x) else if c == 1 then downU x else x := rfl
      have HAI := Lib.hid hAI
      clear hAI hxr
      cases h3 : (c == 3)
      · cases h2 : (c == 2)
        · cases h1 : (c == 1)
          · rw [h3, h2, h1] at HAI
            go_wp2_with fail
            go_roundw
            case rel => exact ⟨k + 1, by omega, by go_num, HO.out, HNS.out HAI.out⟩
            case measure => simp [intOf]; omega
          · rw [h3, h2, h1] at HAI
            go_wp2_with fail
            refine DN.out.mono ?_
            rintro e w3 ⟨rfl, rfl⟩
            go_wp2_with fail
            go_roundw
            case rel => exact ⟨k + 1, by omega, by go_num, HO.out.setCell (Or.inr hg) _, HST.out _ HAI.out⟩
            case measure => simp [intOf]; omega
        · by_cases hk0 : k = 0
          · have hz : ((k : Int) == 0) = true := by simp [hk0]
            have hz' : (k == 0) = true := by simp [hk0]
            rw [h3, h2, hz'] at HAI
            clear hz' hk0
            go_wp2_with fail
            refine UP.out.mono ?_
            rintro e w3 ⟨rfl, rfl⟩
            go_wp2_with fail
            go_roundw
            case rel => exact ⟨k + 1, by omega, by go_num, HO.out.setCell (Or.inr hg) _, HST.out _ HAI.out⟩
            case measure => simp [intOf]; omega
          · have hz : ((k : Int) == 0) = false := by simpa using hk0
            have hz' : (k == 0) = false := by simpa using hk0
            rw [h3, h2, hz'] at HAI
            clear hz' hk0
            go_wp2_with fail
            refine DN.out.mono ?_
            rintro e w3 ⟨rfl, rfl⟩
            go_wp2_with fail
            go_roundw
            case rel => exact ⟨k + 1, by omega, by go_num, HO.out.setCell (Or.inr hg) _, HST.out _ HAI.out⟩
            case measure => simp [intOf]; omega
      · rw [h3] at HAI
        go_wp2_with fail
        refine UP.out.mono ?_
        rintro e w3 ⟨rfl, rfl⟩
        go_wp2_with fail
        go_roundw
        case rel => exact ⟨k + 1, by omega, by go_num, HO.out.setCell (Or.inr hg) _, HST.out _ HAI.out⟩
        case measure => simp [intOf]; omega
    · obtain rfl : k = U.length := by omega
      rw [asN_all] at hown
      have hlen : (asR c U).length ≤ 65536 := by rw [textAs_len]; exact Nat.le_trans hrl hl
      have hlen2 : (asR c U).length = U.length := textAs_len c U
      have HC := Lib.hid (text_any (asR c U) (.slice pu U.length cu) wr (IntsV.of_row hown) hlen)
      clear hown hlen hlen2
      go_wp2_with fail
      refine HC.out.mono ?_
      rintro e w4 ⟨rfl, ho4⟩
      have HO4 := Lib.hid ho4
      clear ho4
      rw [← HAU.out]
      go_wp2_with fail
      go_ret
      exact ⟨rfl, HO.out.trans HO4.out⟩
end Go.Proofs.YtfbbieecdenlbaaGreatDoor
