/-
  redpenlaw22.Few; redpenlaw07.Sorted: texts as words that rise.
-/
import Derived.Test.YtfbbieecdenlbaaGreatDoorCasesP
namespace Go.Proofs.YtfbbieecdenlbaaGreatDoor
open Go.RowKit

/-- append of whatever is appended, to a row that is the call's own since W, at a step of a region that draws. -/
theorem step_append_src {P : Program} {w : World} {ops : Array Oper} {o : Oper} {a : Act} {K : Act → World → Prop} {Q : Exit → Act → World → Prop} {E : Prop} (hgd : o.guard = none) (s x : Operand) (t tx : TypeId)
    (ho : o.op = .call { callee := .builtin .append, args := #[s, x], argTypes := #[t, tx] })
    (W : World) (e : TypeId) (z : Value) (size bytes : Nat) (ht : P.underlying t = some (.slice e))
    (hinfo : (P.info? e).map (fun i => (i.zero, i.size, i.bytes)) = some (some z, size, bytes)) (hzs : z.cells.size = size) (hsz : 0 < size)
    (v : Value) (n : Nat) (xs : List Value) (hs : a.eval s = v) (hown : w.ownsRow W.heap.size e size v n xs) (honly : Only [] W w)
    (xv : Value) (m : Nat) (news : List Value) (hx : a.eval x = xv) (hsrc : Src P size tx xv m news w)
    (h63 : n + m ≤ maxLen) (hbytes : (n + m) * bytes ≤ 140737488355328)
    (h : ∀ v' w', w'.ownsRow W.heap.size e size v' (n + m) (xs ++ news) → Only [] W w' → Only v.ownBlock.toList w w' → K (a.put o.dst v') w') :
    if Region.wanted o (yielded ops a.tmps) = true then Oper.wp P o a w K Q else E := by
  have hw : Region.wanted o (yielded ops a.tmps) = true := by simp [Region.wanted, hgd]
  rw [if_pos hw]
  obtain ⟨v', w', hr, h2, h3, -, -⟩ := run_append_row (P := P) w W.heap.size t tx o.type e z size bytes ht hinfo hzs hsz v n xs hown xv m news hsrc h63 hbytes honly.size
  unfold Oper.wp execOp
  simp only [ho, resolve, invoke, builtin, Sem.run_bind, Sem.run_pure, Result.andThen_ok, List.map_toArray, List.map_cons, List.map_nil, hs, hx, hr]
  exact h v' w' h2 (honly.grown h3 (fun b hb => .inr (hown.lt b hb).1)) (Only.of_grown h3)

theorem emptyD {w : World} {base : Nat} {e : TypeId} {size b : Nat} (hb : base ≤ w.heap.size) (hq : b = w.heap.size) : (w.alloc (.cells #[] e)).drew.ownsRow base e size (.slice (some ⟨b, 0, none⟩) 0 0) 0 [] := by
  subst hq
  exact ownsRow_empty w base e size hb
theorem emptyDA {w : World} {base : Nat} {e : TypeId} {size b : Nat} {o : Obj} (hb : base ≤ w.heap.size) (hq : b = w.heap.size) : ((w.alloc (.cells #[] e)).alloc o).drew.ownsRow base e size (.slice (some ⟨b, 0, none⟩) 0 0) 0 [] := by
  subst hq
  exact (ownsRow_empty w base e size hb).alloc o
theorem strs_row {w : World} {base : Nat} {e : TypeId} {v : Value} {n : Nat} {L : List (List UInt8)} (h : w.ownsRow base e 1 v n (strRow L)) :
    n = L.length ∧ ((v = .slice none 0 0 ∧ L = []) ∨ ∃ g cap, v = .slice (some ⟨g, 0, none⟩) L.length cap ∧ L.length ≤ cap ∧ cap ≤ maxLen ∧ ∀ k, k < L.length → w.cell? ⟨g, k, none⟩ = some (.string ⟨(nthS L k).toArray⟩)) := by
  have hl := h.1
  rw [strRow_len, Nat.mul_one] at hl
  subst hl
  refine ⟨rfl, ?_⟩
  rcases h.2 with ⟨rfl, h0⟩ | ⟨g, cap, cur, rfl, hg, hh, h1, h2, h3, h4⟩
  · exact Or.inl ⟨rfl, List.eq_nil_of_length_eq_zero h0⟩
  · refine Or.inr ⟨g, cap, rfl, h1, h2, fun k hk => ?_⟩
    rw [h.cellAt k (by omega)]
    simp [strRow, nthS, hk]
theorem strs_pre {w : World} {g cap : Nat} {L : List (List UInt8)} (h : ∀ k, k < L.length → w.cell? ⟨g, k, none⟩ = some (.string ⟨(nthS L k).toArray⟩)) (h1 : L.length ≤ cap) (h2 : cap ≤ maxLen) (k : Nat) (hk : k ≤ L.length) :
    StrsV w (.slice (some ⟨g, 0, none⟩) k cap) (L.take k) := by
  refine ⟨_, cap, by rw [List.length_take, Nat.min_eq_left hk], by rw [List.length_take]; omega, h2, fun _ => ⟨g, 0, rfl, fun j hj => ?_⟩⟩
  have hj' : j < k := by rw [List.length_take] at hj; omega
  rw [Nat.zero_add, h j (by omega)]
  simp [nthS, hj']
theorem strs_suf {w : World} {g cap : Nat} {L : List (List UInt8)} (h : ∀ k, k < L.length → w.cell? ⟨g, k, none⟩ = some (.string ⟨(nthS L k).toArray⟩)) (h1 : L.length ≤ cap) (h2 : cap ≤ maxLen) (k : Nat) (hk : k ≤ L.length) :
    StrsV w (.slice (some ⟨g, k, none⟩) (L.length - k) (cap - k)) (L.drop k) := by
  refine ⟨_, cap - k, by rw [List.length_drop], by rw [List.length_drop]; omega, by omega, fun _ => ⟨g, k, rfl, fun j hj => ?_⟩⟩
  rw [List.length_drop] at hj
  rw [h (k + j) (by omega)]
  simp [nthS]
theorem lit_texts (w : World) (L : List (List UInt8)) (hl : L.length ≤ 1000) : StrsV (w.alloc (.cells (strRow L).toArray 9)) (.slice (some ⟨w.heap.size, 0, none⟩) L.length L.length) L := by
  refine ⟨_, L.length, rfl, Nat.le_refl _, by unfold maxLen; omega, fun _ => ⟨_, 0, rfl, fun k hk => ?_⟩⟩
  rw [Nat.zero_add, cell_blk (alloc_new w _)]
  simp [strRow, nthS, hk]
theorem strs_zero {w : World} (p : Option Addr) (c : Nat) (hc : c ≤ maxLen) : StrsV w (.slice p 0 c) [] := ⟨p, c, rfl, by simp, hc, fun h => by simp at h⟩
theorem StrsV.nil (w : World) : StrsV w (.slice none 0 0) [] := ⟨none, 0, rfl, by simp, by unfold maxLen; omega, fun h => by simp at h⟩
theorem lit_far {S : List Nat} {W w : World} {b : Nat} {s : List UInt8} {t : TypeId} (ho : Only S W w) (h : W.heap[b]? = some (.cells #[.string ⟨s.toArray⟩] t (0, 0))) (hn : b ∉ S) : StrsV w (.slice (some ⟨b, 0, none⟩) 1 1) [s] := by
  refine ⟨_, 1, rfl, Nat.le_refl _, by unfold maxLen; omega, fun _ => ⟨b, 0, rfl, fun k hk => ?_⟩⟩
  have hk' : k < 1 := hk
  obtain rfl : k = 0 := by omega
  rw [cell_blk (ho.keep h hn)]
  rfl

set_option maxRecDepth 100000 in
theorem few_any (w : World) : Calls Tryz.prog 18 #[] w fun e w' => e = .returned (.slice (some ⟨w.heap.size, 0, none⟩) 15 15) ∧ StrsV w' (.slice (some ⟨w.heap.size, 0, none⟩) 15 15) fewL ∧ Only [] w w' ∧ w.heap.size < w'.heap.size := by
  have s1 := lit_texts w fewL (by decide)
  have hA : (strRow fewL).toArray = #[.string ⟨#[97]⟩, .string ⟨#[116, 104, 101]⟩, .string ⟨#[119, 111, 114, 100]⟩, .string ⟨#[116, 101, 104]⟩, .string ⟨#[119, 114, 111, 100]⟩, .string ⟨#[102, 105, 108, 101]⟩, .string ⟨#[100, 111, 110, 39, 116]⟩, .string ⟨#[195, 169]⟩, .string ⟨#[99, 111, 100, 101]⟩, .string ⟨#[104, 116, 109, 108]⟩, .string ⟨#[112, 97, 114, 115, 101]⟩, .string ⟨#[114, 101, 99, 105, 101, 118, 101]⟩, .string ⟨#[114, 101, 99, 101, 105, 118, 101]⟩, .string ⟨#[97, 110, 100]⟩, .string ⟨#[97, 100, 110]⟩] := rfl
  rw [hA] at s1
  have HS := Lib.hid s1
  have HO : Hid (Only [] w (w.alloc (.cells #[.string ⟨#[97]⟩, .string ⟨#[116, 104, 101]⟩, .string ⟨#[119, 111, 114, 100]⟩, .string ⟨#[116, 101, 104]⟩, .string ⟨#[119, 114, 111, 100]⟩, .string ⟨#[102, 105, 108, 101]⟩, .string ⟨#[100, 111, 110, 39, 116]⟩, .string ⟨#[195, 169]⟩, .string ⟨#[99, 111, 100, 101]⟩, .string ⟨#[104, 116, 109, 108]⟩, .string ⟨#[112, 97, 114, 115, 101]⟩, .string ⟨#[114, 101, 99, 105, 101, 118, 101]⟩, .string ⟨#[114, 101, 99, 101, 105, 118, 101]⟩, .string ⟨#[97, 110, 100]⟩, .string ⟨#[97, 100, 110]⟩] 9))) := Lib.hid ((Only.refl _ _).alloc _)
  clear s1 hA
  go_enter Tryz.func18, Tryz.ntmps18
  go_wp2_with fail
  go_ret
  exact ⟨rfl, HS.out, HO.out, by simp⟩

def filt (R : List Int) (k : Nat) : List Int := (R.take k).filter fun r => decide (0 ≤ r)
theorem filt_succ (R : List Int) (k : Nat) (h : k < R.length) : filt R (k + 1) = if 0 ≤ nth R k then filt R k ++ [nth R k] else filt R k := by
  unfold filt
  rw [List.take_succ_eq_append_getElem h, List.filter_append, nth_lt h]
  by_cases e : 0 ≤ R[k]
  · rw [if_pos e]; simp [e]
  · rw [if_neg e]; simp [e]
theorem filt_len (R : List Int) (k : Nat) : (filt R k).length ≤ k := by
  unfold filt
  refine Nat.le_trans (List.length_filter_le _ _) ?_
  rw [List.length_take]; omega
theorem filt_all (R : List Int) : filt R R.length = R.filter fun r => decide (0 ≤ r) := by
  unfold filt; rw [List.take_length]
theorem IntsV.pre {q : IntKind} {w : World} {base : Nat} {e : TypeId} {v : Value} {n : Nat} {l : List Int} {p : Option Addr} {c : Nat} (h : w.ownsRow base e 1 v n (l.map (Value.int q))) (hv : v = .slice p n c) (k : Nat) (hk : k ≤ l.length) :
    IntsV q w (.slice p k c) (l.take k) := by
  obtain ⟨p', c', h1, h2, h3, h4⟩ := IntsV.of_row h
  rw [h1] at hv
  simp only [Value.slice.injEq] at hv
  obtain ⟨rfl, -, rfl⟩ := hv
  refine ⟨p', c', by rw [List.length_take, Nat.min_eq_left hk], by rw [List.length_take]; omega, h3, fun hp => ?_⟩
  rw [List.length_take] at hp
  obtain ⟨b, o, e1, hc⟩ := h4 (by omega)
  refine ⟨b, o, e1, fun j hj => ?_⟩
  rw [List.length_take] at hj
  rw [hc j (by omega)]
  simp [nth, show j < k by omega]

def sortTo (L : List (List UInt8)) (k : Nat) : List (List UInt8) := (L.take k).foldl (fun o s => insL o (textU (twelve s))) []
theorem sortTo_succ (L : List (List UInt8)) (k : Nat) (h : k < L.length) : sortTo L (k + 1) = insL (sortTo L k) (textU (twelve (nthS L k))) := by
  unfold sortTo
  rw [List.take_succ_eq_append_getElem h, List.foldl_append, nthS_lt h]
  rfl
theorem sortTo_len (L : List (List UInt8)) : ∀ k, (sortTo L k).length ≤ k := by
  intro k
  induction k with
  | zero => simp [sortTo]
  | succ k ih =>
    by_cases h : k < L.length
    · rw [sortTo_succ L k h]
      have := (insL_len (sortTo L k) (textU (twelve (nthS L k)))).2
      omega
    · have : sortTo L (k + 1) = sortTo L k := by
        unfold sortTo
        rw [List.take_of_length_le (by omega), List.take_of_length_le (by omega)]
      rw [this]
      omega
theorem sortTo_end (L : List (List UInt8)) (k : Nat) (h : k = 61 ∨ (k ≤ 61 ∧ k = L.length)) : sortTo L k = sortL L := by
  unfold sortTo sortL
  rcases h with rfl | ⟨h1, rfl⟩
  · rfl
  · rw [List.take_length, List.take_of_length_le h1]
end Go.Proofs.YtfbbieecdenlbaaGreatDoor
namespace Go.Proofs.YtfbbieecdenlbaaGreatDoor
open Go.RowKit

set_option maxRecDepth 100000 in
set_option maxHeartbeats 8000000 in
theorem sorted_any (L : List (List UInt8)) (v : Value) (w : World) (hv : StrsV w v L) (hL : L.length ≤ 2097152) (hb : ∀ s ∈ L, s.length ≤ 2097152) :
    Calls Tryz.prog 17 #[v] w fun e w' => ∃ u, e = .returned u ∧ Only [] w w' ∧ w'.ownsRow w.heap.size 9 1 u (sortL L).length (strRow (sortL L)) := by
  have HV := Lib.hid hv
  obtain ⟨p, c, rfl, hc, hm, -⟩ := hv
  have HB := Lib.hid hb
  have hL' : (L.length : Int) ≤ 2097152 := by omega
  clear hb
  go_enter Tryz.func17, Tryz.ntmps17
  go_wp2_with fail
  go_loopw [3, 4, 5, 6, 8, 9, 12, 20, 21, 22] (fun ov _ _ _ _ _ iv _ _ _ wr => ∃ k : Nat, k ≤ L.length ∧ k ≤ 61 ∧ iv = .int .i64 k ∧ Only [] w wr ∧ wr.ownsRow w.heap.size 9 1 ov (sortTo L k).length (strRow (sortTo L k))) (fun _ _ _ _ _ _ iv _ _ _ _ => L.length - (intOf iv).toNat)
  case atStart => exact ⟨0, by omega, by omega, rfl, Only.refl _ _, World.ownsRow_nil _ _ _ _⟩
  case round =>
    obtain ⟨k, hkl, hk61, rfl, ho, hown⟩ := hrel
    have HO := Lib.hid ho
    have HOWN := Lib.hid hown
    obtain ⟨po, co, rfl, hco⟩ := ownsRow_shape hown
    have hsl := sortTo_len L k
    clear hown
    by_cases hlt : k < L.length
    · obtain ⟨p', c', e1, -, -, hk⟩ := HV.out
      simp only [Value.slice.injEq, true_and] at e1
      obtain ⟨rfl, rfl⟩ := e1
      obtain ⟨b, o, rfl, hcell⟩ := hk (by omega)
      have hkc : (k : Int) < c := by omega
      have k0 : wr.cell? ⟨b, o + k, none⟩ = some (.string ⟨(nthS L k).toArray⟩) := ho.cell_some (hcell k hlt) (by simp)
      clear hcell hk ho
      by_cases h61 : k = 61
      · subst h61
        have hend := sortTo_end L 61 (Or.inl rfl)
        have HE := Lib.hid hend
        clear hend
        go_wp2_with fail
        go_ret
        exact ⟨_, rfl, HO.out, by rw [← HE.out]; exact HOWN.out⟩
      · have hk60 : (k : Int) ≤ 60 := by omega
        have hst := sortTo_succ L k hlt
        have HST := Lib.hid hst
        have hbl := HB.out (nthS L k) (nthS_mem hlt)
        clear hst h61
        generalize nthS L k = s at *
        have HR := Lib.hid (runes_any s wr hbl)
        have htw : twelve s = (filt (runesU s) (runesU s).length).take 12 := by rw [filt_all]; rfl
        have hrl := runesU_len s
        have HTW := Lib.hid htw
        clear htw
        go_wp2_with fail
        refine HR.out.mono ?_
        rintro e w2 ⟨u, rfl, ho2, hu⟩
        obtain ⟨pu, cu, rfl, -⟩ := ownsRow_shape hu
        generalize runesU s = R at *
        have hrl' : (R.length : Int) ≤ 2097152 := by omega
        have HU := Lib.hid hu
        have HO2 := Lib.hid ho2
        clear hu ho2
        go_wp2_with fail
        go_loopw [6, 8, 22] (fun rv _ jv wq => ∃ j : Nat, j ≤ R.length ∧ jv = .int .i64 j ∧ Only [] w2 wq ∧ wq.ownsRow w2.heap.size 21 1 rv (filt R j).length ((filt R j).map (Value.int .i32))) (fun _ _ jv _ => R.length - (intOf jv).toNat)
        case atStart => exact ⟨0, by omega, rfl, Only.refl _ _, World.ownsRow_nil _ _ _ _⟩
        case round =>
          obtain ⟨j, hj, rfl, hoq, hrow⟩ := hrel
          obtain ⟨pr, cr, rfl, hcr⟩ := ownsRow_shape hrow
          have hfl := filt_len R j
          by_cases hjl : j < R.length
          · have hw := ownsRow_only HU.out hoq (by simp)
            obtain ⟨g1, cg, hpr, hg1, -⟩ := ownsRow_some hw (by omega)
            simp only [Value.slice.injEq, true_and] at hpr
            obtain ⟨rfl, rfl⟩ := hpr
            have q0 : wr.cell? ⟨g1, j, none⟩ = some (.int .i32 (nth R j)) := by
              rw [hw.cellAt j (by omega), List.getElem?_map, List.getElem?_eq_getElem hjl, nth_lt hjl]; rfl
            have hfs := filt_succ R j hjl
            have HFS := Lib.hid hfs
            have HOQ := Lib.hid hoq
            have HROW := Lib.hid hrow
            clear hw hfs hoq hrow
            generalize nth R j = x at *
            by_cases hx : 0 ≤ x
            · rw [if_pos hx] at HFS
              go_wp2_with (at_builtin; refine wpList_append_lit rfl (.tmp 28) (.tmp 30) 78 rfl w2 [] 21 (.int .i32 0) 1 4 Tryz.underlying78 infoRune rfl (by decide) (.slice pr (filt R j).length cr) (filt R j).length ((filt R j).map (Value.int .i32)) rfl HROW.out HOQ.out wr.heap.size 1 [.int .i32 x] rfl rfl rfl (by simp [Value.oneCell']) (by unfold maxLen; omega) (by omega) ?_)
              intro v1 w1 hown1 ho1
              have HOWN1 := Lib.hid hown1
              have HO1 := Lib.hid ho1
              clear hown1 ho1
              go_wp2_with fail
              go_roundw
              case rel =>
                refine ⟨j + 1, by omega, by go_num, HO1.out, ?_⟩
                rw [HFS.out, List.map_append, List.length_append]
                exact HOWN1.out
              case measure => simp [intOf]; omega
            · rw [if_neg hx] at HFS
              go_wp2_with fail
              go_roundw
              case rel =>
                refine ⟨j + 1, by omega, by go_num, HOQ.out, ?_⟩
                rw [HFS.out]
                exact HROW.out
              case measure => simp [intOf]; omega
          · obtain rfl : j = R.length := by omega
            generalize hF : filt R R.length = F at *
            have htwl : (twelve s).length ≤ 65536 := by have := twelve_len s; omega
            have hq0 := HO2.out.trans hoq
            have HQ0 := Lib.hid hq0
            clear hoq hq0
            by_cases h12 : F.length ≤ 12
            case' pos =>
              have hiv := IntsV.pre hrow rfl F.length (Nat.le_refl _)
              have htk : F.take F.length = F.take 12 := by rw [List.take_length, List.take_of_length_le h12]
              rw [htk, ← HTW.out] at hiv
              have HCT := Lib.hid (text_any (twelve s) _ wr hiv htwl)
              have h12i : (F.length : Int) ≤ 12 := by omega
              clear hiv htk hrow htwl h12
            case' neg =>
              have hiv := IntsV.pre hrow rfl 12 (by omega)
              rw [← HTW.out] at hiv
              have HCT := Lib.hid (text_any (twelve s) _ wr hiv htwl)
              have h12i : ¬ (F.length : Int) ≤ 12 := by omega
              have h12j : (12 : Int) ≤ cr := by omega
              clear hiv hrow htwl h12
            all_goals
              generalize textU (twelve s) = tx at *
              generalize hacc : sortTo L k = acc at *
              clear hacc hF
              go_wp2_with fail
              refine HCT.out.mono ?_
              rintro e w4 ⟨rfl, ho4⟩
              have hq := HQ0.out.trans ho4
              have HQ := Lib.hid hq
              clear ho4 hq h12i HCT
              go_wp2_with fail
              go_loopw [9] (fun kv wz => wz = w4 ∧ ∃ j : Nat, j ≤ lessN tx acc ∧ kv = .int .i64 j) (fun kv _ => lessN tx acc - (intOf kv).toNat)
              case atStart => exact ⟨rfl, 0, by omega, rfl⟩
              case round =>
                obtain ⟨rfl, j, hj, rfl⟩ := hrel
                have hle := lessN_le tx acc
                have hjl2 : j ≤ acc.length := by omega
                have hrow := ownsRow_only HOWN.out HQ.out (by simp)
                obtain ⟨-, ⟨hv0, hacc⟩ | ⟨g, cap, hv0, hcp, hcm, hcells⟩⟩ := strs_row hrow
                · simp only [Value.slice.injEq] at hv0
                  obtain ⟨rfl, -, rfl⟩ := hv0
                  subst hacc
                  obtain rfl : j = 0 := by simpa using hjl2
                  have HJ : Hid (lessN tx [] = 0) := Lib.hid rfl
                  clear hrow hle
                  by_cases htx : tx = []
                  · subst htx
                    have hins : insL [] [] = [] := by
                      unfold insL
                      rw [if_neg (fun h => h.1 rfl)]
                    have HINS := Lib.hid hins
                    clear hins
                    go_wp2_with fail
                    go_roundw
                    case rel =>
                      refine ⟨k + 1, by omega, by omega, by go_num, HO.out.trans HQ.out, ?_⟩
                      rw [HST.out, HINS.out]
                      exact ownsRow_only HOWN.out HQ.out (by simp)
                    case measure => simp [intOf]; omega
                  · have htx' : tx.isEmpty = false := by cases tx <;> simp_all
                    generalize hacc : ([] : List (List UInt8)) = acc at *
                    have hal : acc.length = 0 := by rw [← hacc]; rfl
                    have hins : insL acc tx = acc.take 0 ++ [tx] ++ acc.drop 0 := by
                      unfold insL
                      rw [← HJ.out, if_pos ⟨htx, Or.inl (by rw [← hacc]; rfl)⟩]
                    have hpre : StrsV wr (.slice none 0 0) (acc.take 0) := (by rw [← hacc]; exact StrsV.nil _)
                    have HSUF : Hid (StrsV wr (.slice none 0 0) (acc.drop 0)) := Lib.hid ((by rw [← hacc]; exact StrsV.nil _))
                    have HINS := Lib.hid hins
                    have HPRE := Lib.hid hpre
                    have hpl : (acc.take 0).length = 0 := by rw [List.length_take]; omega
                    have hdl : (acc.drop 0).length = acc.length - 0 := List.length_drop
                    have HPL := Lib.hid hpl
                    have HDL := Lib.hid hdl
                    clear hins hpre hpl hdl
                    go_wp2_with fail
                    go_region_held3 (fun w' => Only [] wr w') (first | assumption | exact Only.alloc (by assumption) _ | exact (Only.refl _ _).drew) (first | (refine step_append_src rfl (.tmp 73) (.tmp 75) 22 22 rfl wr 9 (.string ⟨#[]⟩) 1 16 Tryz.underlying22 infoTxt rfl (by decide) v1 _ _ rfl (by first | exact hown1 | exact hown1.alloc _) (by assumption) _ 1 (strRow [tx]) rfl (Src.strs (L := [tx]) Tryz.underlying22 (by first | exact lit_far (Only.refl [] _) (alloc_new _ _) (by simp) | exact lit_far hoo1 (by first | exact alloc_new' _ (by first | rfl | simp) | exact alloc_blk (alloc_new' _ (by first | rfl | simp))) (by simp [Value.ownBlock]))) (by rw [HPL.out]; unfold maxLen; omega) (by rw [HPL.out]; omega) ?_; rintro v2 w2' hown2 ho2' hoo2) | (refine step_append_src rfl (.tmp 76) (.tmp 79) 22 22 rfl wr 9 (.string ⟨#[]⟩) 1 16 Tryz.underlying22 infoTxt rfl (by decide) v2 _ _ rfl (by first | exact hown2 | exact hown2.alloc _) (by assumption) _ (acc.drop 0).length (strRow (acc.drop 0)) rfl (Src.strs Tryz.underlying22 (HSUF.out.only (by assumption))) (by rw [HPL.out, HDL.out]; unfold maxLen; omega) (by rw [HPL.out, HDL.out]; omega) ?_; rintro v3 w3' hown3 ho3' hoo3) | (refine step_append_src rfl (.tmp 69) (.tmp 72) 22 22 rfl wr 9 (.string ⟨#[]⟩) 1 16 Tryz.underlying22 infoTxt rfl (by decide) (.slice (some ⟨_, 0, none⟩) 0 0) 0 [] rfl (by first | exact emptyD (by first | exact Nat.le_refl _ | simp) (by first | rfl | simp) | exact emptyDA (by first | exact Nat.le_refl _ | simp) (by first | rfl | simp)) (by assumption) _ (acc.take 0).length (strRow (acc.take 0)) rfl (Src.strs Tryz.underlying22 (HPRE.out.only (by assumption))) (by rw [HPL.out]; unfold maxLen; omega) (by rw [HPL.out]; omega) ?_; rintro v1 w1 hown1 ho1 hoo1))
                    all_goals
                      have HOWN3 := Lib.hid hown3
                      have HO3' := Lib.hid ho3'
                      obtain ⟨p3, c3, rfl, -⟩ := ownsRow_shape hown3
                      clear hown3 ho3' hoo3 hown2 ho2' hoo2 hown1 ho1 hoo1
                      go_wp2_with fail
                      go_roundw
                      case rel =>
                        refine ⟨k + 1, by omega, by omega, by go_num, HO.out.trans (HQ.out.trans HO3'.out), ?_⟩
                        rw [HST.out, HINS.out]
                        have hr := HOWN3.out
                        have e1 : (acc.take 0 ++ [tx] ++ acc.drop 0).length = (acc.take 0).length + 1 + (acc.drop 0).length := by simp; omega
                        rw [e1]
                        refine ownsRow_base (base := wr.heap.size) ?_ (fun i hi => ?_)
                        · simpa [strRow] using hr
                        · have := (hr.lt i hi).1; have := (HO.out.trans HQ.out).size; omega
                      case measure => simp [intOf]; omega
                · simp only [Value.slice.injEq, true_and] at hv0
                  obtain ⟨rfl, rfl⟩ := hv0
                  have HCELLS := Lib.hid hcells
                  clear hrow hcells
                  have hcap : (acc.length : Int) ≤ co := by omega
                  by_cases hjn : j < lessN tx acc
                  · have hl := lessN_lt tx acc j hjn
                    have k0 : wr.cell? ⟨g, j, none⟩ = some (.string ⟨(nthS acc j).toArray⟩) := HCELLS.out j (by omega)
                    have hja : (j : Int) < acc.length := by omega
                    generalize nthS acc j = y at *
                    go_wp2_with fail
                    go_roundw
                    case rel => exact ⟨trivial, j + 1, by omega, by go_num⟩
                    case measure => simp [intOf]; omega
                  · obtain rfl : j = lessN tx acc := by omega
                    have hat := lessN_at tx acc
                    generalize hj0 : lessN tx acc = j at *
                    have HJ := Lib.hid hj0
                    clear hj0 hjn hle
                    by_cases hja : j < acc.length
                    · have hl := hat hja
                      have k0 : wr.cell? ⟨g, j, none⟩ = some (.string ⟨(nthS acc j).toArray⟩) := HCELLS.out j (by omega)
                      have hja' : (j : Int) < acc.length := by omega
                      have hjco : (j : Int) ≤ co := by omega
                      have hcj : co ≠ j := by omega
                      have hje : (j == acc.length) = false := by simp; omega
                      have hje' : ((j : Int) == (acc.length : Int)) = false := by simp; omega
                      clear hat
                      by_cases htx : tx = []
                      · subst htx
                        have hins : insL acc [] = acc := by
                          unfold insL
                          rw [if_neg (fun h => h.1 rfl)]
                        have HINS := Lib.hid hins
                        clear hins
                        go_wp2_with fail
                        go_roundw
                        case rel =>
                          refine ⟨k + 1, by omega, by omega, by go_num, HO.out.trans HQ.out, ?_⟩
                          rw [HST.out, HINS.out]
                          exact ownsRow_only HOWN.out HQ.out (by simp)
                        case measure => simp [intOf]; omega
                      · have htx' : tx.isEmpty = false := by cases tx <;> simp_all
                        by_cases hy : nthS acc j = tx
                        · have HINS : Hid (insL acc tx = acc) := Lib.hid (by unfold insL; rw [if_neg (fun h => h.2.elim (fun e => by rw [HJ.out] at e; omega) (fun e => e (by rw [HJ.out]; exact hy)))])
                          generalize nthS acc j = y at *
                          subst hy
                          go_wp2_with fail
                          go_roundw
                          case rel =>
                            refine ⟨k + 1, by omega, by omega, by go_num, HO.out.trans HQ.out, ?_⟩
                            rw [HST.out, HINS.out]
                            exact ownsRow_only HOWN.out HQ.out (by simp)
                          case measure => simp [intOf]; omega
                        · have HY := Lib.hid hy
                          have hyb : (nthS acc j == tx) = false := by simpa using hy
                          generalize hyy : nthS acc j = y at *
                          have HYY := Lib.hid hyy
                          clear hyy
                          have hins : insL acc tx = acc.take j ++ [tx] ++ acc.drop j := by
                            unfold insL
                            rw [← HJ.out, if_pos ⟨htx, Or.inr (by rw [HJ.out, HYY.out]; exact HY.out)⟩]
                          have hpre : StrsV wr (.slice (some ⟨g, 0, none⟩) j co) (acc.take j) := strs_pre HCELLS.out (by omega) hcm j (by omega)
                          have HSUF : Hid (StrsV wr (.slice (some ⟨g, j, none⟩) (acc.length - j) (co - j)) (acc.drop j)) := Lib.hid (strs_suf HCELLS.out (by omega) hcm j (by omega))
                          have HINS := Lib.hid hins
                          have HPRE := Lib.hid hpre
                          have hpl : (acc.take j).length = j := by rw [List.length_take]; omega
                          have hdl : (acc.drop j).length = acc.length - j := List.length_drop
                          have HPL := Lib.hid hpl
                          have HDL := Lib.hid hdl
                          clear hins hpre hpl hdl
                          go_wp2_with fail
                          go_region_held3 (fun w' => Only [] wr w') (first | assumption | exact Only.alloc (by assumption) _ | exact (Only.refl _ _).drew) (first | (refine step_append_src rfl (.tmp 73) (.tmp 75) 22 22 rfl wr 9 (.string ⟨#[]⟩) 1 16 Tryz.underlying22 infoTxt rfl (by decide) v1 _ _ rfl (by first | exact hown1 | exact hown1.alloc _) (by assumption) _ 1 (strRow [tx]) rfl (Src.strs (L := [tx]) Tryz.underlying22 (by first | exact lit_far (Only.refl [] _) (alloc_new _ _) (by simp) | exact lit_far hoo1 (by first | exact alloc_new' _ (by first | rfl | simp) | exact alloc_blk (alloc_new' _ (by first | rfl | simp))) (by simp [Value.ownBlock]))) (by rw [HPL.out]; unfold maxLen; omega) (by rw [HPL.out]; omega) ?_; rintro v2 w2' hown2 ho2' hoo2) | (refine step_append_src rfl (.tmp 76) (.tmp 79) 22 22 rfl wr 9 (.string ⟨#[]⟩) 1 16 Tryz.underlying22 infoTxt rfl (by decide) v2 _ _ rfl (by first | exact hown2 | exact hown2.alloc _) (by assumption) _ (acc.drop j).length (strRow (acc.drop j)) rfl (Src.strs Tryz.underlying22 (HSUF.out.only (by assumption))) (by rw [HPL.out, HDL.out]; unfold maxLen; omega) (by rw [HPL.out, HDL.out]; omega) ?_; rintro v3 w3' hown3 ho3' hoo3) | (refine step_append_src rfl (.tmp 69) (.tmp 72) 22 22 rfl wr 9 (.string ⟨#[]⟩) 1 16 Tryz.underlying22 infoTxt rfl (by decide) (.slice (some ⟨_, 0, none⟩) 0 0) 0 [] rfl (by first | exact emptyD (by first | exact Nat.le_refl _ | simp) (by first | rfl | simp) | exact emptyDA (by first | exact Nat.le_refl _ | simp) (by first | rfl | simp)) (by assumption) _ (acc.take j).length (strRow (acc.take j)) rfl (Src.strs Tryz.underlying22 (HPRE.out.only (by assumption))) (by rw [HPL.out]; unfold maxLen; omega) (by rw [HPL.out]; omega) ?_; rintro v1 w1 hown1 ho1 hoo1))
                          all_goals
                            have HOWN3 := Lib.hid hown3
                            have HO3' := Lib.hid ho3'
                            obtain ⟨p3, c3, rfl, -⟩ := ownsRow_shape hown3
                            clear hown3 ho3' hoo3 hown2 ho2' hoo2 hown1 ho1 hoo1
                            go_wp2_with fail
                            go_roundw
                            case rel =>
                              refine ⟨k + 1, by omega, by omega, by go_num, HO.out.trans (HQ.out.trans HO3'.out), ?_⟩
                              rw [HST.out, HINS.out]
                              have hr := HOWN3.out
                              have e1 : (acc.take j ++ [tx] ++ acc.drop j).length = (acc.take j).length + 1 + (acc.drop j).length := by simp; omega
                              rw [e1]
                              refine ownsRow_base (base := wr.heap.size) ?_ (fun i hi => ?_)
                              · simpa [strRow] using hr
                              · have := (hr.lt i hi).1; have := (HO.out.trans HQ.out).size; omega
                            case measure => simp [intOf]; omega
                    · obtain rfl : j = acc.length := by omega
                      clear hat hja
                      by_cases htx : tx = []
                      · subst htx
                        have hins : insL acc [] = acc := by
                          unfold insL
                          rw [if_neg (fun h => h.1 rfl)]
                        have HINS := Lib.hid hins
                        clear hins
                        go_wp2_with fail
                        go_roundw
                        case rel =>
                          refine ⟨k + 1, by omega, by omega, by go_num, HO.out.trans HQ.out, ?_⟩
                          rw [HST.out, HINS.out]
                          exact ownsRow_only HOWN.out HQ.out (by simp)
                        case measure => simp [intOf]; omega
                      · have htx' : tx.isEmpty = false := by cases tx <;> simp_all
                        generalize hj3 : acc.length = j at *
                        have hins : insL acc tx = acc.take j ++ [tx] ++ acc.drop j := by
                          unfold insL
                          rw [← HJ.out, if_pos ⟨htx, Or.inl (by rw [HJ.out, hj3])⟩]
                        have hpre : StrsV wr (.slice (some ⟨g, 0, none⟩) j co) (acc.take j) := strs_pre (L := acc) (by rw [hj3]; exact HCELLS.out) (by omega) hcm j (by omega)
                        have HDN : Hid (acc.drop j = []) := Lib.hid (by rw [← hj3]; exact List.drop_length)
                        have HINS := Lib.hid hins
                        have HPRE := Lib.hid hpre
                        have hpl : (acc.take j).length = j := by rw [List.length_take]; omega
                        have hdl : (acc.drop j).length = acc.length - j := List.length_drop
                        have HPL := Lib.hid hpl
                        have HDL := Lib.hid hdl
                        clear hins hpre hpl hdl
                        go_wp2_with fail
                        go_region_held3 (fun w' => Only [] wr w') (first | assumption | exact Only.alloc (by assumption) _ | exact (Only.refl _ _).drew) (first | (refine step_append_src rfl (.tmp 73) (.tmp 75) 22 22 rfl wr 9 (.string ⟨#[]⟩) 1 16 Tryz.underlying22 infoTxt rfl (by decide) v1 _ _ rfl (by first | exact hown1 | exact hown1.alloc _) (by assumption) _ 1 (strRow [tx]) rfl (Src.strs (L := [tx]) Tryz.underlying22 (by first | exact lit_far (Only.refl [] _) (alloc_new _ _) (by simp) | exact lit_far hoo1 (by first | exact alloc_new' _ (by first | rfl | simp) | exact alloc_blk (alloc_new' _ (by first | rfl | simp))) (by simp [Value.ownBlock]))) (by rw [HPL.out]; unfold maxLen; omega) (by rw [HPL.out]; omega) ?_; rintro v2 w2' hown2 ho2' hoo2) | (refine step_append_src rfl (.tmp 76) (.tmp 79) 22 22 rfl wr 9 (.string ⟨#[]⟩) 1 16 Tryz.underlying22 infoTxt rfl (by decide) v2 _ _ rfl (by first | exact hown2 | exact hown2.alloc _) (by assumption) _ (acc.drop j).length (strRow (acc.drop j)) rfl (Src.strs Tryz.underlying22 (by rw [HDN.out]; exact strs_zero _ _ (by omega))) (by rw [HPL.out, HDL.out]; unfold maxLen; omega) (by rw [HPL.out, HDL.out]; omega) ?_; rintro v3 w3' hown3 ho3' hoo3) | (refine step_append_src rfl (.tmp 69) (.tmp 72) 22 22 rfl wr 9 (.string ⟨#[]⟩) 1 16 Tryz.underlying22 infoTxt rfl (by decide) (.slice (some ⟨_, 0, none⟩) 0 0) 0 [] rfl (by first | exact emptyD (by first | exact Nat.le_refl _ | simp) (by first | rfl | simp) | exact emptyDA (by first | exact Nat.le_refl _ | simp) (by first | rfl | simp)) (by assumption) _ (acc.take j).length (strRow (acc.take j)) rfl (Src.strs Tryz.underlying22 (HPRE.out.only (by assumption))) (by rw [HPL.out]; unfold maxLen; omega) (by rw [HPL.out]; omega) ?_; rintro v1 w1 hown1 ho1 hoo1))
                        all_goals
                          have HOWN3 := Lib.hid hown3
                          have HO3' := Lib.hid ho3'
                          obtain ⟨p3, c3, rfl, -⟩ := ownsRow_shape hown3
                          clear hown3 ho3' hoo3 hown2 ho2' hoo2 hown1 ho1 hoo1
                          go_wp2_with fail
                          go_roundw
                          case rel =>
                            refine ⟨k + 1, by omega, by omega, by go_num, HO.out.trans (HQ.out.trans HO3'.out), ?_⟩
                            rw [HST.out, HINS.out]
                            have hr := HOWN3.out
                            have e1 : (acc.take j ++ [tx] ++ acc.drop j).length = (acc.take j).length + 1 + (acc.drop j).length := by simp; omega
                            rw [e1]
                            refine ownsRow_base (base := wr.heap.size) ?_ (fun i hi => ?_)
                            · simpa [strRow] using hr
                            · have := (hr.lt i hi).1; have := (HO.out.trans HQ.out).size; omega
                          case measure => simp [intOf]; omega
    · obtain rfl : k = L.length := by omega
      have hend := sortTo_end L L.length (Or.inr ⟨hk61, rfl⟩)
      have HE := Lib.hid hend
      clear hend ho
      go_wp2_with fail
      go_ret
      exact ⟨_, rfl, HO.out, by rw [← HE.out]; exact HOWN.out⟩
end Go.Proofs.YtfbbieecdenlbaaGreatDoor
