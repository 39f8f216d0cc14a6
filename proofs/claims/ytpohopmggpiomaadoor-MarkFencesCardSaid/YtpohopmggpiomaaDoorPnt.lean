/-
  mark.pointed: a link, a remark, a tag.
-/
import Derived.Test.YtpohopmggpiomaaDoorLinkB
import Derived.Test.YtpohopmggpiomaaDoorHtmlL
import Derived.Lib.SlBytesConst
import Derived.Deep.RegionWith
namespace Go.Proofs.YtpohopmggpiomaaDoor
open Go.RowKit

def nums (l : List UInt8) : List Int := l.map fun x => (x.toNat : Int)
theorem nums_length (l : List UInt8) : (nums l).length = l.length := by simp [nums]
theorem nums_bytes (l : List UInt8) : Lib.bytesOf (nums l) = l := by
  unfold Lib.bytesOf nums
  rw [List.map_map]
  conv => rhs; rw [← List.map_id l]
  apply List.map_congr_left
  intro x _
  simp
theorem nums_at (l : List UInt8) (k : Nat) : (nums l).getD k 0 = bt l k := by
  unfold nums bt
  rw [List.getD_eq_getElem?_getD, List.getD_eq_getElem?_getD, List.getElem?_map]
  cases l[k]? <;> rfl
theorem nums_range (l : List UInt8) : ∀ x ∈ nums l, 0 ≤ x ∧ x < 256 := by
  intro x hx
  simp only [nums, List.mem_map] at hx
  obtain ⟨y, -, rfl⟩ := hx
  have := UInt8.toNat_lt y
  omega
theorem pre_take (S : List UInt8) : Lib.hasPrefix S remT = (S.take 4 == remT) := by
  unfold Lib.hasPrefix
  cases h : (S.take 4 == remT) with
  | true =>
    rw [List.isPrefixOf_iff_prefix]
    rw [beq_iff_eq] at h
    rw [← h]
    exact List.take_prefix _ _
  | false =>
    cases h2 : remT.isPrefixOf S with
    | false => rfl
    | true =>
      rw [List.isPrefixOf_iff_prefix] at h2
      have := List.prefix_iff_eq_take.1 h2
      have e : S.take 4 = remT := this.symm
      rw [e] at h
      simp at h

/-- What CutPrefix hands back: what is behind the remark's begin. -/
theorem cut_any (b o c g : Nat) (S : List UInt8) (n : Nat) (hn : S.length = n) (w : World) (hc : n ≤ c) (hcell : ∀ k, k < S.length → w.cell? ⟨b, o + k, none⟩ = some (.int .u8 (bt S k)))
    (hg : ∀ i, i < 4 → w.cell? ⟨g, 0 + i, none⟩ = some (.int .u8 (bt remT i))) :
    Calls Tryd.prog 48 #[.slice (some ⟨b, o, none⟩) n c, .slice (some ⟨g, 0, none⟩) 4 4] w fun e w' => ∃ o' n' c', e = .returned (.tuple #[.slice (some ⟨b, o', none⟩) n' c', .bool (S.take 4 == remT)]) ∧ w' = w ∧
      ((S.take 4 == remT) = true → (S.drop 4).length = n' ∧ n' ≤ c' ∧ ∀ k, k < (S.drop 4).length → w.cell? ⟨b, o' + k, none⟩ = some (.int .u8 (bt (S.drop 4) k))) := by
  subst hn
  have h := Tryd.bytes_CutPrefix b o S.length c g 0 4 4 (nums S) (nums remT) w (nums_length S) rfl hc (fun i hi => by rw [nums_at]; exact hcell i hi) (fun i hi => by rw [nums_at]; exact hg i hi)
  rw [nums_bytes, nums_bytes, pre_take] at h
  refine h.mono ?_
  rintro e w' ⟨rfl, rfl⟩
  unfold Lib.bytesTrimPrefix
  rw [nums_bytes, nums_bytes, pre_take]
  cases hp : (S.take 4 == remT) with
  | false => exact ⟨o, S.length, c, rfl, rfl, fun h => by cases h⟩
  | true =>
    have hlen : 4 ≤ S.length := by
      rw [beq_iff_eq] at hp
      have := congrArg List.length hp
      simp [remT] at this
      omega
    have hl4 : (nums remT).length = 4 := rfl
    have hd : (S.drop 4).length = S.length - 4 := List.length_drop
    unfold Lib.sliceFrom
    rw [hl4]
    by_cases hc4 : c = 4
    · refine ⟨o, S.length - 4, c - 4, ?_, rfl, fun _ => ⟨hd, by omega, fun k hk => ?_⟩⟩
      · rw [if_pos hc4]; rfl
      · omega
    · refine ⟨o + 4, S.length - 4, c - 4, ?_, rfl, fun _ => ⟨hd, by omega, fun k hk => ?_⟩⟩
      · rw [if_neg hc4]; rfl
      · have := hcell (4 + k) (by omega)
        rw [← Nat.add_assoc] at this
        rw [this]
        unfold bt
        rw [List.getD_eq_getElem?_getD, List.getD_eq_getElem?_getD, List.getElem?_drop]

theorem rem_any (b o n c g : Nat) (T : List UInt8) (m : Int) (w : World) (hn : T.length = n) (hc : n ≤ c) (hs : n ≤ 65536) (hcell : ∀ k, k < T.length → w.cell? ⟨b, o + k, none⟩ = some (.int .u8 (bt T k)))
    (hg : ∀ i, i < 3 → w.cell? ⟨g, 0 + i, none⟩ = some (.int .u8 (bt remE i))) (hm : w.cell? ⟨0, 0, none⟩ = some (.int .i64 m)) :
    Calls Tryd.prog 49 #[.slice (some ⟨b, o, none⟩) n c, .slice (some ⟨g, 0, none⟩) 3 3] w fun e w' => e = .returned (.int .i64 (Lib.index T remE)) ∧ ∃ q, w' = w.drewN q := by
  subst hn
  have h := Tryd.bytes_Index_at ⟨b, o, none⟩ ⟨g, 0, none⟩ T.length c 3 3 (nums T) (nums remE) m w (nums_length T) rfl (nums_range T) (nums_range remE) (fun i hi => by rw [Lib.add_plain', nums_at]; exact hcell i hi) (fun i hi => by rw [Lib.add_plain', nums_at]; exact hg i hi) hc (by omega) (by omega) hm
  rw [nums_bytes, nums_bytes] at h
  exact h

set_option maxRecDepth 100000 in
set_option maxHeartbeats 2000000 in
theorem pointed_any (bd bs bl b o c to k : Nat) (l : List UInt8) (L : List Int) (w : World) (hto : to ≤ l.length) (hk : k < to) (hD : DocR w bd bs b o c l) (hS : SheetAt w bs bl L) (hE : Env w) (hne : bd ≠ bl ∧ b ≠ bl) :
    Calls Tryd.prog 38 #[.pointer (some ⟨bd, 0, none⟩), .int .i64 k, .int .i64 to] w fun e w' => e = .returned (.int .i64 ((pntL l to k L).1 : Nat)) ∧ Only [bl] w w' ∧ SheetAt w' bs bl (pntL l to k L).2 := by
  have hl' : (l.length : Int) ≤ 65536 := by have := hD.len; omega
  have hlc := hD.cap
  have hcm := hD.max
  have HD := Lib.hid hD
  have HS := Lib.hid hS
  have HE := Lib.hid hE
  have HNE := Lib.hid hne
  have hSl := seg_length l k to hto
  clear hD hS hE hne
  go_enter Tryd.func38, Tryd.ntmps38
  go_wp2_with fail
  refine (link_any bd bs b o c k to l w HD.out HE.out hto hk).mono ?_
  cases hlk : linkS (seg l k to) with
  | some e =>
    have hb := linkS_bound hlk
    have hpn : pntL l to k L = (k + e, putR L k (k + e) 2) := by unfold pntL; rw [hlk]
    have HPN := Lib.hid hpn
    clear hlk hpn
    simp only [Option.map_some, optV]
    rintro e' w1 ⟨rfl, ho1⟩
    have c0 := ho1.cell_some HD.out.sheet (by simp)
    have HS1 := Lib.hid (HS.out.keep ho1 (by simp) (by simp))
    have HO1 := Lib.hid ho1
    have hke : ((k : Int) + e) ≤ 65536 := by omega
    clear ho1
    go_wp2_with fail
    refine (set_any bs bl 2 k (k + e) L w1 HS1.out (by omega) (by omega)).mono ?_
    rintro e' w2 ⟨rfl, ho2, hs2⟩
    have HO2 := Lib.hid ho2
    have HS2 := Lib.hid hs2
    clear ho2 hs2
    go_wp2_with fail
    go_ret
    rw [HPN.out]
    exact ⟨rfl, (HO1.out.mono (by simp)).trans HO2.out, HS2.out⟩
  | none =>
    simp only [Option.map_none, optV]
    rintro e' w1 ⟨rfl, ho1⟩
    have HLK := Lib.hid hlk
    have hDw := HD.out.keep ho1 (by simp) (by simp)
    have HD1 := Lib.hid hDw
    have HS1 := Lib.hid (HS.out.keep ho1 (by simp) (by simp))
    have HE1 := Lib.hid (HE.out.keep0 ho1)
    have HO1 := Lib.hid ho1
    have c1 := hDw.bytes
    have htc : (to : Int) ≤ c := by omega
    have kc := fun (w : World) (C : Array Value) (n c : Nat) => Lib.run_convert_bytes_const (P := Tryd.prog) w 22 5 C n c Tryd.underlying22 Tryd.underlying5
    clear ho1 hlk hDw HS HE HD
    go_wp2_with fail
    have hA2 : Only [] w1 (w1.alloc (.cells #[.int .u8 60, .int .u8 33, .int .u8 45, .int .u8 45] 5 (4, 5))) := (Only.refl [] w1).alloc _
    have hg2 : (w1.alloc (.cells #[.int .u8 60, .int .u8 33, .int .u8 45, .int .u8 45] 5 (4, 5))).heap[w1.heap.size]? = some (.cells #[.int .u8 60, .int .u8 33, .int .u8 45, .int .u8 45] 5 (4, 5)) := alloc_new _ _
    have hD2 := HD1.out.keep hA2 (by simp) (by simp)
    have hcS : ∀ j, j < (seg l k to).length → (w1.alloc (.cells #[.int .u8 60, .int .u8 33, .int .u8 45, .int .u8 45] 5 (4, 5))).cell? ⟨b, o + k + j, none⟩ = some (.int .u8 (bt (seg l k to) j)) := fun j hj => by
      rw [seg_bt _ _ _ _ (by omega), Nat.add_assoc]
      exact hD2.cells (k + j) (by omega)
    refine (cut_any b (o + k) (c - k) w1.heap.size (seg l k to) (to - k) hSl _ (by omega) hcS (fun i hi => by
      rw [cell_blk hg2]
      have : i = 0 ∨ i = 1 ∨ i = 2 ∨ i = 3 := by omega
      rcases this with rfl | rfl | rfl | rfl <;> rfl)).mono ?_
    rintro e' w2 ⟨o', n', c', rfl, hw2, hrest⟩
    have HD2 := Lib.hid hD2
    have HS2 := Lib.hid (HS1.out.keep hA2 (by simp) (by simp))
    have HE2 := Lib.hid (HE1.out.keep0 hA2)
    have HO2 := Lib.hid (HO1.out.trans hA2)
    clear hA2 hg2 hD2 hcS HD1 HS1 HE1 HO1
    rw [← hw2] at HD2 HS2 HE2 HO2 hrest
    clear hw2
    cases hp : ((seg l k to).take 4 == remT)
    case' true =>
      obtain ⟨hn', hc', hcT⟩ := hrest hp
      have HP : Hid ((seg l k to).take 4 = remT) := Lib.hid (by simpa using hp)
      have hdl : ((seg l k to).drop 4).length = (seg l k to).length - 4 := List.length_drop
      have hT5 : n' ≤ 65536 := by omega
      have HCT := Lib.hid hcT
      have HN' := Lib.hid hn'
      have HC' := Lib.hid hc'
      obtain ⟨m, hm⟩ := HE2.out.2
      have HM := Lib.hid hm
      clear hrest hcT hp hn' hm hc'
      go_wp2_with fail
      have hA3 : Only [] w2 (w2.alloc (.cells #[.int .u8 45, .int .u8 45, .int .u8 62] 5 (3, 4))) := (Only.refl [] w2).alloc _
      have hg3 : (w2.alloc (.cells #[.int .u8 45, .int .u8 45, .int .u8 62] 5 (3, 4))).heap[w2.heap.size]? = some (.cells #[.int .u8 45, .int .u8 45, .int .u8 62] 5 (3, 4)) := alloc_new _ _
      refine (rem_any b o' n' c' w2.heap.size ((seg l k to).drop 4) m _ HN'.out HC'.out hT5 (fun j hj => hA3.cell_some (HCT.out j hj) (by simp)) (fun i hi => by
        rw [cell_blk hg3]
        have : i = 0 ∨ i = 1 ∨ i = 2 := by omega
        rcases this with rfl | rfl | rfl <;> rfl) (hA3.cell_some HM.out (by simp))).mono ?_
      rintro e' w3 ⟨rfl, q, hw3⟩
      have hA4 : Only [] w2 w3 := by rw [hw3]; exact hA3.drewN q
      have hd4 := HD2.out.keep hA4 (by simp) (by simp)
      have HD5 := Lib.hid hd4
      have HS5 := Lib.hid (HS2.out.keep hA4 (by simp) (by simp))
      have HE5 := Lib.hid (HE2.out.keep0 hA4)
      have HO5 := Lib.hid (HO2.out.trans hA4)
      have hroom := Lib.index_room ((seg l k to).drop 4) remE
      have hre : remE.length = 3 := rfl
      rw [hre] at hroom
      have hrem : 0 ≤ Lib.index ((seg l k to).drop 4) remE → remS (seg l k to) = some ((Lib.index ((seg l k to).drop 4) remE).toNat + 7) := fun h => by unfold remS; rw [if_pos ⟨HP.out, h⟩]
      have hrem0 : ¬ 0 ≤ Lib.index ((seg l k to).drop 4) remE → remS (seg l k to) = none := fun h => by unfold remS; rw [if_neg (fun hh => h hh.2)]
      have HREM := Lib.hid hrem
      have HREM0 := Lib.hid hrem0
      clear hA3 hg3 hA4 hw3 hrem hrem0 HD2 HS2 HE2 HO2 HP HCT HM
      generalize Lib.index ((seg l k to).drop 4) remE = ix at *
      have HHL : Hid (((seg l k to).drop 4).length = n') := HN'
      by_cases hi : 0 ≤ ix
      case' pos =>
        obtain ⟨i, rfl⟩ : ∃ i : Nat, ix = (i : Int) := ⟨ix.toNat, by omega⟩
        have hr := hroom hi
        have hpn : pntL l to k L = (k + (i + 7), putR L k (k + (i + 7)) 3) := by
          unfold pntL
          rw [HLK.out, HREM.out hi]
          rfl
        have HPN := Lib.hid hpn
        have hki : ((k : Int) + i + 7) ≤ 65536 := by omega
        have c0 := hd4.sheet
        have hkn : k + (i + 7) ≤ 65536 := by omega
        clear hpn hroom hd4 hr
        go_wp2_with fail
        refine (set_any bs bl 3 k (k + (i + 7)) L w3 HS5.out (by omega) (by omega)).mono ?_
        rintro e' w6 ⟨rfl, ho6, hs6⟩
        have HO6 := Lib.hid ho6
        have HS6 := Lib.hid hs6
        clear ho6 hs6
        go_wp2_with fail
        go_ret
        rw [HPN.out]
        exact ⟨ret_int (by simp only; omega), (HO5.out.mono (by simp)).trans HO6.out, HS6.out⟩
      case' neg =>
        have HP := Lib.hid (HREM0.out hi)
        have c1 := hd4.bytes
        clear hroom hd4
        go_wp2_with fail
    case' false =>
      have HP : Hid (remS (seg l k to) = none) := Lib.hid (by
        unfold remS
        rw [if_neg]
        intro h
        rw [h.1] at hp
        simp at hp)
      have c1 := HD2.out.bytes
      have HD5 := HD2
      have HS5 := HS2
      have HE5 := HE2
      have HO5 := HO2
      clear hrest hp HD2 HS2 HE2 HO2
      obtain ⟨w3, hw3⟩ : ∃ w3, w3 = w2 := ⟨_, rfl⟩
      subst hw3
      go_wp2_with fail
    all_goals
      have hlt : (l.take to).length = to := by rw [List.length_take]; omega
      have hread := read_any b o c k (l.take to) w3 (by omega) (by omega) hcm (fun j hj => by
        have := HD5.out.cells j (by omega)
        rw [this]
        unfold bt
        rw [List.getD_eq_getElem?_getD, List.getD_eq_getElem?_getD, List.getElem?_take, if_pos (by omega)]) (by omega)
      rw [hlt] at hread
      refine hread.mono ?_
      clear hread
      cases hrd : readL (l.take to) k with
      | none =>
        rintro e' w6 ⟨he, ho6⟩
        have he' : e' = .returned (.tuple #[tagZ, .bool false]) := he
        subst he'
        have hpn : pntL l to k L = (k + 1, L) := by unfold pntL; rw [HLK.out, HP.out, hrd]
        have HPN := Lib.hid hpn
        have HO6 := Lib.hid ((HO5.out.trans ho6).alloc (.cells #[.int .i64 0, .string ⟨#[]⟩, .bool false, .slice none 0 0] 89))
        have HS6 := Lib.hid (HS5.out.keep (ho6.alloc (.cells #[.int .i64 0, .string ⟨#[]⟩, .bool false, .slice none 0 0] 89)) (by simp) (by simp))
        clear he ho6 hpn hrd c1
        simp only [tagZ]
        go_wp2_with fail
        go_ret
        rw [HPN.out]
        exact ⟨ret_int (by simp only; omega), HO6.out.mono (by simp), HS6.out⟩
      | some t =>
        rintro e' w6 ⟨he, ho6⟩
        obtain ⟨v, rfl, hown⟩ := he
        have hb := readL_bound _ _ _ hrd
        rw [hlt] at hb
        have hpn : pntL l to k L = (t.fin, layL k t L) := by unfold pntL; rw [HLK.out, HP.out, hrd]
        have HPN := Lib.hid hpn
        obtain ⟨pp, cp, rfl, -⟩ := ownsRow_shape hown
        have hA7 : Only [] w6 (w6.alloc (.cells #[.int .i64 t.fin, .string ⟨t.name.toArray⟩, .bool t.closes, .slice pp t.prose.length cp] 89)) := (Only.refl [] _).alloc _
        have hT7 : TagAt (w6.alloc (.cells #[.int .i64 t.fin, .string ⟨t.name.toArray⟩, .bool t.closes, .slice pp t.prose.length cp] 89)) w6.heap.size t.fin t.name t.closes (.slice pp t.prose.length cp) := alloc_new _ _
        have hS7 := HS5.out.keep (ho6.trans hA7) (by simp) (by simp)
        have hd7 := HD5.out.keep (ho6.trans hA7) (by simp) (by simp)
        have c0 := hd7.sheet
        obtain ⟨t0, t1, t2, t3, tf⟩ := hT7.four
        have hblw : bl < w3.heap.size := lt_of_block HS5.out.2.2.2
        have hnp : t.prose.length ≤ 65536 := by
          have := ReadLen hrd
          rw [hlt] at this
          omega
        have hW7 := ownsRow_only hown (hA7.drew) (by simp)
        have hlay := lay_any bs bl k w3.heap.size t (.slice pp t.prose.length cp) L (w6.alloc (.cells #[.int .i64 t.fin, .string ⟨t.name.toArray⟩, .bool t.closes, .slice pp t.prose.length cp] 89)).drew hS7 (by omega) (by omega) (fun q hq => by have := hb.2.2 q hq; omega) hnp hW7 hblw
        have HO7 := Lib.hid ((HO5.out.trans ho6).trans hA7.drew)
        have hvb : bl < w6.heap.size := lt_of_block (HS5.out.keep ho6 (by simp) (by simp)).2.2.2
        have HVB : Hid (w6.heap.size ∉ [bl]) := Lib.hid (by simp; omega)
        clear hvb
        have hdd := hA7.drew
        simp only [tagV] at hlay ⊢
        have HLAY := Lib.hid hlay
        clear hpn hrd hT7 hS7 hd7 hown hW7 hA7 hlay hdd c1
        go_wp2_with fail
        generalize w6.alloc (.cells #[.int .i64 t.fin, .string ⟨t.name.toArray⟩, .bool t.closes, .slice pp t.prose.length cp] 89) = w7 at *
        generalize w6.heap.size = vb at *
        go_region_with (go_at_call 51; refine HLAY.out.mono ?_; rintro e8 w8 ⟨rfl, ho8, hs8⟩)
        all_goals
          have HO8 := Lib.hid ho8
          have HS8 := Lib.hid hs8
          have u0 := ho8.cell_some (w := w7.drew) (p := ⟨vb, 0, none⟩) t0 HVB.out
          clear ho8 hs8
          go_wp2_with fail
          go_ret
          rw [HPN.out]
          exact ⟨rfl, (HO7.out.mono (by simp)).trans HO8.out, HS8.out⟩
end Go.Proofs.YtpohopmggpiomaaDoor
