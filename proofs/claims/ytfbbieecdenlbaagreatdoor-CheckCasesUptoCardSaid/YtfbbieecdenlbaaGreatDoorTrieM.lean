/-
  trie: put.
  trie: Kids, Ends, Has.
  trie: Ends, Has.
  trie.Make: words that rise.
-/
import Derived.Test.YtfbbieecdenlbaaGreatDoorTrieW
import Derived.Test.YtfbbieecdenlbaaGreatDoorRowG
import Derived.Test.YtfbbieecdenlbaaGreatDoorStrs
namespace Go.Proofs.YtfbbieecdenlbaaGreatDoor
open Go.RowKit

theorem results_none {fn : Func} (h : fn.results = #[]) (tmps : Array Value) (P : Program) (w : World) : (results fn tmps).run P w = .ok (.tuple #[]) w := by
  simp [results, h]

theorem putW_len (l : List Int) : ∀ (N : List Nd) (a : Nat), (putW N a l).1.length ≤ N.length + l.length := by
  induction l with
  | nil => intro N a; exact Nat.le_refl _
  | cons r rs ih =>
    intro N a
    have h1 := ih (childT N a r).1 (childT N a r).2
    have h2 := (childT_len N a r).2
    simp only [putW, List.length_cons]
    omega

theorem trie_count {w : World} {b g : Nat} {N : List Nd} {n : Int} (ht : TrieAt w b g N n) (m : Int) : TrieAt (w.setCell ⟨b, 1, none⟩ (.int .i64 m)) b g N m := by
  have hne := ht.ne
  obtain ⟨cap, h1, h2⟩ := ht
  refine ⟨cap, ?_, ?_⟩
  · rw [setCell_blk h1]; rfl
  · exact ownsRow_setCell_other h2 (by simp [Value.ownBlock]; exact fun e => hne e.symm) _

set_option maxRecDepth 100000 in
set_option maxHeartbeats 2000000 in
theorem put_word (b g : Nat) (N : List Nd) (n : Nat) (l : List Int) (v : Value) (w : World) (ht : TrieAt w b g N (n : Int)) (hv : IntsV .i32 w v l) (hok : okPut N 0 l = true) (hN : N.length + l.length ≤ 1000000) (hn : n ≤ 1000000) (hl : l.length ≤ 65536)
    (hvb : ∀ p a c, v = .slice (some p) a c → p.block ≠ b ∧ p.block ≠ g) :
    Calls Tryz.prog 40 #[.pointer (some ⟨b, 0, none⟩), v] w fun e w' => e = .returned (.tuple #[]) ∧ ∃ g', TrieAt w' b g' (putT N l) ((n + putNew N l : Nat) : Int) ∧ (g' = g ∨ w.heap.size ≤ g') ∧ Only [b, g] w w' := by
  obtain ⟨p, c, rfl, hc, hm, hk⟩ := hv
  have HK := Lib.hid hk
  have HT := Lib.hid ht
  have HOK := Lib.hid hok
  have HVB := Lib.hid hvb
  have hl' : (l.length : Int) ≤ 65536 := by omega
  have hT0 := ht
  clear hk hok hvb ht
  go_enter Tryz.func40, Tryz.ntmps40
  go_wp2_with fail
  go_loopw [4, 6, 9] (fun av _ iv wr => ∃ (k a g1 : Nat) (N1 : List Nd), k ≤ l.length ∧ iv = .int .i64 k ∧ av = .int .i64 a ∧ okPut N1 a (l.drop k) = true ∧ putW N1 a (l.drop k) = putW N 0 l ∧ N1.length ≤ N.length + k ∧ TrieAt wr b g1 N1 n ∧ (g1 = g ∨ w.heap.size ≤ g1) ∧ Only [b, g] w wr) (fun _ _ iv _ => l.length - (intOf iv).toNat)
  case atStart => exact ⟨0, 0, g, N, by omega, rfl, rfl, HOK.out, rfl, by omega, HT.out, Or.inl rfl, Only.refl _ _⟩
  case round =>
    obtain ⟨k, a, g1, N1, hkl, rfl, rfl, hok, hput, hlen, ht, hg1, ho⟩ := hrel
    have HG1 := Lib.hid hg1
    have HT1 := Lib.hid ht
    have HO := Lib.hid ho
    clear hT0
    by_cases hlt : k < l.length
    · obtain ⟨b0, o0, rfl, hcell⟩ := HK.out (by omega)
      have hvb := HVB.out _ _ _ rfl
      have hkc : (k : Int) < c := by omega
      have k0 : wr.cell? ⟨b0, o0 + k, none⟩ = some (.int .i32 (nth l k)) := ho.cell_some (hcell k hlt) (by simp; exact ⟨hvb.1, hvb.2⟩)
      have hdr : l.drop k = nth l k :: l.drop (k + 1) := by rw [nth_lt hlt]; exact List.drop_eq_getElem_cons hlt
      rw [hdr] at hok hput
      rw [okPut] at hok
      rw [putW] at hput
      obtain ⟨q1, q2⟩ := Bool.and_eq_true_iff.1 hok
      obtain ⟨q3, q4⟩ := Bool.and_eq_true_iff.1 q2
      have q1' := of_decide_eq_true q1
      have hcl := (childT_len N1 a (nth l k)).2
      have HPUT := Lib.hid hput
      have HQ := Lib.hid q4
      have HC := Lib.hid (child_any b g1 N1 n a (nth l k) wr ht q1' q3 (by omega))
      clear hcell hok hput hdr q1 q2 q3 q4 hg1 ht ho hvb
      generalize nth l k = r at *
      go_wp2_with fail
      refine HC.out.mono ?_
      rintro e w2 ⟨g2, rfl, ht2, hg2, ho2⟩
      have hO2 : Only [b, g] w w2 := HO.out.trans' ho2 (by
        intro i hi
        simp only [List.mem_cons, List.not_mem_nil, or_false] at hi ⊢
        rcases hi with h | h
        · exact Or.inl (Or.inl h)
        · rcases HG1.out with h' | h'
          · exact Or.inl (Or.inr (by omega))
          · exact Or.inr (by omega))
      have hG2 : g2 = g ∨ w.heap.size ≤ g2 := by
        rcases hg2 with h | h
        · rw [h]; exact HG1.out
        · right; have := HO.out.size; omega
      have HO2 := Lib.hid hO2
      have HG2 := Lib.hid hG2
      have HT2 := Lib.hid ht2
      clear ht2 hg2 ho2 hO2 hG2
      go_wp2_with fail
      go_roundw
      case rel => exact ⟨k + 1, _, g2, _, by omega, by go_num, rfl, HQ.out, HPUT.out, by omega, HT2.out, HG2.out, HO2.out⟩
      case measure => simp [intOf]; omega
    · obtain rfl : k = l.length := by omega
      rw [List.drop_length] at hok hput
      rw [okPut] at hok
      rw [putW] at hput
      have ha := of_decide_eq_true hok
      have ha' : (a : Int) < N1.length := by omega
      have hnd := ht.node ha
      have d1 := hnd.c1
      obtain ⟨cap, hb, hrow⟩ := id ht
      have hcT := cell_blk hb 0
      have hcT' : wr.cell? ⟨b, 0, none⟩ = some (.slice (some ⟨g1, 0, none⟩) N1.length cap) := hcT
      have hcN := cell_blk hb 1
      have hcN' : wr.cell? ⟨b, 1, none⟩ = some (.int .i64 n) := hcN
      have hbf : wr.frozen? ⟨b, 1, none⟩ = false := free_blk hb 1
      have hset := trie_set (N' := setFin N1 a) ht (by simp [setFin]) (nodeCells_fin N1 a ha)
      have hne := ht.ne
      have hpT : putT N l = setFin N1 a := by unfold putT; rw [← hput]
      have hpN : putNew N l = if (ndAt N1 a).fin then 0 else 1 := by unfold putNew; rw [← hput]
      have HPT := Lib.hid hpT
      have HPN := Lib.hid hpN
      have hnn : ((n : Int) + 1) ≤ 1000001 := by omega
      clear hok hput hnd hcT hcN hpT hpN hb hrow ho hg1
      cases hf : (ndAt N1 a).fin
      · rw [hf] at d1 HPN
        have hfz := hset.1
        have h2 := hset.2
        have hc2 : (wr.setCell ⟨g1, a * 4 + 1, none⟩ (.bool true)).cell? ⟨b, 1, none⟩ = some (.int .i64 n) := by
          rw [World.cell?_setCell_other _ _ _ _ (by intro e; exact hne (congrArg Addr.block e).symm)]; exact hcN'
        have hf2 : (wr.setCell ⟨g1, a * 4 + 1, none⟩ (.bool true)).frozen? ⟨b, 1, none⟩ = false := by
          rw [World.frozen?_setCell]; exact hbf
        have H2 := Lib.hid h2
        clear hset h2 hf ht
        go_wp2_with fail
        go_end0
        refine ⟨rfl, g1, ?_, HG1.out, ?_⟩
        · have h3 := trie_count H2.out ((n : Int) + 1)
          rw [HPT.out, HPN.out]
          exact h3
        · refine (HO.out.setCell ?_ _).setCell (Or.inl (by simp)) _
          rcases HG1.out with h | h
          · exact Or.inl (by simp [h])
          · exact Or.inr h
      · rw [hf] at d1 HPN
        have hfin : setFin N1 a = N1 := by
          have h1 := nodeCells_fin N1 a ha
          unfold setFin
          have h2 : (⟨(ndAt N1 a).r, true, (ndAt N1 a).kid, (ndAt N1 a).other⟩ : Nd) = ndAt N1 a := by rw [← hf]
          rw [h2]
          apply List.ext_getElem (by simp)
          intro i h3 h4
          rw [List.getElem_set]
          split
          · rename_i e
            subst e
            unfold ndAt
            rw [List.getD_eq_getElem?_getD, List.getElem?_eq_getElem h4]
            rfl
          · rfl
        have HF := Lib.hid hfin
        clear hset hf ht hfin
        go_wp2_with fail
        go_end0
        refine ⟨rfl, g1, ?_, HG1.out, HO.out⟩
        rw [HPT.out, HPN.out, HF.out]
        exact HT1.out
end Go.Proofs.YtfbbieecdenlbaaGreatDoor
namespace Go.Proofs.YtfbbieecdenlbaaGreatDoor
open Go.RowKit

theorem infoI64 : (Tryz.prog.info? 3).map (fun i => (i.zero, i.size, i.bytes)) = some (some (.int .i64 0), 1, 8) := by kernel_rfl

def kidRow (N : List Nd) (l : List Nat) : List Value := (l.map fun k => (ndAt N k).r).map (Value.int .i32)
def numRow (l : List Nat) : List Value := (l.map fun k => ((k : Nat) : Int)).map (Value.int .i64)

set_option maxRecDepth 100000 in
set_option maxHeartbeats 2000000 in
theorem kids_any (b g : Nat) (N : List Nd) (n : Int) (at' : Nat) (w : World) (ht : TrieAt w b g N n) (hat : at' < N.length) (hk : okk N (ndAt N at').kid) (hN : N.length ≤ 1000000) :
    Calls Tryz.prog 43 #[.pointer (some ⟨b, 0, none⟩), .int .i64 at'] w fun e w' => ∃ u v, e = .returned (.tuple #[u, v]) ∧ Only [] w w' ∧ w'.ownsRow w.heap.size 21 1 u (chain N (ndAt N at').kid).length (kidRow N (chain N (ndAt N at').kid)) ∧ w'.ownsRow w.heap.size 3 1 v (chain N (ndAt N at').kid).length (numRow (chain N (ndAt N at').kid)) := by
  obtain ⟨cap, hb, hrow⟩ := id ht
  have hnd := ht.node hat
  have HT := Lib.hid ht
  have HK := Lib.hid hk
  have hcT := cell_blk hb 0
  have hcT' : w.cell? ⟨b, 0, none⟩ = some (.slice (some ⟨g, 0, none⟩) N.length cap) := hcT
  have a2 := hnd.c2
  have hat' : (at' : Int) < N.length := by omega
  have hN' : (N.length : Int) ≤ 1000000 := by omega
  have hcl : (chain N (ndAt N at').kid).length ≤ N.length := by
    have h : ∀ d k, (sibs N d k).length ≤ d := by
      intro d
      induction d with
      | zero => intro k; simp [sibs]
      | succ d ih => intro k; rw [sibs]; split <;> simp; exact ih _
    exact h _ _
  have z1 : decide ((at' : Int) < 0) = false := decide_eq_false (by omega)
  have z2 : decide (N.length ≤ at') = false := decide_eq_false (by omega)
  clear ht hk hb hrow hnd hcT
  go_enter Tryz.func43, Tryz.ntmps43
  go_wp2_with fail
  go_loopw [6, 7, 8] (fun uv lv kv wr => ∃ (k : Nat) (acc : List Nat), kv = .int .i64 k ∧ okk N k ∧ chain N (ndAt N at').kid = acc ++ chain N k ∧ Only [] w wr ∧ wr.ownsRow w.heap.size 21 1 uv acc.length (kidRow N acc) ∧ wr.ownsRow w.heap.size 3 1 lv acc.length (numRow acc)) (fun _ _ kv _ => (chain N (intOf kv).toNat).length)
  case atStart => exact ⟨_, [], rfl, HK.out, rfl, Only.refl _ _, World.ownsRow_nil _ _ _ _, World.ownsRow_nil _ _ _ _⟩
  case round =>
    obtain ⟨k, acc, rfl, hok, hch, ho, hu, hv⟩ := hrel
    obtain ⟨pu, cu, rfl, -⟩ := ownsRow_shape hu
    obtain ⟨pv, cv, rfl, -⟩ := ownsRow_shape hv
    have HT2 := Lib.hid (HT.out.only ho (by simp) (by simp))
    have hcT2 : wr.cell? ⟨b, 0, none⟩ = some (.slice (some ⟨g, 0, none⟩) N.length cap) := ho.cell_some hcT' (by simp)
    have hal : acc.length ≤ N.length := by rw [hch, List.length_append] at hcl; omega
    have HO := Lib.hid ho
    have HU := Lib.hid hu
    have HV := Lib.hid hv
    by_cases h0 : k = 0
    · subst h0
      rw [chain_zero, List.append_nil] at hch
      have HC := Lib.hid hch
      clear hok hch ho hu hv
      go_wp2_with fail
      go_ret2
      rw [HC.out]
      exact ⟨_, _, rfl, HO.out, HU.out, HV.out⟩
    · obtain ⟨s1, s2, s3⟩ := chain_step hok (by omega)
      have hk' : (k : Int) < N.length := by omega
      have hk0 : (0 : Int) < k := by omega
      have hnd := HT2.out.node s1
      have d0 := hnd.c0
      have HND := Lib.hid hnd
      have hau : ∀ j, Value.ownBlock (.slice pu acc.length cu) = some j → Value.ownBlock (.slice pv acc.length cv) ≠ some j := fun j hj => row_apart hu hv (by decide) hj
      have hav : ∀ j, Value.ownBlock (.slice pv acc.length cv) = some j → w.heap.size ≤ j ∧ j < wr.heap.size := fun j hj => hv.lt j hj
      have hbu : ∀ j, Value.ownBlock (.slice pu acc.length cu) = some j → w.heap.size ≤ j := fun j hj => (hu.lt j hj).1
      have HAU := Lib.hid hau
      have HAV := Lib.hid hav
      have HBU := Lib.hid hbu
      have HS3 := Lib.hid s3
      have HS2 := Lib.hid s2
      have HCH := Lib.hid hch
      have hws := ho.size
      clear hok hch s3 s2 hu hv hnd hau hav hbu ho
      generalize hr : (ndAt N k).r = r at *
      have HR := Lib.hid hr
      clear hr
      go_wp2_with (at_builtin; refine wpList_append_litg rfl (.tmp 42) (.tmp 51) 78 rfl w.heap.size 21 (.int .i32 0) 1 4 Tryz.underlying78 infoRune rfl (by decide) (.slice pu acc.length cu) acc.length _ rfl HU.out hws wr.heap.size 1 [.int .i32 r] rfl rfl rfl (by simp [Value.oneCell']) (by unfold maxLen; omega) (by omega) ?_)
      intro vu w2 hu2 ho2 hloc2
      have hv2 := ownsRow_only HV.out ho2 (by
        intro j hj hm
        rw [Option.mem_toList] at hm
        exact HAU.out j hm hj)
      have ho2w : Only [] w w2 := HO.out.trans' ho2 (by
        intro i hi
        rw [Option.mem_toList] at hi
        exact Or.inr (HBU.out i hi))
      have hau2 : ∀ j, Value.ownBlock (.slice pv acc.length cv) = some j → vu.ownBlock ≠ some j := fun j hj => row_apart hv2 hu2 (by decide) hj
      have HU2 := Lib.hid hu2
      have HV2 := Lib.hid hv2
      have HO2 := Lib.hid ho2w
      have hws2 := ho2w.size
      have HAU2 := Lib.hid hau2
      clear hu2 hv2 ho2 hloc2 ho2w hau2
      go_wp2_with (at_builtin; refine wpList_append_litg rfl (.tmp 53) (.tmp 55) 116 rfl w.heap.size 3 (.int .i64 0) 1 8 Tryz.underlying116 infoI64 rfl (by decide) (.slice pv acc.length cv) acc.length _ rfl HV2.out hws2 w2.heap.size 1 [.int .i64 k] rfl rfl rfl (by simp [Value.oneCell']) (by unfold maxLen; omega) (by omega) ?_)
      intro vv w3 hv3 ho3 hloc3
      have hu3 := ownsRow_only HU2.out ho3 (by
        intro j hj hm
        rw [Option.mem_toList] at hm
        exact HAU2.out j hm hj)
      have ho3w : Only [] w w3 := HO2.out.trans' ho3 (by
        intro i hi
        rw [Option.mem_toList] at hi
        exact Or.inr (HAV.out i hi).1)
      have HT3 := Lib.hid (HT.out.only ho3w (by simp) (by simp))
      have e3 := (HT3.out.node s1).c3
      have hcT3 : w3.cell? ⟨b, 0, none⟩ = some (.slice (some ⟨g, 0, none⟩) N.length cap) := ho3w.cell_some hcT' (by simp)
      have HU3 := Lib.hid hu3
      have HV3 := Lib.hid hv3
      have HO3 := Lib.hid ho3w
      clear hu3 hv3 ho3 hloc3 ho3w
      go_wp2_with fail
      go_roundw
      case rel => exact ⟨_, acc ++ [k], rfl, HS2.out, by rw [HCH.out, HS3.out]; simp, HO3.out, by simpa [kidRow, HR.out] using HU3.out, by simpa [numRow] using HV3.out⟩
      case measure =>
        simp only [intOf, Int.toNat_natCast]
        rw [HS3.out]
        simp
end Go.Proofs.YtfbbieecdenlbaaGreatDoor
namespace Go.Proofs.YtfbbieecdenlbaaGreatDoor
open Go.RowKit

set_option maxRecDepth 100000 in
set_option maxHeartbeats 2000000 in
theorem ends_any (b g : Nat) (N : List Nd) (n : Int) (at' : Nat) (w : World) (ht : TrieAt w b g N n) (hat : at' < N.length) (hN : N.length ≤ 1000000) :
    Calls Tryz.prog 44 #[.pointer (some ⟨b, 0, none⟩), .int .i64 at'] w fun e w' => e = .returned (.bool (ndAt N at').fin) ∧ w = w' := by
  obtain ⟨cap, hb, hrow⟩ := id ht
  have hnd := ht.node hat
  have hcT := cell_blk hb 0
  have hcT' : w.cell? ⟨b, 0, none⟩ = some (.slice (some ⟨g, 0, none⟩) N.length cap) := hcT
  have a1 := hnd.c1
  have hat' : (at' : Int) < N.length := by omega
  have hN' : (N.length : Int) ≤ 1000000 := by omega
  clear ht hb hrow hnd hcT
  generalize (ndAt N at').fin = f at *
  go_enter Tryz.func44, Tryz.ntmps44
  go_wp2_with fail
  go_ret
  exact ⟨rfl, rfl⟩

theorem chain_len (N : List Nd) (k : Nat) : (chain N k).length ≤ N.length := by
  have h : ∀ d k, (sibs N d k).length ≤ d := by
    intro d
    induction d with
    | zero => intro k; simp [sibs]
    | succ d ih => intro k; rw [sibs]; split <;> simp; exact ih _
  exact h _ _

theorem pickI_take (N : List Nd) (r : Int) (C : List Nat) (j : Nat) (h : j < C.length) : pickI (C.take (j + 1)) N r (-1) = if (ndAt N C[j]).r == r then (C[j] : Int) else pickI (C.take j) N r (-1) := by
  rw [List.take_succ_eq_append_getElem h]
  unfold pickI
  rw [List.foldl_append]
  rfl
theorem pickI_bound {N : List Nd} (r : Int) : ∀ (C : List Nat) (a : Int), (∀ j ∈ C, j < N.length) → -1 ≤ a ∧ a < N.length → -1 ≤ pickI C N r a ∧ pickI C N r a < N.length := by
  intro C
  induction C with
  | nil => intro a _ h; exact h
  | cons k ks ih =>
    intro a hk ha
    unfold pickI
    rw [List.foldl_cons]
    refine ih _ (fun j hj => hk j (List.mem_cons_of_mem _ hj)) ?_
    split
    · have := hk k (by simp); omega
    · exact ha

set_option maxRecDepth 100000 in
set_option maxHeartbeats 4000000 in
theorem has_any (b g : Nat) (N : List Nd) (n : Int) (s : List UInt8) (w : World) (ht : TrieAt w b g N n) (hwf : wfN N) (hN : N.length ≤ 1000000) (hl : s.length ≤ 65536) :
    Calls Tryz.prog 26 #[.pointer (some ⟨b, 0, none⟩), .string ⟨s.toArray⟩] w fun e w' => e = .returned (.bool (hasW N 0 (runesU s))) ∧ Only [] w w' := by
  have HT := Lib.hid ht
  have hrl := runesU_len s
  have hrl' : ((runesU s).length : Int) ≤ 65536 := by omega
  have hN' : (N.length : Int) ≤ 1000000 := by omega
  have HWF := Lib.hid hwf
  clear ht hwf
  go_enter Tryz.func26, Tryz.ntmps26
  go_wp2_with fail
  refine (runes_any s w (by omega)).mono ?_
  rintro e w2 ⟨u, rfl, ho2, hu⟩
  obtain ⟨pu, cu, rfl, -⟩ := ownsRow_shape hu
  generalize hgu : runesU s = U at *
  have HGU := Lib.hid hgu
  clear hgu
  have HU := Lib.hid hu
  have HO2 := Lib.hid ho2
  clear hu ho2
  go_wp2_with fail
  go_loopw [5, 7, 8, 9, 10, 11, 15, 27] (fun av _ _ _ _ _ iv _ wr => ∃ k a : Nat, k ≤ U.length ∧ iv = .int .i64 k ∧ av = .int .i64 a ∧ a < N.length ∧ hasW N 0 U = hasW N a (U.drop k) ∧ Only [] w2 wr) (fun _ _ _ _ _ _ iv _ _ => U.length - (intOf iv).toNat)
  case atStart => exact ⟨0, 0, by omega, rfl, rfl, HWF.out.1, rfl, Only.refl _ _⟩
  case round =>
    obtain ⟨k, a, hk, rfl, rfl, ha, hhas, ho⟩ := hrel
    have HO := Lib.hid ho
    by_cases hlt : k < U.length
    · have hw := ownsRow_only HU.out ho (by simp)
      obtain ⟨g1, cg, hpr, hg1, -⟩ := ownsRow_some hw (by omega)
      simp only [Value.slice.injEq, true_and] at hpr
      obtain ⟨rfl, rfl⟩ := hpr
      have k0 : wr.cell? ⟨g1, k, none⟩ = some (.int .i32 (nth U k)) := by
        rw [hw.cellAt k (by omega), List.getElem?_map, List.getElem?_eq_getElem hlt, nth_lt hlt]; rfl
      have hdr : U.drop k = nth U k :: U.drop (k + 1) := by rw [nth_lt hlt]; exact List.drop_eq_getElem_cons hlt
      rw [hdr, hasW] at hhas
      have hT2 := HT.out.only (HO2.out.trans ho) (by simp) (by simp)
      have hok := HWF.out.2 a ha
      have hmem := chain_mem _ _ hok (Nat.le_refl _)
      have hpb := pickI_bound (N := N) (nth U k) (chain N (ndAt N a).kid) (-1) hmem (by omega)
      have hcn := chain_len N (ndAt N a).kid
      have HC := Lib.hid (kids_any b g N n a wr hT2 ha hok hN)
      have HH := Lib.hid hhas
      have HM := Lib.hid hmem
      have HPB := Lib.hid hpb
      clear hw hhas hdr hT2 hok hmem ho hpb
      generalize nth U k = r at *
      generalize chain N (ndAt N a).kid = C at *
      go_wp2_with fail
      refine HC.out.mono ?_
      rintro e w3 ⟨xu, xv, rfl, ho3, hxu, hxv⟩
      obtain ⟨pr, cr, rfl, -⟩ := ownsRow_shape hxu
      obtain ⟨pn, cn, rfl, -⟩ := ownsRow_shape hxv
      have hcl : (C.length : Int) ≤ 1000000 := by omega
      have HXU := Lib.hid hxu
      have HXV := Lib.hid hxv
      have HO3 := Lib.hid (HO.out.trans ho3)
      clear hxu hxv ho3
      go_wp2_with fail
      go_loopw [5, 10, 11, 27] (fun av _ _ jv wq => wq = w3 ∧ ∃ j : Nat, j ≤ C.length ∧ jv = .int .i64 j ∧ av = .int .i64 (pickI (C.take j) N r (-1))) (fun _ _ _ jv _ => C.length - (intOf jv).toNat)
      case atStart => exact ⟨rfl, 0, by omega, rfl, rfl⟩
      case round =>
        obtain ⟨rfl, j, hj, rfl, rfl⟩ := hrel
        by_cases hjl : j < C.length
        · have hxu := HXU.out
          have hxv := HXV.out
          obtain ⟨g2, cg2, hpr, hg2, -⟩ := ownsRow_some hxu (by omega)
          simp only [Value.slice.injEq, true_and] at hpr
          obtain ⟨rfl, rfl⟩ := hpr
          obtain ⟨g3, cg3, hpr, hg3, -⟩ := ownsRow_some hxv (by omega)
          simp only [Value.slice.injEq, true_and] at hpr
          obtain ⟨rfl, rfl⟩ := hpr
          have q0 : wr.cell? ⟨g2, j, none⟩ = some (.int .i32 (ndAt N C[j]).r) := by
            rw [hxu.cellAt j (by omega)]; simp [kidRow, hjl]
          have q1 : wr.cell? ⟨g3, j, none⟩ = some (.int .i64 (C[j] : Int)) := by
            rw [hxv.cellAt j (by omega)]; simp [numRow, hjl]
          have hpk := pickI_take N r C j hjl
          have HPK := Lib.hid hpk
          clear hxu hxv hpk
          generalize C[j] = c at *
          generalize (ndAt N c).r = x at *
          generalize pickI (C.take j) N r (-1) = y at *
          cases hx : (x == r)
          · rw [hx] at HPK
            go_wp2_with fail
            go_roundw
            case rel => exact ⟨trivial, j + 1, by omega, by go_num, by rw [HPK.out]; rfl⟩
            case measure => simp [intOf]; omega
          · rw [hx] at HPK
            go_wp2_with fail
            go_roundw
            case rel => exact ⟨trivial, j + 1, by omega, by go_num, by rw [HPK.out]; rfl⟩
            case measure => simp [intOf]; omega
        · obtain rfl : j = C.length := by omega
          rw [List.take_length] at *
          have hpb := HPB.out
          generalize pickI C N r (-1) = y at *
          by_cases hy : y < 0
          · rw [if_pos hy] at HH
            clear hpb
            go_wp2_with fail
            go_ret
            exact ⟨ret_bool (by rw [HGU.out]; exact HH.out.symm), HO2.out.trans HO3.out⟩
          · rw [if_neg hy] at HH
            obtain ⟨m, rfl⟩ : ∃ m : Nat, y = m := ⟨y.toNat, by omega⟩
            have hm : m < N.length := by omega
            clear hpb
            go_wp2_with fail
            go_roundw
            case rel => exact ⟨k + 1, m, by omega, by go_num, rfl, hm, by rw [HH.out]; rfl, HO3.out⟩
            case measure => simp [intOf]; omega
    · obtain rfl : k = U.length := by omega
      rw [List.drop_length, hasW] at hhas
      have HH := Lib.hid hhas
      have HC := Lib.hid (ends_any b g N n a wr (HT.out.only (HO2.out.trans ho) (by simp) (by simp)) ha hN)
      clear hhas ho
      go_wp2_with fail
      refine HC.out.mono ?_
      rintro e w4 ⟨rfl, rfl⟩
      rw [← HH.out]
      go_wp2_with fail
      go_ret
      exact ⟨ret_bool (by rw [HGU.out]), HO2.out.trans HO.out⟩
end Go.Proofs.YtfbbieecdenlbaaGreatDoor
namespace Go.Proofs.YtfbbieecdenlbaaGreatDoor
open Go.RowKit

def makeN (L : List (List UInt8)) (k : Nat) : List Nd := (L.take k).foldl (fun N s => putT N (runesU s)) [nd0]
def makeC (L : List (List UInt8)) (k : Nat) : Nat := ((L.take k).foldl (fun (p : List Nd × Nat) s => (putT p.1 (runesU s), p.2 + putNew p.1 (runesU s))) ([nd0], 0)).2
theorem makeN_succ (L : List (List UInt8)) (k : Nat) (h : k < L.length) : makeN L (k + 1) = putT (makeN L k) (runesU (nthS L k)) := by
  unfold makeN
  rw [List.take_succ_eq_append_getElem h, List.foldl_append, nthS_lt h]
  rfl
theorem makeC_fst (L : List (List UInt8)) (k : Nat) : ((L.take k).foldl (fun (p : List Nd × Nat) s => (putT p.1 (runesU s), p.2 + putNew p.1 (runesU s))) ([nd0], 0)).1 = makeN L k := by
  unfold makeN
  have h : ∀ (M : List (List UInt8)) (N : List Nd) (n : Nat), (M.foldl (fun (p : List Nd × Nat) s => (putT p.1 (runesU s), p.2 + putNew p.1 (runesU s))) (N, n)).1 = M.foldl (fun N s => putT N (runesU s)) N := by
    intro M
    induction M with
    | nil => intro N n; rfl
    | cons s M ih => intro N n; rw [List.foldl_cons, List.foldl_cons]; exact ih _ _
  exact h _ _ _
theorem makeC_succ (L : List (List UInt8)) (k : Nat) (h : k < L.length) : makeC L (k + 1) = makeC L k + putNew (makeN L k) (runesU (nthS L k)) := by
  unfold makeC
  rw [List.take_succ_eq_append_getElem h, List.foldl_append, nthS_lt h, ← makeC_fst]
  rfl
theorem putT_len (N : List Nd) (l : List Int) : (putT N l).length ≤ N.length + l.length := by
  unfold putT setFin
  rw [List.length_set]
  exact putW_len l N 0
theorem putNew_le (N : List Nd) (l : List Int) : putNew N l ≤ 1 := by
  unfold putNew
  split <;> omega
/-- Words that a trie takes: none empty or long, each of signs, rising. -/
structure OkWords (L : List (List UInt8)) : Prop where
  few : L.length ≤ 4096
  word : ∀ k, k < L.length → nthS L k ≠ [] ∧ (nthS L k).length ≤ 64 ∧ (runesU (nthS L k)).contains (-1) = false
  rise : ∀ k, k + 1 < L.length → Op.bytesLess (nthS L k) (nthS L (k + 1)) = true
  put : ∀ k, k < L.length → okPut (makeN L k) 0 (runesU (nthS L k)) = true
theorem OkWords.len {L : List (List UInt8)} (h : OkWords L) : ∀ k, k ≤ L.length → (makeN L k).length ≤ 1 + k * 64 ∧ makeC L k ≤ k := by
  intro k
  induction k with
  | zero => intro _; exact ⟨by simp [makeN], by simp [makeC]⟩
  | succ k ih =>
    intro hk
    have h1 := ih (by omega)
    have h2 := putT_len (makeN L k) (runesU (nthS L k))
    have h3 := runesU_len (nthS L k)
    have h4 := (h.word k (by omega)).2.1
    have h5 := putNew_le (makeN L k) (runesU (nthS L k))
    rw [makeN_succ L k (by omega), makeC_succ L k (by omega)]
    omega

theorem rune_apart {w : World} {b g : Nat} {N : List Nd} {n : Int} (ht : TrieAt w b g N n) {base : Nat} {v : Value} {m : Nat} {xs : List Value} (hu : w.ownsRow base 21 1 v m xs) : ∀ p a c, v = .slice (some p) a c → p.block ≠ b ∧ p.block ≠ g := by
  intro p a c e
  subst e
  obtain ⟨cap, h1, h2⟩ := ht
  refine ⟨fun e => row_not hu h1 (by decide) (k := b) (by rw [← e]; rfl), fun e => row_apart hu h2 (by decide) (k := g) (by rw [← e]; rfl) rfl⟩

set_option maxRecDepth 100000 in
set_option maxHeartbeats 4000000 in
theorem make_any (L : List (List UInt8)) (v : Value) (w : World) (hv : StrsV w v L) (hok : OkWords L) :
    Calls Tryz.prog 20 #[v] w fun e w' => ∃ b g, e = .returned (.tuple #[.pointer (some ⟨b, 0, none⟩), .int .i64 0]) ∧ TrieAt w' b g (makeN L L.length) (makeC L L.length : Nat) ∧ w.heap.size ≤ b ∧ w.heap.size ≤ g ∧ Only [] w w' := by
  have hl := hok.few
  have hl' : (L.length : Int) ≤ 4096 := by omega
  obtain ⟨p, c, rfl, hc, hm, hk⟩ := hv
  have HK := Lib.hid hk
  have HOK := Lib.hid hok
  clear hk hok
  obtain ⟨i0, hi, hz0, hz1, hz2⟩ := info_parts infoNode
  have hmk : ∀ w : World, (Instr.makeSlice 106 (.int .i64 1) (.int .i64 1)).run Tryz.prog w = .ok (.slice (some ⟨w.heap.size, 0, none⟩) 1 1) (w.alloc (.cells #[.int .i32 0, .bool false, .int .i64 0, .int .i64 0] 184)) := by
    intro w
    rw [run_make w _ _ i0 _ Tryz.underlying106 hi hz0 _ _ _ _ (by omega) (by omega) (by rw [hz2]; omega) (by omega)]
    have h4 : madeCells #[Value.int .i32 0, Value.bool false, Value.int .i64 0, Value.int .i64 0] 4 = #[Value.int .i32 0, Value.bool false, Value.int .i64 0, Value.int .i64 0] := by
      apply Array.ext
      · simp [madeCells]
      · intro i h1 h2
        have h3 : i < 4 := by simpa using h2
        simp only [madeCells, Array.getElem_map, Array.getElem_range]
        match i, h3 with
        | 0, _ => rfl
        | 1, _ => rfl
        | 2, _ => rfl
        | 3, _ => rfl
    simp only [Value.cells, hz1, Int.toNat_one, Nat.one_mul, h4]
  clear hi hz0 hz1 hz2
  go_enter Tryz.func20, Tryz.ntmps20
  go_wp2_with fail
  go_loopw [5, 6, 7, 13] (fun _ _ _ iv wr => ∃ k g : Nat, k ≤ L.length ∧ iv = .int .i64 k ∧ TrieAt wr (w.heap.size + 1) g (makeN L k) (makeC L k : Nat) ∧ w.heap.size ≤ g ∧ Only [] w wr) (fun _ _ _ iv _ => L.length - (intOf iv).toNat)
  case atStart =>
    refine ⟨0, w.heap.size, by omega, rfl, ⟨1, ?_, ?_⟩, Nat.le_refl _, ((Only.refl _ _).alloc _).alloc _⟩
    · rw [alloc_new' _ (by simp)]; rfl
    · refine World.ownsRow.alloc ?_ _
      refine ⟨rfl, Or.inr ⟨w.heap.size, 1, #[.int .i32 0, .bool false, .int .i64 0, .int .i64 0], rfl, Nat.zero_le _, alloc_new _ _, Nat.le_refl 1, by decide, rfl, rfl⟩⟩
  case round =>
    obtain ⟨k, g, hkl, rfl, ht, hg, ho⟩ := hrel
    have hsz := (HOK.out.len k hkl)
    have HO := Lib.hid ho
    have HT := Lib.hid ht
    have hwb : w.heap.size + 1 < wr.heap.size := by obtain ⟨cap, h1, h2⟩ := ht; exact lt_of_block h1
    by_cases hlt : k < L.length
    · obtain ⟨b, o, rfl, hcell⟩ := HK.out (by omega)
      have hkc : (k : Int) < c := by omega
      have k0 : wr.cell? ⟨b, o + k, none⟩ = some (.string ⟨(nthS L k).toArray⟩) := ho.cell_some (hcell k hlt) (by simp)
      obtain ⟨w1, w2, w3⟩ := HOK.out.word k hlt
      have hput := HOK.out.put k hlt
      have hNs := makeN_succ L k hlt
      have hCs := makeC_succ L k hlt
      have hlen : ((nthS L k).length : Int) ≤ 64 := by omega
      have hemp : (nthS L k).isEmpty = false := by simpa using w1
      have hkn : (k : Int) ≤ 4095 := by omega
      have HW3 := Lib.hid w3
      have HPUT := Lib.hid hput
      have HNS := Lib.hid hNs
      have HCS := Lib.hid hCs
      have hrl := runesU_len (nthS L k)
      have hrise : k = 0 ∨ ∃ m, k = m + 1 ∧ Op.bytesLess (nthS L m) (nthS L (m + 1)) = true ∧ wr.cell? ⟨b, o + m, none⟩ = some (.string ⟨(nthS L m).toArray⟩) := by
        cases k with
        | zero => exact Or.inl rfl
        | succ m => exact Or.inr ⟨m, rfl, HOK.out.rise m hlt, ho.cell_some (hcell m (by omega)) (by simp)⟩
      clear ht ho hcell w1 w3 hput hNs hCs
      rcases hrise with hk0 | ⟨m, rfl, hlss, hprev⟩
      case' inl =>
        have hz : (k : Int) ≤ 0 := by omega
        clear hk0
      case' inr =>
        generalize nthS L m = s0 at *
      all_goals
        generalize nthS L _ = s at *
        go_wp2_with fail
        refine (runes_any s wr (by omega)).mono ?_
        rintro e w2 ⟨u, rfl, ho2, hu⟩
        obtain ⟨pu, cu, rfl, -⟩ := ownsRow_shape hu
        have ht2 := HT.out.only ho2 (by simp) (by simp)
        have hiv := IntsV.of_row hu
        have hvb := rune_apart ht2 hu
        have hws2 := ho2.size
        have HO2 := Lib.hid (HO.out.trans ho2)
        have HC := Lib.hid (containsI_any (runesU s) (-1) _ w2 hiv (by omega))
        rw [HW3.out] at HC
        have HP := Lib.hid (put_word (w.heap.size + 1) g _ _ (runesU s) _ w2 ht2 hiv HPUT.out (by omega) (by omega) (by omega) hvb)
        clear ho2 hu ht2 hiv hvb
        generalize runesU s = l at *
        go_wp2_with fail
        refine HC.out.mono ?_
        rintro e w3 ⟨rfl, rfl⟩
        go_wp2_with fail
        refine HP.out.mono ?_
        rintro e w4 ⟨rfl, g4, ht4, hg4, ho4⟩
        have ho5 : Only [] w w4 := HO2.out.trans' ho4 (by
          intro i hi
          simp only [List.mem_cons, List.not_mem_nil, or_false] at hi
          right; omega)
        have hg5 : w.heap.size ≤ g4 := by rcases hg4 with h | h <;> omega
        rw [← HNS.out, ← HCS.out] at ht4
        have HT4 := Lib.hid ht4
        have HO5 := Lib.hid ho5
        clear ht4 hg4 ho4 ho5
        go_wp2_with fail
        go_roundw
        case rel => exact ⟨_, g4, by omega, by go_num, HT4.out, hg5, HO5.out⟩
        case measure => simp [intOf]; omega
    · obtain rfl : k = L.length := by omega
      clear ht ho
      go_wp2_with fail
      go_ret2
      exact ⟨_, g, rfl, HT.out, by omega, hg, HO.out⟩
end Go.Proofs.YtfbbieecdenlbaaGreatDoor
