/-
  (redpenlaw22.Size).Book: a Size's words and corrections.
-/
import Derived.Test.YtfbbieecdenlbaaGreatDoorSort
import Derived.Test.YtfbbieecdenlbaaGreatDoorSizeIn
import Derived.Deep.Cut
namespace Go.Proofs.YtfbbieecdenlbaaGreatDoor
open Go.RowKit

theorem andO {W w' : World} {A : Prop} (h : Only [] W w' ∧ A) : Only [] W w' := h.1
theorem StrsV.far {S : List Nat} {w w' : World} {b n c : Nat} {L : List (List UInt8)} (h : StrsV w (.slice (some ⟨b, 0, none⟩) n c) L) (ho : Only S w w') (hb : b ∉ S) : StrsV w' (.slice (some ⟨b, 0, none⟩) n c) L := by
  obtain ⟨p, c', h1, h2, h3, h4⟩ := h
  refine ⟨p, c', h1, h2, h3, fun hp => ?_⟩
  obtain ⟨b', o, e, hk⟩ := h4 hp
  subst e
  simp only [Value.slice.injEq, Option.some.injEq, Addr.mk.injEq] at h1
  obtain ⟨⟨rfl, rfl, -⟩, -, -⟩ := h1
  exact ⟨_, _, rfl, fun k hk' => ho.cell_some (hk k hk') hb⟩
theorem StrsV.take {w : World} {p : Option Addr} {n c : Nat} {L : List (List UInt8)} (h : StrsV w (.slice p n c) L) (k : Nat) (hk : k ≤ L.length) : StrsV w (.slice p k c) (L.take k) := by
  obtain ⟨p', c', h1, h2, h3, h4⟩ := h
  simp only [Value.slice.injEq] at h1
  obtain ⟨rfl, -, rfl⟩ := h1
  refine ⟨p, c, by rw [List.length_take, Nat.min_eq_left hk], by rw [List.length_take]; omega, h3, fun hp => ?_⟩
  rw [List.length_take] at hp
  obtain ⟨b, o, e, hc⟩ := h4 (by omega)
  refine ⟨b, o, e, fun j hj => ?_⟩
  rw [List.length_take] at hj
  rw [hc j (by omega)]
  simp [nthS, show j < k by omega]
theorem strRow_app (a b : List (List UInt8)) : strRow (a ++ b) = strRow a ++ strRow b := by simp [strRow]

/-- A slice of texts in a block that holds nothing but texts. -/
def ToV (w : World) (u : Value) (l : List (List UInt8)) : Prop :=
  ∃ g cs c, u = .slice (some ⟨g, 0, none⟩) l.length c ∧ l.length ≤ c ∧ c ≤ maxLen ∧ w.heap[g]? = some (.cells cs 9 (0, 0)) ∧ ∀ k, k < l.length → cs[k]? = some (.string ⟨(nthS l k).toArray⟩)
theorem ToV.strs {w : World} {u : Value} {l : List (List UInt8)} (h : ToV w u l) : StrsV w u l := by
  obtain ⟨g, cs, c, h1, h2, h3, h4, h5⟩ := h
  refine ⟨_, c, h1, h2, h3, fun _ => ⟨g, 0, rfl, fun k hk => ?_⟩⟩
  rw [Nat.zero_add, cell_blk h4, h5 k hk]
theorem ToV.of_row {w : World} {base : Nat} {v : Value} {n : Nat} {l : List (List UInt8)} (h : w.ownsRow base 9 1 v n (strRow l)) (hp : 0 < n) : ToV w v l := by
  have hl := h.1
  rw [strRow_len, Nat.mul_one] at hl
  subst hl
  rcases h.2 with ⟨-, h0⟩ | ⟨g, cap, cur, rfl, hg, hh, h1, h2, h3, h4⟩
  · omega
  · refine ⟨g, cur, cap, rfl, h1, h2, hh, fun k hk => ?_⟩
    have := h.cellAt (g := g) (cap := cap) k (by omega)
    rw [cell_blk hh] at this
    rw [this]
    simp [strRow, nthS, hk]
theorem ToV.keep {S : List Nat} {w w' : World} {u : Value} {l : List (List UInt8)} (h : ToV w u l) (ho : Only S w w') (hS : ∀ g ∈ S, ∀ cs, w.heap[g]? ≠ some (.cells cs 9 (0, 0))) : ToV w' u l := by
  obtain ⟨g, cs, c, h1, h2, h3, h4, h5⟩ := h
  exact ⟨g, cs, c, h1, h2, h3, ho.keep h4 (fun hg => hS g hg cs h4), h5⟩

theorem infoFix : (Tryz.prog.info? 38).map (fun i => (i.zero, i.size, i.bytes)) = some (some (.agg #[.string ⟨#[]⟩, .slice none 0 0]), 2, 40) := by kernel_rfl

/-- The cells of corrections, with what their lists' values are. -/
def fxCells (O : FixL) (us : List Value) : List Value := (O.zip us).flatMap fun p => [.string ⟨p.1.1.toArray⟩, p.2]
/-- A row of corrections. -/
def FixRow (w : World) (base : Nat) (v : Value) (O : FixL) : Prop :=
  ∃ us : List Value, us.length = O.length ∧ w.ownsRow base 38 2 v O.length (fxCells O us) ∧ ∀ k, k < O.length → ToV w (us.getD k undef) (fxAt O k).2
theorem fxCells_len (O : FixL) (us : List Value) (h : us.length = O.length) : (fxCells O us).length = O.length * 2 := by
  unfold fxCells
  induction O generalizing us with
  | nil => simp
  | cons a O ih =>
    cases us with
    | nil => simp at h
    | cons u us =>
      have := ih us (by simpa using h)
      simp only [List.zip_cons_cons, List.flatMap_cons, List.length_append, List.length_cons, List.length_nil] at this ⊢
      omega
theorem fxCells_at (O : FixL) (us : List Value) (h : us.length = O.length) (k : Nat) (hk : k < O.length) : (fxCells O us)[k * 2]? = some (.string ⟨(fxAt O k).1.toArray⟩) ∧ (fxCells O us)[k * 2 + 1]? = some (us.getD k undef) := by
  unfold fxCells
  induction O generalizing us k with
  | nil => simp at hk
  | cons a O ih =>
    cases us with
    | nil => simp at h
    | cons u us =>
      cases k with
      | zero => exact ⟨rfl, rfl⟩
      | succ k =>
        have := ih us (by simpa using h) k (by simpa using hk)
        rw [show (k + 1) * 2 = k * 2 + 1 + 1 by omega]
        simpa [fxAt] using this
theorem fxCells_app (O : FixL) (us : List Value) (x : List UInt8 × List (List UInt8)) (u : Value) (h : us.length = O.length) : fxCells (O ++ [x]) (us ++ [u]) = fxCells O us ++ [.string ⟨x.1.toArray⟩, u] := by
  unfold fxCells
  rw [List.zip_append h.symm, List.flatMap_append]
  rfl
theorem FixRow.nil (w : World) (base : Nat) : FixRow w base (.slice none 0 0) [] := ⟨[], rfl, World.ownsRow_nil _ _ _ _, fun k hk => by simp at hk⟩
theorem FixRow.fixes {w : World} {base : Nat} {v : Value} {O : FixL} (h : FixRow w base v O) : FixesV w v O := by
  obtain ⟨us, h1, h2, h3⟩ := h
  rcases h2.2 with ⟨rfl, h0⟩ | ⟨g, cap, cur, rfl, hg, hh, k1, k2, k3, k4⟩
  · exact ⟨none, 0, by rw [h0], by omega, by unfold maxLen; omega, fun h => by omega⟩
  · refine ⟨_, cap, rfl, k1, k2, fun hp => ⟨g, 0, rfl, fun k hk => ?_⟩⟩
    obtain ⟨e1, e2⟩ := fxCells_at O us h1 k hk
    have hl := fxCells_len O us h1
    refine ⟨?_, us.getD k undef, ?_, (h3 k hk).strs⟩
    · rw [Nat.zero_add, h2.cellAt (k * 2) (by omega), e1]
    · rw [Nat.zero_add, h2.cellAt (k * 2 + 1) (by omega), e2]
theorem FixRow.only {w w' : World} {base : Nat} {v : Value} {O : FixL} (h : FixRow w base v O) (ho : Only [] w w') : FixRow w' base v O := by
  obtain ⟨us, h1, h2, h3⟩ := h
  exact ⟨us, h1, ownsRow_only h2 ho (by simp), fun k hk => (h3 k hk).keep ho (by simp)⟩
theorem FixRow.map {w w' : World} {base b n : Nat} {f : List UInt8 → Option Value} {v : Value} {O : FixL} (h : FixRow w base v O) (hm : MapAt w b n f) (ho : Only [b] w w') : FixRow w' base v O := by
  obtain ⟨us, h1, h2, h3⟩ := h
  obtain ⟨D, ⟨es, clock, hb, -⟩, -⟩ := hm
  refine ⟨us, h1, ownsRow_only h2 ho ?_, fun k hk => (h3 k hk).keep ho ?_⟩
  · intro k hk hb2
    simp only [List.mem_cons, List.not_mem_nil, or_false] at hb2
    subst hb2
    rcases h2.2 with ⟨rfl, -⟩ | ⟨g, cap, cur, rfl, hg, hh, -⟩
    · cases hk
    · simp only [Value.ownBlock, Option.some.injEq] at hk
      subst hk
      rw [hb] at hh
      cases hh
  · intro g hg cs hc
    simp only [List.mem_cons, List.not_mem_nil, or_false] at hg
    subst hg
    rw [hb] at hc
    cases hc

theorem row_nomap {w : World} {base b n : Nat} {e : TypeId} {s : Nat} {v : Value} {m : Nat} {xs : List Value} {f : List UInt8 → Option Value} (h : w.ownsRow base e s v m xs) (hm : MapAt w b n f) : v.ownBlock ≠ some b := by
  intro hk
  obtain ⟨D, ⟨es, clock, hb, -⟩, -⟩ := hm
  rcases h.2 with ⟨rfl, -⟩ | ⟨g, cap, cur, rfl, hg, hh, -⟩
  · cases hk
  · simp only [Value.ownBlock, Option.some.injEq] at hk
    subst hk
    rw [hb] at hh
    cases hh
theorem FixRow.push {w w' : World} {base : Nat} {v v' : Value} {O : FixL} (us : List Value) (hus : us.length = O.length) (hown : w.ownsRow base 38 2 v O.length (fxCells O us)) (ht : ∀ k, k < O.length → ToV w (us.getD k undef) (fxAt O k).2)
    {x : List UInt8 × List (List UInt8)} {u : Value} (hu : ToV w u x.2) (ho : Only v.ownBlock.toList w w') (hown' : w'.ownsRow base 38 2 v' (O.length + 1) (fxCells O us ++ [.string ⟨x.1.toArray⟩, u])) : FixRow w' base v' (O ++ [x]) := by
  have hfar : ∀ g ∈ v.ownBlock.toList, ∀ cs, w.heap[g]? ≠ some (.cells cs 9 (0, 0)) := by
    intro g hg cs hc
    exact row_not hown hc (by decide) (by simpa using hg)
  refine ⟨us ++ [u], by simp [hus], ?_, fun k hk => ?_⟩
  · rw [fxCells_app O us x u hus, List.length_append]
    exact hown'
  · by_cases hk' : k < O.length
    · rw [fxAt_app _ hk']
      have e : (us ++ [u]).getD k undef = us.getD k undef := by simp [List.getElem?_append_left (show k < us.length by omega)]
      rw [e]
      exact (ht k hk').keep ho hfar
    · obtain rfl : k = O.length := by simp at hk; omega
      rw [fxAt_new]
      have e : (us ++ [u]).getD O.length undef = u := by rw [← hus]; simp
      rw [e]
      exact hu.keep ho hfar
theorem lookF_new (O : FixL) (x : List UInt8 × List (List UInt8)) (s : List UInt8) : (lookF (O ++ [x]) s).isSome = (decide (s = x.1) || (lookF O s).isSome) := by
  unfold lookF
  rw [List.find?_append]
  by_cases e : s = x.1
  · subst e
    simp
  · have h1 : List.find? (fun p => decide (p.1 = s)) [x] = none := by
      rw [List.find?_singleton]
      have : ¬ x.1 = s := fun h => e h.symm
      simp [this]
    rw [h1]
    simp [e]

def fixTo (F : List (Int × Int × Int)) (k : Nat) : FixL := (F.take (min k 13)).foldl fixStep []
theorem fixTo_succ (F : List (Int × Int × Int)) (k : Nat) (h : k < F.length) : fixTo F (k + 1) = if k ≤ 12 then fixStep (fixTo F k) F[k] else fixTo F k := by
  unfold fixTo
  by_cases h2 : k ≤ 12
  · rw [if_pos h2, Nat.min_eq_left (by omega), Nat.min_eq_left (by omega), List.take_succ_eq_append_getElem h, List.foldl_append]
    rfl
  · rw [if_neg h2, Nat.min_eq_right (by omega), Nat.min_eq_right (by omega)]
theorem fixTo_end (F : List (Int × Int × Int)) : fixTo F F.length = bookFixes F := by
  unfold fixTo bookFixes
  by_cases h : F.length ≤ 13
  · rw [Nat.min_eq_left h, List.take_length, List.take_of_length_le h]
  · rw [Nat.min_eq_right (by omega)]
theorem fixTo_len (F : List (Int × Int × Int)) (k : Nat) : (fixTo F k).length ≤ 13 := by
  unfold fixTo
  have := (fold_good (F.take (min k 13)) [] ⟨fun k hk => by simp at hk, fun k hk => by simp at hk⟩).2
  rw [List.length_take] at this
  simp at this
  omega
end Go.Proofs.YtfbbieecdenlbaaGreatDoor
namespace Go.Proofs.YtfbbieecdenlbaaGreatDoor
open Go.RowKit

theorem keepB {W w' : World} {p q : Addr} {u v : Value} (ho : Only [] W w') (r0 : W.cell? p = some u) (r7 : W.cell? q = some v) : Only [] W w' ∧ w'.cell? p = some u ∧ w'.cell? q = some v :=
  ⟨ho, ho.cell_some r0 (by simp), ho.cell_some r7 (by simp)⟩
theorem emptyN {w : World} {base : Nat} {e : TypeId} {size b : Nat} (hb : base ≤ w.heap.size) (hq : b = w.heap.size) : (w.alloc (.cells #[] e)).ownsRow base e size (.slice (some ⟨b, 0, none⟩) 0 0) 0 [] := by
  subst hq
  exact ownsRow_empty w base e size hb
theorem strs_few {P : Program} {tx e' : TypeId} {hk : P.underlying tx = some (.slice e')} {w : World} {v : Value} {L : List (List UInt8)} {n : Nat} (hn : L.length = n) (h : StrsV w v L) : Src P 1 tx v n (strRow L) w := by
  subst hn
  exact Src.strs hk h
theorem twelve_short {s : List UInt8} (h : Twelve s) : s.length ≤ 48 := by
  obtain ⟨l, rfl, h1, -⟩ := h
  have := textU_len l
  omega
def wordsTo (S : List (List UInt8)) (k : Nat) : List (List UInt8) := (S.take k).map foldU
theorem mod15 (f : Int) (h : 0 ≤ f) : ∃ i : Nat, f % 15 = i ∧ f.tmod 15 = i ∧ i < 15 := ⟨(f % 15).toNat, by omega, by rw [Int.tmod_eq_emod_of_nonneg h]; omega, by omega⟩
theorem few_cell {w : World} {A c : Nat} (h : StrsV w (.slice (some ⟨A, 0, none⟩) 15 c) fewL) (j : Nat) (hj : j < 15) : w.cell? ⟨A, j, none⟩ = some (.string ⟨(nthS fewL j).toArray⟩) := by
  obtain ⟨p, c', h1, -, -, h4⟩ := h
  obtain ⟨b, o, e, hk⟩ := h4 (by decide)
  subst e
  simp only [Value.slice.injEq, Option.some.injEq, Addr.mk.injEq] at h1
  obtain ⟨⟨rfl, rfl, -⟩, -, -⟩ := h1
  have := hk j hj
  rwa [Nat.zero_add] at this
theorem zeroBool (w : World) : (zeroValue 4).run Tryz.prog w = .ok (.bool false) w := by kernel_rfl
theorem wordsTo_succ (S : List (List UInt8)) (k : Nat) (h : k < S.length) : wordsTo S (k + 1) = wordsTo S k ++ [foldU (nthS S k)] := by
  unfold wordsTo
  rw [List.take_succ_eq_append_getElem h, List.map_append, nthS_lt h]
  rfl
theorem wordsTo_all (S : List (List UInt8)) : wordsTo S S.length = S.map foldU := by
  unfold wordsTo
  rw [List.take_length]

set_option maxRecDepth 100000 in
set_option maxHeartbeats 8000000 in
theorem book_any (p0 p1 : Option Addr) (c0 c1 : Nat) (L : List (List UInt8)) (F : List (Int × Int × Int)) (a2 a3 a4 a5 a6 a7 : Int) (h7 : 0 ≤ a7 ∧ a7 ≤ 255) (w : World) (hL : StrsV w (.slice p0 L.length c0) L) (hF : ThreesV w (.slice p1 F.length c1) F) (hll : L.length ≤ 1048576) (hlb : ∀ s ∈ L, s.length ≤ 1048576) :
    Calls Tryz.prog 6 #[.agg #[.slice p0 L.length c0, .slice p1 F.length c1, .int .u8 a2, .int .u8 a3, .int .u8 a4, .int .u8 a5, .int .u8 a6, .int .u8 a7]] w fun e w' => ∃ u v, e = .returned (.tuple #[u, v]) ∧ Only [] w w' ∧ StrsV w' u (bookWords (L ++ fewL.take (a7 % 16).toNat)) ∧ FixesV w' v (bookFixes F) := by
  obtain ⟨n, hn⟩ : ∃ n : Nat, a7 % 16 = n := ⟨(a7 % 16).toNat, by omega⟩
  have hn15 : n ≤ 15 := by omega
  have hnn : (a7 % 16).toNat = n := by omega
  have hn15i : (n : Int) ≤ 15 := by omega
  obtain ⟨h70, h71⟩ := h7
  have htm : a7.tmod 16 = (n : Int) := by rw [Int.tmod_eq_emod_of_nonneg h70]; exact hn
  have hw64 : IntKind.i64.wrap (n : Int) = n := IntWalk.i64_in _ (by omega)
  rw [hnn]
  have hflen : (fewL.take n).length = n := by rw [List.length_take, show fewL.length = 15 from rfl]; omega
  have hq := alloc_new w (.cells #[.slice p0 L.length c0, .slice p1 F.length c1, .int .u8 a2, .int .u8 a3, .int .u8 a4, .int .u8 a5, .int .u8 a6, .int .u8 a7] 25)
  have ho1 : Only [] w (w.alloc (.cells #[.slice p0 L.length c0, .slice p1 F.length c1, .int .u8 a2, .int .u8 a3, .int .u8 a4, .int .u8 a5, .int .u8 a6, .int .u8 a7] 25)) := (Only.refl _ _).alloc _
  generalize hw : w.alloc (.cells #[.slice p0 L.length c0, .slice p1 F.length c1, .int .u8 a2, .int .u8 a3, .int .u8 a4, .int .u8 a5, .int .u8 a6, .int .u8 a7] 25) = W at *
  have HW := Lib.hid hw
  have r0 : W.cell? ⟨w.heap.size, 0, none⟩ = some (.slice p0 L.length c0) := cell_blk hq 0
  have r1 : W.cell? ⟨w.heap.size, 1, none⟩ = some (.slice p1 F.length c1) := cell_blk hq 1
  have r7 : W.cell? ⟨w.heap.size, 7, none⟩ = some (.int .u8 a7) := cell_blk hq 7
  have HR1 := Lib.hid r1
  have hnF : n ≤ fewL.length := hn15
  have hdr : W.drew.heap.size = W.heap.size := rfl
  have HO1 := Lib.hid ho1
  have HL := Lib.hid (hL.only ho1)
  have HF := Lib.hid (hF.only ho1)
  have HLB : Hid (∀ s ∈ L ++ fewL.take n, s.length ≤ 2097152) := Lib.hid (by
    intro s hs
    rcases List.mem_append.1 hs with h | h
    · have := hlb s h; omega
    · obtain ⟨k, hk, rfl⟩ := List.getElem_of_mem (List.mem_of_mem_take h)
      have hk2 : k < 15 := hk
      have h1 := (folded_len (few_folded k hk2)).1
      rw [nthS_lt hk] at h1
      omega)
  have HLL : Hid ((L ++ fewL.take n).length ≤ 2097152) := Lib.hid (by rw [List.length_append, hflen]; omega)
  have HFL := Lib.hid hflen
  clear hq ho1 hw hL hF hlb r1 hflen
  go_enter Tryz.func6, Tryz.ntmps6
  go_wp2_with fail
  rw [HW.out]
  go_cut [26, 27, 28] from 15 (fun s26 s27 s28 wx => s28 = .int .i64 0 ∧ Only [] W wx ∧ ∃ pS cS, s26 = .slice pS (sortL (L ++ fewL.take n)).length cS ∧ s27 = .int .i64 (sortL (L ++ fewL.take n)).length ∧ StrsV wx (.slice pS (sortL (L ++ fewL.take n)).length cS) (sortL (L ++ fewL.take n)))
  case first =>
    go_region_held3 (fun w' => Only [] W w' ∧ w'.cell? ⟨w.heap.size, 0, none⟩ = some (.slice p0 L.length c0) ∧ w'.cell? ⟨w.heap.size, 7, none⟩ = some (.int .u8 a7)) (first | exact keepB (by assumption) r0 r7 | exact keepB (Only.alloc (andO (by assumption)) _) r0 r7 | exact keepB (Only.drew (Only.refl [] _)) r0 r7 | fail) (first | (refine step_append_src rfl (.tmp 15) (.tmp 17) 22 22 rfl W 9 (.string ⟨#[]⟩) 1 16 Tryz.underlying22 infoTxt rfl (by decide) (.slice (some ⟨_, 0, none⟩) 0 0) 0 [] rfl (by first | exact emptyD (Nat.le_refl _) (by first | rfl | simp) | exact emptyN (by omega) (by first | rfl | simp) | exact ownsRow_only (emptyD (Nat.le_refl _) (by first | rfl | simp)) hoF (by simp) | fail) (andO (by assumption)) _ L.length (strRow L) rfl (Src.strs Tryz.underlying22 (HL.out.only (andO (by assumption)))) (by unfold maxLen; omega) (by omega) ?_; rintro vA wA hownA hoA hooA) | (go_at_call 18; have hHF := andO (by assumption : Only [] W _ ∧ _ ∧ _); refine (few_any _).mono ?_; rintro e wF ⟨rfl, hsF, hoF, hltF⟩; have hWF := hHF.trans hoF; have hzF := hWF.size; have hzS := Nat.lt_of_le_of_lt hHF.size hltF) | (refine step_append_src rfl (.tmp 18) (.tmp 24) 22 22 rfl W 9 (.string ⟨#[]⟩) 1 16 Tryz.underlying22 infoTxt rfl (by decide) vA _ _ rfl (by first | exact hownA | exact ownsRow_only hownA hoF (by simp) | fail) (andO (by assumption)) _ n (strRow (fewL.take n)) rfl (strs_few (hk := Tryz.underlying22) HFL.out (by first | exact hsF.take n hnF | exact (StrsV.far hsF hooA (by intro hm; simp [Value.ownBlock] at hm)).take n hnF | exact (StrsV.far (hsF.only (Only.alloc (Only.refl [] _) _)) hooA (by intro hm; simp [Value.ownBlock] at hm; omega)).take n hnF | fail)) (by unfold maxLen; omega) (by omega) ?_; rintro vC wC hownC hoC hooC) | (go_at_call 17; have hHS := andO (by assumption : Only [] W _ ∧ _ ∧ _); refine (sorted_any (L ++ fewL.take n) _ _ (StrsV.of_row (by rw [strRow_app]; exact hownC)) HLL.out HLB.out).mono ?_; rintro e wS ⟨uS, rfl, hoS, huS⟩; obtain ⟨pS, cS, rfl, -⟩ := ownsRow_shape huS; have hWS := hHS.trans hoS) | fail)
    all_goals
      go_wp2_with fail
      go_meet
      case rel => exact ⟨rfl, hWS, pS, cS, rfl, rfl, StrsV.of_row huS⟩
  case rest =>
    obtain ⟨rfl, hoc, pS, cS, rfl, rfl, hsv⟩ := hcut
    have hlaw := sortL_law (L ++ fewL.take n)
    have HBW : Hid (bookWords (L ++ fewL.take n) = sortL ((sortL (L ++ fewL.take n)).map foldU)) := Lib.hid rfl
    generalize sortL (L ++ fewL.take n) = S at *
    have hs61 : S.length ≤ 61 := hlaw.2.2
    have HTW : Hid (∀ s ∈ S, s.length ≤ 48) := Lib.hid (fun s hs => twelve_short (hlaw.2.1 s hs))
    have hs61i : (S.length : Int) ≤ 61 := by omega
    have HSV := Lib.hid hsv
    have HOC := Lib.hid hoc
    obtain ⟨p', c', e1, hcS, -, -⟩ := hsv
    simp only [Value.slice.injEq, true_and] at e1
    obtain ⟨rfl, rfl⟩ := e1
    clear hoc hlaw HLL HLB HL HFL
    go_wp2_with fail
    go_loopw [4, 6, 28] (fun wv _ iv wr => ∃ k : Nat, k ≤ S.length ∧ iv = .int .i64 k ∧ Only [] wc wr ∧ wr.ownsRow wc.heap.size 9 1 wv k (strRow (wordsTo S k))) (fun _ _ iv _ => S.length - (intOf iv).toNat)
    case atStart => exact ⟨0, by omega, rfl, Only.refl _ _, World.ownsRow_nil _ _ _ _⟩
    case round =>
      obtain ⟨k, hk, rfl, ho, hown⟩ := hrel
      obtain ⟨pr, cr, rfl, hcr⟩ := ownsRow_shape hown
      have HO := Lib.hid ho
      have HOWN := Lib.hid hown
      clear hown
      by_cases hlt : k < S.length
      · obtain ⟨p', c', e1, -, -, hcl⟩ := HSV.out.only ho
        simp only [Value.slice.injEq, true_and] at e1
        obtain ⟨rfl, rfl⟩ := e1
        obtain ⟨b, o, rfl, hcell⟩ := hcl (by omega)
        have k0 := hcell k hlt
        have hkc : (k : Int) < cS := by omega
        have hsl := HTW.out _ (nthS_mem hlt)
        have hws := wordsTo_succ S k hlt
        have HWS := Lib.hid hws
        clear hcell hcl ho hws
        generalize nthS S k = s at *
        have HC := Lib.hid (fold_any s wr (by omega))
        generalize foldU s = x at *
        go_wp2_with (first | (go_at_call 19; refine HC.out.mono ?_; rintro e w3 ⟨rfl, ho3⟩; have HO3 := Lib.hid (HO.out.trans ho3); have HOWN3 := Lib.hid (ownsRow_only HOWN.out ho3 (by simp)); clear ho3) | (at_builtin; refine wpList_append_lit rfl (.tmp 32) (.tmp 35) 22 rfl wc [] 9 (.string ⟨#[]⟩) 1 16 Tryz.underlying22 infoTxt rfl (by decide) (.slice pr k cr) k (strRow (wordsTo S k)) rfl HOWN3.out HO3.out w3.heap.size 1 [.string ⟨x.toArray⟩] rfl rfl rfl (by simp [Value.oneCell']) (by unfold maxLen; omega) (by omega) ?_))
        intro v1 w1 hown1 ho1
        have HOWN1 := Lib.hid hown1
        have HO1' := Lib.hid ho1
        clear hown1 ho1
        go_wp2_with fail
        go_roundw
        case rel =>
          refine ⟨k + 1, by omega, by go_num, HO1'.out, ?_⟩
          rw [HWS.out, strRow_app]
          exact HOWN1.out
        case measure => simp [intOf]; omega
      · obtain rfl : k = S.length := by omega
        have hws := wordsTo_all S
        have hwo := HOWN.out
        rw [hws] at hwo
        have hfl : ∀ s ∈ S.map foldU, s.length ≤ 2097152 := by
          intro s hs
          obtain ⟨x, hx, rfl⟩ := List.mem_map.1 hs
          have h1 := foldU_len x
          have h2 := HTW.out x hx
          omega
        have hml : (S.map foldU).length ≤ 2097152 := by rw [List.length_map]; omega
        have HCS := Lib.hid (sorted_any (S.map foldU) _ wr (StrsV.of_row hwo) hml hfl)
        have HO5 := Lib.hid (HOC.out.trans HO.out)
        have hb61 := (book_law (L ++ fewL.take n)).2.2
        rw [HBW.out] at hb61
        have hlen : (wordsTo S S.length).length = S.length := by rw [hws, List.length_map]
        clear hws hwo hfl hml ho hlen
        generalize sortL (S.map foldU) = T at *
        go_wp2_with fail
        refine HCS.out.mono ?_
        rintro e w5 ⟨u5, rfl, ho5, hu5⟩
        have HT5 := Lib.hid (StrsV.of_row hu5)
        have HO6 := Lib.hid (HO5.out.trans ho5)
        obtain ⟨p5, c5, rfl, -⟩ := ownsRow_shape hu5
        clear ho5 hu5
        have hmm := @run_makeMap Tryz.prog
        have hmade := MapAt.made w5
        have ho7 : Only [] w5 (w5.alloc (.map #[] 0)) := (Only.refl _ _).alloc _
        have hlt7 : w5.heap.size < (w5.alloc (.map #[] 0)).heap.size := by simp
        go_wp2_with fail
        generalize w5.alloc (.map #[] 0) = w7 at *
        refine (few_any w7).mono ?_
        rintro e w8 ⟨rfl, hsF, hoF, hltF⟩
        have r1 : w8.cell? ⟨w.heap.size, 1, none⟩ = some (.slice p1 F.length c1) := ((HO6.out.trans ho7).trans hoF).cell_some HR1.out (by simp)
        have HO8 := Lib.hid ((HO6.out.trans ho7).trans hoF)
        have HMAP := Lib.hid (hmade.only hoF (by simp))
        have HF8 := Lib.hid (HF.out.only ((HO6.out.trans ho7).trans hoF))
        have HT8 := Lib.hid ((HT5.out.only ho7).only hoF)
        have HFEW := Lib.hid hsF
        have hmb : w5.heap.size < w7.heap.size := hlt7
        have hBw : w.heap.size ≤ w5.heap.size := (HO1.out.trans HO6.out).size
        generalize hA : w7.heap.size = A at *
        generalize hB : w5.heap.size = B at *
        clear hmade ho7 hsF hoF hlt7 hmm hA hB
        obtain ⟨pz, cz, ez, hcF, hmF, -, -⟩ := HF8.out
        simp only [Value.slice.injEq, true_and] at ez
        obtain ⟨rfl, rfl⟩ := ez
        have hcFi : (F.length : Int) ≤ c1 := by omega
        go_wp2_with fail
        go_loopw [7, 10, 11, 12, 13, 14, 45] (fun fv _ _ _ _ _ iv wr => ∃ (k m : Nat) (f : List UInt8 → Option Value), k ≤ F.length ∧ m ≤ k ∧ iv = .int .i64 k ∧ MapAt wr B m f ∧ (∀ s : List UInt8, (f s).getD (.bool false) = .bool (lookF (fixTo F k) s).isSome) ∧ FixRow wr w8.heap.size fv (fixTo F k) ∧ Only [B] w8 wr) (fun _ _ _ _ _ _ iv _ => F.length - (intOf iv).toNat)
        case atStart => exact ⟨0, 0, fun _ => none, by omega, by omega, rfl, HMAP.out, fun s => rfl, FixRow.nil _ _, Only.refl _ _⟩
        case round =>
          obtain ⟨k, m, f, hkl, hmk, rfl, hmp, hfun, hrow, ho⟩ := hrel
          have HMP := Lib.hid hmp
          have HFUN := Lib.hid hfun
          have HROW := Lib.hid hrow
          have HO := Lib.hid ho
          have hfl13 := fixTo_len F k
          obtain ⟨us, hus, hrow1, -⟩ := id hrow
          obtain ⟨pf, cf, rfl, -⟩ := ownsRow_shape hrow1
          clear hmp hfun hrow hrow1 hus us
          by_cases hlt : k < F.length
          · obtain ⟨pz, cz, ez, -, -, hrng, hcl⟩ := HF8.out
            simp only [Value.slice.injEq, true_and] at ez
            obtain ⟨rfl, rfl⟩ := ez
            obtain ⟨b, o, rfl, hcell⟩ := hcl (by omega)
            obtain ⟨g0, g1, g2⟩ := hcell k hlt
            have hbB : b ≠ B := map_cells HMAP.out g0
            have k0 : wr.cell? ⟨b, o + k * 3, none⟩ = some (.int .u8 F[k].1) := ho.cell_some g0 (by simpa using hbB)
            have k1 : wr.cell? ⟨b, o + k * 3 + 1, none⟩ = some (.int .u8 F[k].2.1) := ho.cell_some g1 (by simpa using hbB)
            have k2 : wr.cell? ⟨b, o + k * 3 + 1 + 1, none⟩ = some (.int .u8 F[k].2.2) := ho.cell_some g2 (by simpa using hbB)
            have hkc : (k : Int) < c1 := by omega
            have hkm : (k : Int) < 9223372036854775807 := by unfold maxLen at hmF; omega
            have hr := hrng F[k] (List.getElem_mem hlt)
            have hfs := fixTo_succ F k hlt
            have HFS := Lib.hid hfs
            have hfew := (StrsV.far HFEW.out ho (by simp; omega))
            clear hcell hcl hrng g0 g1 g2 hfs ho
            obtain ⟨⟨f0, f1, f2⟩, hfk⟩ : ∃ x, F[k] = x := ⟨_, rfl⟩
            rw [hfk] at k0 k1 k2 hr HFS
            dsimp only at k0 k1 k2 hr
            obtain ⟨⟨r0, r0'⟩, ⟨r1', r1''⟩, r2, r2'⟩ := hr
            obtain ⟨i0, hi0, hj0, hl0⟩ := mod15 f0 r0
            obtain ⟨i1, hi1, hj1, hl1⟩ := mod15 f1 r1'
            obtain ⟨i2, hi2, hj2, hl2⟩ := mod15 f2 r2
            have c0' := few_cell hfew i0 hl0
            have c1' := few_cell hfew i1 hl1
            have c2' := few_cell hfew i2 hl2
            have n0 := (folded_len (few_folded i0 hl0)).1
            have hone : fixOne (f0, f1, f2) = (nthS fewL i0, if 127 < f2 ∧ nthS fewL i2 ≠ nthS fewL i1 then [nthS fewL i1, nthS fewL i2] else [nthS fewL i1]) := by
              unfold fixOne
              dsimp only
              rw [hi0, hi1, hi2]
              rfl
            have HONE := Lib.hid hone
            have hv := HFUN.out (nthS fewL i0)
            have i0i : (i0 : Int) < 15 := by omega
            have i1i : (i1 : Int) < 15 := by omega
            have i2i : (i2 : Int) < 15 := by omega
            clear hone hfew
            generalize nthS fewL i0 = fr at *
            generalize nthS fewL i1 = t1 at *
            generalize nthS fewL i2 = t2 at *
            go_upto_region 14 with (fail)
            have ho13 : Only [] wr (wr.alloc (.cells #[.int .u8 f0, .int .u8 f1, .int .u8 f2] 70)) := (Only.refl _ _).alloc _
            have hq13 := alloc_new wr (.cells #[.int .u8 f0, .int .u8 f1, .int .u8 f2] 70)
            generalize wr.alloc (.cells #[.int .u8 f0, .int .u8 f1, .int .u8 f2] 70) = w13 at *
            have d0 : w13.cell? ⟨wr.heap.size, 0, none⟩ = some (.int .u8 f0) := cell_blk hq13 0
            have d1 : w13.cell? ⟨wr.heap.size, 1, none⟩ = some (.int .u8 f1) := cell_blk hq13 1
            have d2 : w13.cell? ⟨wr.heap.size, 2, none⟩ = some (.int .u8 f2) := cell_blk hq13 2
            have e0 := ho13.cell_some c0' (by simp)
            have e1 := ho13.cell_some c1' (by simp)
            have e2 := ho13.cell_some c2' (by simp)
            have HO13 := Lib.hid (HO.out.trans (ho13.mono (by simp)))
            have HMP13 := Lib.hid (HMP.out.only ho13 (by simp))
            have HROW13 := Lib.hid (HROW.out.only ho13)
            clear ho13 hq13 k0 k1 k2 c0' c1' c2'
            generalize hAf : wr.heap.size = N at *
            clear hAf
            by_cases h12 : 12 < k
            · have h12i : (12 : Int) < k := by omega
              have hfs := HFS.out
              rw [if_neg (by omega)] at hfs
              have HFS2 := Lib.hid hfs
              clear hfs hv
              go_wp2_with fail
              go_roundw
              case rel => exact ⟨k + 1, m, f, by omega, by omega, by go_num, HMP13.out, by rw [HFS2.out]; exact HFUN.out, by rw [HFS2.out]; exact HROW13.out, HO13.out⟩
              case measure => simp [intOf]; omega
            · have h12i : (k : Int) ≤ 12 := by omega
              have hfs := HFS.out
              rw [if_pos (by omega)] at hfs
              have hlk := lookup_run Tryz.underlying36 (zeroBool _) HMP13.out fr (by unfold maxLen; omega)
              rw [hv] at hlk
              unfold fixStep at hfs
              rw [HONE.out] at hfs
              dsimp only at hfs
              cases hsm : (lookF (fixTo F k) fr).isSome
              · rw [hsm] at hlk hfs
                rw [if_neg (by simp)] at hfs
                have HFS1 := Lib.hid hfs
                have hNB : N ≠ B := map_cells HMP13.out d1
                have hAB : A ≠ B := by omega
                have hdk : decide ((12 : Int) < k) = false := by simp; omega
                clear hv hsm hfs
                go_wp2_with (at_mapUpdate; refine wpList_store_held rfl (.tmp 66) (.tmp 67) (.const (.bool true)) 36 4 rfl Tryz.underlying36 HMP13.out (by omega) fr (by unfold maxLen; omega) (.bool true) rfl rfl rfl ?_)
                intro w14 hmp14 ho14
                have d1' := ho14.cell_some d1 (by simpa using hNB)
                have d2' := ho14.cell_some d2 (by simpa using hNB)
                have e1' := ho14.cell_some e1 (by simpa using hAB)
                have e2' := ho14.cell_some e2 (by simpa using hAB)
                have HO14 := Lib.hid (HO13.out.trans ho14)
                have HMP14 := Lib.hid hmp14
                have HROW14 := Lib.hid (HROW13.out.map HMP13.out ho14)
                clear hmp14 ho14 d0 d1 d2 e0 e1 e2 hlk
                go_upto_region 18 with (fail)
                have hoA : Only [] w14 (w14.alloc (.cells #[.string ⟨t1.toArray⟩] 9)) := (Only.refl _ _).alloc _
                have hoB : Only [] w14 ((w14.alloc (.cells #[.string ⟨t1.toArray⟩] 9)).alloc (.cells #[.string ⟨fr.toArray⟩, .slice (some ⟨w14.heap.size, 0, none⟩) 1 1] 38)) := hoA.alloc _
                have hqA := alloc_blk (o' := (.cells #[.string ⟨fr.toArray⟩, .slice (some ⟨w14.heap.size, 0, none⟩) 1 1] 38)) (alloc_new w14 (.cells #[.string ⟨t1.toArray⟩] 9))
                have hqB := alloc_new' (w := w14.alloc (.cells #[.string ⟨t1.toArray⟩] 9)) (b := w14.heap.size + 1) (.cells #[.string ⟨fr.toArray⟩, .slice (some ⟨w14.heap.size, 0, none⟩) 1 1] 38) (by simp)
                generalize (w14.alloc (.cells #[.string ⟨t1.toArray⟩] 9)).alloc (.cells #[.string ⟨fr.toArray⟩, .slice (some ⟨w14.heap.size, 0, none⟩) 1 1] 38) = w15 at *
                have d2'' := hoB.cell_some d2' (by simp)
                have e2'' := hoB.cell_some e2' (by simp)
                have HOB := Lib.hid hoB
                have HO15 := Lib.hid (HO14.out.trans (hoB.mono (by simp)))
                have HMP15 := Lib.hid (HMP14.out.only hoB (by simp))
                have HROW15 := Lib.hid (HROW14.out.only hoB)
                generalize hM : w14.heap.size = M at *
                have x0 : w15.cell? ⟨M + 1, 0, none⟩ = some (.string ⟨fr.toArray⟩) := cell_blk hqB 0
                have x1 : w15.cell? ⟨M + 1, 1, none⟩ = some (.slice (some ⟨M, 0, none⟩) 1 1) := cell_blk hqB 1
                have x1' : w15.cell? ⟨M + 1, 0 + 1, none⟩ = some (.slice (some ⟨M, 0, none⟩) 1 1) := cell_blk hqB 1
                have y0 : w15.cell? ⟨M, 0, none⟩ = some (.string ⟨t1.toArray⟩) := cell_blk hqA 0
                have HQA := Lib.hid hqA
                have HQB := Lib.hid hqB
                clear hoA hoB hqA hqB d1' d2' e1' e2'
                have hfs := HFS1.out
                by_cases hcond : 127 < f2 ∧ t2 ≠ t1
                · rw [if_pos hcond] at hfs
                  have HFS2 := Lib.hid hfs
                  obtain ⟨h127, hne⟩ := hcond
                  have hneb : (t2 == t1) = false := by simpa using hne
                  have hown15 : w15.ownsRow M 9 1 (.slice (some ⟨M, 0, none⟩) 1 1) 1 [.string ⟨t1.toArray⟩] := ⟨rfl, .inr ⟨M, 1, _, rfl, Nat.le_refl _, HQA.out, Nat.le_refl _, by unfold maxLen; omega, rfl, rfl⟩⟩
                  have HOW := Lib.hid hown15
                  have hMz : M ≤ w15.heap.size := by have := lt_of_block HQA.out; omega
                  clear hfs hown15 hne
                  go_wp2_with (at_builtin; refine wpList_append_litg rfl (.tmp 101) (.tmp 103) 22 rfl M 9 (.string ⟨#[]⟩) 1 16 Tryz.underlying22 infoTxt rfl (by decide) (.slice (some ⟨M, 0, none⟩) 1 1) 1 [.string ⟨t1.toArray⟩] rfl HOW.out hMz w15.heap.size 1 [.string ⟨t2.toArray⟩] rfl rfl rfl (by simp [Value.oneCell']) (by unfold maxLen; omega) (by omega) ?_)
                  intro v2 w16 hown2 ho2 _
                  have hqB2 := ho2.keep HQB.out (by simp [Value.ownBlock])
                  have x1'' : w16.cell? ⟨M + 1, 1, none⟩ = some (.slice (some ⟨M, 0, none⟩) 1 1) := cell_blk hqB2 1
                  have fz : w16.frozen? ⟨M + 1, 1, none⟩ = false := free_blk hqB2 1
                  obtain ⟨p2, c2, rfl, -⟩ := ownsRow_shape hown2
                  have HOWN2 := Lib.hid hown2
                  have HO2' := Lib.hid ho2
                  clear hown2 ho2 x0 x1 x1' y0
                  go_upto_region 21 with (fail)
                  have hoS : Only [M + 1] w16 (w16.setCell ⟨M + 1, 1, none⟩ (.slice p2 (1 + 1) c2)) := Only.setCell (Only.refl _ _) (by simp) _
                  have hqS := setCell_blk hqB2 1 (.slice p2 (1 + 1) c2)
                  generalize w16.setCell ⟨M + 1, 1, none⟩ (.slice p2 (1 + 1) c2) = w17 at *
                  have x0 : w17.cell? ⟨M + 1, 0, none⟩ = some (.string ⟨fr.toArray⟩) := cell_blk hqS 0
                  have x1 : w17.cell? ⟨M + 1, 0 + 1, none⟩ = some (.slice p2 (1 + 1) c2) := cell_blk hqS 1
                  have hMt : Only [M, M + 1] w15 w17 := (HO2'.out.mono (by simp [Value.ownBlock])).trans (hoS.mono (by simp))
                  have ho17 : Only [] w14 w17 := HOB.out.trans' hMt (fun i hi => Or.inr (by simp only [List.mem_cons, List.not_mem_nil, or_false] at hi; omega))
                  have HO17 := Lib.hid (HO14.out.trans (ho17.mono (by simp)))
                  have HMP17 := Lib.hid (HMP14.out.only ho17 (by simp))
                  have HROW17 := Lib.hid (HROW14.out.only ho17)
                  have HTO : Hid (ToV w17 (.slice p2 (1 + 1) c2) [t1, t2]) := Lib.hid ((ToV.of_row (l := [t1, t2]) HOWN2.out (by decide)).keep hoS (by
                    intro g hg cs hcs
                    simp only [List.mem_cons, List.not_mem_nil, or_false] at hg
                    subst hg
                    rw [hqB2] at hcs
                    simp at hcs))
                  clear hoS hqS hMt x1'' fz hqB2 ho17
                  obtain ⟨us, hus, hrw, htv⟩ := HROW17.out
                  have hsh := ownsRow_shape hrw
                  obtain ⟨pf2, cf2, epf, -⟩ := hsh
                  have hbz : w8.heap.size ≤ w17.heap.size := HO17.out.size
                  have HRW := Lib.hid hrw
                  have HTV := Lib.hid htv
                  clear hrw htv epf
                  go_wp2_with (at_builtin; refine wpList_append_litg rfl (.tmp 106) (.tmp 108) 27 rfl w8.heap.size 38 (.agg #[.string ⟨#[]⟩, .slice none 0 0]) 2 40 Tryz.underlying27 infoFix rfl (by decide) (.slice pf (fixTo F k).length cf) (fixTo F k).length (fxCells (fixTo F k) us) rfl HRW.out hbz w17.heap.size 1 [.string ⟨fr.toArray⟩, .slice p2 (1 + 1) c2] rfl rfl rfl (by simp [Value.oneCell']) (by unfold maxLen; omega) (by omega) ?_)
                  intro v3 w18 hown3 ho3 _
                  have HOWN3 := Lib.hid hown3
                  have HO3 := Lib.hid ho3
                  obtain ⟨p3, c3, rfl, -⟩ := ownsRow_shape hown3
                  clear hown3 ho3
                  go_wp2_with fail
                  go_roundw
                  case rel =>
                    refine ⟨k + 1, m + 1, _, by omega, by omega, by go_num, HMP17.out.only HO3.out (by intro hm; exact row_nomap HRW.out HMP17.out (by simpa using hm)), fun s => ?_, ?_, HO17.out.trans' HO3.out (fun i hi => Or.inr (HRW.out.lt i (by simpa using hi)).1)⟩
                    · rw [HFS2.out, lookF_new]
                      by_cases hs : s = fr
                      · simp [hs]
                      · simp only [hs, if_false, decide_false, Bool.false_or]
                        exact HFUN.out s
                    · rw [HFS2.out]
                      have hpush := FixRow.push us hus HRW.out HTV.out (x := (fr, [t1, t2])) HTO.out HO3.out HOWN3.out
                      exact hpush
                  case measure => simp [intOf]; omega
                · rw [if_neg hcond] at hfs
                  have HFS2 := Lib.hid hfs
                  have HTO : Hid (ToV w15 (.slice (some ⟨M, 0, none⟩) 1 1) [t1]) := Lib.hid ⟨M, _, 1, rfl, Nat.le_refl _, by unfold maxLen; omega, HQA.out, fun k hk => by
                    have hk' : k < 1 := hk
                    obtain rfl : k = 0 := by omega
                    rfl⟩
                  clear hfs
                  generalize w15 = w17 at *
                  have HROW17 := HROW15
                  have HO17 := HO15
                  have HMP17 := HMP15
                  by_cases h127 : 127 < f2
                  case' pos =>
                    have hee : t2 = t1 := by
                      by_cases h : t2 = t1
                      · exact h
                      · exact absurd ⟨h127, h⟩ hcond
                    subst hee
                    clear hcond
                  case' neg =>
                    clear hcond
                  all_goals
                    obtain ⟨us, hus, hrw, htv⟩ := HROW17.out
                    have hsh := ownsRow_shape hrw
                    obtain ⟨pf2, cf2, epf, -⟩ := hsh
                    have hbz : w8.heap.size ≤ w17.heap.size := HO17.out.size
                    have HRW := Lib.hid hrw
                    have HTV := Lib.hid htv
                    clear hrw htv epf
                    go_wp2_with (at_builtin; refine wpList_append_litg rfl (.tmp 106) (.tmp 108) 27 rfl w8.heap.size 38 (.agg #[.string ⟨#[]⟩, .slice none 0 0]) 2 40 Tryz.underlying27 infoFix rfl (by decide) (.slice pf (fixTo F k).length cf) (fixTo F k).length (fxCells (fixTo F k) us) rfl HRW.out hbz w17.heap.size 1 [.string ⟨fr.toArray⟩, .slice (some ⟨M, 0, none⟩) 1 1] rfl rfl rfl (by simp [Value.oneCell']) (by unfold maxLen; omega) (by omega) ?_)
                    intro v3 w18 hown3 ho3 _
                    have HOWN3 := Lib.hid hown3
                    have HO3 := Lib.hid ho3
                    obtain ⟨p3, c3, rfl, -⟩ := ownsRow_shape hown3
                    clear hown3 ho3
                    go_wp2_with fail
                    go_roundw
                    case rel =>
                      refine ⟨k + 1, m + 1, _, by omega, by omega, by go_num, HMP17.out.only HO3.out (by intro hm; exact row_nomap HRW.out HMP17.out (by simpa using hm)), fun s => ?_, ?_, HO17.out.trans' HO3.out (fun i hi => Or.inr (HRW.out.lt i (by simpa using hi)).1)⟩
                      · rw [HFS2.out, lookF_new]
                        by_cases hs : s = fr
                        · simp [hs]
                        · simp only [hs, if_false, decide_false, Bool.false_or]
                          exact HFUN.out s
                      · rw [HFS2.out]
                        have hpush := FixRow.push us hus HRW.out HTV.out (x := (fr, [_])) HTO.out HO3.out HOWN3.out
                        exact hpush
                    case measure => simp [intOf]; omega
              · rw [hsm] at hlk hfs
                rw [if_pos rfl] at hfs
                have HFS2 := Lib.hid hfs
                clear hfs hv
                go_wp2_with fail
                go_roundw
                case rel => exact ⟨k + 1, m, f, by omega, by omega, by go_num, HMP13.out, by rw [HFS2.out]; exact HFUN.out, by rw [HFS2.out]; exact HROW13.out, HO13.out⟩
                case measure => simp [intOf]; omega
          · obtain rfl : k = F.length := by omega
            have hfe := fixTo_end F
            have HFE := Lib.hid hfe
            clear hfe ho
            go_wp2_with fail
            go_ret2
            refine ⟨_, _, rfl, (HO1.out.trans HO8.out).trans' HO.out (fun i hi => Or.inr (by simp only [List.mem_cons, List.not_mem_nil, or_false] at hi; omega)), ?_, ?_⟩
            · rw [HBW.out]
              exact HT8.out.keep fun p x hp => HO.out.cell_some hp (by simpa using map_cells HMAP.out hp)
            · rw [← HFE.out]
              exact HROW.out.fixes
end Go.Proofs.YtfbbieecdenlbaaGreatDoor
