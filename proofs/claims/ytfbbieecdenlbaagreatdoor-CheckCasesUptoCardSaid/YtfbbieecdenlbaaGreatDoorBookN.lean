/-
  check.Book: Knows, Fix.
  check.Book.Fix.
  check.New: a book.
-/
import Derived.Test.YtfbbieecdenlbaaGreatDoorTrieM
import Derived.Test.YtfbbieecdenlbaaGreatDoorMapH
import Derived.Maps.OwnOps
import Derived.Deep.QuietTactic
import Derived.BigQuiet
import Derived.Deep.RegionHeld3
namespace Go.Proofs.YtfbbieecdenlbaaGreatDoor
open Go.RowKit

theorem zeroStrs (w : World) : (zeroValue 22).run Tryz.prog w = .ok (.slice none 0 0) w := by kernel_rfl

/-- A correction as it lies, and as it is. -/
def FixV (w : World) : Option Value → Option (List (List UInt8)) → Prop
  | none, none => True
  | some v, some l => StrsV w v l ∧ l.length ≤ 65536
  | _, _ => False
theorem FixV.only {w w' : World} {v : Option Value} {l : Option (List (List UInt8))} (h : FixV w v l) (ho : Only [] w w') : FixV w' v l := by
  cases v <;> cases l <;> simp only [FixV] at h ⊢
  exact ⟨h.1.only ho, h.2⟩

/-- Block b is a book: a trie of nodes N, corrections F. -/
def BookAt (w : World) (b : Nat) (N : List Nd) (F : List UInt8 → Option (List (List UInt8))) : Prop :=
  ∃ (t g mb n : Nat) (cnt : Int) (f : List UInt8 → Option Value), w.heap[b]? = some (.cells #[.pointer (some ⟨t, 0, none⟩), .map (some mb)] 76 (0, 0)) ∧ TrieAt w t g N cnt ∧ MapAt w mb n f ∧ ∀ s, FixV w (f s) (F s)
theorem BookAt.only {w w' : World} {b : Nat} {N : List Nd} {F : List UInt8 → Option (List (List UInt8))} (h : BookAt w b N F) (ho : Only [] w w') : BookAt w' b N F := by
  obtain ⟨t, g, mb, n, cnt, f, h1, h2, h3, h4⟩ := h
  exact ⟨t, g, mb, n, cnt, f, ho.keep h1 (by simp), h2.only ho (by simp) (by simp), h3.only ho (by simp), fun s => (h4 s).only ho⟩

def knowsL (N : List Nd) (F : List UInt8 → Option (List (List UInt8))) (s : List UInt8) : Bool := (F (foldU s)).isNone && hasW N 0 (runesU (foldU s))

theorem foldU_len (s : List UInt8) : (foldU s).length ≤ 4 * s.length := by
  have h1 := textU_len ((runesU s).map downU)
  have h2 := runesU_len s
  rw [List.length_map] at h1
  unfold foldU
  omega
theorem FixV.isSome {w : World} {v : Option Value} {l : Option (List (List UInt8))} (h : FixV w v l) : v.isSome = l.isSome := by
  cases v <;> cases l
  · rfl
  · exact h.elim
  · exact h.elim
  · rfl

set_option maxRecDepth 100000 in
set_option maxHeartbeats 2000000 in
theorem knows_any (b : Nat) (N : List Nd) (F : List UInt8 → Option (List (List UInt8))) (s : List UInt8) (w : World) (hb : BookAt w b N F) (hwf : wfN N) (hN : N.length ≤ 1000000) (hl : s.length ≤ 10000) :
    Calls Tryz.prog 10 #[.pointer (some ⟨b, 0, none⟩), .string ⟨s.toArray⟩] w fun e w' => e = .returned (.bool (knowsL N F s)) ∧ Only [] w w' := by
  have HB := Lib.hid hb
  have hfl := foldU_len s
  have hk : knowsL N F s = ((F (foldU s)).isNone && hasW N 0 (runesU (foldU s))) := rfl
  have HK := Lib.hid hk
  clear hb hk
  go_enter Tryz.func10, Tryz.ntmps10
  go_wp2_with fail
  refine (fold_any s w (by omega)).mono ?_
  rintro e w2 ⟨rfl, ho2⟩
  generalize foldU s = x at *
  obtain ⟨t, g, mb, n, cnt, f, h1, h2, h3, h4⟩ := HB.out.only ho2
  have c0 : w2.cell? ⟨b, 0, none⟩ = some (.pointer (some ⟨t, 0, none⟩)) := cell_blk h1 0
  have c1 : w2.cell? ⟨b, 1, none⟩ = some (.map (some mb)) := cell_blk h1 1
  have hsome := (h4 x).isSome
  have HM := Lib.hid h3
  have HC := Lib.hid (has_any t g N cnt x w2 h2 hwf hN (by omega))
  have HO2 := Lib.hid ho2
  clear h1 h2 h3 h4 ho2
  generalize hasW N 0 (runesU x) = hh at *
  cases hF : (F x).isSome
  · have hN2 : (F x).isNone = true := by cases h : F x <;> simp_all
    rw [hN2] at HK
    rw [hF] at hsome
    go_wp2_with (at_lookup; refine wpList_lookup_held_ok rfl (.tmp 16) (.tmp 17) 74 22 rfl Tryz.underlying74 (zeroStrs _) HM.out x (by unfold maxLen; omega) rfl rfl ?_)
    refine HC.out.mono ?_
    rintro e w3 ⟨rfl, ho3⟩
    have HO3 := Lib.hid ho3
    clear ho3
    go_wp2_with fail
    go_ret
    exact ⟨ret_bool (by rw [HK.out]; simp), HO2.out.trans HO3.out⟩
  · have hN2 : (F x).isNone = false := by cases h : F x <;> simp_all
    rw [hN2] at HK
    rw [hF] at hsome
    go_wp2_with (at_lookup; refine wpList_lookup_held_ok rfl (.tmp 16) (.tmp 17) 74 22 rfl Tryz.underlying74 (zeroStrs _) HM.out x (by unfold maxLen; omega) rfl rfl ?_)
    go_ret
    exact ⟨ret_bool (by rw [HK.out]; simp), HO2.out⟩
end Go.Proofs.YtfbbieecdenlbaaGreatDoor
namespace Go.Proofs.YtfbbieecdenlbaaGreatDoor
open Go.RowKit

/-- A region that draws its order and whose operations leave all that there is as it is (calls may make blocks). -/
theorem wp_region_calm {P : Program} {id : Nat} {Q : Exit → Act → World → Prop} {a : Act} {w : World} {l : List Oper} (W : World) (S : List Nat) (hm : P.follows .mixedOrders = true) (hB : Region.lexB .any l.toArray = true)
    (hw : Only S W w) (h : wpQuiet P l.toArray (fun w' => Only S W w') (fun a' => ∀ w', Only S W w' → Q .normal a' w') l a) : (Code.region id l.toArray true).wp P Q a w :=
  wp_region_quiet (C := fun w' => Only S W w') hm hB ⟨hw.os, hw.tape, hw.output, hw.size, hw.block⟩ (by simpa using h)

theorem lookup_run {w : World} {t e : TypeId} (ht : Tryz.prog.underlying t = some (.map 9 e)) {z : Value} (hz : (zeroValue e).run Tryz.prog w = .ok z w) {b n : Nat} {f : List UInt8 → Option Value} (h : MapAt w b n f) (s : List UInt8) (hs : s.length ≤ maxLen) :
    (Instr.lookup t (.map (some b)) (.string ⟨s.toArray⟩) false).run Tryz.prog w = .ok ((f s).getD z) w := by
  obtain ⟨D, h1, hm', hd⟩ := h
  obtain ⟨v, ps, hrun, hv⟩ := h1.lookup keyLaw ht hz (zd := .held z) (zp := []) rfl (WideMaps.keyOf_string_mk Tryz.underlying9 (s := ⟨s.toArray⟩) (by rw [size_bytes]; exact hs))
  have h2 := (hd s hs).2 z
  simp only [heldE, Option.some.injEq, Prod.mk.injEq] at hv
  rw [h2] at hv
  have : v = (f s).getD z := by simpa using hv.1
  subst this
  exact hrun

def fixL (F : List UInt8 → Option (List (List UInt8))) (s : List UInt8) : List UInt8 :=
  match F (foldU s) with
  | some [x] => asU (ofU s) x
  | _ => []

set_option maxRecDepth 100000 in
set_option maxHeartbeats 4000000 in
theorem fix_any (b : Nat) (N : List Nd) (F : List UInt8 → Option (List (List UInt8))) (s : List UInt8) (w : World) (hb : BookAt w b N F) (hl : s.length ≤ 10000) (hF : ∀ u l, F u = some l → ∀ x ∈ l, x.length ≤ 10000) :
    Calls Tryz.prog 9 #[.pointer (some ⟨b, 0, none⟩), .string ⟨s.toArray⟩] w fun e w' => e = .returned (.string ⟨(fixL F s).toArray⟩) ∧ Only [] w w' := by
  have hfl := foldU_len s
  have hk : fixL F s = (match F (foldU s) with | some [x] => asU (ofU s) x | _ => []) := rfl
  have HK := Lib.hid hk
  have HF := Lib.hid hF
  obtain ⟨t, g, mb, n, cnt, f, h1, h2, h3, h4⟩ := hb
  have c1 : w.cell? ⟨b, 1, none⟩ = some (.map (some mb)) := cell_blk h1 1
  have h5 := h4 (foldU s)
  have HFOLD : Hid (∀ w', Calls Tryz.prog 19 #[.string ⟨s.toArray⟩] w' fun e w'' => e = .returned (.string ⟨(foldU s).toArray⟩) ∧ Only [] w' w'') := Lib.hid fun w' => fold_any s w' (by omega)
  generalize foldU s = x at *
  have HLK : Hid (∀ w', Only [] w w' → (Instr.lookup 74 (.map (some mb)) (.string ⟨x.toArray⟩) false).run Tryz.prog w' = .ok ((f x).getD (.slice none 0 0)) w') := Lib.hid fun w' ho => lookup_run Tryz.underlying74 (zeroStrs _) (h3.only ho (by simp)) x (by unfold maxLen; omega)
  have HV := Lib.hid h5
  clear h1 h2 h3 h4 h5 hk hF
  go_enter Tryz.func9, Tryz.ntmps9
  go_wp2_with fail
  refine wp_region_calm w [] (by kernel_rfl) (by kernel_rfl) (Only.refl _ w) ?_
  repeat (first | go_big_quiet_skip | (go_big_quiet_want; go_big_quiet_op; first | go_big_quiet_on | (refine ⟨_, fun _ _ => rfl, ?_⟩; go_big_quiet_on) | (apply Exists.intro; refine ⟨fun w' hw' => ?_, ?_⟩; (rw [hw'.cell_some c1 (by simp)]; exact ⟨rfl, rfl⟩); go_big_quiet_on) | (apply Exists.intro; refine ⟨fun w' hw' => ?_, ?_⟩; (rw [HLK.out w' hw']; exact ⟨rfl, rfl⟩); go_big_quiet_on) | go_big_quiet_call ((intro hw; go_at_call 19; refine (HFOLD.out _).mono ?_; rintro e w4 ⟨rfl, ho4⟩; exact ⟨rfl, hw.trans ho4⟩))))
  refine wpQuiet_nil ?_
  intro w3 ho3
  have HO3 := Lib.hid ho3
  clear ho3 HLK HFOLD c1
  have hv := HV.out
  cases hfx : f x with
  | none =>
    cases hFx : F x with
    | none =>
      rw [hFx] at HK
      clear hfx hFx hv
      go_wp2_with fail
      go_ret
      exact ⟨ret_str (by rw [HK.out]), HO3.out⟩
    | some l =>
      rw [hfx, hFx] at hv
      exact hv.elim
  | some v =>
    cases hFx : F x with
    | none =>
      rw [hfx, hFx] at hv
      exact hv.elim
    | some l =>
      rw [hfx, hFx] at hv
      rw [hFx] at HK
      obtain ⟨⟨p, c, rfl, hc, hm, hk⟩, hll⟩ := hv
      have hll' : (l.length : Int) ≤ 65536 := by omega
      by_cases h1 : l.length = 1
      · obtain ⟨y, rfl⟩ := List.length_eq_one_iff.1 h1
        obtain ⟨b1, o1, rfl, hcell⟩ := hk (by simp)
        have q0 : w3.cell? ⟨b1, o1, none⟩ = some (.string ⟨y.toArray⟩) := HO3.out.cell_some (hcell 0 (by simp)) (by simp)
        have hyl : y.length ≤ 10000 := HF.out x [y] hFx y (by simp)
        have hc1 : (0 : Int) < c := by simp at hc; omega
        have HOF : Hid (∀ w', Calls Tryz.prog 11 #[.string ⟨s.toArray⟩] w' fun e w'' => e = .returned (.int .u8 (ofU s)) ∧ Only [] w' w'') := Lib.hid fun w' => of_any s w' (by omega)
        have HAS : Hid (∀ w', Calls Tryz.prog 8 #[.int .u8 (ofU s), .string ⟨y.toArray⟩] w' fun e w'' => e = .returned (.string ⟨(asU (ofU s) y).toArray⟩) ∧ Only [] w' w'') := Lib.hid fun w' => as_any (ofU s) y w' (by omega)
        clear hcell hfx hFx hk hm h1 hll
        generalize ofU s = cs at *
        go_wp2_with fail
        refine wp_region_calm w3 [] (by kernel_rfl) (by kernel_rfl) (Only.refl _ w3) ?_
        repeat (first | go_big_quiet_skip | (go_big_quiet_want; go_big_quiet_op; first | go_big_quiet_on | (refine ⟨_, fun _ _ => rfl, ?_⟩; go_big_quiet_on) | (apply Exists.intro; refine ⟨fun w' hw' => ?_, ?_⟩; (rw [hw'.cell_some q0 (by simp)]; exact ⟨rfl, rfl⟩); go_big_quiet_on) | go_big_quiet_call ((intro hw; first | (go_at_call 11; refine (HOF.out _).mono ?_; rintro e w4 ⟨rfl, ho4⟩; exact ⟨rfl, hw.trans ho4⟩) | (go_at_call 8; refine (HAS.out _).mono ?_; rintro e w4 ⟨rfl, ho4⟩; exact ⟨rfl, hw.trans ho4⟩)))))
        refine wpQuiet_nil ?_
        intro w5 ho5
        have HO5 := Lib.hid (HO3.out.trans ho5)
        clear ho5 q0
        go_wp2_with fail
        go_ret
        exact ⟨ret_str (by rw [HK.out]), HO5.out⟩
      · have hne : ((l.length : Int) == 1) = false := by simp; omega
        have hkk : (match (some l : Option (List (List UInt8))) with | some [x] => asU (ofU s) x | _ => []) = [] := by
          split
          · rename_i e
            injection e with e
            subst e
            simp at h1
          · rfl
        rw [hkk] at HK
        clear hfx hFx hk h1
        go_wp2_with fail
        go_ret
        exact ⟨ret_str (by rw [HK.out]), HO3.out⟩
end Go.Proofs.YtfbbieecdenlbaaGreatDoor
namespace Go.Proofs.YtfbbieecdenlbaaGreatDoor
open Go.RowKit

theorem lookup_run_ok {w : World} {t e : TypeId} (ht : Tryz.prog.underlying t = some (.map 9 e)) {z : Value} (hz : (zeroValue e).run Tryz.prog w = .ok z w) {b n : Nat} {f : List UInt8 → Option Value} (h : MapAt w b n f) (s : List UInt8) (hs : s.length ≤ maxLen) :
    (Instr.lookup t (.map (some b)) (.string ⟨s.toArray⟩) true).run Tryz.prog w = .ok (.tuple #[(f s).getD z, .bool (f s).isSome]) w := by
  obtain ⟨D, h1, hm', hd⟩ := h
  obtain ⟨v, ps, hrun, hv⟩ := h1.look_ok keyLaw ht hz (zd := .held z) (zp := []) rfl (WideMaps.keyOf_string_mk Tryz.underlying9 (s := ⟨s.toArray⟩) (by rw [size_bytes]; exact hs))
  have h2 := (hd s hs).2 z
  have h3 := (hd s hs).1
  simp only [heldE, Option.some.injEq, Prod.mk.injEq] at hv
  rw [h2] at hv
  have : v = (f s).getD z := by simpa using hv.1
  subst this
  rw [hrun]
  simp [h3]

theorem store_run {w : World} {t e : TypeId} (ht : Tryz.prog.underlying t = some (.map 9 e)) {b n : Nat} {f : List UInt8 → Option Value} (h : MapAt w b n f) (hn : n < maxLen) (s : List UInt8) (hs : s.length ≤ maxLen) (val : Value) :
    ∃ w', (Instr.mapUpdate t (.map (some b)) (.string ⟨s.toArray⟩) val).run Tryz.prog w = .ok () w' ∧ MapAt w' b (n + 1) (fun u => if u = s then some val else f u) ∧ Only [b] w w' := by
  obtain ⟨D, h1, hm', hd⟩ := h
  obtain ⟨w', hrun, h2, h3⟩ := h1.store keyLaw ht hn (WideMaps.keyOf_string_mk Tryz.underlying9 (s := ⟨s.toArray⟩) (by rw [size_bytes]; exact hs)) (d := .held val) (ps := []) (val := val) rfl
  refine ⟨w', hrun, ⟨_, h2, h2.isMap, fun u hu => ?_⟩, (Only.refl [b] w).grown h3.grown (by intro k hk; exact Or.inl (by simpa using hk.symm))⟩
  have hk : WideAt.IsKeyLit (.string s) := by trivial
  by_cases e : u = s
  · subst e
    exact ⟨by rw [Maps.has_put_same hm' hk]; simp, fun z => by rw [Maps.atKey_put_same hm' hk]; simp⟩
  · have hne : Lit.string u ≠ Lit.string s := by simpa using e
    exact ⟨by rw [Maps.has_put_other hne]; simpa [e] using (hd u hu).1, fun z => by rw [Maps.atKey_put_other hne]; simpa [e] using (hd u hu).2 z⟩

theorem map_cells {w : World} {b n : Nat} {f : List UInt8 → Option Value} (h : MapAt w b n f) {p : Addr} {x : Value} (hx : w.cell? p = some x) : p.block ≠ b := by
  intro e
  obtain ⟨D, ⟨es, clock, h1, -⟩, -⟩ := h
  unfold World.cell? at hx
  rw [e, h1] at hx
  simp at hx
theorem FixV.keep {w w' : World} {v : Option Value} {l : Option (List (List UInt8))} (h : FixV w v l) (hc : ∀ p x, w.cell? p = some x → w'.cell? p = some x) : FixV w' v l := by
  cases v <;> cases l <;> simp only [FixV] at h ⊢
  exact ⟨h.1.keep hc, h.2⟩

/-- Corrections: a text, and its own. -/
abbrev FixL := List (List UInt8 × List (List UInt8))
def fxAt (Fs : FixL) (k : Nat) : List UInt8 × List (List UInt8) := Fs.getD k ([], [])
def lookF (Fs : FixL) (s : List UInt8) : Option (List (List UInt8)) := (Fs.find? fun p => decide (p.1 = s)).map (·.2)
/-- A slice of corrections that reads as Fs. -/
def FixesV (w : World) (v : Value) (Fs : FixL) : Prop :=
  ∃ p c, v = .slice p Fs.length c ∧ Fs.length ≤ c ∧ c ≤ maxLen ∧ (0 < Fs.length → ∃ b o, p = some ⟨b, o, none⟩ ∧ ∀ k, k < Fs.length → w.cell? ⟨b, o + k * 2, none⟩ = some (.string ⟨(fxAt Fs k).1.toArray⟩) ∧ ∃ u, w.cell? ⟨b, o + k * 2 + 1, none⟩ = some u ∧ StrsV w u (fxAt Fs k).2)
structure OkFixes (Fs : FixL) : Prop where
  few : Fs.length ≤ 65536
  apart : ∀ k, k < Fs.length → lookF (Fs.take k) (fxAt Fs k).1 = none
  size : ∀ k, k < Fs.length → (fxAt Fs k).1.length ≤ 65536 ∧ 0 < (fxAt Fs k).2.length ∧ (fxAt Fs k).2.length ≤ 65536

theorem lookF_take (Fs : FixL) (k : Nat) (h : k < Fs.length) (hn : lookF (Fs.take k) (fxAt Fs k).1 = none) (u : List UInt8) : lookF (Fs.take (k + 1)) u = if u = (fxAt Fs k).1 then some (fxAt Fs k).2 else lookF (Fs.take k) u := by
  have he : fxAt Fs k = Fs[k] := by simp [fxAt, h]
  rw [he] at hn ⊢
  rw [List.take_succ_eq_append_getElem h]
  unfold lookF at hn ⊢
  rw [List.find?_append]
  by_cases e : u = Fs[k].1
  · subst e
    have h0 : List.find? (fun p => decide (p.1 = Fs[k].1)) (Fs.take k) = none := by
      cases hf : List.find? (fun p => decide (p.1 = Fs[k].1)) (Fs.take k) with
      | none => rfl
      | some x => rw [hf] at hn; cases hn
    rw [h0, if_pos rfl]
    simp
  · rw [if_neg e]
    have h1 : List.find? (fun p => decide (p.1 = u)) [Fs[k]] = none := by
      rw [List.find?_singleton]
      have : ¬ Fs[k].1 = u := fun h => e h.symm
      simp [this]
    rw [h1]
    simp

set_option maxRecDepth 100000 in
set_option maxHeartbeats 4000000 in
theorem new_book (L : List (List UInt8)) (Fs : FixL) (v u : Value) (w : World) (hv : StrsV w v L) (hok : OkWords L) (hu : FixesV w u Fs) (hof : OkFixes Fs) :
    Calls Tryz.prog 7 #[v, u] w fun e w' => ∃ b, e = .returned (.tuple #[.pointer (some ⟨b, 0, none⟩), .int .i64 0]) ∧ BookAt w' b (makeN L L.length) (lookF Fs) ∧ Only [] w w' := by
  obtain ⟨p, c, rfl, hc, hm, hk⟩ := hu
  have HK := Lib.hid hk
  have HOF := Lib.hid hof
  have hfl := hof.few
  have hfl' : (Fs.length : Int) ≤ 65536 := by omega
  have HMK := Lib.hid (make_any L v w hv hok)
  have hmm := @run_makeMap Tryz.prog
  clear hk hof
  go_enter Tryz.func7, Tryz.ntmps7
  go_wp2_with fail
  refine HMK.out.mono ?_
  rintro e w1 ⟨t, g, rfl, ht, htb, hgb, ho1⟩
  have HT := Lib.hid ht
  have HO1 := Lib.hid ho1
  have htl : t < w1.heap.size := by obtain ⟨cap, h1, -⟩ := ht; exact lt_of_block h1
  have hgl : g < w1.heap.size := by
    obtain ⟨cap, -, h2⟩ := ht
    exact (h2.lt g rfl).2
  clear ht ho1
  go_wp2_with fail
  go_loopw [27] (fun iv wr => ∃ (k n : Nat) (f : List UInt8 → Option Value), k ≤ Fs.length ∧ n ≤ k ∧ iv = .int .i64 k ∧ wr.heap[w1.heap.size + 1]? = some (.cells #[.pointer (some ⟨t, 0, none⟩), .map (some w1.heap.size)] 76 (0, 0)) ∧ TrieAt wr t g (makeN L L.length) (makeC L L.length : Nat) ∧ MapAt wr w1.heap.size n f ∧ (∀ s, FixV wr (f s) (lookF (Fs.take k) s)) ∧ Only [] w wr) (fun iv _ => Fs.length - (intOf iv).toNat)
  case atStart =>
    refine ⟨0, 0, fun _ => none, by omega, Nat.le_refl _, rfl, alloc_new' _ (by simp), (HT.out.only (((Only.refl [] w1).alloc _).alloc _) (by simp) (by simp)), (MapAt.made w1).only ((Only.refl [] _).alloc _) (by simp), fun s => ?_, (HO1.out.alloc _).alloc _⟩
    simp [lookF, FixV]
  case round =>
    obtain ⟨k, n, f, hkl, hnk, rfl, hbk, ht, hmp, hfx, ho⟩ := hrel
    have HO := Lib.hid ho
    have HT2 := Lib.hid ht
    have HM := Lib.hid hmp
    have HBK := Lib.hid hbk
    have HFX := Lib.hid hfx
    have hbl := lt_of_block hbk
    have hmb := hmp.lt
    clear ht hbk hmp hfx
    by_cases hlt : k < Fs.length
    · obtain ⟨b, o, rfl, hcell⟩ := HK.out (by omega)
      have hkc : (k : Int) < c := by omega
      obtain ⟨e0, uv, e1, huv⟩ := hcell k hlt
      have k0 : wr.cell? ⟨b, o + k * 2, none⟩ = some (.string ⟨(fxAt Fs k).1.toArray⟩) := ho.cell_some e0 (by simp)
      have k1 : wr.cell? ⟨b, o + k * 2 + 1, none⟩ = some uv := ho.cell_some e1 (by simp)
      have huv1 := huv.only ho
      obtain ⟨pu, cu, rfl, -⟩ := huv
      have hnone := HOF.out.apart k hlt
      have hsz := HOF.out.size k hlt
      have hlk := lookF_take Fs k hlt hnone
      have HLT := Lib.hid hlk
      have HUV := Lib.hid huv1
      have hfn : f (fxAt Fs k).1 = none := by
        have h := HFX.out (fxAt Fs k).1
        rw [hnone] at h
        cases hf : f (fxAt Fs k).1 with
        | none => rfl
        | some x => rw [hf] at h; exact h.elim
      have HFN := Lib.hid hfn
      clear hcell e0 e1 ho huv1 hnone hlk hfn
      generalize (fxAt Fs k).1 = frm at *
      generalize (fxAt Fs k).2 = to at *
      go_wp2_with fail
      have ho8 : Only [] wr (wr.alloc (.cells #[.string ⟨frm.toArray⟩, .slice pu to.length cu] 38)) := (Only.refl _ _).alloc _
      have hq8 := alloc_new wr (.cells #[.string ⟨frm.toArray⟩, .slice pu to.length cu] 38)
      generalize hw8 : wr.alloc (.cells #[.string ⟨frm.toArray⟩, .slice pu to.length cu] 38) = w8 at *
      clear hw8
      have q0 : w8.cell? ⟨wr.heap.size, 0, none⟩ = some (.string ⟨frm.toArray⟩) := cell_blk hq8 0
      have q1 : w8.cell? ⟨wr.heap.size, 1, none⟩ = some (.slice pu to.length cu) := cell_blk hq8 1
      have c1 : w8.cell? ⟨w1.heap.size + 1, 1, none⟩ = some (.map (some w1.heap.size)) := cell_blk (ho8.keep HBK.out (by simp)) 1
      have HM8 := Lib.hid (HM.out.only ho8 (by simp))
      have HLK : Hid (∀ w', Only [] w8 w' → (Instr.lookup 74 (.map (some w1.heap.size)) (.string ⟨frm.toArray⟩) true).run Tryz.prog w' = .ok (.tuple #[.slice none 0 0, .bool false]) w') := Lib.hid fun w' hw => by
        have h := lookup_run_ok Tryz.underlying74 (zeroStrs _) (HM8.out.only hw (by simp)) frm (by unfold maxLen; omega)
        rw [HFN.out] at h
        exact h
      have HUV8 := Lib.hid (HUV.out.only ho8)
      have HO8 := Lib.hid ho8
      have HQ8 := Lib.hid hq8
      clear ho8 hq8 k0 k1
      refine wp_region_calm w8 [] (by kernel_rfl) (by kernel_rfl) (Only.refl _ w8) ?_
      repeat (first | go_big_quiet_skip | (go_big_quiet_want; go_big_quiet_op; first | go_big_quiet_on | (refine ⟨_, fun _ _ => rfl, ?_⟩; go_big_quiet_on) | (apply Exists.intro; refine ⟨fun w' hw' => ?_, ?_⟩; (rw [hw'.cell_some c1 (by simp)]; exact ⟨rfl, rfl⟩); go_big_quiet_on) | (apply Exists.intro; refine ⟨fun w' hw' => ?_, ?_⟩; (rw [hw'.cell_some q0 (by simp)]; exact ⟨rfl, rfl⟩); go_big_quiet_on) | (apply Exists.intro; refine ⟨fun w' hw' => ?_, ?_⟩; (rw [HLK.out w' hw']; exact ⟨rfl, rfl⟩); go_big_quiet_on)))
      refine wpQuiet_nil ?_
      intro w9 ho9
      have p0 : w9.cell? ⟨wr.heap.size, 0, none⟩ = some (.string ⟨frm.toArray⟩) := ho9.cell_some q0 (by simp)
      have p1 : w9.cell? ⟨wr.heap.size, 1, none⟩ = some (.slice pu to.length cu) := ho9.cell_some q1 (by simp)
      have d1 : w9.cell? ⟨w1.heap.size + 1, 1, none⟩ = some (.map (some w1.heap.size)) := ho9.cell_some c1 (by simp)
      have HO9 := Lib.hid (HO8.out.trans ho9)
      have HM9 := Lib.hid (HM8.out.only ho9 (by simp))
      have HUV9 := Lib.hid (HUV8.out.only ho9)
      clear ho9 q0 q1 c1 HLK HM8 HUV8 HO8
      go_wp2_with fail
      have HUVd : StrsV w9.drew (.slice pu to.length cu) to := HUV9.out.only ((Only.refl _ _).drew)
      have HMd : MapAt w9.drew w1.heap.size n f := HM9.out.only ((Only.refl [] _).drew) (by simp)
      have HC := Lib.hid (clone_any to _ _ HUVd hsz.2.1 hsz.2.2)
      have HMD := Lib.hid HMd
      have hpd : w9.drew.cell? ⟨w1.heap.size + 1, 1, none⟩ = some (.map (some w1.heap.size)) ∧ w9.drew.cell? ⟨wr.heap.size, 0, none⟩ = some (.string ⟨frm.toArray⟩) ∧ w9.drew.cell? ⟨wr.heap.size, 1, none⟩ = some (.slice pu to.length cu) := ⟨d1, p0, p1⟩
      clear HUVd HMd
      go_region_held3 (fun w' => w'.cell? ⟨w1.heap.size + 1, 1, none⟩ = some (.map (some w1.heap.size)) ∧ w'.cell? ⟨wr.heap.size, 0, none⟩ = some (.string ⟨frm.toArray⟩) ∧ w'.cell? ⟨wr.heap.size, 1, none⟩ = some (.slice pu to.length cu)) (first | exact hpd | exact hs10 | exact hs11) (first | (go_at_call 21; refine HC.out.mono ?_; rintro e w10 ⟨u, rfl, ho10, hu10⟩; obtain ⟨w11, hrun, hm11, ho11⟩ := store_run Tryz.underlying74 (HMD.out.only ho10 (by simp)) (by unfold maxLen; omega) frm (by unfold maxLen; omega) u; have hs10 := (⟨ho10.cell_some hpd.1 (by simp), ho10.cell_some hpd.2.1 (by simp), ho10.cell_some hpd.2.2 (by simp)⟩ : w10.cell? ⟨w1.heap.size + 1, 1, none⟩ = some (.map (some w1.heap.size)) ∧ w10.cell? ⟨wr.heap.size, 0, none⟩ = some (.string ⟨frm.toArray⟩) ∧ w10.cell? ⟨wr.heap.size, 1, none⟩ = some (.slice pu to.length cu)); have hs11 := (⟨ho11.cell_some hs10.1 (by simp), ho11.cell_some hs10.2.1 (by simp; omega), ho11.cell_some hs10.2.2 (by simp; omega)⟩ : w11.cell? ⟨w1.heap.size + 1, 1, none⟩ = some (.map (some w1.heap.size)) ∧ w11.cell? ⟨wr.heap.size, 0, none⟩ = some (.string ⟨frm.toArray⟩) ∧ w11.cell? ⟨wr.heap.size, 1, none⟩ = some (.slice pu to.length cu)); have HU10 := Lib.hid hu10; have HO10 := Lib.hid ho10; have HM11 := Lib.hid hm11; have HO11 := Lib.hid ho11; have HM10 := Lib.hid (HMD.out.only ho10 (by simp)); clear hu10 ho10 hm11 ho11))
      have hO10 : Only [] wr w10 := (HO9.out.drew).trans HO10.out
      have hkeep : ∀ p x, w10.cell? p = some x → w11.cell? p = some x := fun p x hx => HO11.out.cell_some hx (by simpa using map_cells HM10.out hx)
      have HO10' := Lib.hid hO10
      have HKEEP := Lib.hid hkeep
      have hto := hsz.2.2
      clear hpd hrun hs10 hs11 p0 p1 d1 hO10 hkeep
      go_wp2_with fail
      go_roundw
      case rel =>
        refine ⟨k + 1, n + 1, _, by omega, by omega, by go_num, ?_, ?_, HM11.out, fun x => ?_, ?_⟩
        · exact HO11.out.keep (HO10'.out.keep HBK.out (by simp)) (by simp)
        · exact (HT2.out.only HO10'.out (by simp) (by simp)).only HO11.out (by simp; omega) (by simp; omega)
        · rw [HLT.out x]
          by_cases hx : x = frm
          · rw [if_pos hx, if_pos hx]
            exact ⟨HU10.out.keep HKEEP.out, hto⟩
          · rw [if_neg hx, if_neg hx]
            exact ((HFX.out x).only HO10'.out).keep HKEEP.out
        · exact (HO.out.trans HO10'.out).trans' HO11.out (by
            intro i hi
            simp only [List.mem_cons, List.not_mem_nil, or_false] at hi
            right; have := HO1.out.size; omega)
      case measure => simp [intOf]; omega
    · obtain rfl : k = Fs.length := by omega
      have h1 := HFX.out
      rw [List.take_length] at h1
      have HB : Hid (BookAt wr (w1.heap.size + 1) (makeN L L.length) (lookF Fs)) := Lib.hid ⟨t, g, _, n, _, f, HBK.out, HT2.out, HM.out, h1⟩
      clear h1 ho
      go_wp2_with fail
      go_ret2
      exact ⟨_, rfl, HB.out, HO.out⟩
end Go.Proofs.YtfbbieecdenlbaaGreatDoor
