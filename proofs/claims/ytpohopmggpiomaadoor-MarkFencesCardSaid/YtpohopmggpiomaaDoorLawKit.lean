/-
  What every law's row needs: the library's variables out of what the row lists; bytes that come in.
-/
import Derived.Test.YtpohopmggpiomaaDoorStr
import Derived.Test.YtpohopmggpiomaaDoorTie
import Derived.Test.YtpohopmggpiomaaDoorCards
import Derived.ProofKit
import Derived.OpenShut
import Derived.ShutString
import Derived.ChangeOld
import Derived.LaidMore
import Derived.Lay
import Derived.SevenTiedAt
import Derived.Stop.Joined
import Derived.Lib.LaidU8
import Derived.PinnedBridge
import Derived.HandedShaped
namespace Go.Proofs.YtpohopmggpiomaaDoor
open Go.ChangeShapes Go.WideShapes Go.ChangeAt Go.RowKit
open Go.ChangeMaps (open_string shut_string)

theorem own : ownKnob Tryd.prog.godebug = none := by kernel_rfl
theorem laidOut : laidOutB Tryd.prog = true := by kernel_rfl

/-- The two variables of unicode/utf8 that the rows list. -/
def laidTwo : List (String × DataW Unit) := Rows.markPlainRow.laid

theorem u8Extra : U8Extra Tryd.prog Tryd.lays260_ren := ⟨by kernel_rfl, by kernel_rfl, by kernel_rfl, by kernel_rfl, by kernel_rfl, by kernel_rfl, by kernel_rfl⟩

theorem env_of {W : World} (h : laidMetH Tryd.prog laidTwo W) (hs : W.ShapedOpen Tryd.prog) : Env W := by
  rw [MakeChecks.laidMetH_plain _ _ _ (by kernel_rfl)] at h
  refine ⟨utf8Tabs_of_reads Tryd.lays260 u8Extra ?_ ?_, Tryd.laysM219.s1_3 W hs⟩
  · rw [← Pinned.utf8First_eq]; exact Lib.laidMet.reads h (List.mem_cons_of_mem _ (List.mem_cons_self ..))
  · rw [show Lib.acceptData = Rows.laid_unicode_utf8_acceptRanges by kernel_rfl]; exact Lib.laidMet.reads h (List.mem_cons_self ..)

set_option maxRecDepth 100000 in
theorem witness_laid (os : Os) (args : Array Value) : laidMetH Tryd.prog laidTwo ((World.laidAll Tryd.prog os laidTwo).forCall (fun _ _ => 0) { blocks := #[], args := args }).memory := by
  rw [MakeChecks.laidMetH_plain _ _ _ (by kernel_rfl)]; exact laidMet_laidAll _ (by kernel_rfl) (by kernel_rfl)

/-- The wrap, with what the row lists and the world's shape. -/
theorem returnsInHanded_laid {H : Type} {enc : TypeId × Value → H} {C : Checked} {os : Os} {f : FuncId} {fn : Func} {s : ChangeSpec} {conds : List PathCond} {apart fresh handsOn again : Bool} {X : World → Array Value → Prop}
    (hX : ∀ (w w' : World) (args : Array Value), w.heap = w'.heap → X w args → X w' args)
    (own : ownKnob C.prog.godebug = none) (started : os.Started) (noInit : C.prog.inits.idxOf? f = none) (hfn : C.prog.funcs[f]? = some fn)
    (witness : ∃ (w : World) (tape : Tape) (i : Input), w.os = os ∧ (w.forCall tape i).Shaped C.prog ∧ i.vars = [] ∧ Input.okWide C.prog (w.forCall tape i) .any w.heap.size f i ∧
      ((s.pre enc C.prog fn conds apart (w.forCall tape i).memory i.args ∧ X (w.forCall tape i).memory i.args) ∧ sizedMet enc C.prog fn (OpenSpec.ofChange s) apart (w.forCall tape i).memory i.args) ∧ ({} : Assume).holds C.prog (lone (Frame.enter C.prog f i.args .normal) [] (w.forCall tape i)))
    (contract : ∀ (W : World) (base : Nat) (args : Array Value) (ds gs : List (DataW H)) (before : List MemPlace),
      (∀ (j : Nat) t v, fn.params[j]? = some t → args[j]? = some v → Value.okWide C.prog W .any base t v) →
      DataW.Whole enc C.prog fn.params.toList s.vars apart W args.toList ds gs before →
      (DataW.weightsEach C.prog (fn.params.toList ++ s.plain.varTypes C.prog) (ds ++ gs)).all (· ≤ reachBytes) = true → X W args → W.ShapedOpen C.prog →
      Calls C.prog f args W fun e W' => ∃ v, e = .returned v ∧ s.post enc C.prog fn apart fresh handsOn again W args v W') :
    ReturnsInHanded {} C os f .any (fun w args => (s.pre enc C.prog fn conds apart w args ∧ X w args) ∧ sizedMet enc C.prog fn (OpenSpec.ofChange s) apart w args) (s.post enc C.prog fn apart fresh handsOn again) := by
  refine returnsInHanded_of_calls own started noInit witness ?_
  intro w tape i _ hsh _ hok hpre hholds
  obtain ⟨_, _, _, fn', hfn', _, _, _, _, hval⟩ := hok
  have e : fn' = fn := Option.some.inj (hfn'.symm.trans hfn)
  subst e
  obtain ⟨⟨⟨ds, gs, before, hw, hc⟩, hx⟩, hz⟩ := hpre
  have hw' := DataW.Whole.of_heap (w' := w.forCall tape i) (by rfl) hw
  refine (contract (w.forCall tape i) w.heap.size i.args ds gs before hval hw' (hz.weights hw) (hX _ _ _ (by rfl) hx) hsh).mono fun e W' ⟨v, he, hp⟩ => ?_
  subst he
  exact ChangeSpec.post_blind hp

/-- A slice of bytes that came in. -/
theorem bytes_in {w : World} {a : Option Addr} {len cap : Nat}
    (h : (a = none ∧ len = 0 ∧ cap = 0) ∨ ∃ (x : Addr) (zs : List Int), a = some x ∧ len ≤ cap ∧ cap ≤ maxLen ∧ zs.length = cap ∧ (∀ i, i < zs.length → w.cell? (x.add i) = some (.int .u8 (zs.getD i 0))) ∧ ∀ n ∈ zs, (Lit.int .u8 n).wf = true) :
    ∃ l : List UInt8, l.length = len ∧ BytesV w (.slice a len cap) l := by
  rcases h with ⟨rfl, rfl, rfl⟩ | ⟨x, zs, rfl, hl, hm, hz, hcell, hwf⟩
  · exact ⟨[], rfl, ⟨none, 0, rfl, by simp, by unfold maxLen; omega, fun h => by simp at h⟩⟩
  · refine ⟨(zs.take len).map fun n => UInt8.ofNat n.toNat, by simp; omega, ?_⟩
    have hlen : ((zs.take len).map fun n => UInt8.ofNat n.toNat).length = len := by simp; omega
    refine ⟨_, cap, by rw [hlen], by rw [hlen]; exact hl, hm, fun hp => ?_⟩
    rw [hlen] at hp
    obtain ⟨b, off, rfl, hc⟩ := ints_at hcell (by omega)
    refine ⟨b, off, rfl, fun k hk => ?_⟩
    rw [hlen] at hk
    rw [hc k (by omega)]
    have hk' : k < zs.length := by omega
    have hmem : zs[k] ∈ zs := List.getElem_mem hk'
    have hw := hwf _ hmem
    have hb : 0 ≤ zs[k] ∧ zs[k] ≤ 255 := by simpa [Lit.wf] using bounds_u8 hw
    congr 2
    simp [bt, hk, hk']
    omega

end Go.Proofs.YtpohopmggpiomaaDoor
