/-
  bytes.IndexAny at the signs that end a link: where the first one is.
-/
import Derived.Test.YtpohopmggpiomaaDoorUtf
import Derived.Test.YtpohopmggpiomaaDoorMovP
import Derived.Lib.IndexAny
import Derived.Deep.WholeRow
namespace Go.Proofs.YtpohopmggpiomaaDoor
open Go.RowKit

def endC : List UInt8 := [62, 32, 9, 13, 10]
/-- What IndexAny answers. -/
def idxE (s : List UInt8) : Int := if whL endP s 0 < s.length then (whL endP s 0 : Int) else -1

theorem endP_has (x : UInt8) : endP (x.toNat : Int) = !endC.contains x := by
  have h : ∀ n : Fin 256, endP ((UInt8.ofNat n.val).toNat : Int) = !endC.contains (UInt8.ofNat n.val) := by decide +kernel
  have hx := h ⟨x.toNat, UInt8.toNat_lt x⟩
  simpa using hx
theorem bt_u8 (l : List UInt8) (k : Nat) : bt l k = ((l.getD k 0).toNat : Int) := rfl

/-- No sign ahead of k. -/
def NoE (s : List UInt8) (k : Nat) : Prop := whL endP s 0 = whL endP s k
theorem NoE.next {s : List UInt8} {k : Nat} (h : NoE s k) (hk : k < s.length) (hp : endC.contains (s.getD k 0) = false) : NoE s (k + 1) := by
  unfold NoE at h ⊢
  rw [h]
  exact whL_go _ _ _ hk (by rw [bt_u8, endP_has, hp]; rfl)
theorem NoE.hit {s : List UInt8} {k : Nat} (h : NoE s k) (hk : k < s.length) (hp : endC.contains (s.getD k 0) = true) : idxE s = (k : Int) := by
  unfold NoE at h
  rw [whL_stop endP s k (by rw [bt_u8, endP_has, hp]; simp)] at h
  unfold idxE
  rw [h, if_pos hk]
theorem NoE.none {s : List UInt8} {k : Nat} (h : NoE s k) (hk : s.length ≤ k) : idxE s = -1 := by
  unfold NoE at h
  rw [whL_stop endP s k (by omega)] at h
  unfold idxE
  rw [h, if_neg (by omega)]

theorem asciiE : ∀ (j : Nat) b, (⟨endC.toArray⟩ : ByteArray).data.toList[j]? = some b → b.toNat < 128 := by
  intro j b hb
  have hm := List.mem_of_getElem? hb
  have h : ∀ x ∈ endC, x.toNat < 128 := by decide
  exact h b (by simpa using hm)
theorem info_set : (Tryd.prog.info? 109).map (fun i => (i.zero, i.size)) = some (some (.agg (Array.replicate 256 (.bool false))), 256) := by kernel_rfl

theorem set_any5 (w : World) : Calls Tryd.prog 79 #[.string ⟨#[62, 32, 9, 13, 10]⟩] w fun e w' => e = .returned (.tuple #[.agg (Lib.setCells endC), .bool true]) ∧ w' = w.alloc (.cells (Lib.setCells endC) 109) :=
  Any.bytes_makeASCIISet layA (zero_of_info info_set).1 (zero_of_info info_set).2 ⟨endC.toArray⟩ w (by decide) asciiE

theorem use_any (n : Int) (w : World) : Calls Tryd.prog 78 #[.int .i64 n] w fun e w' => e = .returned (.bool (decide (8 < n))) ∧ w = w' := by
  go_enter Tryd.func78, Tryd.ntmps78
  go_wp2
  go_ret
  exact ⟨rfl, rfl⟩

set_option maxRecDepth 1000000 in
set_option maxHeartbeats 4000000 in
theorem idx_long (b o c : Nat) (l : List UInt8) (w : World) (hl : l.length ≤ 65536) (h8 : 8 < l.length) (hcell : ∀ j, j < l.length → w.cell? ⟨b, o + j, none⟩ = some (.int .u8 (bt l j))) :
    Calls Tryd.prog 58 #[.slice (some ⟨b, o, none⟩) l.length c, .string ⟨#[62, 32, 9, 13, 10]⟩] w fun e w' => e = .returned (.int .i64 (idxE l)) ∧ Only [] w w' := by
  have hn1 : ((l.length : Int) == 1) = false := beq_eq_false_iff_ne.2 (by omega)
  have h8z : decide ((8 : Int) < (l.length : Int)) = true := decide_eq_true (by omega)
  have HCELL := Lib.hid hcell
  clear hcell
  go_enter Tryd.func58, Tryd.ntmps58
  go_wp2_with fail
  refine (use_any (l.length : Int) w).mono ?_
  rw [h8z]
  rintro e w1 ⟨rfl, rfl⟩
  go_wp2_with fail
  refine (set_any5 w).mono ?_
  rintro e w1 ⟨rfl, hw1⟩
  rw [hw1]
  have hsc := run_storeCells_new (P := Tryd.prog) (w.alloc (.cells (Lib.setCells endC) 109)) 109 (Array.replicate 256 (.bool false)) (Lib.setCells endC) (by rw [Lib.setCells_size]; exact (zero_of_info info_set).2) (by rw [Lib.setCells_size, Array.size_replicate]) (Lib.setCells_one _)
  have hsz := Lib.setCells_size endC
  have hz := (zero_of_info info_set).1
  have hat : ∀ x : UInt8, ((w.alloc (.cells (Lib.setCells endC) 109)).alloc (.cells (Lib.setCells endC) 109)).cell? ⟨w.heap.size + 1, x.toNat, none⟩ = some (.bool (endC.contains x)) := fun x => by
    rw [World.cell?_alloc_at _ _ _ _ (by simp), Lib.setCells_at]
  generalize hG : Lib.setCells endC = G at *
  have HAT := Lib.hid hat
  have HG := Lib.hid hG
  clear hat hG
  go_wp2_with fail
  have hsc' : (storeCells ⟨w.heap.size + 1, 0, none⟩ G.toList 0).run Tryd.prog ((w.alloc (.cells G 109)).alloc (.cells (Array.replicate 256 (.bool false)) 109)) = .ok () ((w.alloc (.cells G 109)).alloc (.cells G 109)) := by simpa using hsc
  rw [hsc']
  simp only [Result.andThen]
  rw [Oper.upon_skip]
  clear hsc hsc' hz hsz hw1
  have hO : Only [] w ((w.alloc (.cells G 109)).alloc (.cells G 109)) := ((Only.refl [] w).alloc _).alloc _
  have HO := Lib.hid hO
  clear hO
  generalize (w.alloc (.cells G 109)).alloc (.cells G 109) = w2 at *
  go_wp2_with fail
  go_loopw [9, 10, 62] (fun _ _ i wr => wr = w2 ∧ ∃ k : Nat, k ≤ l.length ∧ i = .int .i64 k ∧ NoE l k) (fun _ _ i _ => l.length - (intOf i).toNat)
  case atStart => exact ⟨rfl, 0, by omega, rfl, rfl⟩
  case round =>
    obtain ⟨rfl, k, hk, rfl, hno⟩ := hrel
    have HN := Lib.hid hno
    clear hno
    by_cases hlt : k < l.length
    · have hc0 := HO.out.cell_some (HCELL.out k hlt) (by simp)
      rw [bt_u8] at hc0
      have HLT := Lib.hid hlt
      generalize hx : l.getD k 0 = x at hc0
      have HX := Lib.hid hx
      have hcx := HAT.out x
      clear hx
      cases hin : endC.contains x
      · rw [hin] at hcx
        have HIN := Lib.hid hin
        have HCX := Lib.hid hcx
        clear hin hcx
        go_wp2_with fail
        refine (Any.bytes_asciiSet_contains layC (w.heap.size + 1) x false wr HCX.out).mono ?_
        rintro e w3 ⟨rfl, rfl⟩
        go_wp2_with fail
        go_roundw
        case rel => exact ⟨by first | rfl | trivial, k + 1, by omega, by go_num, HN.out.next HLT.out (by rw [HX.out]; exact HIN.out)⟩
        case measure => simp [intOf]; omega
      · rw [hin] at hcx
        have HIN := Lib.hid hin
        have HCX := Lib.hid hcx
        clear hin hcx
        go_wp2_with fail
        refine (Any.bytes_asciiSet_contains layC (w.heap.size + 1) x true wr HCX.out).mono ?_
        rintro e w3 ⟨rfl, rfl⟩
        go_wp2_with fail
        go_ret
        exact ⟨ret_int (HN.out.hit HLT.out (by rw [HX.out]; exact HIN.out)).symm, HO.out⟩
    · go_wp2_with fail
      go_ret
      exact ⟨ret_int (HN.out.none (by omega)).symm, HO.out⟩

theorem idx_nil (p : Option Addr) (c : Nat) (w : World) :
    Calls Tryd.prog 58 #[.slice p 0 c, .string ⟨#[62, 32, 9, 13, 10]⟩] w fun e w' => e = .returned (.int .i64 (-1)) ∧ Only [] w w' := by
  go_enter Tryd.func58, Tryd.ntmps58
  go_wp2_with fail
  refine (use_any 0 w).mono ?_
  rintro e w1 ⟨rfl, rfl⟩
  go_wp2_with fail
  go_loopw [11, 12, 13, 15] (fun _ i _ _ wr => i = .int .i64 0 ∧ wr = w) (fun _ _ _ _ _ => 0)
  case atStart => exact ⟨rfl, rfl⟩
  case round =>
    obtain ⟨rfl, rfl⟩ := hrel
    go_wp2_with fail
    go_ret
    exact ⟨rfl, Only.refl _ _⟩

end Go.Proofs.YtpohopmggpiomaaDoor
