/-
  redpenlaw12.MarkSpans: the walk.
-/
import Derived.Test.YtpohopmggpiomaaDoorLaw0
import Derived.Test.YtpohopmggpiomaaDoorPlain
namespace Go.Proofs.YtpohopmggpiomaaDoor
open Go.RowKit

/-- So many ticks. -/
def tk (n : Nat) : List UInt8 := List.replicate n 96
theorem tk_len (n : Nat) : (tk n).length = n := by simp [tk]

theorem ticks_snoc (k : Nat) : byteRow (List.replicate k (96 : UInt8)) ++ [Value.int .u8 96] = byteRow (List.replicate (k + 1) 96) := by
  rw [List.replicate_succ']; simp [byteRow]

set_option maxHeartbeats 400000 in
theorem ticks_any (n : Nat) (w : World) (hn : n ≤ 1000) :
    Calls Tryd.prog 11 #[.int .i64 n] w fun e w' => e = .returned (.string ⟨(List.replicate n (96 : UInt8)).toArray⟩) ∧ Only [] w w' := by
  have hn' : (n : Int) ≤ 1000 := by omega
  have infoB : (Tryd.prog.info? 5).map (fun i => (i.zero, i.size, i.bytes)) = some (some (.int .u8 0), 1, 1) := by kernel_rfl
  have HI := Lib.hid infoB
  clear infoB
  go_enter Tryd.func11, Tryd.ntmps11
  go_wp2
  go_loopw [3, 5] (fun bv iv wr => ∃ k : Nat, k ≤ n ∧ iv = .int .i64 k ∧ ∃ p c, bv = .slice p k c ∧ wr.ownsRow w.heap.size 5 1 (.slice p k c) k (byteRow (List.replicate k 96)) ∧ Only [] w wr) (fun _ iv _ => n - (intOf iv).toNat)
  case atStart => exact ⟨0, by omega, rfl, none, 0, rfl, ⟨rfl, .inl ⟨rfl, rfl⟩⟩, Only.refl _ _⟩
  case round =>
    obtain ⟨k, hk, rfl, p, c, rfl, hown, ho⟩ := hrel
    have HO := Lib.hid ho
    have HOWN := Lib.hid hown
    clear ho hown
    by_cases hlt : k < n
    · go_wp2_with (at_builtin; refine wpList_append_lit rfl (.tmp 7) (.tmp 8) 22 rfl w [] 5 (.int .u8 0) 1 1 Tryd.underlying22 HI.out rfl (by decide) (.slice p k c) k (byteRow (List.replicate k 96)) rfl HOWN.out HO.out wr.heap.size 1 [.int .u8 96] rfl rfl rfl ?c1 ?c2 ?c3 ?_)
      case c1 => simp [Value.oneCell']
      case c2 => unfold maxLen; omega
      case c3 => omega
      intro v' w4 hown4 ho5
      obtain ⟨p', c', rfl, -⟩ := ownsRow_shape hown4
      rw [ticks_snoc] at hown4
      have HOWN4 := Lib.hid hown4
      have HO5 := Lib.hid ho5
      clear hown4 ho5
      go_wp2
      go_roundw
      case rel => exact ⟨k + 1, by omega, by go_num, p', c', rfl, HOWN4.out, HO5.out⟩
      case measure => simp [intOf]; omega
    · obtain rfl : k = n := by omega
      have hv := BytesV.of_row (l := List.replicate k 96) (by simpa using HOWN.out)
      have hcv := conv_bytes hv 22 9 5 Tryd.underlying22 Tryd.underlying5 Tryd.underlying9
      clear hv
      go_wp2
      go_ret
      exact ⟨rfl, HO.out⟩

theorem ticks_int (i : Int) (n : Nat) (h : i = (n : Int)) (w : World) (hn : n ≤ 1000) :
    Calls Tryd.prog 11 #[.int .i64 i] w fun e w' => e = .returned (.string ⟨(tk n).toArray⟩) ∧ Only [] w w' := by
  subst h; exact ticks_any n w hn
end Go.Proofs.YtpohopmggpiomaaDoor
