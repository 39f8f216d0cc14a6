/-
  redpenref10: one line that begins with a bracket.
-/
import Derived.Test.YtpohopmggpiomaaGreatDoorRefB
import Derived.Test.YtpohopmggpiomaaGreatDoorLex
namespace Go.Proofs.YtpohopmggpiomaaGreatDoor
open Go.RowKit

set_option maxRecDepth 100000 in
set_option maxHeartbeats 400000 in
theorem rfence_none (s : ByteArray) (w : World) (hs : s.size ≤ 1099511627776) (hi : indentL s.data.toList = 0) (h0 : 0 < s.size) (h1 : bt s.data.toList 0 ≠ 96) (h2 : bt s.data.toList 0 ≠ 126) :
    Calls Tryz.prog 23 #[.string s] w fun e w' => e = .returned (.string ⟨#[]⟩) ∧ w = w' := by
  have hb := bt_str h0
  have n1 : (bt s.data.toList 0 == 96) = false := by simpa using h1
  have n2 : (bt s.data.toList 0 == 126) = false := by simpa using h2
  have hsz : (s.size : Int) ≤ 1099511627776 := by omega
  have hIN := rindent_any s w hs
  rw [hi] at hIN
  have IN := Lib.hid hIN
  have hne : ¬ s = ByteArray.empty := by rintro rfl; simp at h0
  clear hIN hi
  go_enter Tryz.func23, Tryz.ntmps23
  go_wp2_with fail
  refine IN.out.mono ?_
  rintro e w1 ⟨rfl, rfl⟩
  go_wp2_with fail
  go_ret
  exact ⟨rfl, rfl⟩

set_option maxRecDepth 100000 in
set_option maxHeartbeats 400000 in
theorem rrefers_none (s : ByteArray) (w : World) (hs : s.size ≤ 1099511627776) (hi : indentL s.data.toList = 0) (h4 : 4 ≤ s.size) (h0 : bt s.data.toList 0 = 91) (h1 : bt s.data.toList 1 ≠ 93) (h2 : bt s.data.toList 2 = 93) (h3 : bt s.data.toList 3 = 40) :
    Calls Tryz.prog 24 #[.string s] w fun e w' => e = .returned (.bool false) ∧ w = w' := by
  have hb0 := bt_str (s := s) (k := 0) (by omega)
  have hb1 := bt_str (s := s) (k := 1) (by omega)
  have hb2 := bt_str (s := s) (k := 2) (by omega)
  have n1 : (bt s.data.toList 1 == 93) = false := by simpa using h1
  have n2 : (bt s.data.toList 2 == 93) = true := by simpa using h2
  have hsz : (s.size : Int) ≤ 1099511627776 := by omega
  have hIN := rindent_any s w hs
  rw [hi] at hIN
  have IN := Lib.hid hIN
  have hA1 := at_any s ⟨#[91]⟩ 0 w hs (by decide) (by decide)
  rw [show atB s 0 ⟨#[91]⟩ = true by rw [atB_one]; simp [h0]; omega] at hA1
  have hA2 := at_any s ⟨#[93, 58]⟩ 2 w hs (by decide) (by decide)
  rw [show atB s 2 ⟨#[93, 58]⟩ = false by rw [atB_two]; simp [h3]] at hA2
  have A1 := Lib.hid hA1
  have A2 := Lib.hid hA2
  have hne : ¬ s = ByteArray.empty := by rintro rfl; simp at h4
  clear hIN hi h1 h2 h0 h3 hA1 hA2
  go_enter Tryz.func24, Tryz.ntmps24
  go_wp2_with fail
  refine IN.out.mono ?_
  rintro e w1 ⟨rfl, rfl⟩
  go_wp2_with fail
  refine A1.out.mono ?_
  rintro e w1 ⟨rfl, rfl⟩
  go_wp2_with fail
  refine wp_loop_rounds 2 ?_
  rw [rounds_succ]
  go_wp2_with fail
  rw [rounds_succ]
  go_wp2_with fail
  refine A2.out.mono ?_
  rintro e w1 ⟨rfl, rfl⟩
  go_wp2_with fail
  go_ret
  exact ⟨rfl, rfl⟩

set_option maxRecDepth 100000 in
set_option maxHeartbeats 400000 in
theorem rlines_one (l : List UInt8) (v : Value) (w : World) (h : BytesV w v l) (hl : l.length ≤ 1099511627776) (h0 : 0 < l.length) (h10 : ∀ k, k < l.length → bt l k ≠ 10) :
    Calls Tryz.prog 18 #[v] w fun e w' => ∃ r, e = .returned r ∧ Only [] w w' ∧ StrsV w' r [l] := by
  have HV := Lib.hid h
  obtain ⟨p, c, rfl, hc, hm, hk⟩ := h
  have hll : (l.length : Int) ≤ 1099511627776 := by omega
  have H10 := Lib.hid h10
  obtain ⟨b, o, rfl, hcb⟩ := hk h0
  have HCB := Lib.hid hcb
  clear hk hcb h10 hl
  go_enter Tryz.func18, Tryz.ntmps18
  go_wp2
  go_loopw [3, 4, 5] (fun v3 v4 i wr => ∃ k : Nat, k ≤ l.length ∧ i = .int .i64 k ∧ v3 = .slice none 0 0 ∧ v4 = .int .i64 0 ∧ Only [] w wr) (fun _ _ i _ => l.length - (intOf i).toNat)
  case atStart => exact ⟨0, by omega, rfl, rfl, rfl, Only.refl _ _⟩
  case round =>
    obtain ⟨k, hk, rfl, rfl, rfl, ho⟩ := hrel
    have HO := Lib.hid ho
    clear ho
    by_cases hlt : k < l.length
    · have c1 := HO.out.cell_some (HCB.out k hlt) (by simp)
      have hne : (bt l k == 10) = false := by simpa using H10.out k hlt
      go_wp2
      go_roundw
      case rel => exact ⟨k + 1, by omega, by go_num, rfl, rfl, HO.out⟩
      case measure => simp [intOf]; omega
    · obtain rfl : k = l.length := by omega
      have hcv : (convert 22 9 (.slice (some ⟨b, o, none⟩) l.length c)).run Tryz.prog wr = .ok (sv l) wr :=
        conv_bytes (HV.out.keep fun p x hp => HO.out.cell_some hp (by simp)) _ _ 5 Tryz.underlying22 Tryz.underlying5 Tryz.underlying9
      go_wp2_with (at_builtin; refine wpList_append_lit rfl (.tmp 32) (.tmp 37) 46 rfl w [] 9 (.string ⟨#[]⟩) 1 16 Tryz.underlying46 infoStr rfl (by decide) (.slice none 0 0) 0 [] rfl ?c0 HO.out wr.heap.size 1 [sv l] rfl rfl rfl ?c1 ?c2 ?c3 ?_)
      case c0 => exact World.ownsRow_nil _ _ _ _
      case c1 => simp [Value.oneCell']
      case c2 => unfold maxLen; omega
      case c3 => omega
      intro v' w4 hown4 ho5
      have HOWN4 := Lib.hid hown4
      have HO5 := Lib.hid ho5
      clear hown4 ho5
      go_wp2
      go_ret
      exact ⟨_, rfl, HO5.out, StrsV.of_row HOWN4.out⟩
end Go.Proofs.YtpohopmggpiomaaGreatDoor
