/-
  utf.Put: a rune behind bytes.
-/
import Derived.Test.YtfbbieecdenlbaaGreatDoorFoldP
import Derived.Test.YtfbbieecdenlbaaGreatDoorUtfW
import Derived.Deep.QuietTactic
import Derived.BigQuiet
namespace Go.Proofs.YtfbbieecdenlbaaGreatDoor
open Go.RowKit

theorem infoB8 : (Tryz.prog.info? 5).map (fun i => (i.zero, i.size, i.bytes)) = some (some (.int .u8 0), 1, 1) := by kernel_rfl

theorem or_and (x : Int) (h0 : 0 ≤ x) (h1 : x < 256) : bits .or .u8 128 (bits .and .u8 x 191) = 128 + x % 64 := by
  have hh : ∀ x : Fin 256, bits .or .u8 128 (bits .and .u8 (x.val : Int) 191) = 128 + (x.val : Int) % 64 := by decide +kernel
  have := hh ⟨x.toNat, by omega⟩
  rwa [show ((⟨x.toNat, by omega⟩ : Fin 256).val : Int) = x from Int.toNat_of_nonneg h0] at this

set_option maxRecDepth 100000 in
set_option maxHeartbeats 2000000 in
theorem put_no (l : List UInt8) (v : Value) (r : Int) (w : World) (hv : BytesV w v l) (hl : l.length ≤ 1000000) (h : noU r) :
    Calls Tryz.prog 42 #[v, .int .i32 r] w fun e w' => ∃ u, e = .returned (.tuple #[u, .int .i64 2]) ∧ Only [] w w' ∧ u = .slice none 0 0 := by
  have HV := Lib.hid hv
  have hcap := hv
  obtain ⟨p, c, rfl, hc, hm, -⟩ := hcap
  clear hv
  unfold noU at h
  rcases h with h | h | ⟨h, h'⟩
  all_goals
    go_enter Tryz.func42, Tryz.ntmps42
    go_wp2_with (at_builtin; refine wpList_append_src rfl (.tmp 7) (.tmp 8) 44 44 rfl w [] 5 (.int .u8 0) 1 1 Tryz.underlying44 infoB8 rfl (by decide) (.slice (some ⟨w.heap.size, 0, none⟩) 0 0) 0 [] rfl (ownsRow_empty w w.heap.size _ _ (Nat.le_refl _)) ((Only.refl _ _).alloc _) (.slice p l.length c) l.length (byteRow l) rfl (Src.bytes Tryz.underlying44 (HV.out.keep (fun _ _ h => (((Only.refl [] w).alloc _).cell_some h (by simp))))) (by unfold maxLen; omega) (by omega) ?_)
    intro v1 w1 hown ho
    obtain ⟨p1, c1, rfl, -⟩ := ownsRow_shape hown
    have HOWN := Lib.hid hown
    have HO := Lib.hid ho
    clear hown ho
    go_wp2_with fail
    go_ret2
    exact ⟨_, rfl, HO.out, rfl⟩

set_option maxRecDepth 100000 in
set_option maxHeartbeats 2000000 in
theorem put_1 (l : List UInt8) (v : Value) (r : Int) (w : World) (hv : BytesV w v l) (hl : l.length ≤ 1000000) (h0 : 0 ≤ r) (h1 : r ≤ 127) :
    Calls Tryz.prog 42 #[v, .int .i32 r] w fun e w' => ∃ u, e = .returned (.tuple #[u, .int .i64 0]) ∧ Only [] w w' ∧ BytesV w' u (l ++ encU r) := by
  have HV := Lib.hid hv
  have hcap := hv
  obtain ⟨p, c, rfl, hc, hm, -⟩ := hcap
  clear hv
  go_enter Tryz.func42, Tryz.ntmps42
  go_wp2_with (at_builtin; refine wpList_append_src rfl (.tmp 7) (.tmp 8) 44 44 rfl w [] 5 (.int .u8 0) 1 1 Tryz.underlying44 infoB8 rfl (by decide) (.slice (some ⟨w.heap.size, 0, none⟩) 0 0) 0 [] rfl (ownsRow_empty w w.heap.size _ _ (Nat.le_refl _)) ((Only.refl _ _).alloc _) (.slice p l.length c) l.length (byteRow l) rfl (Src.bytes Tryz.underlying44 (HV.out.keep (fun _ _ h => (((Only.refl [] w).alloc _).cell_some h (by simp))))) (by unfold maxLen; omega) (by omega) ?_)
  intro v1 w1 hown ho
  obtain ⟨p1, c1, rfl, -⟩ := ownsRow_shape hown
  have HOWN := Lib.hid hown
  have HO := Lib.hid ho
  clear hown ho
  go_wp2_with (at_builtin; refine wpList_append_lit rfl (.tmp 45) (.tmp 48) 44 rfl w [] 5 (.int .u8 0) 1 1 Tryz.underlying44 infoB8 rfl (by decide) (.slice p1 l.length c1) (l.length) _ rfl HOWN.out HO.out w1.heap.size 1 [.int .u8 r] rfl rfl rfl (by simp [Value.oneCell']) (by unfold maxLen; omega) (by omega) ?_)
  intro v2 w2 hown ho
  obtain ⟨p2, c2, rfl, -⟩ := ownsRow_shape hown
  have HOWN2 := Lib.hid hown
  have HO2 := Lib.hid ho
  clear hown ho
  go_wp2_with fail
  go_ret2
  refine ⟨_, rfl, HO2.out, ?_⟩
  have h2 := HOWN2.out
  rw [← row1 r h0 (by omega), ← byteRow_append] at h2
  rw [(enc_1 r h0 h1).2]
  exact BytesV.of_row h2

set_option maxRecDepth 100000 in
set_option maxHeartbeats 2000000 in
theorem put_2 (l : List UInt8) (v : Value) (r : Int) (w : World) (hv : BytesV w v l) (hl : l.length ≤ 1000000) (h0 : 128 ≤ r) (h1 : r ≤ 2047) :
    Calls Tryz.prog 42 #[v, .int .i32 r] w fun e w' => ∃ u, e = .returned (.tuple #[u, .int .i64 0]) ∧ Only [] w w' ∧ BytesV w' u (l ++ encU r) := by
  have HV := Lib.hid hv
  have hcap := hv
  obtain ⟨p, c, rfl, hc, hm, -⟩ := hcap
  clear hv
  have f0 : bits .or .u8 128 (bits .and .u8 (r % 256) 191) = 128 + r % 64 := by rw [or_and (r % 256) (by omega) (by omega)]; omega
  have f1 : bits .or .u8 128 (bits .and .u8 (r / 64 % 256) 191) = 128 + r / 64 % 64 := by rw [or_and (r / 64 % 256) (by omega) (by omega)]; omega
  have f2 : bits .or .u8 128 (bits .and .u8 (r / 4096 % 256) 191) = 128 + r / 4096 % 64 := by rw [or_and (r / 4096 % 256) (by omega) (by omega)]; omega
  go_enter Tryz.func42, Tryz.ntmps42
  go_wp2_with (at_builtin; refine wpList_append_src rfl (.tmp 7) (.tmp 8) 44 44 rfl w [] 5 (.int .u8 0) 1 1 Tryz.underlying44 infoB8 rfl (by decide) (.slice (some ⟨w.heap.size, 0, none⟩) 0 0) 0 [] rfl (ownsRow_empty w w.heap.size _ _ (Nat.le_refl _)) ((Only.refl _ _).alloc _) (.slice p l.length c) l.length (byteRow l) rfl (Src.bytes Tryz.underlying44 (HV.out.keep (fun _ _ h => (((Only.refl [] w).alloc _).cell_some h (by simp))))) (by unfold maxLen; omega) (by omega) ?_)
  intro v1 w1 hown ho
  obtain ⟨p1, c1, rfl, -⟩ := ownsRow_shape hown
  have HOWN := Lib.hid hown
  have HO := Lib.hid ho
  clear hown ho
  go_wp2_with (at_builtin; refine wpList_append_lit rfl (.tmp 53) (.tmp 58) 44 rfl w [] 5 (.int .u8 0) 1 1 Tryz.underlying44 infoB8 rfl (by decide) (.slice p1 l.length c1) (l.length) _ rfl HOWN.out HO.out w1.heap.size 1 [.int .u8 (192 + r / 64)] rfl rfl rfl (by simp [Value.oneCell']) (by unfold maxLen; omega) (by omega) ?_)
  intro v2 w2 hown ho
  obtain ⟨p2, c2, rfl, -⟩ := ownsRow_shape hown
  have HOWN2 := Lib.hid hown
  have HO2 := Lib.hid ho
  clear hown ho
  go_wp2_with (at_builtin; refine wpList_append_lit rfl (.tmp 75) (.tmp 80) 44 rfl w [] 5 (.int .u8 0) 1 1 Tryz.underlying44 infoB8 rfl (by decide) (.slice p2 (l.length + 1) c2) ((l.length + 1)) _ rfl HOWN2.out HO2.out w2.heap.size 1 [.int .u8 (128 + r % 64)] rfl rfl rfl (by simp [Value.oneCell']) (by unfold maxLen; omega) (by omega) ?_)
  intro v3 w3 hown ho
  obtain ⟨p3, c3, rfl, -⟩ := ownsRow_shape hown
  have HOWN3 := Lib.hid hown
  have HO3 := Lib.hid ho
  clear hown ho
  go_wp2_with fail
  go_ret2
  refine ⟨_, rfl, HO3.out, ?_⟩
  have h2 := HOWN3.out
  rw [(enc_2 r h0 h1).2]
  refine BytesV.of_row (base := w.heap.size) (e := 5) (n := l.length + 1 + 1) ?_
  rw [byteRow_append, row2 _ _ (by omega) (by omega) (by omega) (by omega)]
  exact h2

set_option maxRecDepth 100000 in
set_option maxHeartbeats 2000000 in
theorem put_3 (l : List UInt8) (v : Value) (r : Int) (w : World) (hv : BytesV w v l) (hl : l.length ≤ 1000000) (h0 : 2048 ≤ r) (h1 : r ≤ 65535) (h2 : r < 55296 ∨ 57344 ≤ r) :
    Calls Tryz.prog 42 #[v, .int .i32 r] w fun e w' => ∃ u, e = .returned (.tuple #[u, .int .i64 0]) ∧ Only [] w w' ∧ BytesV w' u (l ++ encU r) := by
  have HV := Lib.hid hv
  have hcap := hv
  obtain ⟨p, c, rfl, hc, hm, -⟩ := hcap
  clear hv
  rcases h2 with h2 | h2
  all_goals
    have f0 : bits .or .u8 128 (bits .and .u8 (r % 256) 191) = 128 + r % 64 := by rw [or_and (r % 256) (by omega) (by omega)]; omega
    have f1 : bits .or .u8 128 (bits .and .u8 (r / 64 % 256) 191) = 128 + r / 64 % 64 := by rw [or_and (r / 64 % 256) (by omega) (by omega)]; omega
    have f2 : bits .or .u8 128 (bits .and .u8 (r / 4096 % 256) 191) = 128 + r / 4096 % 64 := by rw [or_and (r / 4096 % 256) (by omega) (by omega)]; omega
    go_enter Tryz.func42, Tryz.ntmps42
    go_wp2_with (at_builtin; refine wpList_append_src rfl (.tmp 7) (.tmp 8) 44 44 rfl w [] 5 (.int .u8 0) 1 1 Tryz.underlying44 infoB8 rfl (by decide) (.slice (some ⟨w.heap.size, 0, none⟩) 0 0) 0 [] rfl (ownsRow_empty w w.heap.size _ _ (Nat.le_refl _)) ((Only.refl _ _).alloc _) (.slice p l.length c) l.length (byteRow l) rfl (Src.bytes Tryz.underlying44 (HV.out.keep (fun _ _ h => (((Only.refl [] w).alloc _).cell_some h (by simp))))) (by unfold maxLen; omega) (by omega) ?_)
    intro v1 w1 hown ho
    obtain ⟨p1, c1, rfl, -⟩ := ownsRow_shape hown
    have HOWN := Lib.hid hown
    have HO := Lib.hid ho
    clear hown ho
    go_wp2_with (at_builtin; refine wpList_append_lit rfl (.tmp 63) (.tmp 73) 44 rfl w [] 5 (.int .u8 0) 1 1 Tryz.underlying44 infoB8 rfl (by decide) (.slice p1 l.length c1) (l.length) _ rfl HOWN.out HO.out w1.heap.size 2 [.int .u8 (224 + r / 4096), .int .u8 (128 + r / 64 % 64)] rfl rfl rfl (by simp [Value.oneCell']) (by unfold maxLen; omega) (by omega) ?_)
    intro v2 w2 hown ho
    obtain ⟨p2, c2, rfl, -⟩ := ownsRow_shape hown
    have HOWN2 := Lib.hid hown
    have HO2 := Lib.hid ho
    clear hown ho
    go_wp2_with (at_builtin; refine wpList_append_lit rfl (.tmp 75) (.tmp 80) 44 rfl w [] 5 (.int .u8 0) 1 1 Tryz.underlying44 infoB8 rfl (by decide) (.slice p2 (l.length + 2) c2) ((l.length + 2)) _ rfl HOWN2.out HO2.out w2.heap.size 1 [.int .u8 (128 + r % 64)] rfl rfl rfl (by simp [Value.oneCell']) (by unfold maxLen; omega) (by omega) ?_)
    intro v3 w3 hown ho
    obtain ⟨p3, c3, rfl, -⟩ := ownsRow_shape hown
    have HOWN3 := Lib.hid hown
    have HO3 := Lib.hid ho
    clear hown ho
    go_wp2_with fail
    go_ret2
    refine ⟨_, rfl, HO3.out, ?_⟩
    have h2 := HOWN3.out
    rw [(enc_3 r h0 h1 (by omega)).2]
    refine BytesV.of_row (base := w.heap.size) (e := 5) (n := l.length + 2 + 1) ?_
    rw [byteRow_append, row3 _ _ _ (by omega) (by omega) (by omega) (by omega) (by omega) (by omega)]
    exact h2

set_option maxRecDepth 100000 in
set_option maxHeartbeats 2000000 in
theorem put_4 (l : List UInt8) (v : Value) (r : Int) (w : World) (hv : BytesV w v l) (hl : l.length ≤ 1000000) (h0 : 65536 ≤ r) (h1 : r ≤ 1114111) :
    Calls Tryz.prog 42 #[v, .int .i32 r] w fun e w' => ∃ u, e = .returned (.tuple #[u, .int .i64 0]) ∧ Only [] w w' ∧ BytesV w' u (l ++ encU r) := by
  have HV := Lib.hid hv
  have hcap := hv
  obtain ⟨p, c, rfl, hc, hm, -⟩ := hcap
  clear hv
  have f0 : bits .or .u8 128 (bits .and .u8 (r % 256) 191) = 128 + r % 64 := by rw [or_and (r % 256) (by omega) (by omega)]; omega
  have f1 : bits .or .u8 128 (bits .and .u8 (r / 64 % 256) 191) = 128 + r / 64 % 64 := by rw [or_and (r / 64 % 256) (by omega) (by omega)]; omega
  have f2 : bits .or .u8 128 (bits .and .u8 (r / 4096 % 256) 191) = 128 + r / 4096 % 64 := by rw [or_and (r / 4096 % 256) (by omega) (by omega)]; omega
  go_enter Tryz.func42, Tryz.ntmps42
  go_wp2_with (at_builtin; refine wpList_append_src rfl (.tmp 7) (.tmp 8) 44 44 rfl w [] 5 (.int .u8 0) 1 1 Tryz.underlying44 infoB8 rfl (by decide) (.slice (some ⟨w.heap.size, 0, none⟩) 0 0) 0 [] rfl (ownsRow_empty w w.heap.size _ _ (Nat.le_refl _)) ((Only.refl _ _).alloc _) (.slice p l.length c) l.length (byteRow l) rfl (Src.bytes Tryz.underlying44 (HV.out.keep (fun _ _ h => (((Only.refl [] w).alloc _).cell_some h (by simp))))) (by unfold maxLen; omega) (by omega) ?_)
  intro v1 w1 hown ho
  obtain ⟨p1, c1, rfl, -⟩ := ownsRow_shape hown
  have HOWN := Lib.hid hown
  have HO := Lib.hid ho
  clear hown ho
  go_wp2_with (at_builtin; refine wpList_append_lit rfl (.tmp 10) (.tmp 25) 44 rfl w [] 5 (.int .u8 0) 1 1 Tryz.underlying44 infoB8 rfl (by decide) (.slice p1 l.length c1) (l.length) _ rfl HOWN.out HO.out w1.heap.size 3 [.int .u8 (240 + r / 262144), .int .u8 (128 + r / 4096 % 64), .int .u8 (128 + r / 64 % 64)] rfl rfl rfl (by simp [Value.oneCell']) (by unfold maxLen; omega) (by omega) ?_)
  intro v2 w2 hown ho
  obtain ⟨p2, c2, rfl, -⟩ := ownsRow_shape hown
  have HOWN2 := Lib.hid hown
  have HO2 := Lib.hid ho
  clear hown ho
  go_wp2_with (at_builtin; refine wpList_append_lit rfl (.tmp 75) (.tmp 80) 44 rfl w [] 5 (.int .u8 0) 1 1 Tryz.underlying44 infoB8 rfl (by decide) (.slice p2 (l.length + 3) c2) ((l.length + 3)) _ rfl HOWN2.out HO2.out w2.heap.size 1 [.int .u8 (128 + r % 64)] rfl rfl rfl (by simp [Value.oneCell']) (by unfold maxLen; omega) (by omega) ?_)
  intro v3 w3 hown ho
  obtain ⟨p3, c3, rfl, -⟩ := ownsRow_shape hown
  have HOWN3 := Lib.hid hown
  have HO3 := Lib.hid ho
  clear hown ho
  go_wp2_with fail
  go_ret2
  refine ⟨_, rfl, HO3.out, ?_⟩
  have h2 := HOWN3.out
  rw [(enc_4 r h0 h1).2]
  refine BytesV.of_row (base := w.heap.size) (e := 5) (n := l.length + 3 + 1) ?_
  rw [byteRow_append, row4 _ _ _ _ (by omega) (by omega) (by omega) (by omega) (by omega) (by omega) (by omega) (by omega)]
  exact h2

/-- What Put gives. -/
def PutPost (l : List UInt8) (r : Int) (w : World) (e : Ending) (w' : World) : Prop :=
  ∃ u, e = .returned (.tuple #[u, .int .i64 (if okU r then 0 else 2)]) ∧ Only [] w w' ∧ (okU r = true → BytesV w' u (l ++ encU r)) ∧ (okU r = false → u = .slice none 0 0)
theorem put_any (l : List UInt8) (v : Value) (r : Int) (w : World) (hv : BytesV w v l) (hl : l.length ≤ 1000000) :
    Calls Tryz.prog 42 #[v, .int .i32 r] w (PutPost l r w) := by
  by_cases h : noU r
  · have k := enc_no r h
    refine (put_no l v r w hv hl h).mono ?_
    rintro e w' ⟨u, rfl, ho, hu⟩
    exact ⟨u, by rw [k.1]; rfl, ho, by rw [k.1]; simp, fun _ => hu⟩
  · have k := ok_of r h
    unfold noU at h
    by_cases h1 : r ≤ 127
    · refine (put_1 l v r w hv hl (by omega) h1).mono ?_
      rintro e w' ⟨u, rfl, ho, hu⟩
      exact ⟨u, by rw [k]; rfl, ho, fun _ => hu, by rw [k]; simp⟩
    · by_cases h2 : r ≤ 2047
      · refine (put_2 l v r w hv hl (by omega) h2).mono ?_
        rintro e w' ⟨u, rfl, ho, hu⟩
        exact ⟨u, by rw [k]; rfl, ho, fun _ => hu, by rw [k]; simp⟩
      · by_cases h3 : r ≤ 65535
        · refine (put_3 l v r w hv hl (by omega) h3 (by omega)).mono ?_
          rintro e w' ⟨u, rfl, ho, hu⟩
          exact ⟨u, by rw [k]; rfl, ho, fun _ => hu, by rw [k]; simp⟩
        · refine (put_4 l v r w hv hl (by omega) (by omega)).mono ?_
          rintro e w' ⟨u, rfl, ho, hu⟩
          exact ⟨u, by rw [k]; rfl, ho, fun _ => hu, by rw [k]; simp⟩
end Go.Proofs.YtfbbieecdenlbaaGreatDoor
