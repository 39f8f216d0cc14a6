/-
  bytes.IndexAny at the signs that end a link, in a short text.
-/
import Derived.Test.YtpohopmggpiomaaDoorIdxB
namespace Go.Proofs.YtpohopmggpiomaaDoor
open Go.RowKit

theorem call_ibs (x : UInt8) (w : World) : (callFunc 57 #[.string ⟨#[62, 32, 9, 13, 10]⟩, .int .u8 (x.toNat : Int)]).run Tryd.prog w = .ok (.value (.int .i64 (Lib.indexByte endC x))) w := by
  rw [run_callFunc_extern Tryd.func57 (by kernel_rfl) (by kernel_rfl) (by kernel_rfl) (e := Extern.BytealgIndexByte.indexByte) (by kernel_rfl), Lib.run_indexByteString]
  simp only [Result.andThen]
  have : ((x.toNat : Int)).toNat.toUInt8 = x := by simp
  rw [this]
  rfl
theorem call_ist (q : ByteArray) (m : Int) (w : World) (hm : w.cell? ⟨0, 0, none⟩ = some (.int .i64 m)) (h2 : 2 ≤ q.size) (hb : (q.size : Int) ≤ m) : (callFunc 75 #[.string ⟨#[62, 32, 9, 13, 10]⟩, .string q]).run Tryd.prog w = .ok (.value (.int .i64 (Lib.index endC q.data.toList))) w := by
  rw [run_callFunc_extern Tryd.func75 (by kernel_rfl) (by kernel_rfl) (by kernel_rfl) (e := Extern.BytealgIndex.index) (by kernel_rfl), Lib.run_indexString ⟨#[62, 32, 9, 13, 10]⟩ q w 0 m (by kernel_rfl) hm h2 hb (by decide)]
  rfl

theorem get_bang (l : List UInt8) (j : Nat) (hj : j < l.length) : (⟨l.toArray⟩ : ByteArray).get! j = l.getD j 0 := by
  show l.toArray[j]! = l.getD j 0
  simp [hj]

/-- A round over the signs. -/
theorem sign_next (k : Nat) (hk : k < 5) : (Utf8.decode ⟨#[62, 32, 9, 13, 10]⟩ k).1 < 128 ∧ (Utf8.decode ⟨#[62, 32, 9, 13, 10]⟩ k).2 = 1 := by
  have h : ∀ n : Fin 5, (Utf8.decode ⟨#[62, 32, 9, 13, 10]⟩ n.val).1 < 128 ∧ (Utf8.decode ⟨#[62, 32, 9, 13, 10]⟩ n.val).2 = 1 := by decide +kernel
  exact h ⟨k, hk⟩

set_option maxRecDepth 1000000 in
set_option maxHeartbeats 4000000 in
theorem idx_one (b o c : Nat) (x : UInt8) (w : World) (hc : w.cell? ⟨b, o, none⟩ = some (.int .u8 (x.toNat : Int))) :
    Calls Tryd.prog 58 #[.slice (some ⟨b, o, none⟩) 1 c, .string ⟨#[62, 32, 9, 13, 10]⟩] w fun e w' => e = .returned (.int .i64 (if endC.contains x then 0 else -1)) ∧ Only [] w w' := by
  have hx : (x.toNat : Int) ≤ 255 := by have := UInt8.toNat_lt x; omega
  by_cases h : (128 : Int) ≤ (x.toNat : Int)
  · rw [has_high x (by omega)]
    go_enter Tryd.func58, Tryd.ntmps58
    go_wp2_with fail
    go_loopw [5] (fun _ wr => ∃ k : Nat, k ≤ 5 ∧ wr.heap[w.heap.size]? = some (.stringIter ⟨#[62, 32, 9, 13, 10]⟩ k) ∧ Only [] w wr) (fun _ wr => 5 - wr.iterPos w.heap.size)
    case atStart => exact ⟨0, by omega, World.iter_heap _ _ _, (Only.refl [] w).alloc _⟩
    case round =>
      obtain ⟨k, hk, hit, ho⟩ := hrel
      by_cases hlt : k < 5
      · obtain ⟨w2, hnx, f1, f2, f3⟩ := next_at (P := Tryd.prog) wr w.heap.size ⟨#[62, 32, 9, 13, 10]⟩ k hit hlt
        have hs := sign_next k hlt
        have hne : (((Utf8.decode ⟨#[62, 32, 9, 13, 10]⟩ k).1 : Int) == 65533) = false := by
          rw [beq_eq_false_iff_ne]; omega
        have HIT := Lib.hid hit
        have HO := Lib.hid ho
        have F1 := Lib.hid f1
        have F2 := Lib.hid f2
        have HS := Lib.hid hs
        clear f1 f2 f3 hit ho hs
        generalize (Utf8.decode ⟨#[62, 32, 9, 13, 10]⟩ k).1 = r at *
        go_wp2_with fail
        go_roundw
        case rel => exact ⟨k + 1, by omega, by rw [F1.out, HS.out.2], HO.out.trans' F2.out (by simp)⟩
        case measure =>
          have e1 : w2.iterPos w.heap.size = k + 1 := iterPos_of (by rw [F1.out, HS.out.2])
          rw [e1, iterPos_of HIT.out]
          omega
      · have hnx := next_at_end (P := Tryd.prog) wr w.heap.size ⟨#[62, 32, 9, 13, 10]⟩ k hit hlt
        have HO := Lib.hid ho
        clear hit ho
        go_wp2_with fail
        go_ret
        exact ⟨rfl, HO.out⟩
  · have hcall := call_ibs x w
    have hi := has_index x
    cases hin : endC.contains x
    · rw [hin] at hi
      have hlt : ¬ (0 ≤ Lib.indexByte endC x) := of_decide_eq_false hi.symm
      clear hi hin
      go_enter Tryd.func58, Tryd.ntmps58
      go_wp2_with fail
      go_ret
      exact ⟨rfl, Only.refl _ _⟩
    · rw [hin] at hi
      have hlt : 0 ≤ Lib.indexByte endC x := of_decide_eq_true hi.symm
      clear hi hin
      go_enter Tryd.func58, Tryd.ntmps58
      go_wp2_with fail
      go_ret
      exact ⟨rfl, Only.refl _ _⟩

set_option maxRecDepth 1000000 in
set_option maxHeartbeats 8000000 in
theorem idx_short (b o c : Nat) (l : List UInt8) (w : World) (hE : Env w) (h2 : 2 ≤ l.length) (h8 : l.length ≤ 8) (hlc : l.length ≤ c) (hcell : ∀ j, j < l.length → w.cell? ⟨b, o + j, none⟩ = some (.int .u8 (bt l j))) :
    Calls Tryd.prog 58 #[.slice (some ⟨b, o, none⟩) l.length c, .string ⟨#[62, 32, 9, 13, 10]⟩] w fun e w' => e = .returned (.int .i64 (idxE l)) ∧ Only [] w w' := by
  have hn1 : ((l.length : Int) == 1) = false := beq_eq_false_iff_ne.2 (by omega)
  have h8z : decide ((8 : Int) < (l.length : Int)) = false := decide_eq_false (by omega)
  have hl8 : (l.length : Int) ≤ 8 := by omega
  have HCELL := Lib.hid hcell
  have HE := Lib.hid hE
  clear hcell hE
  go_enter Tryd.func58, Tryd.ntmps58
  go_wp2_with fail
  refine (use_any (l.length : Int) w).mono ?_
  rw [h8z]
  rintro e w1 ⟨rfl, rfl⟩
  go_wp2_with fail
  go_loopw [11, 12, 13, 15, 93] (fun _ i _ _ _ wr => ∃ k : Nat, k ≤ l.length ∧ i = .int .i64 k ∧ NoE l k ∧ Only [] w wr) (fun _ i _ _ _ _ => l.length - (intOf i).toNat)
  case atStart => exact ⟨0, by omega, rfl, rfl, Only.refl _ _⟩
  case round =>
    obtain ⟨k, hk, rfl, hno, ho⟩ := hrel
    have HN := Lib.hid hno
    have HO := Lib.hid ho
    clear hno ho
    by_cases hlt : k < l.length
    · have hc0 := HO.out.cell_some (HCELL.out k hlt) (by simp)
      rw [bt_u8] at hc0
      generalize hx : l.getD k 0 = x at hc0
      have HX := Lib.hid hx
      have hx255 : (x.toNat : Int) ≤ 255 := by have := UInt8.toNat_lt x; omega
      clear hx
      by_cases h128 : (x.toNat : Int) < 128
      · have hcall := call_ibs x wr
        have hi := has_index x
        cases hin : endC.contains x
        · rw [hin] at hi
          have hix : ¬ (0 ≤ Lib.indexByte endC x) := of_decide_eq_false hi.symm
          have HIN := Lib.hid hin
          clear hi hin
          go_wp2_with fail
          go_roundw
          case rel => exact ⟨k + 1, by omega, by go_num, HN.out.next hlt (by rw [HX.out]; exact HIN.out), HO.out⟩
          case measure => simp [intOf]; omega
        · rw [hin] at hi
          have hix : 0 ≤ Lib.indexByte endC x := of_decide_eq_true hi.symm
          have HIN := Lib.hid hin
          clear hi hin
          go_wp2_with fail
          go_ret
          exact ⟨ret_int (HN.out.hit hlt (by rw [HX.out]; exact HIN.out)).symm, HO.out⟩
      · have hck : (k : Int) < c := by omega
        have hne0 : l.drop k ≠ [] := by intro h; have := congrArg List.length h; simp at this; omega
        have h0 : (l.drop k).getD 0 0 = x := by rw [← HX.out]; simp [List.getD_eq_getElem?_getD]
        have hd := dec_high (l.drop k) hne0 (by rw [h0]; omega)
        have he := enc_high (l.drop k) (by rw [h0]; omega)
        have hN2 : NoE l (k + (Lib.decodeL (l.drop k)).2) := HN.out.skip _ (by have := hd.2.2.2.2.1; simp at this; omega) (fun j hj => by
          have := hd.2.2.2.2.2 j hj
          rwa [List.getD_eq_getElem?_getD, List.getElem?_drop, ← List.getD_eq_getElem?_getD] at this)
        have hlen : (Lib.decodeL (l.drop k)).2 ≤ l.length - k := by have := hd.2.2.2.2.1; simpa using this
        have hdg : Lib.decodeGo ⟨(l.drop k).toArray⟩ = Lib.decodeL (l.drop k) := by
          unfold Lib.decodeGo Lib.decodeL
          rw [if_neg]
          rw [sv_len]
          simp; omega
        have HN2 := Lib.hid hN2
        have HDG := Lib.hid hdg
        have hd' : 128 ≤ (Lib.decodeL (l.drop k)).1 ∧ (Lib.decodeL (l.drop k)).1 ≤ 1114111 ∧ 1 ≤ (Lib.decodeL (l.drop k)).2 ∧ (Lib.decodeL (l.drop k)).2 ≤ 4 := ⟨hd.1, hd.2.1, hd.2.2.1, hd.2.2.2.1⟩
        have HENC := Lib.hid he
        clear hd he hN2 hdg h0 hne0
        generalize hdd : Lib.decodeL (l.drop k) = d at *
        obtain ⟨d1, d2⟩ := d
        simp only at hd' hlen
        have HD := Lib.hid hd'
        have hd1 : (d1 : Int) ≤ 1114111 := by omega
        have hd2 : (d2 : Int) ≤ 4 := by omega
        clear hdd
        go_wp2_with fail
        have hT : Lib.Utf8Tabs 1 2 wr := (HE.out.keep0 HO.out).1
        have hdr := Any7.utf8_DecodeRune layD ⟨(l.drop k).toArray⟩ b (o + k) (c - k) wr hT (fun j hj => by
          rw [sv_len, List.length_drop] at hj
          have := HO.out.cell_some (HCELL.out (k + j) (by omega)) (by simp)
          rw [Nat.add_assoc, this, bt_u8]
          have e : (⟨(l.drop k).toArray⟩ : ByteArray).get! j = (l.drop k).getD j 0 := get_bang _ _ (by simp; omega)
          rw [e, List.getD_eq_getElem?_getD, List.getD_eq_getElem?_getD, List.getElem?_drop])
        rw [sv_len, List.length_drop, HDG.out] at hdr
        refine hdr.mono ?_
        clear hdr hT
        rintro e w3 ⟨rfl, hb3⟩
        have ho3 : Only [] wr w3 := Only.of_below hb3 (Nat.le_refl _)
        have HO3 := Lib.hid (HO.out.trans ho3)
        obtain ⟨m, hm⟩ := (HE.out.keep0 HO3.out).2
        clear ho3 hb3
        have hw5 : ((5 : Int) == (d2 : Int)) = false := by rw [beq_eq_false_iff_ne]; omega
        by_cases hrr : d1 = 65533
        · have hr1 : ((d1 : Int) != 65533) = false := by simp [hrr]
          have HRR := Lib.hid hrr
          clear hrr
          go_wp2_with fail
          go_loopw [15] (fun _ wq => ∃ k' : Nat, k' ≤ 5 ∧ wq.heap[w3.heap.size]? = some (.stringIter ⟨#[62, 32, 9, 13, 10]⟩ k') ∧ Only [] w wq) (fun _ wq => 5 - wq.iterPos w3.heap.size)
          case' atStart => exact ⟨0, by omega, World.iter_heap _ _ _, HO3.out.alloc _⟩
          case' round =>
            obtain ⟨k', hk', hit, ho'⟩ := hrel
            by_cases hlt' : k' < 5
            · obtain ⟨w5, hnx, f1, f2, f3⟩ := next_at (P := Tryd.prog) wr w3.heap.size ⟨#[62, 32, 9, 13, 10]⟩ k' hit hlt'
              have hs := sign_next k' hlt'
              have hne : ((d1 : Int) == ((Utf8.decode ⟨#[62, 32, 9, 13, 10]⟩ k').1 : Int)) = false := by
                rw [beq_eq_false_iff_ne]; have := HD.out; omega
              have HIT := Lib.hid hit
              have HO5 := Lib.hid ho'
              have F1 := Lib.hid f1
              have F2 := Lib.hid f2
              have HS := Lib.hid hs
              clear f1 f2 f3 hit ho' hs
              generalize (Utf8.decode ⟨#[62, 32, 9, 13, 10]⟩ k').1 = r at *
              go_wp2_with fail
              go_roundw
              case' rel => exact ⟨k' + 1, by omega, by rw [F1.out, HS.out.2], HO5.out.trans' F2.out (by intro i hi; simp only [List.mem_cons, List.not_mem_nil, or_false] at hi; right; have := HO3.out.size; omega)⟩
              case' measure =>
                have e1 : w5.iterPos w3.heap.size = k' + 1 := iterPos_of (by rw [F1.out, HS.out.2])
                rw [e1, iterPos_of HIT.out]
                omega
            · have hnx := next_at_end (P := Tryd.prog) wr w3.heap.size ⟨#[62, 32, 9, 13, 10]⟩ k' hit hlt'
              have HO5 := Lib.hid ho'
              clear hit ho'
              go_wp2_with fail
              go_roundw
              case' rel => exact ⟨k + d2, by omega, by go_num, HN2.out, HO5.out⟩
              case' measure => simp [intOf]; omega
        · have hr1 : ((d1 : Int) != 65533) = true := by simp; omega
          have hen := HENC.out hrr
          by_cases hmw : (d2 : Int) ≤ m
          · have hcall := call_ist (Utf8.encode (d1 : Int)) m w3 hm hen.2.1 (by rw [hen.1]; exact hmw)
            rw [hen.2.2] at hcall
            clear hen
            go_wp2_with fail
            go_roundw
            case' rel => exact ⟨k + d2, by omega, by go_num, HN2.out, HO3.out⟩
            case' measure => simp [intOf]; omega
          · clear hen
            go_wp2_with fail
            go_loopw [15] (fun _ wq => ∃ k' : Nat, k' ≤ 5 ∧ wq.heap[w3.heap.size]? = some (.stringIter ⟨#[62, 32, 9, 13, 10]⟩ k') ∧ Only [] w wq) (fun _ wq => 5 - wq.iterPos w3.heap.size)
            case' atStart => exact ⟨0, by omega, World.iter_heap _ _ _, HO3.out.alloc _⟩
            case' round =>
              obtain ⟨k', hk', hit, ho'⟩ := hrel
              by_cases hlt' : k' < 5
              · obtain ⟨w5, hnx, f1, f2, f3⟩ := next_at (P := Tryd.prog) wr w3.heap.size ⟨#[62, 32, 9, 13, 10]⟩ k' hit hlt'
                have hs := sign_next k' hlt'
                have hne : ((d1 : Int) == ((Utf8.decode ⟨#[62, 32, 9, 13, 10]⟩ k').1 : Int)) = false := by
                  rw [beq_eq_false_iff_ne]; have := HD.out; omega
                have HIT := Lib.hid hit
                have HO5 := Lib.hid ho'
                have F1 := Lib.hid f1
                have F2 := Lib.hid f2
                have HS := Lib.hid hs
                clear f1 f2 f3 hit ho' hs
                generalize (Utf8.decode ⟨#[62, 32, 9, 13, 10]⟩ k').1 = r at *
                go_wp2_with fail
                go_roundw
                case' rel => exact ⟨k' + 1, by omega, by rw [F1.out, HS.out.2], HO5.out.trans' F2.out (by intro i hi; simp only [List.mem_cons, List.not_mem_nil, or_false] at hi; right; have := HO3.out.size; omega)⟩
                case' measure =>
                  have e1 : w5.iterPos w3.heap.size = k' + 1 := iterPos_of (by rw [F1.out, HS.out.2])
                  rw [e1, iterPos_of HIT.out]
                  omega
              · have hnx := next_at_end (P := Tryd.prog) wr w3.heap.size ⟨#[62, 32, 9, 13, 10]⟩ k' hit hlt'
                have HO5 := Lib.hid ho'
                clear hit ho'
                go_wp2_with fail
                go_roundw
                case' rel => exact ⟨k + d2, by omega, by go_num, HN2.out, HO5.out⟩
                case' measure => simp [intOf]; omega
    · go_wp2_with fail
      go_ret
      exact ⟨ret_int (HN.out.none (by omega)).symm, HO.out⟩
end Go.Proofs.YtpohopmggpiomaaDoor
