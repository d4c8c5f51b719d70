/- The walk of CodecTextBack. -/
import Derived.Test.YtbljghjhpkhcaaaBacks
namespace Go.Proofs.Ytbljghjhpkhcaaa
open Go.RowKit

theorem cut_to {w : World} {A : Option Addr} {n c : Nat} {l : List UInt8} (h : Rd w A n c l) (m : Nat) (hm : m ≤ n) (kk : IntKind) (N : Int) (hN : N = m) :
    ∃ A', (∀ W, (Instr.slice 22 (.slice A n c) none (some (.int kk N)) none).run Try.prog W = .ok (.slice A' m c) W) ∧ Rd w A' m c (l.take m) := by
  obtain ⟨A', hA, hR, hb⟩ := h.cut 0 m (Nat.zero_le _) hm
  subst hN
  refine ⟨A', fun W => ?_, hR⟩
  rw [run_slice_h W 22 A n c und22 kk m (by omega) (by have := h.2.1; omega), run_size5]
  simp only [Result.andThen, sliced, Int.toNat_natCast, hA, Nat.sub_zero]

theorem txt_len (s : List UInt8) (hs : s.length ≤ 65536) (r : List UInt8) : ofB ((lowB s.length 4 ++ (s ++ r)).take 4) = s.length := by
  rw [take_low, ofB_low, Nat.mod_eq_of_lt (by omega)]
theorem txtOk_back (s : List UInt8) (hs : s.length ≤ 65536) (r : List UInt8) : txtOk (lowB s.length 4 ++ (s ++ r)) := by
  refine ⟨four_len _ _, by rw [txt_len s hs]; exact hs, ?_⟩
  rw [txt_len s hs, List.length_append, List.length_append, lowB_length]
  omega
theorem txtB_back (s : List UInt8) (hs : s.length ≤ 65536) (r : List UInt8) : txtB (lowB s.length 4 ++ (s ++ r)) = s := by
  rw [txtB, if_pos (txtOk_back s hs r), txt_len s hs, List.take_append, List.take_of_length_le (by rw [lowB_length]; omega), drop_low, lowB_length, show 4 + s.length - 4 = s.length by omega, List.take_append_of_le_length (Nat.le_refl _), List.take_length]
theorem txtE_back (s : List UInt8) (hs : s.length ≤ 65536) (r : List UInt8) : txtE (lowB s.length 4 ++ (s ++ r)) = 0 := by
  have h := txtOk_back s hs r
  rw [txtE, if_neg (by have := h.1; omega), if_neg (by have := h.2.1; omega), if_neg (by have := h.2.2; omega)]
theorem txtRest_back (s : List UInt8) (hs : s.length ≤ 65536) (r : List UInt8) : txtRest (lowB s.length 4 ++ (s ++ r)) = r := by
  rw [txtRest, if_pos (txtOk_back s hs r), txt_len s hs, ← List.drop_drop, drop_low, List.drop_append_of_le_length (Nat.le_refl _), List.drop_length, List.nil_append]
theorem txtE_short (s : List UInt8) (hs : s.length ≤ 65536) : txtE ((lowB s.length 4 ++ s).take (4 + s.length - 1)) = 10 := by
  have hl : ((lowB s.length 4 ++ s).take (4 + s.length - 1)).length = 4 + s.length - 1 := by
    rw [List.length_take, List.length_append, lowB_length]; omega
  by_cases h0 : s.length = 0
  · rw [txtE, if_pos (by omega)]
  · have h1 : ofB (((lowB s.length 4 ++ s).take (4 + s.length - 1)).take 4) = s.length := by
      rw [List.take_take, Nat.min_eq_left (by omega)]
      have := txt_len s hs []
      rwa [List.append_nil] at this
    rw [txtE, if_neg (by omega), h1, if_neg (by omega), if_pos (by omega)]

theorem toArrayT (s : ByteArray) : (⟨s.data.toList.toArray⟩ : ByteArray) = s := rfl

set_option maxHeartbeats 400000 in
theorem codecTextBack_long (A : Option Addr) (n c : Nat) (s : ByteArray) (w : World) (hn : 262144 < n ∨ 262144 < s.size) :
    Calls Try.prog 10 #[.string s, .slice A n c] w fun e w' => e = .returned (.bool true) ∧ Below w.heap.size w w' := by
  by_cases h0 : 262144 < n
  · go_enter Try.func10, Try.ntmps10
    go_wp2_with fail
    go_ret
    exact ⟨rfl, Below.refl _ _⟩
  · have h1 : 262144 < s.size := by omega
    go_enter Try.func10, Try.ntmps10
    go_wp2_with fail
    go_ret
    exact ⟨rfl, Below.refl _ _⟩

set_option maxHeartbeats 400000 in
theorem codecTextBack_no (A : Option Addr) (n c : Nat) (s : ByteArray) (w : World) (hn : n ≤ 262144) (hs : s.size ≤ 262144) (hv : 65536 < s.size) :
    Calls Try.prog 10 #[.string s, .slice A n c] w fun e w' => e = .returned (.bool true) ∧ Below w.heap.size w w' := by
  have hd : decide (65536 < (s.size : Int)) = true := by simp; omega
  go_enter Try.func10, Try.ntmps10
  go_wp2_with fail
  refine (putText_no none 0 0 s w hv).mono ?_
  rintro e w1 ⟨rfl, rfl⟩
  go_wp2_with fail
  refine (writes_any _).mono ?_
  rintro e w5 ⟨rfl, hb5⟩
  go_wp2_with fail
  refine (reads_any _).mono ?_
  rintro e w6 ⟨rfl, hb6⟩
  go_wp2_with fail
  go_ret
  exact ⟨rfl, hb5.trans (hb6.mono hb5.size)⟩

set_option maxHeartbeats 1000000 in
theorem codecTextBack_yes (A : Option Addr) (n c : Nat) (l : List UInt8) (s : ByteArray) (w : World) (h : Rd w A n c l) (hn : n ≤ 262144) (hs : s.size ≤ 65536) :
    Calls Try.prog 10 #[.string s, .slice A n c] w fun e w' => e = .returned (.bool true) ∧ Below w.heap.size w w' := by
  have hs' : s.data.toList.length ≤ 65536 := hs
  have e0 : s.data.toList.length = s.size := rfl
  have e1 := txtB_back s.data.toList hs' l
  have e2 := txtE_back s.data.toList hs' l
  have e3 := txtRest_back s.data.toList hs' l
  have e4 := txtE_short s.data.toList hs'
  rw [e0] at e1 e2 e3 e4
  have HE := Lib.hid (And.intro e1 (And.intro e2 (And.intro e3 e4)))
  clear e0 e1 e2 e3 e4 hs'
  have HL := Lib.hid h.1
  have H := Lib.hid h
  clear h
  go_enter Try.func10, Try.ntmps10
  go_wp2_with fail
  refine (putText_yes none 0 0 [] s w (Rd.nil w) (by decide) hs).mono ?_
  rintro e w1 ⟨A1, c1, rfl, ho1, hb1⟩
  have O1 : Hid (Own w1 w.heap.size (.slice A1 (4 + s.size) c1) (lowB s.size 4 ++ s.data.toList)) := by
    have h5 := ho1
    rw [List.nil_append, Nat.zero_add] at h5
    exact h5
  clear ho1
  obtain ⟨m, hm⟩ : ∃ m, m = 4 + s.size - 1 := ⟨_, rfl⟩
  obtain ⟨A1', hsl, hR1⟩ := cut_to O1.out.rd m (by omega) .i64 (4 + (s.size : Int) - 1) (by omega)
  have HM := Lib.hid hm
  have hm' : m ≤ 65540 := by omega
  have R1 := Lib.hid hR1
  clear hR1 hm
  have hlt1 : 1 ≤ 4 + (s.size : Int) := by omega
  go_wp2_with fail
  refine (new_own _ _ _ _ _ R1.out (by omega)).mono ?_
  rintro e w2 ⟨q1, rfl, hr1, hb2⟩
  have hb2' : Below w.heap.size w w2 := hb1.trans (hb2.mono hb1.size)
  have RS2 := Lib.hid hr1
  clear hr1 hsl R1
  have O2 := Lib.hid (O1.out.kept hb2)
  have HLT := Lib.hid (World.ownsRow.lt O1.out)
  have R2 := Lib.hid ((H.out.below hb1).below hb2)
  clear O1
  go_wp2_with (at_builtin; refine wpList_append_bytes_g rfl (.tmp 48) (.tmp 49) rfl w.heap.size _ (4 + s.size) _ rfl O2.out (by rw [List.length_append, lowB_length]; rfl) A n c l rfl R2.out (by omega) hb2'.size w.heap.size w hb2' (Nat.le_refl _) ?_)
  intro A3 c3 w3 ho3 hb3 hg3
  have RS3 : Hid (RdrB w3 w1.heap.size q1 ((lowB s.size 4 ++ s.data.toList).take m)) := RS2.out.grown hg3 fun k hk => (HLT.out k hk).2
  have R3 := Lib.hid ho3.rd
  clear ho3 hg3 RS2 O2 R2 HLT
  go_wp2_with fail
  refine (new_own _ _ _ _ _ R3.out (by omega)).mono ?_
  rintro e w4 ⟨q2, rfl, hr4, hb4⟩
  have hq2' : w.heap.size ≤ q2 := Nat.le_trans hb3.size hr4.1
  have hq1' : w.heap.size ≤ q1 := Nat.le_trans hb1.size RS3.out.1
  have hq1 : q1 < w3.heap.size := RS3.out.rdr.lt
  have hb4' : Below w.heap.size w w4 := hb3.trans (hb4.mono hb3.size)
  have ct := text_anyB _ q2 _ w4 hr4
  rw [HE.out.1, HE.out.2.1, HE.out.2.2.1, toArrayT] at ct
  have hq2 : w3.heap.size ≤ q2 := hr4.1
  have C2 := Lib.hid ct
  clear ct hr4
  go_wp2_with fail
  refine C2.out.mono ?_
  rintro e w5 ⟨rfl, hr5, ho5⟩
  have hb5 : Below w.heap.size w w5 := ho5.below hb4' hq2'
  have RS5 := Lib.hid (RS3.out.rdr.below (ho5.below hb4 hq2))
  have R5 := Lib.hid hr5
  have cs := text_any q1 _ w5 RS5.out
  rw [HM.out, HE.out.2.2.2, ← HM.out] at cs
  have C3 := Lib.hid cs
  clear cs hr5 ho5 RS3 C2
  go_wp2_with fail
  refine C3.out.mono ?_
  rintro e w6 ⟨rfl, hr6, ho6⟩
  have hb6 : Below w.heap.size w w6 := ho6.below hb5 hq1'
  have R6 := Lib.hid (R5.out.oth ho6 hq1)
  clear hr6 ho6 R5 C3 RS5
  go_wp2_with fail
  refine (writes_any _).mono ?_
  rintro e w7 ⟨rfl, hb7⟩
  go_wp2_with fail
  refine (reads_any _).mono ?_
  rintro e w8 ⟨rfl, hb8⟩
  have c2 := left_any q2 _ w8 ((R6.out.below hb7).below hb8).rdr
  rw [HL.out] at c2
  have C4 := Lib.hid c2
  clear c2
  go_wp2_with fail
  refine C4.out.mono ?_
  rintro e w9 ⟨rfl, rfl⟩
  go_wp2_with fail
  go_ret
  exact ⟨rfl, (hb6.trans (hb7.mono hb6.size)).trans (hb8.mono (Nat.le_trans hb6.size hb7.size))⟩
end Go.Proofs.Ytbljghjhpkhcaaa
