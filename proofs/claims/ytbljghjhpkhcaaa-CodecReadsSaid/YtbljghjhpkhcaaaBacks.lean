/- What is laid is read as itself: plain lists of bytes, and the walks of reads, CodecNil, CodecIntBack, CodecNumberBack. -/
import Derived.Test.YtbljghjhpkhcaaaText
import Derived.Test.YtbljghjhpkhcaaaPuts
namespace Go.Proofs.Ytbljghjhpkhcaaa
open Go.RowKit

theorem ofB_low (v k : Nat) : ofB (lowB v k) = v % 2 ^ (8 * k) := by
  induction k with
  | zero => simp [lowB, ofB, Nat.mod_one]
  | succ k ih =>
    rw [lowB_succ, ofB_append, ih, lowB_length, UInt8.toNat_ofNat', show 8 * (k + 1) = 8 * k + 8 by omega, Nat.pow_add, Nat.mod_mul, Nat.mul_comm (2 ^ (8 * k))]

theorem take_low (v k : Nat) (r : List UInt8) : (lowB v k ++ r).take k = lowB v k := by
  rw [List.take_append_of_le_length (by rw [lowB_length]; exact Nat.le_refl _), List.take_of_length_le (by rw [lowB_length]; exact Nat.le_refl _)]
theorem drop_low (v k : Nat) (r : List UInt8) : (lowB v k ++ r).drop k = r := by
  rw [List.drop_append_of_le_length (by rw [lowB_length]; exact Nat.le_refl _), List.drop_of_length_le (by rw [lowB_length]; exact Nat.le_refl _), List.nil_append]

theorem intV_back (n : Int) (h0 : -9223372036854775808 ≤ n) (h1 : n ≤ 9223372036854775807) (r : List UInt8) : intV (lowB (u64 n).toNat 8 ++ r) = n := by
  have h2 := u64_lo n
  have h3 := u64_hi n
  rw [intV, if_pos (by rw [List.length_append, lowB_length]; omega), take_low, ofB_low, Nat.mod_eq_of_lt (by omega)]
  unfold u64 at *
  rw [IntKind.wrap_u64] at *
  unfold wrap64
  omega
theorem intE_back (v : Nat) (r : List UInt8) : intE (lowB v 8 ++ r) = 0 := by
  rw [intE, if_pos (by rw [List.length_append, lowB_length]; omega)]
theorem intRest_back (v : Nat) (r : List UInt8) : intRest (lowB v 8 ++ r) = r := by
  rw [intRest, if_pos (by rw [List.length_append, lowB_length]; omega), drop_low]

theorem four_low (v : Nat) (hv : v ≤ 1000000000) (r : List UInt8) : ofB ((lowB v 4 ++ r).take 4) = v := by
  rw [take_low, ofB_low, Nat.mod_eq_of_lt (by omega)]
theorem four_len (v : Nat) (r : List UInt8) : 4 ≤ (lowB v 4 ++ r).length := by rw [List.length_append, lowB_length]; omega
theorem numOk_back (v : Nat) (hv : v ≤ 1000000000) (r : List UInt8) : numOk (lowB v 4 ++ r) := ⟨four_len v r, by rw [four_low v hv]; exact hv⟩
theorem numV_back (v : Nat) (hv : v ≤ 1000000000) (r : List UInt8) : numV (lowB v 4 ++ r) = v := by
  rw [numV, if_pos (numOk_back v hv r), four_low v hv]
theorem numE_back (v : Nat) (hv : v ≤ 1000000000) (r : List UInt8) : numE (lowB v 4 ++ r) = 0 := by
  rw [numE, if_neg (by have := four_len v r; omega), four_low v hv, if_pos hv]
theorem numRest_back (v : Nat) (hv : v ≤ 1000000000) (r : List UInt8) : numRest (lowB v 4 ++ r) = r := by
  rw [numRest, if_pos (numOk_back v hv r), drop_low]

set_option maxHeartbeats 400000 in
theorem reads_any (w : World) : Calls Try.prog 31 #[] w fun e w' => e = .returned (.bool true) ∧ Below w.heap.size w w' := by
  have e1 : numV [2, 1, 0, 0, 1, 0, 0, 0, 97] = 258 := by decide +kernel
  have e2 : numE [2, 1, 0, 0, 1, 0, 0, 0, 97] = 0 := by decide +kernel
  have e3 : numRest [2, 1, 0, 0, 1, 0, 0, 0, 97] = [1, 0, 0, 0, 97] := by decide +kernel
  have e4 : txtB [1, 0, 0, 0, 97] = [97] := by decide +kernel
  have e5 : txtE [1, 0, 0, 0, 97] = 0 := by decide +kernel
  have e6 : txtRest [1, 0, 0, 0, 97] = [] := by decide +kernel
  have e7 : numV [] = 0 := by decide +kernel
  have e8 : numE [] = 10 := by decide +kernel
  have HE := Lib.hid (And.intro e1 (And.intro e2 (And.intro e3 (And.intro e4 (And.intro e5 (And.intro e6 (And.intro e7 e8)))))))
  clear e1 e2 e3 e4 e5 e6 e7 e8
  go_enter Try.func31, Try.ntmps31
  go_wp2_with fail
  refine (new_any _ 9 9 [2, 1, 0, 0, 1, 0, 0, 0, 97] _ (Rd.of_blk (l := [2, 1, 0, 0, 1, 0, 0, 0, 97]) (rest := []) (Blk.new w 5 _) (Nat.le_refl _) (by unfold maxLen; decide)) (by decide)).mono ?_
  rintro e w1 ⟨q, rfl, hq, hr, hb⟩
  have hb1 : Below w.heap.size w w1 := ((Below.refl _ _).alloc (Nat.le_refl _) _).trans (hb.mono (by simp))
  have hq1 : w.heap.size ≤ q := Nat.le_trans (by simp) hq
  have c1 := number_any q _ w1 hr
  rw [HE.out.1, HE.out.2.1, HE.out.2.2.1] at c1
  have C1 := Lib.hid c1
  clear c1 hr
  go_wp2_with fail
  refine C1.out.mono ?_
  rintro e w2 ⟨rfl, hr2, ho2⟩
  have hb2 : Below w.heap.size w w2 := ho2.below hb1 hq1
  have c2 := text_any q _ w2 hr2
  rw [HE.out.2.2.2.1, HE.out.2.2.2.2.1, HE.out.2.2.2.2.2.1] at c2
  have C2 := Lib.hid c2
  clear c2 hr2 ho2
  go_wp2_with fail
  refine C2.out.mono ?_
  rintro e w3 ⟨rfl, hr3, ho3⟩
  have hb3 : Below w.heap.size w w3 := ho3.below hb2 hq1
  have c3 := number_any q _ w3 hr3
  rw [HE.out.2.2.2.2.2.2.1, HE.out.2.2.2.2.2.2.2] at c3
  have C3 := Lib.hid c3
  clear c3 hr3 ho3
  go_wp2_with fail
  refine C3.out.mono ?_
  rintro e w4 ⟨rfl, hr4, ho4⟩
  have hb4 : Below w.heap.size w w4 := ho4.below hb3 hq1
  go_wp2_with fail
  go_ret
  exact ⟨rfl, hb4⟩

set_option maxHeartbeats 400000 in
theorem codecNil_walk (w : World) : Calls Try.prog 8 #[] w fun e w' => e = .returned (.bool true) ∧ Below w.heap.size w w' := by
  go_enter Try.func8, Try.ntmps8
  go_wp2_with fail
  refine (number_nil _).mono ?_
  rintro e w1 ⟨rfl, rfl⟩
  go_wp2_with fail
  refine (int_nil _).mono ?_
  rintro e w1 ⟨rfl, rfl⟩
  go_wp2_with fail
  refine (text_nil _).mono ?_
  rintro e w1 ⟨rfl, rfl⟩
  go_wp2_with fail
  refine (left_nil _).mono ?_
  rintro e w1 ⟨rfl, rfl⟩
  go_wp2_with fail
  refine (reads_any _).mono ?_
  rintro e w1 ⟨rfl, hb⟩
  go_wp2_with fail
  go_ret
  exact ⟨rfl, hb⟩
end Go.Proofs.Ytbljghjhpkhcaaa
