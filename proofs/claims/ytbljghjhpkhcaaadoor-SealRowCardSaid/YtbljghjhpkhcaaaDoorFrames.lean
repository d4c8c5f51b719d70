/- A frame is found again; a frame with one byte changed is none: plain lists of bytes. -/
import Derived.Test.YtbljghjhpkhcaaaDoorFirstOf
namespace Go.Proofs.YtbljghjhpkhcaaaDoor

theorem ofB_low (v k : Nat) : ofB (lowB v k) = v % 2 ^ (8 * k) := by
  induction k with
  | zero => simp [lowB, ofB, Nat.mod_one]
  | succ k ih =>
    rw [lowB_succ, ofB_append, ih, lowB_length, UInt8.toNat_ofNat', show 8 * (k + 1) = 8 * k + 8 by omega, Nat.pow_add, Nat.mod_mul, Nat.mul_comm (2 ^ (8 * k))]

theorem frameB_length (l : List UInt8) : (frameB l).length = 8 + l.length := by rw [frameB, List.length_append, headB_length]
theorem flen_frame (l r : List UInt8) (h : l.length ≤ 1048576) : flen (frameB l ++ r) = l.length := by
  unfold flen frameB headB
  rw [List.append_assoc, List.append_assoc, List.take_append_of_le_length (by rw [lowB_length]; exact Nat.le_refl _), List.take_of_length_le (by rw [lowB_length]; exact Nat.le_refl _), ofB_low]
  omega
theorem body_frame (l r : List UInt8) : ((frameB l ++ r).drop 8).take l.length = l := by
  rw [frameB, List.append_assoc, List.drop_append_of_le_length (by rw [headB_length]; exact Nat.le_refl _), List.drop_of_length_le (by rw [headB_length]; exact Nat.le_refl _), List.nil_append, List.take_append_of_le_length (Nat.le_refl _), List.take_length]
theorem sumB_frame (l r : List UInt8) : ((frameB l ++ r).drop 4).take 4 = lowB (fsum l) 4 := by
  unfold frameB headB
  rw [List.append_assoc, List.append_assoc, List.drop_append_of_le_length (by rw [lowB_length]; exact Nat.le_refl _), List.drop_of_length_le (by rw [lowB_length]; exact Nat.le_refl _), List.nil_append, List.take_append_of_le_length (by rw [lowB_length]; exact Nat.le_refl _), List.take_of_length_le (by rw [lowB_length]; exact Nat.le_refl _)]
theorem sum_frame (l r : List UInt8) : ofB (((frameB l ++ r).drop 4).take 4) = fsum l := by
  have := fsum_lt l
  rw [sumB_frame, ofB_low]
  omega
theorem fstOk_frame (l r : List UInt8) (h : l.length ≤ 1048576) : fstOk (frameB l ++ r) := by
  refine ⟨?_, by rw [flen_frame l r h]; exact h, ?_, ?_⟩
  · rw [List.length_append, frameB_length]; omega
  · rw [flen_frame l r h, List.length_append, frameB_length]; omega
  · rw [flen_frame l r h, body_frame, sum_frame]
theorem fstB_frame (l r : List UInt8) (h : l.length ≤ 1048576) : fstB (frameB l ++ r) = l := by
  rw [fstB, if_pos (fstOk_frame l r h), flen_frame l r h, body_frame]
theorem fstN_frame (l r : List UInt8) (h : l.length ≤ 1048576) : fstN (frameB l ++ r) = 8 + l.length := by
  rw [fstN, if_pos (fstOk_frame l r h), flen_frame l r h]
theorem fstE_ok {l : List UInt8} (h : fstOk l) : fstE l = 0 := by
  rw [fstE, if_neg (by have := h.1; omega), if_neg (by have := h.2.1; omega), if_neg (by have := h.2.2.1; omega), if_pos h.2.2.2]
theorem fstE_frame (l r : List UInt8) (h : l.length ≤ 1048576) : fstE (frameB l ++ r) = 0 := fstE_ok (fstOk_frame l r h)

theorem set_ne_self {l : List UInt8} {i : Nat} {y z : UInt8} (hy : l[i]? = some y) (hz : z ≠ y) : l.set i z ≠ l := by
  intro e
  have h : (l.set i z)[i]? = l[i]? := by rw [e]
  rw [hy, List.getElem?_set_self (List.getElem?_eq_some_iff.1 hy).1] at h
  exact hz (Option.some.inj h)

theorem crc_set (pre l : List UInt8) {i : Nat} {y z : UInt8} (hy : l[i]? = some y) (hz : z ≠ y) : crc (pre ++ l.set i z) ≠ crc (pre ++ l) := by
  obtain ⟨hi, rfl⟩ := List.getElem?_eq_some_iff.1 hy
  have e1 : l = l.take i ++ l[i] :: l.drop (i + 1) := by rw [← List.drop_eq_getElem_cons hi, List.take_append_drop]
  have e2 : l.set i z = l.take i ++ z :: l.drop (i + 1) := by rw [List.set_eq_take_append_cons_drop, if_pos hi]
  rw [e2]
  conv => rhs; rw [e1]
  rw [← List.append_assoc, ← List.append_assoc]
  exact crc_byte _ _ _ _ hz

/-- One byte behind the length is another one: no frame. -/
theorem fstE_byte (l : List UInt8) (h : l.length ≤ 1048576) (i : Nat) (h4 : 4 ≤ i) (y z : UInt8) (hy : (frameB l)[i]? = some y) (hz : z ≠ y) : fstE ((frameB l).set i z) = 21 := by
  have hi : i < (frameB l).length := (List.getElem?_eq_some_iff.1 hy).1
  rw [frameB_length] at hi
  have hlen : ((frameB l).set i z).length = 8 + l.length := by rw [List.length_set, frameB_length]
  have hfl : flen ((frameB l).set i z) = l.length := by
    unfold flen
    rw [List.take_set_of_le h4]
    have := flen_frame l [] h
    rwa [List.append_nil] at this
  have hb := body_frame l []
  have hs := sumB_frame l []
  rw [List.append_nil] at hb hs
  have key : fsum ((((frameB l).set i z).drop 8).take l.length) ≠ ofB ((((frameB l).set i z).drop 4).take 4) := by
    by_cases h8 : i < 8
    · have e1 : (((frameB l).set i z).drop 8).take l.length = l := by rw [List.drop_set_of_lt h8, hb]
      have e2 : (((frameB l).set i z).drop 4).take 4 = (lowB (fsum l) 4).set (i - 4) z := by
        rw [List.drop_set, if_neg (by omega), List.take_set, hs]
      rw [e1, e2]
      intro e
      have hl4 : ((lowB (fsum l) 4).set (i - 4) z).length = 4 := by rw [List.length_set, lowB_length]
      have h5 := lowB_ofB ((lowB (fsum l) 4).set (i - 4) z)
      rw [hl4, ← e] at h5
      refine set_ne_self (i := i - 4) (y := y) (z := z) ?_ hz h5.symm
      rw [← hs, List.getElem?_take, if_pos (by omega), List.getElem?_drop, show 4 + (i - 4) = i by omega]
      exact hy
    · have e1 : (((frameB l).set i z).drop 8).take l.length = l.set (i - 8) z := by
        rw [List.drop_set, if_neg (by omega), List.take_set, hb]
      have e2 : (((frameB l).set i z).drop 4).take 4 = lowB (fsum l) 4 := by
        rw [List.drop_set, if_neg (by omega), List.take_set_of_le (by omega), hs]
      have hy' : l[i - 8]? = some y := by
        rw [← hb, List.getElem?_take, if_pos (by omega), List.getElem?_drop, show 8 + (i - 8) = i by omega]
        exact hy
      have hlt := fsum_lt l
      rw [e1, e2, ofB_low]
      have e3 : fsum l % 2 ^ (8 * 4) = fsum l := by omega
      rw [e3]
      unfold fsum
      rw [List.length_set]
      exact crc_set _ _ hy' hz
  rw [fstE, if_neg (by omega), hfl, if_neg (by omega), if_neg (by omega), if_neg key]
end Go.Proofs.YtbljghjhpkhcaaaDoor
