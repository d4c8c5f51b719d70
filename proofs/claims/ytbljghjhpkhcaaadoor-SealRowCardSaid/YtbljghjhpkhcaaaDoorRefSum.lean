/- Contract of the document's Sum, bit by bit. -/
import Derived.Test.YtbljghjhpkhcaaaDoorSum
namespace Go.Proofs.YtbljghjhpkhcaaaDoor
open Go.RowKit

theorem bit_odd (x : Nat) (hx : x < 4294967296) (h : x % 2 = 1) : bits .xor .u32 ((x : Int) / 2) 3988292384 = ((bitS x : Nat) : Int) := by
  have := u32_xor_nat (x / 2) 3988292384 (by omega) (by decide)
  rw [Int.natCast_ediv] at this
  unfold bitS
  rw [if_pos h]
  exact this
theorem bit_even (x : Nat) (h : x % 2 = 0) : (x : Int) / 2 = ((bitS x : Nat) : Int) := by
  unfold bitS
  rw [if_neg (by omega), Nat.xor_zero]
  omega

set_option maxHeartbeats 1000000 in
theorem refSum_any (A : Option Addr) (n c : Nat) (l : List UInt8) (w : World) (h : Rd w A n c l) :
    Calls Tryd.prog 14 #[.slice A n c] w fun e w' => e = .returned (.int .u32 (crc l : Nat)) ∧ w = w' := by
  have hcap := h.2.2.1
  unfold maxLen at hcap
  have hnc := h.2.1
  have H := Lib.hid h
  clear h
  go_enter Tryd.func14, Tryd.ntmps14
  go_wp2_with fail
  go_loop [3, 4, 5, 6] (fun r i _ _ => ∃ j : Nat, j ≤ n ∧ i = .int .i64 j ∧ r = .int .u32 (reg (l.take j) : Nat)) (fun _ i _ _ => n - (intOf i).toNat)
  case atStart => exact ⟨0, Nat.zero_le _, rfl, rfl⟩
  case round =>
    obtain ⟨j, hj, rfl, rfl⟩ := hrel
    by_cases hlt : j < n
    · obtain ⟨b, off, rfl, _, hc⟩ := H.out.2.2.2 (by omega)
      obtain ⟨y, hy⟩ : ∃ y, l[j]? = some y := ⟨_, List.getElem?_eq_getElem (by have := H.out.1; omega)⟩
      have c1 : w.cell? ⟨b, off + j, none⟩ = some (.int .u8 (y.toNat : Int)) := hc j y hy
      have hu : bitN 8 (reg (l.take j) ^^^ y.toNat) = reg (l.take (j + 1)) := by rw [List.take_add_one, hy, Option.toList_some, reg_snoc]; rfl
      have hR := reg_lt (l.take j)
      have e0 : (y.toNat : Int) % 4294967296 = (y.toNat : Int) := by have := y.toNat_lt; omega
      have e1 := u32_xor_nat (reg (l.take j)) y.toNat hR (by have := y.toNat_lt; omega)
      have hx : reg (l.take j) ^^^ y.toNat < 4294967296 := Nat.xor_lt_two_pow (n := 32) hR (by have := y.toNat_lt; omega)
      generalize reg (l.take j) ^^^ y.toNat = x at *
      obtain ⟨R', hR'⟩ : ∃ R', R' = reg (l.take (j + 1)) := ⟨_, rfl⟩
      rw [← hR'] at hu
      generalize reg (l.take j) = R at *
      have HU := Lib.hid hu
      have HX := Lib.hid hx
      have HR := Lib.hid hR'
      clear hy hc hu hR hx hR'
      go_wp2_with fail
      go_loop [3, 5, 6] (fun r k _ => ∃ m : Nat, m ≤ 8 ∧ k = .int .i64 m ∧ r = .int .u32 (bitN m x : Nat)) (fun _ k _ => 8 - (intOf k).toNat)
      case atStart => exact ⟨0, Nat.zero_le _, rfl, rfl⟩
      case round =>
        obtain ⟨m, hm, rfl, rfl⟩ := hrel
        by_cases hlt2 : m < 8
        · have hb : bitN m x < 4294967296 := bitN_lt m HX.out
          have hs : bitN (m + 1) x = bitS (bitN m x) := rfl
          obtain ⟨z', hz'⟩ : ∃ z', z' = bitN (m + 1) x := ⟨_, rfl⟩
          rw [← hz'] at hs
          generalize bitN m x = z at *
          have hz0 : (0 : Int) ≤ (z : Int) := by omega
          have HZ := Lib.hid hz'
          clear hz'
          by_cases ho : z % 2 = 1
          · have o1 := bit_odd z hb ho
            rw [← hs] at o1
            have o2 : (z : Int) % 2 = 1 := by omega
            have o3 : (z : Int) / 2 % 4294967296 = (z : Int) / 2 := by omega
            clear hs ho hb
            go_wp2_with fail
            go_round
            case rel => exact ⟨m + 1, by omega, by go_num, by rw [HZ.out]⟩
            case measure => simp [intOf]; omega
          · have o1 := bit_even z (by omega)
            rw [← hs] at o1
            have o2 : (z : Int) % 2 = 0 := by omega
            have o3 : (z' : Int) % 4294967296 = (z' : Int) := by rw [hs]; have := bitS_lt hb; omega
            clear hs ho hb
            go_wp2_with fail
            go_round
            case rel => exact ⟨m + 1, by omega, by go_num, by rw [HZ.out]⟩
            case measure => simp [intOf]; omega
        · obtain rfl : m = 8 := by omega
          rw [HU.out]
          go_wp2_with fail
          go_round
          case rel => exact ⟨j + 1, by omega, by go_num, by rw [HR.out]⟩
          case measure => simp [intOf]; omega
    · have hs : IntKind.u32.signed = false := rfl
      have hx : bits .xor .u32 IntKind.u32.max ((reg (l.take j) : Nat) : Int) = ((4294967295 ^^^ reg (l.take j) : Nat) : Int) := u32_xor_nat 4294967295 _ (by decide) (reg_lt _)
      have e : l.take j = l := List.take_of_length_le (by rw [H.out.1]; omega)
      rw [e] at hx
      rw [e]
      clear e
      have hx' : bits .xor .u32 IntKind.u32.max ((reg l : Nat) : Int) = ((crc l : Nat) : Int) := hx
      clear hx
      generalize reg l = R at *
      go_wp2_with fail
      go_ret
      exact ⟨rfl, rfl⟩
end Go.Proofs.YtbljghjhpkhcaaaDoor
