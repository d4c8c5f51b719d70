/- Contract of folkmootref01.Low. -/
import Derived.Test.YtbljghjhpkhcaaaDoorLaid
namespace Go.Proofs.YtbljghjhpkhcaaaDoor
open Go.RowKit

theorem quo_step (v : Int) (hv : 0 ≤ v) (hv2 : v < 18446744073709551616) (j : Nat) : IntKind.u64.wrap ((v / 2 ^ (8 * j)).tdiv 256) = v / 2 ^ (8 * (j + 1)) := by
  have hp : (0 : Int) < 2 ^ (8 * j) := Int.pow_pos (by decide)
  have h1 : 0 ≤ v / 2 ^ (8 * j) := Int.ediv_nonneg hv (Int.le_of_lt hp)
  have h2 : v / 2 ^ (8 * j) ≤ v := Int.ediv_le_self _ hv
  rw [Int.tdiv_eq_ediv_of_nonneg h1, Int.ediv_ediv_of_nonneg (Int.le_of_lt hp), show (8 * (j + 1)) = 8 * j + 8 by omega, Int.pow_add]
  have h3 : 0 ≤ v / (2 ^ (8 * j) * 256) := Int.ediv_nonneg hv (by omega)
  have h4 : v / (2 ^ (8 * j) * 256) ≤ v := Int.ediv_le_self _ hv
  show IntKind.u64.wrap (v / (2 ^ (8 * j) * 256)) = v / (2 ^ (8 * j) * 256)
  generalize v / (2 ^ (8 * j) * 256) = q at *
  rw [IntKind.wrap_u64]
  omega

set_option maxHeartbeats 400000 in
theorem low_any (v : Int) (k : Nat) (w : World) (hk : k ≤ 8) (hv : 0 ≤ v) (hv2 : v < 18446744073709551616) :
    Calls Tryd.prog 25 #[.int .u64 v, .int .i64 k] w fun e w' => ∃ A c, e = .returned (.slice A k c) ∧ Own w' w.heap.size (.slice A k c) (lowB v.toNat k) ∧ Below w.heap.size w w' := by
  have HV := Lib.hid hv2
  clear hv2
  go_enter Tryd.func25, Tryd.ntmps25
  go_wp2_with fail
  go_loopw [0, 5, 6] (fun x o i wr => ∃ j : Nat, j ≤ k ∧ i = .int .i64 j ∧ x = .int .u64 (v / 2 ^ (8 * j)) ∧ Below w.heap.size w wr ∧ ∃ A c, o = .slice A j c ∧ Hid (Own wr w.heap.size (.slice A j c) (lowB v.toNat j))) (fun _ _ i _ => k - (intOf i).toNat)
  case atStart => exact ⟨0, Nat.zero_le _, rfl, by simp, Below.refl _ _, none, 0, rfl, Own.nil _ _⟩
  case round =>
    obtain ⟨j, hj, rfl, rfl, hbr, A, c, rfl, ho⟩ := hrel
    by_cases hlt : j < k
    · have hq : 0 ≤ v / 2 ^ (8 * j) := Int.ediv_nonneg hv (by exact Int.le_of_lt (Int.pow_pos (by decide)))
      go_wp2_with (at_builtin; refine wpList_append_bytes rfl (.tmp 12) (.tmp 16) rfl w.heap.size _ j (lowB v.toNat j) rfl (ho.out.kept ((Below.refl _ _).alloc (Nat.le_refl _) _)) (lowB_length _ _) _ 1 1 [UInt8.ofNat (v.toNat / 2 ^ (8 * j))] rfl (Rd.one (cel_shift v hv j)) (by omega) (Nat.le_trans hbr.size (by simp)) w.heap.size w (hbr.alloc hbr.size _) (Nat.le_refl _) ?_)
      intro A' c' w' ho' hb'
      go_wp2_with fail
      go_roundw
      case rel => exact ⟨j + 1, by omega, by go_num, by rw [quo_step v hv HV.out], hb', A', c', rfl, by rw [lowB_succ]; exact ho'⟩
      case measure => simp [intOf]; omega
    · go_wp2_with fail
      go_ret
      obtain rfl : j = k := by omega
      exact ⟨A, c, rfl, ho.out, hbr⟩
end Go.Proofs.YtbljghjhpkhcaaaDoor
