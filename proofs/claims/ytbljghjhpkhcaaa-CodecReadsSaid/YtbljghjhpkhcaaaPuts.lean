/- The statements' own examples of what is laid: lays, puts, writes. -/
import Derived.Test.YtbljghjhpkhcaaaPut
namespace Go.Proofs.Ytbljghjhpkhcaaa
open Go.RowKit

theorem Rd.nil (w : World) : Rd w none 0 0 [] := ⟨rfl, Nat.le_refl _, Nat.zero_le _, fun h => absurd h (by decide)⟩

set_option maxHeartbeats 400000 in
theorem lays_any (w : World) : Calls Try.prog 14 #[] w fun e w' => e = .returned (.bool true) ∧ Below w.heap.size w w' := by
  have HE : Hid (([] ++ lowB (u64 (-2)).toNat 8).toArray = #[254, 255, 255, 255, 255, 255, 255, 255]) := by unfold Hid; decide +kernel
  go_enter Try.func14, Try.ntmps14
  go_wp2_with fail
  refine (putInt_any none 0 0 [] (-2) _ (Rd.nil _) (by decide)).mono ?_
  rintro e w' ⟨A', c', rfl, ho, hb⟩
  have hs := run_str ho.rd
  rw [HE.out] at hs
  clear ho
  go_wp2_with fail
  go_ret
  exact ⟨rfl, hb⟩

set_option maxHeartbeats 400000 in
theorem puts_any (w : World) : Calls Try.prog 18 #[] w fun e w' => e = .returned (.bool true) ∧ Below w.heap.size w w' := by
  have HE : Hid (([] ++ lowB (258 : Int).toNat 4).toArray = #[2, 1, 0, 0]) := by unfold Hid; decide +kernel
  go_enter Try.func18, Try.ntmps18
  go_wp2_with fail
  refine (putNumber_yes none 0 0 [] 258 _ (Rd.nil _) (by decide) (by decide) (by decide)).mono ?_
  rintro e w1 ⟨A', c', rfl, ho, hb⟩
  have HO := Lib.hid ho
  clear ho
  go_wp2_with fail
  refine (putNumber_no _ _ _ 1000000001 _ (by decide)).mono ?_
  rintro e w2 ⟨rfl, rfl⟩
  have hs := run_str (HO.out.kept ((Below.refl _ _).alloc (Nat.le_refl _) (.cells #[.int .u8 255] 5))).rd
  rw [HE.out] at hs
  go_wp2_with fail
  go_ret
  exact ⟨rfl, hb.alloc hb.size _⟩

set_option maxHeartbeats 400000 in
theorem writes_any (w : World) : Calls Try.prog 21 #[] w fun e w' => e = .returned (.bool true) ∧ Below w.heap.size w w' := by
  have HE : Hid (([7] ++ (lowB 2 4 ++ [97, 98])).toArray = #[7, 2, 0, 0, 0, 97, 98]) := by unfold Hid; decide +kernel
  go_enter Try.func21, Try.ntmps21
  go_wp2_with fail
  refine (putText_yes _ 1 1 [7] ⟨#[97, 98]⟩ _ (Rd.one rfl) (by decide) (by decide)).mono ?_
  rintro e w1 ⟨A', c', rfl, ho, hb⟩
  have hs := run_str ho.rd
  clear ho
  have e2 : ((⟨#[97, 98]⟩ : ByteArray).size) = 2 := rfl
  rw [e2] at hs
  rw [HE.out] at hs
  go_wp2_with fail
  go_ret
  exact ⟨rfl, ((Below.refl _ _).alloc (Nat.le_refl _) _).trans (hb.mono (by simp))⟩
end Go.Proofs.Ytbljghjhpkhcaaa
