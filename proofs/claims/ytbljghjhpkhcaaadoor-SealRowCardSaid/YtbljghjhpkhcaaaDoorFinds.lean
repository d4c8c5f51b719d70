/- The examples frames and finds; the walks of SealFrames and SealFirst. -/
import Derived.Test.YtbljghjhpkhcaaaDoorRefFirst
import Derived.Test.YtbljghjhpkhcaaaDoorSums
namespace Go.Proofs.YtbljghjhpkhcaaaDoor
open Go.RowKit

set_option maxHeartbeats 400000 in
theorem frames_any (w : World) (ht : Tab w) : Calls Tryd.prog 17 #[] w fun e w' => e = .returned (.bool true) ∧ Below w.heap.size w w' := by
  have HE : Hid ((frameB []).toArray = #[0, 0, 0, 0, 28, 223, 68, 33]) := by unfold Hid; decide +kernel
  have HT := Lib.hid ht
  clear ht
  go_enter Tryd.func17, Tryd.ntmps17
  go_wp2_with fail
  refine (frame_yes none 0 0 [] _ (Rd.nil _) (by decide) HT.out).mono ?_
  rintro e w' ⟨A', c', rfl, ho, hb⟩
  have hs := run_str ho.rd
  rw [HE.out] at hs
  clear ho
  go_wp2_with fail
  go_ret
  exact ⟨rfl, hb⟩

set_option maxHeartbeats 1000000 in
theorem finds_any (w : World) (ht : Tab w) : Calls Tryd.prog 20 #[] w fun e w' => e = .returned (.bool true) ∧ Below w.heap.size w w' := by
  have a1 : ((fstN [0, 0, 0, 0, 28, 223, 68, 33, 255] : Nat) : Int) = 8 := by decide +kernel
  have a2 : fstE [0, 0, 0, 0, 28, 223, 68, 33, 255] = 0 := by decide +kernel
  have a3 : (fstB [0, 0, 0, 0, 28, 223, 68, 33, 255]).length = 0 := by decide +kernel
  have a4 : fstE [1, 0, 0, 0, 0, 0, 0, 0] = 20 := by decide +kernel
  have a5 : fstE [255, 255, 255, 255, 255, 255, 255, 255] = 21 := by decide +kernel
  have HE := Lib.hid (And.intro a1 (And.intro a2 (And.intro a3 (And.intro a4 a5))))
  clear a1 a2 a3 a4 a5
  have HT := Lib.hid ht
  clear ht
  go_enter Tryd.func20, Tryd.ntmps20
  go_wp2_with fail
  have b1 := (Below.refl w.heap.size w).alloc (Nat.le_refl _) (.cells #[.int .u8 0, .int .u8 0, .int .u8 0, .int .u8 0, .int .u8 28, .int .u8 223, .int .u8 68, .int .u8 33, .int .u8 255] 5)
  have f1 := first_any (some ⟨w.heap.size, 0, none⟩) 9 9 [0, 0, 0, 0, 28, 223, 68, 33, 255] _ (Rd.lits (w := w) (cs := #[.int .u8 0, .int .u8 0, .int .u8 0, .int .u8 0, .int .u8 28, .int .u8 223, .int .u8 68, .int .u8 33, .int .u8 255]) rfl rfl (by decide)) (by decide) (HT.out.below b1)
  rw [HE.out.1, HE.out.2.1, HE.out.2.2.1] at f1
  refine f1.mono ?_
  rintro e w1 ⟨A1, k1, c1, rfl, rfl, _, hb1⟩
  have hb1' : Below w.heap.size w w1 := b1.trans (hb1.mono b1.size)
  clear f1 b1 hb1
  go_wp2_with fail
  have b2 := hb1'.alloc hb1'.size (.cells #[.int .u8 1, .int .u8 0, .int .u8 0, .int .u8 0, .int .u8 0, .int .u8 0, .int .u8 0, .int .u8 0] 5)
  have f2 := first_any (some ⟨w1.heap.size, 0, none⟩) 8 8 [1, 0, 0, 0, 0, 0, 0, 0] _ (Rd.lits (w := w1) (cs := #[.int .u8 1, .int .u8 0, .int .u8 0, .int .u8 0, .int .u8 0, .int .u8 0, .int .u8 0, .int .u8 0]) rfl rfl (by decide)) (by decide) (HT.out.below b2)
  rw [HE.out.2.2.2.1] at f2
  refine f2.mono ?_
  rintro e w2 ⟨A2, k2, c2, rfl, _, _, hb2⟩
  have hb2' : Below w.heap.size w w2 := b2.trans (hb2.mono b2.size)
  clear f2 b2 hb2
  go_wp2_with fail
  have b3 := hb2'.alloc hb2'.size (.cells #[.int .u8 255, .int .u8 255, .int .u8 255, .int .u8 255, .int .u8 255, .int .u8 255, .int .u8 255, .int .u8 255] 5)
  have f3 := first_any (some ⟨w2.heap.size, 0, none⟩) 8 8 [255, 255, 255, 255, 255, 255, 255, 255] _ (Rd.lits (w := w2) (cs := #[.int .u8 255, .int .u8 255, .int .u8 255, .int .u8 255, .int .u8 255, .int .u8 255, .int .u8 255, .int .u8 255]) rfl rfl (by decide)) (by decide) (HT.out.below b3)
  rw [HE.out.2.2.2.2] at f3
  refine f3.mono ?_
  rintro e w3 ⟨A3, k3, c3, rfl, _, _, hb3⟩
  have hb3' : Below w.heap.size w w3 := b3.trans (hb3.mono b3.size)
  clear f3 b3 hb3
  go_wp2_with fail
  go_ret
  exact ⟨rfl, hb3'⟩
end Go.Proofs.YtbljghjhpkhcaaaDoor
