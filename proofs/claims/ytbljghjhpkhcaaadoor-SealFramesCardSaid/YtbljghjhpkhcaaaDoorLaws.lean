/- The walks of SealFrames and SealFirst. -/
import Derived.Test.YtbljghjhpkhcaaaDoorFinds
namespace Go.Proofs.YtbljghjhpkhcaaaDoor
open Go.RowKit

set_option maxHeartbeats 400000 in
theorem sealFrames_long (A : Option Addr) (n c : Nat) (w : World) (hn : 2097152 < n) :
    Calls Tryd.prog 4 #[.slice A n c] w fun e w' => e = .returned (.bool true) ∧ Below w.heap.size w w' := by
  go_enter Tryd.func4, Tryd.ntmps4
  go_wp2_with fail
  go_ret
  exact ⟨rfl, Below.refl _ _⟩

set_option maxHeartbeats 1000000 in
theorem sealFrames_no (A : Option Addr) (n c : Nat) (l : List UInt8) (w : World) (h : Rd w A n c l) (hn : n ≤ 2097152) (hv : 1048576 < n) (ht : Tab w) :
    Calls Tryd.prog 4 #[.slice A n c] w fun e w' => e = .returned (.bool true) ∧ Below w.heap.size w w' := by
  have H := Lib.hid h
  have HT := Lib.hid ht
  clear h ht
  go_enter Tryd.func4, Tryd.ntmps4
  go_wp2_with fail
  refine (lend_any A n c l _ H.out (by omega)).mono ?_
  rintro e w1 ⟨rfl, hB, hb1⟩
  have HB := Lib.hid hB
  clear hB
  go_wp2_with fail
  refine (frame_no _ n (n + 2) w1 hv).mono ?_
  rintro e w2 ⟨rfl, rfl⟩
  go_wp2_with fail
  refine (back_any A w.heap.size n c l w1 (H.out.below hb1) (by omega) HB.out).mono ?_
  rintro e w3 ⟨rfl, ho3⟩
  have hb3 : Below w.heap.size w w3 := ho3.below hb1 (Nat.le_refl _)
  go_wp2_with fail
  refine (refFrame_no A n c w3 hv).mono ?_
  rintro e w4 ⟨rfl, rfl⟩
  go_wp2_with fail
  refine (frames_any w3 (HT.out.below hb3)).mono ?_
  rintro e w5 ⟨rfl, hb5⟩
  have q1 := run_str (Rd.nil w5)
  go_wp2_with fail
  go_ret
  exact ⟨rfl, hb3.trans (hb5.mono hb3.size)⟩

set_option maxHeartbeats 1000000 in
theorem sealFrames_yes (A : Option Addr) (n c : Nat) (l : List UInt8) (w : World) (h : Rd w A n c l) (hn : n ≤ 1048576) (ht : Tab w) :
    Calls Tryd.prog 4 #[.slice A n c] w fun e w' => e = .returned (.bool true) ∧ Below w.heap.size w w' := by
  have NE := Lib.hid (h.ne (Nat.le_refl w.heap.size))
  have H := Lib.hid h
  have HT := Lib.hid ht
  clear h ht
  go_enter Tryd.func4, Tryd.ntmps4
  go_wp2_with fail
  refine (lend_any A n c l _ H.out (by omega)).mono ?_
  rintro e w1 ⟨rfl, hB, hb1⟩
  have HB := Lib.hid hB
  clear hB
  go_wp2_with fail
  refine (frame_yes _ n (n + 2) l w1 (H.out.lent HB.out (by omega)) hn (HT.out.below hb1)).mono ?_
  rintro e w2 ⟨A2, c2, rfl, ho2, hb2⟩
  have hlt : w.heap.size < w1.heap.size := HB.out.lt
  have hb2' : Below w.heap.size w w2 := hb1.trans (hb2.mono hb1.size)
  have HB2 := Lib.hid (HB.out.below hb2 hlt)
  have R2 := Lib.hid ((H.out.below hb1).below hb2)
  have O2 := Lib.hid ho2
  clear ho2 HB
  go_wp2_with fail
  refine (back_any A w.heap.size n c l w2 R2.out (by omega) HB2.out).mono ?_
  rintro e w3 ⟨rfl, ho3⟩
  have hb3 : Below w.heap.size w w3 := ho3.below hb2' (Nat.le_refl _)
  have R3 := Lib.hid (R2.out.oth ho3 NE.out)
  have O3 := Lib.hid (O2.out.oth ho3 hlt)
  clear ho3 R2 O2 HB2
  go_wp2_with fail
  refine (refFrame_yes A n c l w3 R3.out hn).mono ?_
  rintro e w4 ⟨A4, c4, rfl, ho4, hb4⟩
  have hb4' : Below w.heap.size w w4 := hb3.trans (hb4.mono hb3.size)
  have O4 := Lib.hid ho4
  have O3' := Lib.hid (O3.out.kept hb4)
  clear ho4 O3
  go_wp2_with fail
  refine (frames_any w4 (HT.out.below hb4')).mono ?_
  rintro e w5 ⟨rfl, hb5⟩
  have q1 := run_str (O4.out.kept hb5).rd
  have q2 := run_str (O3'.out.kept hb5).rd
  go_wp2_with fail
  go_ret
  exact ⟨rfl, hb4'.trans (hb5.mono hb4'.size)⟩

set_option maxHeartbeats 400000 in
theorem sealFirst_long (A : Option Addr) (n c : Nat) (w : World) (hn : 2097152 < n) :
    Calls Tryd.prog 5 #[.slice A n c] w fun e w' => e = .returned (.bool true) ∧ Below w.heap.size w w' := by
  go_enter Tryd.func5, Tryd.ntmps5
  go_wp2_with fail
  go_ret
  exact ⟨rfl, Below.refl _ _⟩

set_option maxHeartbeats 1000000 in
theorem sealFirst_walk (A : Option Addr) (n c : Nat) (l : List UInt8) (w : World) (h : Rd w A n c l) (hn : n ≤ 2097152) (ht : Tab w) :
    Calls Tryd.prog 5 #[.slice A n c] w fun e w' => e = .returned (.bool true) ∧ Below w.heap.size w w' := by
  have NE := Lib.hid (h.ne (Nat.le_refl w.heap.size))
  have H := Lib.hid h
  have HT := Lib.hid ht
  clear h ht
  go_enter Tryd.func5, Tryd.ntmps5
  go_wp2_with fail
  refine (lend_any A n c l _ H.out (by omega)).mono ?_
  rintro e w1 ⟨rfl, hB, hb1⟩
  have HB := Lib.hid hB
  clear hB
  go_wp2_with fail
  refine (first_any _ n (n + 2) l w1 (H.out.lent HB.out (by omega)) (by omega) (HT.out.below hb1)).mono ?_
  rintro e w2 ⟨A2, k2, c2, rfl, hk2, ho2, hb2⟩
  have hlt : w.heap.size < w1.heap.size := HB.out.lt
  have hb2' : Below w.heap.size w w2 := hb1.trans (hb2.mono hb1.size)
  have HB2 := Lib.hid (HB.out.below hb2 hlt)
  have R2 := Lib.hid ((H.out.below hb1).below hb2)
  have O2 := Lib.hid ho2
  clear ho2 HB hk2
  go_wp2_with fail
  refine (back_any A w.heap.size n c l w2 R2.out (by omega) HB2.out).mono ?_
  rintro e w3 ⟨rfl, ho3⟩
  have hb3 : Below w.heap.size w w3 := ho3.below hb2' (Nat.le_refl _)
  have R3 := Lib.hid (R2.out.oth ho3 NE.out)
  have O3 := Lib.hid (O2.out.oth ho3 hlt)
  clear ho3 R2 O2 HB2
  go_wp2_with fail
  refine (rfirst_any A n c l w3 R3.out (by omega)).mono ?_
  rintro e w4 ⟨A4, k4, c4, rfl, hk4, ho4, hb4⟩
  have hb4' : Below w.heap.size w w4 := hb3.trans (hb4.mono hb3.size)
  have R4 := Lib.hid ho4
  have O3' := Lib.hid (O3.out.kept hb4)
  clear ho4 O3 hk4
  go_wp2_with fail
  refine (finds_any w4 (HT.out.below hb4')).mono ?_
  rintro e w5 ⟨rfl, hb5⟩
  have q1 := run_str (R4.out.below hb5)
  have q2 := run_str (O3'.out.kept hb5).rd
  go_wp2_with fail
  go_ret
  exact ⟨rfl, hb4'.trans (hb5.mono hb4'.size)⟩
end Go.Proofs.YtbljghjhpkhcaaaDoor
