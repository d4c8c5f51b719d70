/- The walk of SealBack. -/
import Derived.Test.YtbljghjhpkhcaaaDoorFinds
import Derived.Test.YtbljghjhpkhcaaaDoorFrames
namespace Go.Proofs.YtbljghjhpkhcaaaDoor
open Go.RowKit

set_option maxHeartbeats 400000 in
theorem sealBack_long (A1 A2 : Option Addr) (n1 c1 n2 c2 : Nat) (w : World) (hn : 2097152 < n1 ∨ 2097152 < n2) :
    Calls Tryd.prog 6 #[.slice A1 n1 c1, .slice A2 n2 c2] w fun e w' => e = .returned (.bool true) ∧ Below w.heap.size w w' := by
  by_cases h0 : 2097152 < n1
  · go_enter Tryd.func6, Tryd.ntmps6
    go_wp2_with fail
    go_ret
    exact ⟨rfl, Below.refl _ _⟩
  · have h1 : 2097152 < n2 := by omega
    go_enter Tryd.func6, Tryd.ntmps6
    go_wp2_with fail
    go_ret
    exact ⟨rfl, Below.refl _ _⟩

set_option maxHeartbeats 400000 in
theorem sealBack_no (A1 A2 : Option Addr) (n1 c1 n2 c2 : Nat) (w : World) (hn1 : n1 ≤ 2097152) (hn2 : n2 ≤ 2097152) (hv : 1048576 < n1) (ht : Tab w) :
    Calls Tryd.prog 6 #[.slice A1 n1 c1, .slice A2 n2 c2] w fun e w' => e = .returned (.bool true) ∧ Below w.heap.size w w' := by
  have hd : decide (1048576 < (n1 : Int)) = true := by simp; omega
  have HT := Lib.hid ht
  clear ht
  go_enter Tryd.func6, Tryd.ntmps6
  go_wp2_with fail
  refine (frame_no A1 n1 c1 w hv).mono ?_
  rintro e w1 ⟨rfl, rfl⟩
  go_wp2_with fail
  refine (frames_any _ HT.out).mono ?_
  rintro e w5 ⟨rfl, hb5⟩
  go_wp2_with fail
  refine (finds_any _ (HT.out.below hb5)).mono ?_
  rintro e w6 ⟨rfl, hb6⟩
  go_wp2_with fail
  go_ret
  exact ⟨rfl, hb5.trans (hb6.mono hb5.size)⟩

set_option maxRecDepth 100000 in
set_option maxHeartbeats 1000000 in
theorem sealBack_yes (A1 A2 : Option Addr) (n1 c1 n2 c2 : Nat) (l r : List UInt8) (w : World) (h : Rd w A1 n1 c1 l) (h2 : Rd w A2 n2 c2 r) (hn1 : n1 ≤ 1048576) (hn2 : n2 ≤ 2097152) (ht : Tab w) :
    Calls Tryd.prog 6 #[.slice A1 n1 c1, .slice A2 n2 c2] w fun e w' => e = .returned (.bool true) ∧ Below w.heap.size w w' := by
  have hlen : l.length = n1 := h.1
  have e1 := fstB_frame l r (by omega)
  have e2 := fstN_frame l r (by omega)
  have e3 := fstE_frame l r (by omega)
  rw [hlen] at e2
  have HE := Lib.hid (And.intro e1 (And.intro e2 e3))
  have HF : Hid ((frameB l).length = 8 + n1) := Lib.hid (by rw [frameB_length, hlen])
  clear e1 e2 e3 hlen
  have HT := Lib.hid ht
  have H := Lib.hid h
  have H2 := Lib.hid h2
  clear h h2 ht
  go_enter Tryd.func6, Tryd.ntmps6
  go_wp2_with fail
  refine (frame_yes A1 n1 c1 l w H.out hn1 HT.out).mono ?_
  rintro e w1 ⟨A3, c3, rfl, ho1, hb1⟩
  have O1 := Lib.hid ho1
  clear ho1
  go_wp2_with (at_builtin; refine wpList_append_bytes rfl (.tmp 37) (.tmp 38) rfl w.heap.size _ (8 + n1) _ rfl O1.out HF.out A2 n2 c2 r rfl (H2.out.below hb1) (by omega) hb1.size w.heap.size w hb1 (Nat.le_refl _) ?_)
  intro A4 c4 w2 ho2 hb2
  have O2 := Lib.hid ho2
  have H3 := Lib.hid (H.out.below hb2)
  have ct := first_any A4 _ c4 _ w2 O2.out.rd (by omega) (HT.out.below hb2)
  rw [HE.out.1, HE.out.2.1, HE.out.2.2] at ct
  have C := Lib.hid ct
  clear ho2 O1 ct
  go_wp2_with fail
  refine C.out.mono ?_
  rintro e w3 ⟨A5, k5, c5, rfl, rfl, ho3, hb3⟩
  have O3 := Lib.hid ho3
  have hb3' : Below w.heap.size w w3 := hb2.trans (hb3.mono hb2.size)
  clear ho3 C
  go_wp2_with fail
  refine (frames_any _ (HT.out.below hb3')).mono ?_
  rintro e w5 ⟨rfl, hb5⟩
  have hb5' : Below w.heap.size w w5 := hb3'.trans (hb5.mono hb3'.size)
  go_wp2_with fail
  refine (finds_any _ (HT.out.below hb5')).mono ?_
  rintro e w6 ⟨rfl, hb6⟩
  have hb6' : Below w.heap.size w w6 := hb5'.trans (hb6.mono hb5'.size)
  have q1 := run_str ((O3.out.kept hb5).kept hb6).rd
  have q2 := run_str (H.out.below hb6')
  go_wp2_with fail
  go_ret
  exact ⟨rfl, hb6'⟩
end Go.Proofs.YtbljghjhpkhcaaaDoor
