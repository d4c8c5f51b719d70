/- The walks of CodecIntBack, CodecNumberBack, CodecTextBack. -/
import Derived.Test.YtbljghjhpkhcaaaBacks
namespace Go.Proofs.Ytbljghjhpkhcaaa
open Go.RowKit

set_option maxHeartbeats 400000 in
theorem codecIntBack_long (A : Option Addr) (n c : Nat) (v : Int) (w : World) (hn : 262144 < n) :
    Calls Try.prog 6 #[.int .i64 v, .slice A n c] w fun e w' => e = .returned (.bool true) ∧ Below w.heap.size w w' := by
  go_enter Try.func6, Try.ntmps6
  go_wp2_with fail
  go_ret
  exact ⟨rfl, Below.refl _ _⟩

set_option maxHeartbeats 400000 in
theorem codecIntBack_walk (A : Option Addr) (n c : Nat) (l : List UInt8) (v : Int) (w : World) (h : Rd w A n c l) (hn : n ≤ 262144) (h0 : -9223372036854775808 ≤ v) (h1 : v ≤ 9223372036854775807) :
    Calls Try.prog 6 #[.int .i64 v, .slice A n c] w fun e w' => e = .returned (.bool true) ∧ Below w.heap.size w w' := by
  have e1 := intV_back v h0 h1 l
  have e2 := intE_back (u64 v).toNat l
  have e3 := intRest_back (u64 v).toNat l
  have HE := Lib.hid (And.intro e1 (And.intro e2 e3))
  have HL := Lib.hid h.1
  clear e1 e2 e3 h0 h1
  have H := Lib.hid h
  clear h
  go_enter Try.func6, Try.ntmps6
  go_wp2_with fail
  refine (putInt_any none 0 0 [] v w (Rd.nil w) (by decide)).mono ?_
  rintro e w1 ⟨A1, c1, rfl, ho1, hb1⟩
  have O1 := Lib.hid ho1
  clear ho1
  go_wp2_with (at_builtin; refine wpList_append_bytes rfl (.tmp 14) (.tmp 15) rfl w.heap.size _ 8 _ rfl O1.out (by rw [List.nil_append, lowB_length]) A n c l rfl (H.out.below hb1) (by omega) hb1.size w.heap.size w hb1 (Nat.le_refl _) ?_)
  intro A2 c2 w2 ho2 hb2
  have R2 := Lib.hid ho2.rd
  clear ho2
  go_wp2_with fail
  refine (new_any _ _ _ _ _ R2.out (by omega)).mono ?_
  rintro e w3 ⟨q, rfl, hq, hr, hb3⟩
  have hb3' : Below w.heap.size w w3 := hb2.trans (hb3.mono hb2.size)
  have hq1 : w.heap.size ≤ q := Nat.le_trans hb2.size hq
  have c1 := int_any q _ w3 hr
  rw [HE.out.1, HE.out.2.1, HE.out.2.2] at c1
  have C1 := Lib.hid c1
  clear c1 hr
  go_wp2_with fail
  refine C1.out.mono ?_
  rintro e w4 ⟨rfl, hr4, ho4⟩
  have hb4 : Below w.heap.size w w4 := ho4.below hb3' hq1
  have HR4 := Lib.hid hr4
  clear hr4 ho4
  go_wp2_with fail
  refine (lays_any _).mono ?_
  rintro e w5 ⟨rfl, hb5⟩
  have c2 := left_any q _ w5 (HR4.out.below hb5)
  rw [HL.out] at c2
  have C2 := Lib.hid c2
  clear c2
  go_wp2_with fail
  refine C2.out.mono ?_
  rintro e w6 ⟨rfl, rfl⟩
  go_wp2_with fail
  go_ret
  exact ⟨rfl, hb4.trans (hb5.mono hb4.size)⟩

set_option maxHeartbeats 400000 in
theorem codecNumberBack_long (A : Option Addr) (n c : Nat) (v : Int) (w : World) (hn : 262144 < n) :
    Calls Try.prog 9 #[.int .i64 v, .slice A n c] w fun e w' => e = .returned (.bool true) ∧ Below w.heap.size w w' := by
  go_enter Try.func9, Try.ntmps9
  go_wp2_with fail
  go_ret
  exact ⟨rfl, Below.refl _ _⟩

set_option maxHeartbeats 400000 in
theorem codecNumberBack_no (A : Option Addr) (n c : Nat) (v : Int) (w : World) (hn : n ≤ 262144) (hv : v < 0 ∨ 1000000000 < v) :
    Calls Try.prog 9 #[.int .i64 v, .slice A n c] w fun e w' => e = .returned (.bool true) ∧ Below w.heap.size w w' := by
  by_cases h0 : v < 0
  all_goals
    have h1 : v < 0 ∨ 1000000000 < v := hv
    have HV := Lib.hid h1
    clear h1
    try (have h2 : 1000000000 < v := by omega)
    clear hv
    go_enter Try.func9, Try.ntmps9
    go_wp2_with fail
    refine (putNumber_no none 0 0 v w HV.out).mono ?_
    rintro e w1 ⟨rfl, rfl⟩
    go_wp2_with fail
    refine (puts_any _).mono ?_
    rintro e w5 ⟨rfl, hb5⟩
    go_wp2_with fail
    refine (reads_any _).mono ?_
    rintro e w6 ⟨rfl, hb6⟩
    go_wp2_with fail
    go_ret
    exact ⟨rfl, hb5.trans (hb6.mono hb5.size)⟩

set_option maxHeartbeats 1000000 in
theorem codecNumberBack_yes (A : Option Addr) (n c : Nat) (l : List UInt8) (v : Nat) (w : World) (h : Rd w A n c l) (hn : n ≤ 262144) (hv : v ≤ 1000000000) :
    Calls Try.prog 9 #[.int .i64 v, .slice A n c] w fun e w' => e = .returned (.bool true) ∧ Below w.heap.size w w' := by
  have e1 := numV_back v hv l
  have e2 := numE_back v hv l
  have e3 := numRest_back v hv l
  have HE := Lib.hid (And.intro e1 (And.intro e2 e3))
  have HL := Lib.hid h.1
  clear e1 e2 e3
  have H := Lib.hid h
  clear h
  go_enter Try.func9, Try.ntmps9
  go_wp2_with fail
  refine (putNumber_yes none 0 0 [] v w (Rd.nil w) (by decide) (by omega) (by omega)).mono ?_
  rintro e w1 ⟨A1, c1, rfl, ho1, hb1⟩
  rw [Int.toNat_natCast] at ho1
  have O1 := Lib.hid ho1
  clear ho1
  go_wp2_with (at_builtin; refine wpList_append_bytes rfl (.tmp 32) (.tmp 33) rfl w.heap.size _ 4 _ rfl O1.out (by rw [List.nil_append, lowB_length]) A n c l rfl (H.out.below hb1) (by omega) hb1.size w.heap.size w hb1 (Nat.le_refl _) ?_)
  intro A2 c2 w2 ho2 hb2
  have R2 := Lib.hid ho2.rd
  clear ho2
  go_wp2_with fail
  refine (new_any _ _ _ _ _ R2.out (by omega)).mono ?_
  rintro e w3 ⟨q, rfl, hq, hr, hb3⟩
  have hb3' : Below w.heap.size w w3 := hb2.trans (hb3.mono hb2.size)
  have hq1 : w.heap.size ≤ q := Nat.le_trans hb2.size hq
  have c1 := number_any q _ w3 hr
  rw [HE.out.1, HE.out.2.1, HE.out.2.2] at c1
  have C1 := Lib.hid c1
  clear c1 hr
  go_wp2_with fail
  refine C1.out.mono ?_
  rintro e w4 ⟨rfl, hr4, ho4⟩
  have hb4 : Below w.heap.size w w4 := ho4.below hb3' hq1
  have HR4 := Lib.hid hr4
  clear hr4 ho4
  go_wp2_with fail
  refine (puts_any _).mono ?_
  rintro e w5 ⟨rfl, hb5⟩
  go_wp2_with fail
  refine (reads_any _).mono ?_
  rintro e w6 ⟨rfl, hb6⟩
  have c2 := left_any q _ w6 ((HR4.out.below hb5).below hb6)
  rw [HL.out] at c2
  have C2 := Lib.hid c2
  clear c2
  go_wp2_with fail
  refine C2.out.mono ?_
  rintro e w7 ⟨rfl, rfl⟩
  go_wp2_with fail
  go_ret
  exact ⟨rfl, (hb4.trans (hb5.mono hb4.size)).trans (hb6.mono (Nat.le_trans hb4.size hb5.size))⟩
end Go.Proofs.Ytbljghjhpkhcaaa
