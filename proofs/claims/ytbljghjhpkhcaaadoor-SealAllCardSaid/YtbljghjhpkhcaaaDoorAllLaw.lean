/- The walk of SealAll. -/
import Derived.Test.YtbljghjhpkhcaaaDoorAll
import Derived.Test.YtbljghjhpkhcaaaDoorLend
import Derived.Test.YtbljghjhpkhcaaaDoorBack
namespace Go.Proofs.YtbljghjhpkhcaaaDoor
open Go.RowKit

set_option maxHeartbeats 400000 in
theorem sealAll_long (A : Option Addr) (n c : Nat) (w : World) (hn : 2097152 < n) :
    Calls Tryd.prog 8 #[.slice A n c] w fun e w' => e = .returned (.bool true) ∧ Below w.heap.size w w' := by
  go_enter Tryd.func8, Tryd.ntmps8
  go_wp2_with fail
  go_ret
  exact ⟨rfl, Below.refl _ _⟩

/-- The rows stay as they are where an elder block turns. -/
theorem Own2.oth {w w' : World} {g B : Nat} {v : Value} {ls : List (List UInt8)} (h : Own2 w B (fun k => B ≤ k) v ls) (ho : Oth g w w') (hg : g < B) : Own2 w' B (fun k => B ≤ k) v ls := by
  obtain ⟨vs, hr, hv⟩ := h
  refine ⟨vs, ⟨hr.1, ?_⟩, hv.1, fun i v l h1 h2 => ?_⟩
  · rcases hr.2 with hn | ⟨g', cap, cur, rfl, hB, hh, rest⟩
    · exact .inl hn
    · exact .inr ⟨g', cap, cur, rfl, hB, (ho.block g' (by omega)).trans hh, rest⟩
  · obtain ⟨A, n, c, e, h3, h4⟩ := hv.2 i v l h1 h2
    exact ⟨A, n, c, e, h3.oth ho fun ad hn hA => by have := (h4 ad hn hA).2; omega, h4⟩

set_option maxHeartbeats 1000000 in
theorem sealAll_walk (A : Option Addr) (n c : Nat) (l : List UInt8) (w : World) (h : Rd w A n c l) (hn : n ≤ 2097152) (ht : Tab w) :
    Calls Tryd.prog 8 #[.slice A n c] w fun e w' => e = .returned (.bool true) ∧ Below w.heap.size w w' := by
  have NE := Lib.hid (h.ne (Nat.le_refl w.heap.size))
  have H := Lib.hid h
  have HT := Lib.hid ht
  clear h ht
  go_enter Tryd.func8, Tryd.ntmps8
  go_wp2_with fail
  refine (lend_any A n c l _ H.out (by omega)).mono ?_
  rintro e w1 ⟨rfl, hB, hb1⟩
  have HB := Lib.hid hB
  clear hB
  go_wp2_with fail
  refine (all_any _ n (n + 2) l w1 (H.out.lent HB.out (by omega)) (by omega) (HT.out.below hb1)).mono ?_
  rintro e w2 ⟨A2, k2, c2, m2, E2, ls2, rfl, hk2, hE2, ho2, hb2⟩
  have hlt : w.heap.size < w1.heap.size := HB.out.lt
  have hb2' : Below w.heap.size w w2 := hb1.trans (hb2.mono hb1.size)
  have HB2 := Lib.hid (HB.out.below hb2 hlt)
  have R2 := Lib.hid ((H.out.below hb1).below hb2)
  have O2 := Lib.hid ho2
  have HK2 := Lib.hid hk2
  have HE2 := Lib.hid hE2
  clear ho2 HB hk2 hE2
  go_wp2_with fail
  refine (back_any A w.heap.size n c l w2 R2.out (by omega) HB2.out).mono ?_
  rintro e w3 ⟨rfl, ho3⟩
  have hb3 : Below w.heap.size w w3 := ho3.below hb2' (Nat.le_refl _)
  have R3 := Lib.hid (R2.out.oth ho3 NE.out)
  have O3 := Lib.hid (O2.out.oth ho3 hlt)
  clear ho3 R2 O2 HB2
  go_wp2_with fail
  refine (rall_any A n c l w3 R3.out (by omega)).mono ?_
  rintro e w4 ⟨A4, k4, c4, m4, E4, ls4, rfl, hk4, hE4, ho4, hb4⟩
  obtain ⟨rfl, rfl, rfl⟩ := hE4.same HE2.out
  obtain rfl : k4 = k2 := by rw [← hk4, ← HK2.out]
  have hkn : k4 ≤ 4194304 := by
    obtain ⟨k, hok, rfl, _⟩ := HE2.out
    have := atA_le hok
    rw [rowsA_length] at hk4
    have := H.out.1
    omega
  have hb4' : Below w.heap.size w w4 := hb3.trans (hb4.mono hb3.size)
  have O4 := Lib.hid ho4
  have O3' := Lib.hid (O3.out.kept hb4)
  clear ho4 O3 hk4 hE4
  go_wp2_with fail
  refine (finds_any w4 (HT.out.below hb4')).mono ?_
  rintro e w5 ⟨rfl, hb5⟩
  have hb5' : Below w.heap.size w w5 := hb4'.trans (hb5.mono hb4'.size)
  have O5 := Lib.hid (O4.out.kept hb5)
  have O5' := Lib.hid (O3'.out.kept hb5)
  clear O4 O3'
  go_wp2_with fail
  refine (same_any _ _ _ _ _ _ w5 O5'.out.rd O5.out.rd hkn).mono ?_
  rintro e w6 ⟨rfl, hb6⟩
  go_wp2_with fail
  go_ret
  exact ⟨rfl, hb5'.trans (hb6.mono hb5'.size)⟩
end Go.Proofs.YtbljghjhpkhcaaaDoor
