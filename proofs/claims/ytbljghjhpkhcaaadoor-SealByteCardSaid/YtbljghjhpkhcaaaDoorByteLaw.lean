/- The walk of SealByte. -/
import Derived.Test.YtbljghjhpkhcaaaDoorBackLaw
namespace Go.Proofs.YtbljghjhpkhcaaaDoor
open Go.RowKit

set_option maxHeartbeats 400000 in
theorem sealByte_long (A1 : Option Addr) (n1 c1 : Nat) (i : Int) (b : UInt8) (w : World) (hn : 4000 < n1 ∨ b = 0) :
    Calls Tryd.prog 7 #[.slice A1 n1 c1, .int .i64 i, cel b] w fun e w' => e = .returned (.bool true) ∧ Below w.heap.size w w' := by
  unfold cel
  by_cases h0 : 4000 < n1
  · go_enter Tryd.func7, Tryd.ntmps7
    go_wp2_with fail
    go_ret
    exact ⟨rfl, Below.refl _ _⟩
  · have h1 : b = 0 := by rcases hn with h | h; exact absurd h h0; exact h
    subst h1
    go_enter Tryd.func7, Tryd.ntmps7
    go_wp2_with fail
    go_ret
    exact ⟨rfl, Below.refl _ _⟩

set_option maxHeartbeats 1000000 in
theorem sealByte_out (A1 : Option Addr) (n1 c1 : Nat) (l : List UInt8) (i : Int) (b : UInt8) (w : World) (h : Rd w A1 n1 c1 l) (hn1 : n1 ≤ 4000) (hb : ((b.toNat : Int) == 0) = false) (hi : i < 4 ∨ 8 + n1 ≤ i) (ht : Tab w) :
    Calls Tryd.prog 7 #[.slice A1 n1 c1, .int .i64 i, cel b] w fun e w' => e = .returned (.bool true) ∧ Below w.heap.size w w' := by
  have HT := Lib.hid ht
  have H := Lib.hid h
  clear h ht
  unfold cel
  by_cases h4 : i < 4
  · go_enter Tryd.func7, Tryd.ntmps7
    go_wp2_with fail
    refine (frame_yes A1 n1 c1 l w H.out (by omega) HT.out).mono ?_
    rintro e w1 ⟨A3, c3, rfl, ho1, hb1⟩
    have O1 := Lib.hid ho1
    clear ho1
    go_wp2_with fail
    refine (frames_any _ (HT.out.below hb1)).mono ?_
    rintro e w5 ⟨rfl, hb5⟩
    go_wp2_with fail
    go_ret
    exact ⟨rfl, hb1.trans (hb5.mono hb1.size)⟩
  · have h5 : 8 + n1 ≤ i := by omega
    go_enter Tryd.func7, Tryd.ntmps7
    go_wp2_with fail
    refine (frame_yes A1 n1 c1 l w H.out (by omega) HT.out).mono ?_
    rintro e w1 ⟨A3, c3, rfl, ho1, hb1⟩
    have O1 := Lib.hid ho1
    clear ho1
    go_wp2_with fail
    refine (frames_any _ (HT.out.below hb1)).mono ?_
    rintro e w5 ⟨rfl, hb5⟩
    go_wp2_with fail
    go_ret
    exact ⟨rfl, hb1.trans (hb5.mono hb1.size)⟩

set_option maxRecDepth 100000 in
set_option maxHeartbeats 1000000 in
theorem sealByte_in (A1 : Option Addr) (n1 c1 : Nat) (l : List UInt8) (k : Nat) (b : UInt8) (w : World) (h : Rd w A1 n1 c1 l) (hn1 : n1 ≤ 4000) (hb : ((b.toNat : Int) == 0) = false) (h4 : 4 ≤ k) (hk : k < 8 + n1) (ht : Tab w) :
    Calls Tryd.prog 7 #[.slice A1 n1 c1, .int .i64 k, cel b] w fun e w' => e = .returned (.bool true) ∧ Below w.heap.size w w' := by
  have hlen : l.length = n1 := h.1
  have hfl : (frameB l).length = 8 + n1 := by rw [frameB_length, hlen]
  obtain ⟨y, hy⟩ : ∃ y, (frameB l)[k]? = some y := ⟨_, List.getElem?_eq_getElem (by omega)⟩
  have hne : y ^^^ b ≠ y := by
    intro e
    have e1 : y ^^^ (y ^^^ b) = y ^^^ y := by rw [e]
    rw [← UInt8.xor_assoc, UInt8.xor_self, UInt8.zero_xor] at e1
    subst e1
    cases hb
  have HE : Hid (fstE ((frameB l).set k (y ^^^ b)) = 21) := Lib.hid (fstE_byte l (by omega) k h4 y _ hy hne)
  have HF := Lib.hid hfl
  have HY := Lib.hid hy
  clear hlen hfl hne hy
  have HT := Lib.hid ht
  have H := Lib.hid h
  clear h ht
  unfold cel
  go_enter Tryd.func7, Tryd.ntmps7
  go_wp2_with fail
  refine (frame_yes A1 n1 c1 l w H.out (by omega) HT.out).mono ?_
  rintro e w1 ⟨A3, c3, rfl, ho1, hb1⟩
  obtain ⟨g, rfl, hg⟩ : ∃ g, A3 = some ⟨g, 0, none⟩ ∧ w.heap.size ≤ g := by
    rcases ho1.2 with ⟨hv, h0⟩ | ⟨g, cap, cur, hv, hB, _⟩
    · rw [HF.out] at h0; omega
    · injection hv with e1 _ _; exact ⟨g, e1, hB⟩
  have ho1' : w1.ownsRow w.heap.size 5 1 (.slice (some ⟨g, 0, none⟩) (8 + n1) c3) (8 + n1) ((frameB l).map cel) := by
    have h5 := ho1
    unfold Own at h5
    rw [HF.out] at h5
    exact h5
  have cl : w1.cell? ⟨g, k, none⟩ = some (.int .u8 (y.toNat : Int)) := by
    rw [ho1'.cellAt k (by omega), List.getElem?_map, HY.out]; rfl
  have fz : w1.frozen? ⟨g, k, none⟩ = false := ho1'.frozenAt k
  have O1 := Lib.hid ho1'
  clear ho1 ho1' HY
  have hx : bits .xor .u8 (y.toNat : Int) (b.toNat : Int) = (((y ^^^ b).toNat : Nat) : Int) := by
    rw [u8_xor_nat _ _ y.toNat_lt b.toNat_lt, UInt8.toNat_xor]
  have st := O1.out.stored k (cel (y ^^^ b))
  rw [← List.map_set] at st
  have O2 : Hid (Own (w1.setCell ⟨g, k, none⟩ (cel (y ^^^ b))) w.heap.size (.slice (some ⟨g, 0, none⟩) (8 + n1) c3) ((frameB l).set k (y ^^^ b))) := by
    have h5 := st.1
    show Own _ _ _ _
    unfold Own
    rw [List.length_set, HF.out]
    exact h5
  have hb2 : Below w.heap.size w (w1.setCell ⟨g, k, none⟩ (cel (y ^^^ b))) := hb1.grown st.2 hb1.size fun q hq => by cases hq; exact hg
  have ct := first_any _ _ _ _ _ O2.out.rd (by omega) (HT.out.below hb2)
  rw [HE.out] at ct
  have C := Lib.hid ct
  clear st O1 ct HE
  go_wp2_with fail
  rw [← UInt8.toNat_xor]
  refine C.out.mono ?_
  rintro e w3 ⟨A5, k5, c5, rfl, _, _, hb3⟩
  have hb3' : Below w.heap.size w w3 := hb2.trans (hb3.mono hb2.size)
  clear C
  go_wp2_with fail
  refine (frames_any _ (HT.out.below hb3')).mono ?_
  rintro e w5 ⟨rfl, hb5⟩
  have hb5' : Below w.heap.size w w5 := hb3'.trans (hb5.mono hb3'.size)
  go_wp2_with fail
  refine (finds_any _ (HT.out.below hb5')).mono ?_
  rintro e w6 ⟨rfl, hb6⟩
  have hb6' : Below w.heap.size w w6 := hb5'.trans (hb6.mono hb5'.size)
  go_wp2_with fail
  go_ret
  exact ⟨rfl, hb6'⟩
end Go.Proofs.YtbljghjhpkhcaaaDoor
