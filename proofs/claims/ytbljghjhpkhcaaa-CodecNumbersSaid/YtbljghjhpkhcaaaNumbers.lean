/- The walks of folkmootlaw01.CodecNumbers and CodecTexts. -/
import Derived.Test.YtbljghjhpkhcaaaPuts
import Derived.Test.YtbljghjhpkhcaaaLend
import Derived.Test.YtbljghjhpkhcaaaBack
namespace Go.Proofs.Ytbljghjhpkhcaaa
open Go.RowKit

/-- Bytes that were lent read as what they were. -/
theorem Rd.lent {w : World} {A : Option Addr} {n c g : Nat} {l : List UInt8} (h : Rd w A n c l) {w1 : World} (hB : Blk w1 g 5 (l.map cel ++ [cel 165, cel 90])) (hn : n ≤ 4194304) : Rd w1 (some ⟨g, 0, none⟩) n (n + 2) l := by
  have := Rd.of_blk (c := n + 2) hB (by have := h.1; omega) (by unfold maxLen; omega)
  rwa [h.1] at this

set_option maxHeartbeats 400000 in
theorem codecNumbers_long (A : Option Addr) (n c : Nat) (v : Int) (w : World) (hn : 262144 < n) :
    Calls Try.prog 4 #[.slice A n c, .int .i64 v] w fun e w' => e = .returned (.bool true) ∧ Below w.heap.size w w' := by
  go_enter Try.func4, Try.ntmps4
  go_wp2_with fail
  go_ret
  exact ⟨rfl, Below.refl _ _⟩

set_option maxHeartbeats 400000 in
theorem codecNumbers_no (A : Option Addr) (n c : Nat) (l : List UInt8) (v : Int) (w : World) (h : Rd w A n c l) (hn : n ≤ 262144) (hv : v < 0 ∨ 1000000000 < v) :
    Calls Try.prog 4 #[.slice A n c, .int .i64 v] w fun e w' => e = .returned (.bool true) ∧ Below w.heap.size w w' := by
  have H := Lib.hid h
  clear h
  have HV := Lib.hid hv
  clear hv
  go_enter Try.func4, Try.ntmps4
  go_wp2_with fail
  refine (lend_any A n c l _ H.out (by omega)).mono ?_
  rintro e w1 ⟨rfl, hB, hb1⟩
  have HB := Lib.hid hB
  clear hB
  go_wp2_with fail
  refine (putNumber_no _ _ _ v _ HV.out).mono ?_
  rintro e w2 ⟨rfl, rfl⟩
  go_wp2_with fail
  refine (back_any A w.heap.size n c l w1 (H.out.below hb1) (by omega) HB.out).mono ?_
  rintro e w3 ⟨rfl, ho3⟩
  have hb3 : Below w.heap.size w w3 := ho3.below hb1 (Nat.le_refl _)
  go_wp2_with fail
  refine (refNumber_no v _ HV.out).mono ?_
  rintro e w4 ⟨rfl, rfl⟩
  go_wp2_with fail
  refine (puts_any _).mono ?_
  rintro e w5 ⟨rfl, hb5⟩
  go_wp2_with fail
  go_ret
  exact ⟨rfl, hb3.trans (hb5.mono hb3.size)⟩

set_option maxHeartbeats 1000000 in
theorem codecNumbers_yes (A : Option Addr) (n c : Nat) (l : List UInt8) (v : Int) (w : World) (h : Rd w A n c l) (hn : n ≤ 262144) (hv0 : 0 ≤ v) (hv1 : v ≤ 1000000000) :
    Calls Try.prog 4 #[.slice A n c, .int .i64 v] w fun e w' => e = .returned (.bool true) ∧ Below w.heap.size w w' := by
  have hadd : ∀ W, (Op.stringOp .add ⟨l.toArray⟩ ⟨(lowB v.toNat 4).toArray⟩).run Try.prog W = .ok (.string ⟨(l ++ lowB v.toNat 4).toArray⟩) W := fun W => run_string_add_lists W _ _ (by rw [h.1]; omega) (by rw [lowB_length]; decide)
  have NE := Lib.hid (h.ne (Nat.le_refl w.heap.size))
  have H := Lib.hid h
  clear h
  go_enter Try.func4, Try.ntmps4
  go_wp2_with fail
  refine (lend_any A n c l _ H.out (by omega)).mono ?_
  rintro e w1 ⟨rfl, hB, hb1⟩
  have HB := Lib.hid hB
  clear hB
  go_wp2_with fail
  refine (putNumber_yes _ n (n + 2) l v _ (H.out.lent HB.out (by omega)) (by omega) hv0 hv1).mono ?_
  rintro e w2 ⟨A2, c2, rfl, ho2, hb2⟩
  have hlt : w.heap.size < w1.heap.size := HB.out.lt
  have HB2 : Hid (Blk w2 w.heap.size 5 (l.map cel ++ [cel 165, cel 90])) := HB.out.below hb2 hlt
  have R2 : Hid (Rd w2 A n c l) := (H.out.below hb1).below hb2
  have hb2' : Below w.heap.size w w2 := hb1.trans (hb2.mono hb1.size)
  have O2 := Lib.hid ho2
  clear ho2 HB
  go_wp2_with fail
  refine (back_any A w.heap.size n c l w2 R2.out (by omega) HB2.out).mono ?_
  rintro e w3 ⟨rfl, ho3⟩
  have R3 : Hid (Rd w3 A n c l) := R2.out.oth ho3 NE.out
  have O3 : Hid (Own w3 w1.heap.size (.slice A2 (n + 4) c2) (l ++ lowB v.toNat 4)) := O2.out.oth ho3 hlt
  have hb3 : Below w.heap.size w w3 := ho3.below hb2' (Nat.le_refl _)
  clear ho3 R2 O2 HB2
  go_wp2_with fail
  refine (refNumber_yes v _ hv0 hv1).mono ?_
  rintro e w4 ⟨A4, c4, rfl, ho4, hb4⟩
  have O4 := Lib.hid ho4
  clear ho4
  have R5 : Hid (Rd w4 A n c l) := R3.out.below hb4
  have O5 : Hid (Own w4 w1.heap.size (.slice A2 (n + 4) c2) (l ++ lowB v.toNat 4)) := O3.out.kept hb4
  have hb4' : Below w.heap.size w w4 := hb3.trans (hb4.mono hb3.size)
  go_wp2_with fail
  refine (puts_any _).mono ?_
  rintro e w5 ⟨rfl, hb5⟩
  have q1 := run_str (R5.out.below hb5)
  have q2 := run_str (O5.out.kept hb5).rd
  have q3 := run_str (O4.out.kept hb5).rd
  go_wp2_with fail
  go_ret
  exact ⟨rfl, hb4'.trans (hb5.mono hb4'.size)⟩

theorem sizeL (s : ByteArray) : s.data.toList.length = s.size := rfl
theorem toArrayL (s : ByteArray) : (⟨s.data.toList.toArray⟩ : ByteArray) = s := rfl

set_option maxHeartbeats 400000 in
theorem codecTexts_long (A : Option Addr) (n c : Nat) (s : ByteArray) (w : World) (hn : 262144 < n ∨ 262144 < s.size) :
    Calls Try.prog 5 #[.slice A n c, .string s] w fun e w' => e = .returned (.bool true) ∧ Below w.heap.size w w' := by
  by_cases h0 : 262144 < n
  · go_enter Try.func5, Try.ntmps5
    go_wp2_with fail
    go_ret
    exact ⟨rfl, Below.refl _ _⟩
  · have h1 : 262144 < s.size := by omega
    go_enter Try.func5, Try.ntmps5
    go_wp2_with fail
    go_ret
    exact ⟨rfl, Below.refl _ _⟩

set_option maxHeartbeats 400000 in
theorem codecTexts_no (A : Option Addr) (n c : Nat) (l : List UInt8) (s : ByteArray) (w : World) (h : Rd w A n c l) (hn : n ≤ 262144) (hs : s.size ≤ 262144) (hv : 65536 < s.size) :
    Calls Try.prog 5 #[.slice A n c, .string s] w fun e w' => e = .returned (.bool true) ∧ Below w.heap.size w w' := by
  have H := Lib.hid h
  clear h
  go_enter Try.func5, Try.ntmps5
  go_wp2_with fail
  refine (lend_any A n c l _ H.out (by omega)).mono ?_
  rintro e w1 ⟨rfl, hB, hb1⟩
  have HB := Lib.hid hB
  clear hB
  go_wp2_with fail
  refine (putText_no _ _ _ s _ hv).mono ?_
  rintro e w2 ⟨rfl, rfl⟩
  go_wp2_with fail
  refine (back_any A w.heap.size n c l w1 (H.out.below hb1) (by omega) HB.out).mono ?_
  rintro e w3 ⟨rfl, ho3⟩
  have hb3 : Below w.heap.size w w3 := ho3.below hb1 (Nat.le_refl _)
  go_wp2_with fail
  refine (refText_no s _ hv).mono ?_
  rintro e w4 ⟨rfl, rfl⟩
  go_wp2_with fail
  refine (writes_any _).mono ?_
  rintro e w5 ⟨rfl, hb5⟩
  go_wp2_with fail
  go_ret
  exact ⟨rfl, hb3.trans (hb5.mono hb3.size)⟩

set_option maxHeartbeats 1000000 in
theorem codecTexts_yes (A : Option Addr) (n c : Nat) (l : List UInt8) (s : ByteArray) (w : World) (h : Rd w A n c l) (hn : n ≤ 262144) (hs : s.size ≤ 65536) :
    Calls Try.prog 5 #[.slice A n c, .string s] w fun e w' => e = .returned (.bool true) ∧ Below w.heap.size w w' := by
  obtain ⟨t, ht⟩ : ∃ t, lowB s.size 4 ++ s.data.toList = t := ⟨_, rfl⟩
  have htl : t.length = 4 + s.size := by rw [← ht, List.length_append, lowB_length, sizeL]
  have hadd : ∀ W, (Op.stringOp .add ⟨l.toArray⟩ ⟨t.toArray⟩).run Try.prog W = .ok (.string ⟨(l ++ t).toArray⟩) W := fun W => run_string_add_lists W _ _ (by rw [h.1]; omega) (by omega)
  have HT := Lib.hid ht
  clear ht htl
  have NE := Lib.hid (h.ne (Nat.le_refl w.heap.size))
  have H := Lib.hid h
  clear h
  go_enter Try.func5, Try.ntmps5
  go_wp2_with fail
  refine (lend_any A n c l _ H.out (by omega)).mono ?_
  rintro e w1 ⟨rfl, hB, hb1⟩
  have HB := Lib.hid hB
  clear hB
  go_wp2_with fail
  refine (putText_yes _ n (n + 2) l s _ (H.out.lent HB.out (by omega)) (by omega) hs).mono ?_
  rintro e w2 ⟨A2, c2, rfl, ho2, hb2⟩
  rw [HT.out] at ho2
  have hlt : w.heap.size < w1.heap.size := HB.out.lt
  have HB2 : Hid (Blk w2 w.heap.size 5 (l.map cel ++ [cel 165, cel 90])) := HB.out.below hb2 hlt
  have R2 : Hid (Rd w2 A n c l) := (H.out.below hb1).below hb2
  have hb2' : Below w.heap.size w w2 := hb1.trans (hb2.mono hb1.size)
  have O2 := Lib.hid ho2
  clear ho2 HB
  go_wp2_with fail
  refine (back_any A w.heap.size n c l w2 R2.out (by omega) HB2.out).mono ?_
  rintro e w3 ⟨rfl, ho3⟩
  have R3 : Hid (Rd w3 A n c l) := R2.out.oth ho3 NE.out
  have O3 : Hid (Own w3 w1.heap.size (.slice A2 (n + 4 + s.size) c2) (l ++ t)) := O2.out.oth ho3 hlt
  have hb3 : Below w.heap.size w w3 := ho3.below hb2' (Nat.le_refl _)
  clear ho3 R2 O2 HB2
  go_wp2_with fail
  refine (refText_yes s _ hs).mono ?_
  rintro e w4 ⟨A4, c4, rfl, ho4, hb4⟩
  rw [HT.out] at ho4
  have O4 := Lib.hid ho4
  clear ho4
  have R5 : Hid (Rd w4 A n c l) := R3.out.below hb4
  have O5 : Hid (Own w4 w1.heap.size (.slice A2 (n + 4 + s.size) c2) (l ++ t)) := O3.out.kept hb4
  have hb4' : Below w.heap.size w w4 := hb3.trans (hb4.mono hb3.size)
  go_wp2_with fail
  refine (writes_any _).mono ?_
  rintro e w5 ⟨rfl, hb5⟩
  have q1 := run_str (R5.out.below hb5)
  have q2 := run_str (O5.out.kept hb5).rd
  have q3 := run_str (O4.out.kept hb5).rd
  go_wp2_with fail
  go_ret
  exact ⟨rfl, hb4'.trans (hb5.mono hb4'.size)⟩
end Go.Proofs.Ytbljghjhpkhcaaa
