/- The walk of SealSums, and of its example. -/
import Derived.Test.YtbljghjhpkhcaaaDoorRefSum
import Derived.Test.YtbljghjhpkhcaaaDoorLend
import Derived.Test.YtbljghjhpkhcaaaDoorBack
import Derived.Lib.SlBytesConst
namespace Go.Proofs.YtbljghjhpkhcaaaDoor
open Go.RowKit

theorem Rd.nil (w : World) : Rd w none 0 0 [] := ⟨rfl, Nat.le_refl _, Nat.zero_le _, fun h => absurd h (by decide)⟩
/-- Bytes that were lent read as what they were. -/
theorem Rd.lent {w : World} {A : Option Addr} {n c g : Nat} {l : List UInt8} (h : Rd w A n c l) {w1 : World} (hB : Blk w1 g 5 (l.map cel ++ [cel 165, cel 90])) (hn : n ≤ 4194304) : Rd w1 (some ⟨g, 0, none⟩) n (n + 2) l := by
  have := Rd.of_blk (c := n + 2) hB (by have := h.1; omega) (by unfold maxLen; omega)
  rwa [h.1] at this

/-- A new block of one byte that bears the mark of a literal text. -/
theorem Rd.marked (w : World) (u : UInt8) (f : Nat × Nat) : Rd (w.alloc (.cells #[cel u] 5 f)) (some ⟨w.heap.size, 0, none⟩) 1 1 [u] := by
  refine ⟨rfl, Nat.le_refl _, by unfold maxLen; decide, fun _ => ⟨w.heap.size, 0, rfl, by simp, fun i v hv => ?_⟩⟩
  have hi : i = 0 := by have := (List.getElem?_eq_some_iff.1 hv).1; simpa using this
  subst hi
  obtain rfl : u = v := by simpa using hv
  have := cell_of_row (w.alloc (.cells #[cel u] 5 f)) w.heap.size 0 #[cel u] 5 f (heap_alloc_new w _)
  simpa using this

set_option maxHeartbeats 400000 in
theorem sums_any (w : World) (ht : Tab w) : Calls Tryd.prog 13 #[] w fun e w' => e = .returned (.bool true) ∧ Below w.heap.size w w' := by
  have e1 : ((crc [] : Nat) : Int) = 0 := by decide +kernel
  have e2 : ((crc [97] : Nat) : Int) = 3904355907 := by decide +kernel
  have HE := Lib.hid (And.intro e1 e2)
  clear e1 e2
  have HT := Lib.hid ht
  have kc := fun (w : World) (C : Array Value) (n c : Nat) => Lib.run_convert_bytes_const (P := Tryd.prog) w 22 5 C n c Tryd.underlying22 Tryd.underlying5
  clear ht
  go_enter Tryd.func13, Tryd.ntmps13
  go_wp2_with fail
  refine (sum_any none 0 0 [] w (Rd.nil w) HT.out).mono ?_
  rintro e w' ⟨rfl, rfl⟩
  rw [HE.out.1]
  go_wp2_with fail
  refine (sum_any _ 1 1 [97] _ (Rd.marked w 97 (1, 2)) (HT.out.below ((Below.refl _ _).alloc (Nat.le_refl _) _))).mono ?_
  rintro e w' ⟨rfl, rfl⟩
  rw [HE.out.2]
  go_wp2_with fail
  go_ret
  exact ⟨rfl, (Below.refl _ _).alloc (Nat.le_refl _) _⟩

set_option maxHeartbeats 400000 in
theorem sealSums_long (A : Option Addr) (n c : Nat) (w : World) (hn : 2097152 < n) :
    Calls Tryd.prog 3 #[.slice A n c] w fun e w' => e = .returned (.bool true) ∧ Below w.heap.size w w' := by
  go_enter Tryd.func3, Tryd.ntmps3
  go_wp2_with fail
  go_ret
  exact ⟨rfl, Below.refl _ _⟩

set_option maxHeartbeats 400000 in
theorem sealSums_walk (A : Option Addr) (n c : Nat) (l : List UInt8) (w : World) (h : Rd w A n c l) (hn : n ≤ 2097152) (ht : Tab w) :
    Calls Tryd.prog 3 #[.slice A n c] w fun e w' => e = .returned (.bool true) ∧ Below w.heap.size w w' := by
  have NE := Lib.hid (h.ne (Nat.le_refl w.heap.size))
  have H := Lib.hid h
  have HT := Lib.hid ht
  clear h ht
  go_enter Tryd.func3, Tryd.ntmps3
  go_wp2_with fail
  refine (lend_any A n c l _ H.out (by omega)).mono ?_
  rintro e w1 ⟨rfl, hB, hb1⟩
  have HB := Lib.hid hB
  clear hB
  go_wp2_with fail
  refine (sum_any _ n (n + 2) l w1 (H.out.lent HB.out (by omega)) (HT.out.below hb1)).mono ?_
  rintro e w2 ⟨rfl, rfl⟩
  go_wp2_with fail
  refine (back_any A w.heap.size n c l w1 (H.out.below hb1) (by omega) HB.out).mono ?_
  rintro e w3 ⟨rfl, ho3⟩
  have hb3 : Below w.heap.size w w3 := ho3.below hb1 (Nat.le_refl _)
  have R3 : Hid (Rd w3 A n c l) := (H.out.below hb1).oth ho3 NE.out
  go_wp2_with fail
  refine (sums_any _ (HT.out.below hb3)).mono ?_
  rintro e w4 ⟨rfl, hb4⟩
  go_wp2_with fail
  refine (refSum_any A n c l _ (R3.out.below hb4)).mono ?_
  rintro e w5 ⟨rfl, rfl⟩
  go_wp2_with fail
  go_ret
  exact ⟨rfl, hb3.trans (hb4.mono hb3.size)⟩
end Go.Proofs.YtbljghjhpkhcaaaDoor
