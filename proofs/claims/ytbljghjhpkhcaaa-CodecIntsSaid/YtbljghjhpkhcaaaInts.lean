/- The walk of folkmootlaw01.CodecInts. -/
import Derived.Test.YtbljghjhpkhcaaaPuts
import Derived.Test.YtbljghjhpkhcaaaLend
import Derived.Test.YtbljghjhpkhcaaaBack
import Derived.Deep.RegionWith
import Derived.Deep.DeepMust
namespace Go.Proofs.Ytbljghjhpkhcaaa
open Go.RowKit

set_option maxHeartbeats 400000 in
theorem codecInts_long (A : Option Addr) (n c : Nat) (v : Int) (w : World) (hn : 262144 < n) :
    Calls Try.prog 3 #[.slice A n c, .int .i64 v] w fun e w' => e = .returned (.bool true) ∧ Below w.heap.size w w' := by
  go_enter Try.func3, Try.ntmps3
  go_wp2_with fail
  go_ret
  exact ⟨rfl, Below.refl _ _⟩

set_option maxHeartbeats 1000000 in
theorem codecInts_walk (A : Option Addr) (n c : Nat) (l : List UInt8) (v : Int) (w : World) (h : Rd w A n c l) (hn : n ≤ 262144) :
    Calls Try.prog 3 #[.slice A n c, .int .i64 v] w fun e w' => e = .returned (.bool true) ∧ Below w.heap.size w w' := by
  have H := Lib.hid h
  clear h
  go_enter Try.func3, Try.ntmps3
  go_wp2_with fail
  refine (lend_any A n c l _ H.out (by omega)).mono ?_
  rintro e w1 ⟨rfl, hB, hb1⟩
  have HB := Lib.hid hB
  clear hB
  go_wp2_with fail
  refine (putInt_any _ n (n + 2) l v _ (by have := Rd.of_blk (c := n + 2) HB.out (by have := H.out.1; omega) (by unfold maxLen; omega); rw [H.out.1] at this; exact this) (by omega)).mono ?_
  rintro e w2 ⟨A2, c2, rfl, ho2, hb2⟩
  have HO2 := Lib.hid ho2
  clear ho2
  have HB2 : Hid (Blk w2.drew w.heap.size 5 (l.map cel ++ [cel 165, cel 90])) := HB.out.below hb2.drew HB.out.lt
  have R2 : Hid (Rd w2.drew A n c l) := (H.out.below hb1).below hb2.drew
  have O2 : Hid (Own w2.drew w1.heap.size (.slice A2 (n + 8) c2) (l ++ lowB (u64 v).toNat 8)) := HO2.out.kept (Below.refl _ _).drew
  have hlt : w.heap.size < w1.heap.size := HB.out.lt
  have hb2' : Below w.heap.size w w2.drew := (hb1.trans (hb2.mono hb1.size)).drew
  have hadd : ∀ W, (Op.stringOp .add ⟨l.toArray⟩ ⟨(lowB (u64 v).toNat 8).toArray⟩).run Try.prog W = .ok (.string ⟨(l ++ lowB (u64 v).toNat 8).toArray⟩) W := fun W => run_string_add_lists W _ _ (by rw [H.out.1]; omega) (by rw [lowB_length]; decide)
  have NE := Lib.hid (H.out.ne (Nat.le_refl w.heap.size))
  clear HB HO2 H
  go_wp2_with fail
  go_region_with (first
    | (go_at_call 13; go_must (refine (back_any A w.heap.size n c l w2.drew R2.out (by omega) HB2.out).mono ?_); rintro e w3 ⟨rfl, ho3⟩; have R3 : Hid (Rd w3 A n c l) := R2.out.oth ho3 NE.out; have O3 : Hid (Own w3 w1.heap.size (.slice A2 (n + 8) c2) (l ++ lowB (u64 v).toNat 8)) := O2.out.oth ho3 hlt; have hb3 : Below w.heap.size w w3 := ho3.below hb2' (Nat.le_refl _); clear ho3)
    | (go_at_call 14; go_must (refine (lays_any _).mono ?_); rintro e w4 ⟨rfl, hb4⟩; have R4 : Hid (Rd w4 A n c l) := R3.out.below hb4; have O4 : Hid (Own w4 w1.heap.size (.slice A2 (n + 8) c2) (l ++ lowB (u64 v).toNat 8)) := O3.out.kept hb4; have hb4' : Below w.heap.size w w4 := hb3.trans (hb4.mono hb3.size); clear hb4; have q1 := run_str R4.out; have q2 := run_str O4.out.rd)
    | (go_at_call 15; go_must (refine (refInt_any v _).mono ?_); rintro e w5 ⟨A5, c5, rfl, ho5, hb5⟩; have q3 := run_str (R4.out.below hb5); have q4 := run_str (O4.out.kept hb5).rd; have q5 := run_str ho5.rd; have hb5' : Below w.heap.size w w5 := hb4'.trans (hb5.mono hb4'.size); clear hb5 ho5))
  all_goals (go_wp2_with fail; go_ret; exact ⟨rfl, hb5'⟩)
end Go.Proofs.Ytbljghjhpkhcaaa
