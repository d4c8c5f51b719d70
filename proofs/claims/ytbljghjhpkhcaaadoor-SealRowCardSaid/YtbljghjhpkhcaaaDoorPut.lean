/- Contracts of codec.PutInt, PutNumber, PutText and of the document's Int, Number, Text. -/
import Derived.Test.YtbljghjhpkhcaaaDoorLow
namespace Go.Proofs.YtbljghjhpkhcaaaDoor
open Go.RowKit

/-- A whole number as 64 bits. -/
def u64 (n : Int) : Int := IntKind.u64.wrap n
theorem u64_lo (n : Int) : 0 ≤ u64 n := by unfold u64; rw [IntKind.wrap_u64]; omega
theorem u64_hi (n : Int) : u64 n < 18446744073709551616 := by unfold u64; rw [IntKind.wrap_u64]; omega
theorem u64_in (n : Int) (h : 0 ≤ n) (h' : n < 18446744073709551616) : u64 n = n := by unfold u64; rw [IntKind.wrap_u64]; omega

/-- laid, its answer as the call's own bytes. -/
theorem laid_own (A : Option Addr) (n c : Nat) (l : List UInt8) (v : Int) (k : Nat) (w : World) (h : Rd w A n c l) (hn : n ≤ 4194304) (hk : k ≤ 8) (hv : 0 ≤ v) :
    Calls Tryd.prog 35 #[.slice A n c, .int .u64 v, .int .i64 k] w fun e w' => ∃ A' c', e = .returned (.slice A' (n + k) c') ∧ Own w' w.heap.size (.slice A' (n + k) c') (l ++ lowB v.toNat k) ∧ Below w.heap.size w w' :=
  (laid_any A n c l v k w h hn hk hv).mono fun e w' ⟨he, hB, hb⟩ =>
    ⟨_, _, he, Own.of_blk0 hB (by simp [h.1, lowB_length]) (by simp [h.1, lowB_length]) (by unfold maxLen; omega) (Nat.le_refl _), hb⟩

set_option maxHeartbeats 400000 in
theorem putNumber_no (A : Option Addr) (n c : Nat) (v : Int) (w : World) (hv : v < 0 ∨ 1000000000 < v) :
    Calls Tryd.prog 32 #[.slice A n c, .int .i64 v] w fun e w' => e = .returned (.tuple #[.slice none 0 0, .int .i64 1]) ∧ w = w' := by
  by_cases h0 : v < 0
  · go_enter Tryd.func32, Tryd.ntmps32
    go_wp2_with fail
    go_ret2
    exact ⟨rfl, rfl⟩
  · have h1 : 1000000000 < v := by omega
    go_enter Tryd.func32, Tryd.ntmps32
    go_wp2_with fail
    go_ret2
    exact ⟨rfl, rfl⟩

set_option maxHeartbeats 400000 in
theorem putNumber_yes (A : Option Addr) (n c : Nat) (l : List UInt8) (v : Int) (w : World) (h : Rd w A n c l) (hn : n ≤ 4194304) (h0 : 0 ≤ v) (h1 : v ≤ 1000000000) :
    Calls Tryd.prog 32 #[.slice A n c, .int .i64 v] w fun e w' => ∃ A' c', e = .returned (.tuple #[.slice A' (n + 4) c', .int .i64 0]) ∧ Own w' w.heap.size (.slice A' (n + 4) c') (l ++ lowB v.toNat 4) ∧ Below w.heap.size w w' := by
  have H := Lib.hid h
  clear h
  go_enter Tryd.func32, Tryd.ntmps32
  go_wp2_with fail
  refine (laid_own A n c l v 4 _ H.out hn (by decide) h0).mono ?_
  rintro e w' ⟨A', c', rfl, ho, hb⟩
  go_wp2_with fail
  go_ret2
  exact ⟨A', c', rfl, ho, hb⟩

end Go.Proofs.YtbljghjhpkhcaaaDoor
