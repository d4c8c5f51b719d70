/- Contracts of codec.PutInt, PutNumber, PutText and of the document's Int, Number, Text. -/
import Derived.Test.YtbljghjhpkhcaaaLow
namespace Go.Proofs.Ytbljghjhpkhcaaa
open Go.RowKit

/-- A whole number as 64 bits. -/
def u64 (n : Int) : Int := IntKind.u64.wrap n
theorem u64_lo (n : Int) : 0 ≤ u64 n := by unfold u64; rw [IntKind.wrap_u64]; omega
theorem u64_hi (n : Int) : u64 n < 18446744073709551616 := by unfold u64; rw [IntKind.wrap_u64]; omega
theorem u64_in (n : Int) (h : 0 ≤ n) (h' : n < 18446744073709551616) : u64 n = n := by unfold u64; rw [IntKind.wrap_u64]; omega

/-- laid, its answer as the call's own bytes. -/
theorem laid_own (A : Option Addr) (n c : Nat) (l : List UInt8) (v : Int) (k : Nat) (w : World) (h : Rd w A n c l) (hn : n ≤ 4194304) (hk : k ≤ 8) (hv : 0 ≤ v) :
    Calls Try.prog 32 #[.slice A n c, .int .u64 v, .int .i64 k] w fun e w' => ∃ A' c', e = .returned (.slice A' (n + k) c') ∧ Own w' w.heap.size (.slice A' (n + k) c') (l ++ lowB v.toNat k) ∧ Below w.heap.size w w' :=
  (laid_any A n c l v k w h hn hk hv).mono fun e w' ⟨he, hB, hb⟩ =>
    ⟨_, _, he, Own.of_blk0 hB (by simp [h.1, lowB_length]) (by simp [h.1, lowB_length]) (by unfold maxLen; omega) (Nat.le_refl _), hb⟩

set_option maxHeartbeats 400000 in
theorem putInt_any (A : Option Addr) (n c : Nat) (l : List UInt8) (v : Int) (w : World) (h : Rd w A n c l) (hn : n ≤ 4194304) :
    Calls Try.prog 12 #[.slice A n c, .int .i64 v] w fun e w' => ∃ A' c', e = .returned (.slice A' (n + 8) c') ∧ Own w' w.heap.size (.slice A' (n + 8) c') (l ++ lowB (u64 v).toNat 8) ∧ Below w.heap.size w w' := by
  have hu := u64_lo v
  have H := Lib.hid h
  clear h
  go_enter Try.func12, Try.ntmps12
  go_wp2_with fail
  refine (laid_own A n c l (u64 v) 8 _ H.out hn (by decide) hu).mono ?_
  rintro e w' ⟨A', c', rfl, ho, hb⟩
  go_wp2_with fail
  go_ret
  exact ⟨A', c', rfl, ho, hb⟩

set_option maxHeartbeats 400000 in
theorem putNumber_no (A : Option Addr) (n c : Nat) (v : Int) (w : World) (hv : v < 0 ∨ 1000000000 < v) :
    Calls Try.prog 16 #[.slice A n c, .int .i64 v] w fun e w' => e = .returned (.tuple #[.slice none 0 0, .int .i64 1]) ∧ w = w' := by
  by_cases h0 : v < 0
  · go_enter Try.func16, Try.ntmps16
    go_wp2_with fail
    go_ret2
    exact ⟨rfl, rfl⟩
  · have h1 : 1000000000 < v := by omega
    go_enter Try.func16, Try.ntmps16
    go_wp2_with fail
    go_ret2
    exact ⟨rfl, rfl⟩

set_option maxHeartbeats 400000 in
theorem putNumber_yes (A : Option Addr) (n c : Nat) (l : List UInt8) (v : Int) (w : World) (h : Rd w A n c l) (hn : n ≤ 4194304) (h0 : 0 ≤ v) (h1 : v ≤ 1000000000) :
    Calls Try.prog 16 #[.slice A n c, .int .i64 v] w fun e w' => ∃ A' c', e = .returned (.tuple #[.slice A' (n + 4) c', .int .i64 0]) ∧ Own w' w.heap.size (.slice A' (n + 4) c') (l ++ lowB v.toNat 4) ∧ Below w.heap.size w w' := by
  have H := Lib.hid h
  clear h
  go_enter Try.func16, Try.ntmps16
  go_wp2_with fail
  refine (laid_own A n c l v 4 _ H.out hn (by decide) h0).mono ?_
  rintro e w' ⟨A', c', rfl, ho, hb⟩
  go_wp2_with fail
  go_ret2
  exact ⟨A', c', rfl, ho, hb⟩

set_option maxHeartbeats 400000 in
theorem putText_no (A : Option Addr) (n c : Nat) (s : ByteArray) (w : World) (hs : 65536 < s.size) :
    Calls Try.prog 19 #[.slice A n c, .string s] w fun e w' => e = .returned (.tuple #[.slice none 0 0, .int .i64 2]) ∧ w = w' := by
  go_enter Try.func19, Try.ntmps19
  go_wp2_with fail
  go_ret2
  exact ⟨rfl, rfl⟩

set_option maxHeartbeats 400000 in
theorem putText_yes (A : Option Addr) (n c : Nat) (l : List UInt8) (s : ByteArray) (w : World) (h : Rd w A n c l) (hn : n ≤ 4194304) (hs : s.size ≤ 65536) :
    Calls Try.prog 19 #[.slice A n c, .string s] w fun e w' => ∃ A' c', e = .returned (.tuple #[.slice A' (n + 4 + s.size) c', .int .i64 0]) ∧ Own w' w.heap.size (.slice A' (n + 4 + s.size) c') (l ++ (lowB s.size 4 ++ s.data.toList)) ∧ Below w.heap.size w w' := by
  have hl := h.1
  have HL := Lib.hid hl
  clear hl
  have H := Lib.hid h
  clear h
  go_enter Try.func19, Try.ntmps19
  go_wp2_with fail
  refine (laid_own A n c l (s.size : Int) 4 _ H.out hn (by decide) (by omega)).mono ?_
  rintro e w1 ⟨A1, c1, rfl, ho, hb⟩
  rw [Int.toNat_natCast] at ho
  have HO := Lib.hid ho
  clear ho
  go_wp2_with (at_builtin; refine wpList_append_text rfl (.tmp 13) (.tmp 14) rfl w.heap.size _ (n + 4) _ rfl HO.out (by rw [List.length_append, HL.out, lowB_length]) s rfl (by omega) hb.size w.heap.size w hb (Nat.le_refl _) ?_)
  intro A' c' w' ho' hb'
  go_wp2_with fail
  go_ret2
  exact ⟨A', c', rfl, ho', hb'⟩

set_option maxHeartbeats 400000 in
theorem refInt_any (v : Int) (w : World) :
    Calls Try.prog 15 #[.int .i64 v] w fun e w' => ∃ A' c', e = .returned (.slice A' 8 c') ∧ Own w' w.heap.size (.slice A' 8 c') (lowB (u64 v).toNat 8) ∧ Below w.heap.size w w' := by
  have hu := u64_lo v
  have HU := Lib.hid (u64_hi v)
  go_enter Try.func15, Try.ntmps15
  go_wp2_with fail
  refine (low_any (u64 v) 8 _ (by decide) hu HU.out).mono ?_
  rintro e w' ⟨A', c', rfl, ho, hb⟩
  go_wp2_with fail
  go_ret
  exact ⟨A', c', rfl, ho, hb⟩

set_option maxHeartbeats 400000 in
theorem refNumber_no (v : Int) (w : World) (hv : v < 0 ∨ 1000000000 < v) :
    Calls Try.prog 17 #[.int .i64 v] w fun e w' => e = .returned (.tuple #[.slice none 0 0, .bool false]) ∧ w = w' := by
  by_cases h0 : v < 0
  · go_enter Try.func17, Try.ntmps17
    go_wp2_with fail
    go_ret2
    exact ⟨rfl, rfl⟩
  · have h1 : 1000000000 < v := by omega
    go_enter Try.func17, Try.ntmps17
    go_wp2_with fail
    go_ret2
    exact ⟨rfl, rfl⟩

set_option maxHeartbeats 400000 in
theorem refNumber_yes (v : Int) (w : World) (h0 : 0 ≤ v) (h1 : v ≤ 1000000000) :
    Calls Try.prog 17 #[.int .i64 v] w fun e w' => ∃ A' c', e = .returned (.tuple #[.slice A' 4 c', .bool true]) ∧ Own w' w.heap.size (.slice A' 4 c') (lowB v.toNat 4) ∧ Below w.heap.size w w' := by
  go_enter Try.func17, Try.ntmps17
  go_wp2_with fail
  refine (low_any v 4 _ (by decide) h0 (by omega)).mono ?_
  rintro e w' ⟨A', c', rfl, ho, hb⟩
  go_wp2_with fail
  go_ret2
  exact ⟨A', c', rfl, ho, hb⟩

set_option maxHeartbeats 400000 in
theorem refText_no (s : ByteArray) (w : World) (hs : 65536 < s.size) :
    Calls Try.prog 20 #[.string s] w fun e w' => e = .returned (.tuple #[.slice none 0 0, .bool false]) ∧ w = w' := by
  go_enter Try.func20, Try.ntmps20
  go_wp2_with fail
  go_ret2
  exact ⟨rfl, rfl⟩

set_option maxHeartbeats 400000 in
theorem refText_yes (s : ByteArray) (w : World) (hs : s.size ≤ 65536) :
    Calls Try.prog 20 #[.string s] w fun e w' => ∃ A' c', e = .returned (.tuple #[.slice A' (4 + s.size) c', .bool true]) ∧ Own w' w.heap.size (.slice A' (4 + s.size) c') (lowB s.size 4 ++ s.data.toList) ∧ Below w.heap.size w w' := by
  go_enter Try.func20, Try.ntmps20
  go_wp2_with fail
  refine (low_any (s.size : Int) 4 _ (by decide) (by omega) (by omega)).mono ?_
  rintro e w1 ⟨A1, c1, rfl, ho, hb⟩
  rw [Int.toNat_natCast] at ho
  have HO := Lib.hid ho
  clear ho
  go_wp2_with (at_builtin; refine wpList_append_text rfl (.tmp 12) (.tmp 13) rfl w.heap.size _ 4 _ rfl HO.out (lowB_length _ _) s rfl (by omega) hb.size w.heap.size w hb (Nat.le_refl _) ?_)
  intro A' c' w' ho' hb'
  go_wp2_with fail
  go_ret2
  exact ⟨A', c', rfl, ho', hb'⟩

end Go.Proofs.Ytbljghjhpkhcaaa
