/- The reader in memory; the contract of its inner first. -/
import Derived.Test.YtbljghjhpkhcaaaDoorLaid
namespace Go.Proofs.YtbljghjhpkhcaaaDoor
open Go.RowKit

/-- The number that bytes are, the lowest first. -/
def ofB : List UInt8 → Nat
  | [] => 0
  | x :: r => x.toNat + 256 * ofB r

theorem ofB_append (l : List UInt8) (x : UInt8) : ofB (l ++ [x]) = ofB l + x.toNat * 2 ^ (8 * l.length) := by
  induction l with
  | nil => simp [ofB]
  | cons y r ih =>
    simp only [List.cons_append, ofB, ih, List.length_cons]
    rw [show 8 * (r.length + 1) = 8 * r.length + 8 by omega, Nat.pow_add, Nat.mul_add, show (2 : Nat) ^ 8 = 256 from rfl, ← Nat.mul_assoc x.toNat, Nat.mul_comm _ 256]
    omega

theorem ofB_lt (l : List UInt8) : ofB l < 2 ^ (8 * l.length) := by
  induction l with
  | nil => simp [ofB]
  | cons y r ih =>
    simp only [ofB, List.length_cons]
    rw [show 8 * (r.length + 1) = 8 * r.length + 8 by omega, Nat.pow_add]
    have := y.toNat_lt
    omega

/-- A reader at block q that still has the bytes l ahead. -/
def Rdr (w : World) (q : Nat) (l : List UInt8) : Prop :=
  ∃ A n c, Blk w q 52 [.slice A n c] ∧ Rd w A n c l ∧ ∀ ad, 0 < n → A = some ad → ad.block ≠ q

theorem Rdr.lt {w : World} {q : Nat} {l : List UInt8} (h : Rdr w q l) : q < w.heap.size := by
  obtain ⟨A, n, c, hB, _⟩ := h
  exact hB.lt
theorem Rdr.below {w w' : World} {q : Nat} {l : List UInt8} (h : Rdr w q l) (hb : Below w.heap.size w w') : Rdr w' q l := by
  obtain ⟨A, n, c, hB, hR, hne⟩ := h
  exact ⟨A, n, c, hB.below hb hB.lt, hR.below hb, hne⟩

theorem or_step (a b j : Nat) (ha : a < 2 ^ (8 * j)) (hb : b < 256) (hj : j < 8) :
    bits .or .u64 (a : Int) (IntKind.u64.wrap (IntKind.u64.wrap (b : Int) * 2 ^ (8 * j))) = ((a + b * 2 ^ (8 * j) : Nat) : Int) := by
  have h1 : 2 ^ (8 * j) ≤ 2 ^ 56 := Nat.pow_le_pow_right (by decide) (by omega)
  have h2 : b * 2 ^ (8 * j) ≤ 255 * 2 ^ 56 := Nat.mul_le_mul (by omega) h1
  have e1 : IntKind.u64.wrap (b : Int) = (b : Int) := by rw [IntKind.wrap_u64]; omega
  have e2 : ((b : Int) * 2 ^ (8 * j)) = ((b * 2 ^ (8 * j) : Nat) : Int) := by rw [Int.natCast_mul, Int.natCast_pow]; rfl
  have e3 : IntKind.u64.wrap ((b * 2 ^ (8 * j) : Nat) : Int) = ((b * 2 ^ (8 * j) : Nat) : Int) := by rw [IntKind.wrap_u64]; omega
  rw [e1, e2, e3, u64_or_nat a _ (by omega) (by omega), Nat.or_comm]
  congr 1
  rw [Nat.mul_comm b, ← Nat.two_pow_add_eq_or_of_lt ha]
  omega

theorem or_take {l : List UInt8} {j : Nat} {y : UInt8} (hy : l[j]? = some y) (hj : j < 8) :
    bits .or .u64 ((ofB (l.take j) : Nat) : Int) (IntKind.u64.wrap (IntKind.u64.wrap (y.toNat : Int) * 2 ^ (8 * j))) = ((ofB (l.take (j + 1)) : Nat) : Int) := by
  have hjl : j < l.length := (List.getElem?_eq_some_iff.1 hy).1
  have hlen : (l.take j).length = j := by rw [List.length_take]; omega
  have h1 := ofB_lt (l.take j)
  rw [hlen] at h1
  rw [or_step _ _ j h1 y.toNat_lt hj, List.take_add_one, hy, Option.toList_some, ofB_append, hlen]

set_option maxHeartbeats 400000 in
theorem first_no (q k : Nat) (l : List UInt8) (w : World) (h : Rdr w q l) (hk : l.length < k) :
    Calls Tryd.prog 34 #[.pointer (some ⟨q, 0, none⟩), .int .i64 k] w fun e w' => e = .returned (.tuple #[.int .u64 0, .bool false]) ∧ w = w' := by
  obtain ⟨A, n, c, hB, hR, _⟩ := h
  have hcap := hR.2.2.1
  unfold maxLen at hcap
  have hnc := hR.2.1
  have hn : n < k := by have := hR.1; omega
  have c0 : w.cell? ⟨q, 0, none⟩ = some (.slice A n c) := hB.cell 0
  clear hB hR
  go_enter Tryd.func34, Tryd.ntmps34
  go_wp2_with fail
  go_ret2
  exact ⟨rfl, rfl⟩

set_option maxHeartbeats 400000 in
theorem first_yes (q k : Nat) (l : List UInt8) (w : World) (h : Rdr w q l) (hk0 : 0 < k) (hk8 : k ≤ 8) (hk : k ≤ l.length) :
    Calls Tryd.prog 34 #[.pointer (some ⟨q, 0, none⟩), .int .i64 k] w fun e w' => e = .returned (.tuple #[.int .u64 (ofB (l.take k) : Nat), .bool true]) ∧ w = w' := by
  obtain ⟨A, n, c, hB, hR, _⟩ := h
  have hcap := hR.2.2.1
  unfold maxLen at hcap
  have hnc := hR.2.1
  have hl := hR.1
  have hn : k ≤ n := by omega
  obtain ⟨b, off, rfl, _, hc⟩ := hR.2.2.2 (by omega)
  have c0 : w.cell? ⟨q, 0, none⟩ = some (.slice (some ⟨b, off, none⟩) n c) := hB.cell 0
  have HC := Lib.hid hc
  have HL := Lib.hid hl
  clear hB hR hc hl
  go_enter Tryd.func34, Tryd.ntmps34
  go_wp2_with fail
  go_loop [6, 7, 16] (fun v _ i => ∃ j : Nat, j ≤ k ∧ i = .int .i64 j ∧ v = .int .u64 (ofB (l.take j) : Nat)) (fun _ _ i => k - (intOf i).toNat)
  case atStart => exact ⟨0, Nat.zero_le _, rfl, rfl⟩
  case round =>
    obtain ⟨j, hj, rfl, rfl⟩ := hrel
    by_cases hlt : j < k
    · obtain ⟨y, hy⟩ : ∃ y, l[j]? = some y := ⟨_, List.getElem?_eq_getElem (by have := HL.out; omega)⟩
      have c1 : w.cell? ⟨b, off + j, none⟩ = some (.int .u8 (y.toNat : Int)) := HC.out j y hy
      have HY := Lib.hid hy
      clear hy
      go_wp2_with fail
      go_round
      case rel => exact ⟨j + 1, by omega, by go_num, by rw [or_take HY.out (by omega)]⟩
      case measure => simp [intOf]; omega
    · go_wp2_with fail
      go_ret2
      obtain rfl : j = k := by omega
      exact ⟨rfl, rfl⟩
end Go.Proofs.YtbljghjhpkhcaaaDoor
