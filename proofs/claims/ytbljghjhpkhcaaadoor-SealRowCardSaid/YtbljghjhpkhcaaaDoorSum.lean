/- Contracts of seal.Sum and of the document's Sum. -/
import Derived.Test.YtbljghjhpkhcaaaDoorMem
import Derived.Test.YtbljghjhpkhcaaaDoorCrc
namespace Go.Proofs.YtbljghjhpkhcaaaDoor
open Go.RowKit

/-- The package's table lies in block 0. -/
def Tab (w : World) : Prop := 0 < w.heap.size ∧ ∀ i, i < 16 → w.cell? ⟨0, i, none⟩ = some (.int .u32 ((tab.getD i 0 : Nat) : Int))
theorem Tab.below {w w' : World} (h : Tab w) (hb : Below w.heap.size w w') : Tab w' :=
  ⟨Nat.lt_of_lt_of_le h.1 hb.size, fun i hi => (hb.cell (p := ⟨0, i, none⟩) h.1).trans (h.2 i hi)⟩
theorem Tab.oth {w w' : World} {g : Nat} (h : Tab w) (ho : Oth g w w') (hg : 0 < g) : Tab w' :=
  ⟨by rw [ho.size]; exact h.1, fun i hi => (World.cell?_of_block (w := w) (a := ⟨0, i, none⟩) (ho.block 0 (by omega))).trans (h.2 i hi)⟩

theorem tab_lt : ∀ i, i < 16 → tab.getD i 0 < 4294967296 := by decide
theorem and15 (x : Nat) (hx : x < 4294967296) : bits .and .u32 (x : Int) 15 = ((x % 16 : Nat) : Int) := by
  have := u32_and_nat x 15 hx (by decide)
  rw [show ((15 : Nat) : Int) = 15 from rfl] at this
  rw [this, show (15 : Nat) = 2 ^ 4 - 1 from rfl, Nat.and_two_pow_sub_one_eq_mod]

theorem xor_div (x t : Nat) (hx : x < 4294967296) (ht : t < 4294967296) : bits .xor .u32 ((x : Int) / 16) (t : Int) = ((x / 16 ^^^ t : Nat) : Int) := by
  have := u32_xor_nat (x / 16) t (by omega) ht
  rwa [Int.natCast_ediv] at this

/-- What the Go text reckons for one byte, step by step. -/
theorem byte_steps (R : Nat) (hR : R < 4294967296) (y : UInt8) : ∃ x1 i1 t1 x2 i2 t2 : Nat,
    bits .xor .u32 (R : Int) (y.toNat : Int) = (x1 : Int) ∧ bits .and .u32 (x1 : Int) 15 = (i1 : Int) ∧ i1 < 16 ∧ tab.getD i1 0 = t1 ∧ bits .xor .u32 ((x1 : Int) / 16) (t1 : Int) = (x2 : Int) ∧
    bits .and .u32 (x2 : Int) 15 = (i2 : Int) ∧ i2 < 16 ∧ tab.getD i2 0 = t2 ∧ bits .xor .u32 ((x2 : Int) / 16) (t2 : Int) = ((upd R y : Nat) : Int) := by
  have hy := y.toNat_lt
  have h1 : R ^^^ y.toNat < 4294967296 := Nat.xor_lt_two_pow (n := 32) hR (by omega)
  have ht1 := tab_lt ((R ^^^ y.toNat) % 16) (Nat.mod_lt _ (by decide))
  have h2 : (R ^^^ y.toNat) / 16 ^^^ tab.getD ((R ^^^ y.toNat) % 16) 0 < 4294967296 := Nat.xor_lt_two_pow (n := 32) (by omega) (by omega)
  have ht2 := tab_lt (((R ^^^ y.toNat) / 16 ^^^ tab.getD ((R ^^^ y.toNat) % 16) 0) % 16) (Nat.mod_lt _ (by decide))
  refine ⟨R ^^^ y.toNat, (R ^^^ y.toNat) % 16, _, (R ^^^ y.toNat) / 16 ^^^ tab.getD ((R ^^^ y.toNat) % 16) 0, _, _, u32_xor_nat R y.toNat hR (by omega), and15 _ h1, Nat.mod_lt _ (by decide), rfl, xor_div _ _ (by omega) ht1, and15 _ h2, Nat.mod_lt _ (by decide), rfl, ?_⟩
  rw [upd_halves, half_step, half_step]
  exact xor_div _ _ (by omega) ht2

set_option maxHeartbeats 400000 in
theorem sum_any (A : Option Addr) (n c : Nat) (l : List UInt8) (w : World) (h : Rd w A n c l) (ht : Tab w) :
    Calls Tryd.prog 11 #[.slice A n c] w fun e w' => e = .returned (.int .u32 (crc l : Nat)) ∧ w = w' := by
  have hcap := h.2.2.1
  unfold maxLen at hcap
  have hnc := h.2.1
  have H := Lib.hid h
  have HT := Lib.hid ht
  clear h ht
  go_enter Tryd.func11, Tryd.ntmps11
  go_wp2_with fail
  go_loop [3, 5, 8] (fun r _ i => ∃ j : Nat, j ≤ n ∧ i = .int .i64 j ∧ r = .int .u32 (reg (l.take j) : Nat)) (fun _ _ i => n - (intOf i).toNat)
  case atStart => exact ⟨0, Nat.zero_le _, rfl, rfl⟩
  case round =>
    obtain ⟨j, hj, rfl, rfl⟩ := hrel
    by_cases hlt : j < n
    · obtain ⟨b, off, rfl, _, hc⟩ := H.out.2.2.2 (by omega)
      obtain ⟨y, hy⟩ : ∃ y, l[j]? = some y := ⟨_, List.getElem?_eq_getElem (by have := H.out.1; omega)⟩
      have c1 : w.cell? ⟨b, off + j, none⟩ = some (.int .u8 (y.toNat : Int)) := hc j y hy
      have hu : upd (reg (l.take j)) y = reg (l.take (j + 1)) := by rw [List.take_add_one, hy, Option.toList_some, reg_snoc]
      have hR := reg_lt (l.take j)
      obtain ⟨x1, i1, t1, x2, i2, t2, e1, e2, hi1, e3, e4, e5, hi2, e6, e7⟩ := byte_steps _ hR y
      rw [hu] at e7
      have c2 : w.cell? ⟨0, i1, none⟩ = some (.int .u32 (t1 : Int)) := by rw [HT.out.2 i1 hi1, e3]
      have c3 : w.cell? ⟨0, i2, none⟩ = some (.int .u32 (t2 : Int)) := by rw [HT.out.2 i2 hi2, e6]
      have e0 : (y.toNat : Int) % 4294967296 = (y.toNat : Int) := by have := y.toNat_lt; omega
      generalize reg (l.take j) = R at *
      obtain ⟨R', hR'⟩ : ∃ R', R' = reg (l.take (j + 1)) := ⟨_, rfl⟩
      rw [← hR'] at e7
      clear hy hc hu hR e3 e6
      have HR := Lib.hid hR'
      clear hR'
      go_wp2_with fail
      go_round
      case rel => exact ⟨j + 1, by omega, by go_num, by rw [HR.out]⟩
      case measure => simp [intOf]; omega
    · have hs : IntKind.u32.signed = false := rfl
      have hx : bits .xor .u32 IntKind.u32.max ((reg (l.take j) : Nat) : Int) = ((4294967295 ^^^ reg (l.take j) : Nat) : Int) := u32_xor_nat 4294967295 _ (by decide) (reg_lt _)
      have e : l.take j = l := List.take_of_length_le (by rw [H.out.1]; omega)
      rw [e] at hx
      rw [e]
      clear e
      have hx' : bits .xor .u32 IntKind.u32.max ((reg l : Nat) : Int) = ((crc l : Nat) : Int) := hx
      clear hx
      generalize reg l = R at *
      go_wp2_with fail
      go_ret
      exact ⟨rfl, rfl⟩
end Go.Proofs.YtbljghjhpkhcaaaDoor
