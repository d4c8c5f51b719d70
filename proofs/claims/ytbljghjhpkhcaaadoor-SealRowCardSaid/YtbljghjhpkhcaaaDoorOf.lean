/- Contract of the document's Of. -/
import Derived.Test.YtbljghjhpkhcaaaDoorFirst
namespace Go.Proofs.YtbljghjhpkhcaaaDoor
open Go.RowKit

theorem ofB_drop {l : List UInt8} {k : Nat} {y : UInt8} (hy : l[k]? = some y) : ofB (l.drop k) = y.toNat + 256 * ofB (l.drop (k + 1)) := by
  obtain ⟨hk, rfl⟩ := List.getElem?_eq_some_iff.1 hy
  rw [List.drop_eq_getElem_cons hk, ofB]

theorem of_step {l : List UInt8} {k : Nat} {y : UInt8} (hl : l.length ≤ 8) (hy : l[k]? = some y) :
    IntKind.u64.wrap (IntKind.u64.wrap (256 * ((ofB (l.drop (k + 1)) : Nat) : Int)) + IntKind.u64.wrap (y.toNat : Int)) = ((ofB (l.drop k) : Nat) : Int) := by
  have h1 := ofB_drop hy
  have h2 := ofB_lt (l.drop k)
  have h3 : 2 ^ (8 * (l.drop k).length) ≤ 2 ^ 64 := Nat.pow_le_pow_right (by decide) (by rw [List.length_drop]; omega)
  rw [IntKind.wrap_u64, IntKind.wrap_u64, IntKind.wrap_u64]
  omega

set_option maxHeartbeats 400000 in
theorem of_any (A : Option Addr) (n c : Nat) (l : List UInt8) (w : World) (h : Rd w A n c l) (hn : n ≤ 8) :
    Calls Tryd.prog 31 #[.slice A n c] w fun e w' => e = .returned (.int .u64 (ofB l : Nat)) ∧ w = w' := by
  have hcap := h.2.2.1
  unfold maxLen at hcap
  have hnc := h.2.1
  have H := Lib.hid h
  clear h
  go_enter Tryd.func31, Tryd.ntmps31
  go_wp2_with fail
  go_loop [3, 4] (fun v i => ∃ j : Nat, j ≤ n ∧ i = .int .i64 ((j : Int) - 1) ∧ v = .int .u64 (ofB (l.drop j) : Nat)) (fun _ i => (intOf i + 1).toNat)
  case atStart => exact ⟨n, Nat.le_refl _, rfl, by rw [List.drop_of_length_le (by rw [H.out.1]; exact Nat.le_refl _)]; rfl⟩
  case round =>
    obtain ⟨j, hj, rfl, rfl⟩ := hrel
    rcases j with _ | k
    · go_wp2_with fail
      go_ret
      exact ⟨rfl, rfl⟩
    · have e : (((k + 1 : Nat) : Int) - 1) = (k : Int) := by omega
      rw [e]
      clear e
      obtain ⟨b, off, rfl, _, hc⟩ := H.out.2.2.2 (by omega)
      obtain ⟨y, hy⟩ : ∃ y, l[k]? = some y := ⟨_, List.getElem?_eq_getElem (by have := H.out.1; omega)⟩
      have c1 : w.cell? ⟨b, off + k, none⟩ = some (.int .u8 (y.toNat : Int)) := hc k y hy
      have HY := Lib.hid hy
      clear hy hc
      have hk : k < n := by omega
      go_wp2_with fail
      go_round
      case rel => exact ⟨k, by omega, rfl, by rw [of_step (by rw [H.out.1]; exact hn) HY.out]⟩
      case measure => simp [intOf]

end Go.Proofs.YtbljghjhpkhcaaaDoor
