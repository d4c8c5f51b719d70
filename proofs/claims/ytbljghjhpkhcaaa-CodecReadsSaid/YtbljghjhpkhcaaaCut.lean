/- Contracts of the document's Of and of its Cut's methods. -/
import Derived.Test.YtbljghjhpkhcaaaText
import Derived.Deep.QuietTactic
import Derived.BigQuiet
namespace Go.Proofs.Ytbljghjhpkhcaaa
open Go.RowKit

theorem ofB_drop {l : List UInt8} {k : Nat} {y : UInt8} (hy : l[k]? = some y) : ofB (l.drop k) = y.toNat + 256 * ofB (l.drop (k + 1)) := by
  obtain ⟨hk, rfl⟩ := List.getElem?_eq_some_iff.1 hy
  rw [List.drop_eq_getElem_cons hk, ofB]

theorem of_step {l : List UInt8} {k : Nat} {y : UInt8} (hl : l.length ≤ 8) (hy : l[k]? = some y) :
    IntKind.u64.wrap (IntKind.u64.wrap (256 * ((ofB (l.drop (k + 1)) : Nat) : Int)) + IntKind.u64.wrap (y.toNat : Int)) = ((ofB (l.drop k) : Nat) : Int) := by
  have h1 := ofB_drop hy
  have h2 := ofB_lt (l.drop k)
  have h3 : 2 ^ (8 * (l.drop k).length) ≤ 2 ^ 64 := Nat.pow_le_pow_right (by decide) (by rw [List.length_drop]; omega)
  rw [IntKind.wrap_u64, IntKind.wrap_u64, IntKind.wrap_u64]
  omega

set_option maxHeartbeats 400000 in
theorem of_any (A : Option Addr) (n c : Nat) (l : List UInt8) (w : World) (h : Rd w A n c l) (hn : n ≤ 8) :
    Calls Try.prog 36 #[.slice A n c] w fun e w' => e = .returned (.int .u64 (ofB l : Nat)) ∧ w = w' := by
  have hcap := h.2.2.1
  unfold maxLen at hcap
  have hnc := h.2.1
  have H := Lib.hid h
  clear h
  go_enter Try.func36, Try.ntmps36
  go_wp2_with fail
  go_loop [3, 4] (fun v i => ∃ j : Nat, j ≤ n ∧ i = .int .i64 ((j : Int) - 1) ∧ v = .int .u64 (ofB (l.drop j) : Nat)) (fun _ i => (intOf i + 1).toNat)
  case atStart => exact ⟨n, Nat.le_refl _, rfl, by rw [List.drop_of_length_le (by rw [H.out.1]; exact Nat.le_refl _)]; rfl⟩
  case round =>
    obtain ⟨j, hj, rfl, rfl⟩ := hrel
    rcases j with _ | k
    · go_wp2_with fail
      go_ret
      exact ⟨rfl, rfl⟩
    · have e : (((k + 1 : Nat) : Int) - 1) = (k : Int) := by omega
      rw [e]
      clear e
      obtain ⟨b, off, rfl, _, hc⟩ := H.out.2.2.2 (by omega)
      obtain ⟨y, hy⟩ : ∃ y, l[k]? = some y := ⟨_, List.getElem?_eq_getElem (by have := H.out.1; omega)⟩
      have c1 : w.cell? ⟨b, off + k, none⟩ = some (.int .u8 (y.toNat : Int)) := hc k y hy
      have HY := Lib.hid hy
      clear hy hc
      have hk : k < n := by omega
      go_wp2_with fail
      go_round
      case rel => exact ⟨k, by omega, rfl, by rw [of_step (by rw [H.out.1]; exact hn) HY.out]⟩
      case measure => simp [intOf]

/-- The document's Cut at block q: its bytes are l, it stands at place p. -/
def Ctr (w : World) (q : Nat) (A : Option Addr) (n c : Nat) (l : List UInt8) (p : Nat) : Prop :=
  p ≤ l.length ∧ l.length ≤ 4194304 ∧ Blk w q 46 [.slice A n c, .int .i64 p] ∧ Rd w A n c l ∧ ∀ ad, 0 < n → A = some ad → ad.block ≠ q

theorem Ctr.below {w w' : World} {A : Option Addr} {n c : Nat} {q p : Nat} {l : List UInt8} (h : Ctr w q A n c l p) (hb : Below w.heap.size w w') : Ctr w' q A n c l p := by
  obtain ⟨h1, h2, hB, hR, hne⟩ := h
  exact ⟨h1, h2, hB.below hb hB.lt, hR.below hb, hne⟩
theorem Ctr.drewN {w : World} {A : Option Addr} {n c : Nat} {q p : Nat} {l : List UInt8} (h : Ctr w q A n c l p) (m : Nat) : Ctr (w.drewN m) q A n c l p := h

set_option maxHeartbeats 400000 in
theorem cleft_any (A : Option Addr) (n c : Nat) (q p : Nat) (l : List UInt8) (w : World) (h : Ctr w q A n c l p) :
    Calls Try.prog 25 #[.pointer (some ⟨q, 0, none⟩)] w fun e w' => e = .returned (.int .i64 ((l.drop p).length : Nat)) ∧ ∃ m, w' = w.drewN m := by
  obtain ⟨h1, h2, hB, hR, hne⟩ := h
  obtain rfl := hR.1
  have c0 : w.cell? ⟨q, 0, none⟩ = some (.slice A l.length c) := hB.cell 0
  have c1 : w.cell? ⟨q, 1, none⟩ = some (.int .i64 p) := hB.cell 1
  have hw : IntKind.i64.wrap ((l.length : Int) - (p : Int)) = (l.length : Int) - p := by rw [IntKind.wrap_i64]; omega
  have e : ((l.drop p).length : Int) = (l.length : Int) - p := by rw [List.length_drop]; omega
  have HE := Lib.hid e
  clear hB hR hne e
  go_enter Try.func25, Try.ntmps25
  go_wp2_with fail
  go_quiet (fail)
  go_wp2_with fail
  go_ret
  exact ⟨by rw [HE.out]; rfl, _, rfl⟩

set_option maxHeartbeats 400000 in
theorem small_any (A : Option Addr) (n c : Nat) (q p k : Nat) (l : List UInt8) (w : World) (h : Ctr w q A n c l p) (hk : k ≤ 8) (hp : p + k ≤ l.length) :
    Calls Try.prog 35 #[.pointer (some ⟨q, 0, none⟩), .int .i64 k] w fun e w' => e = .returned (.int .u64 (ofB ((l.drop p).take k) : Nat)) ∧ ∃ m, w' = w.drewN m := by
  obtain ⟨h1, h2, hB, hR, hne⟩ := h
  have hn := hR.1
  obtain ⟨A', hsl, hR', _⟩ := cut_both hR p (p + k) (by omega) (by omega) .i64 .i64
  rw [show p + k - p = k by omega, List.drop_take, show p + k - p = k by omega] at hR'
  have hsl' : ∀ W, (Instr.slice 22 (.slice A n c) (some (.int .i64 (p : Int))) (some (.int .i64 ((p : Int) + (k : Int)))) none).run Try.prog W = .ok (.slice A' k (c - p)) W := by
    intro W
    have := hsl W
    rw [show p + k - p = k by omega] at this
    exact this
  have c0 : w.cell? ⟨q, 0, none⟩ = some (.slice A n c) := hB.cell 0
  have c1 : w.cell? ⟨q, 1, none⟩ = some (.int .i64 p) := hB.cell 1
  have hw : IntKind.i64.wrap ((p : Int) + (k : Int)) = (p : Int) + k := by rw [IntKind.wrap_i64]; omega
  have HR := Lib.hid hR'
  have ho : ∀ W, Calls Try.prog 36 #[.slice A' k (c - p)] (w.drewN W) fun e w' => e = .returned (.int .u64 (ofB ((l.drop p).take k) : Nat)) ∧ w' = w.drewN W := fun W => (of_any A' k (c - p) _ _ (show Rd (w.drewN W) A' k (c - p) _ from HR.out) hk).mono fun e w' ⟨he, hw⟩ => ⟨he, hw.symm⟩
  generalize ofB ((l.drop p).take k) = x at *
  have HO := Lib.hid ho
  clear hB hR hne hsl hn hR' ho
  go_enter Try.func35, Try.ntmps35
  go_wp2_with fail
  go_quiet ((go_at_call 36; exact Calls.quiet_of_same (HO.out _)))
  go_wp2_with fail
  go_ret
  exact ⟨rfl, _, rfl⟩
end Go.Proofs.Ytbljghjhpkhcaaa
