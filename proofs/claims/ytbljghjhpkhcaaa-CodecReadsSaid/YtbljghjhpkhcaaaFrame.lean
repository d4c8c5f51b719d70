/- What the frame of a row gives of a slice of bytes, turned into the walks' word Rd. -/
import Derived.Test.YtbljghjhpkhcaaaMem
import Derived.ProofKit
import Derived.OpenShut
import Derived.ShutString
import Derived.ChangeOld
import Derived.Below
namespace Go.Proofs.Ytbljghjhpkhcaaa
open Go.RowKit

theorem own : ownKnob Try.prog.godebug = none := by kernel_rfl
theorem laidOut : laidOutB Try.prog = true := by kernel_rfl

/-- A slice of integers that came in: nil, or a row of cap cells. -/
def IsRow (k : IntKind) (w : World) (a : Option Addr) (len cap : Nat) (zs : List Int) : Prop :=
  (a = none ∧ len = 0 ∧ cap = 0 ∧ zs = []) ∨
  ∃ x, a = some x ∧ len ≤ cap ∧ cap ≤ maxLen ∧ zs.length = cap ∧ (∀ i, i < zs.length → w.cell? (x.add i) = some (.int k (zs.getD i 0))) ∧ ∀ n ∈ zs, (Lit.int k n).wf = true

theorem u8_of_wf {z : Int} (h : (Lit.int .u8 z).wf = true) : Value.int .u8 z = cel (UInt8.ofNat z.toNat) := by
  have hb := bounds_u8 h
  obtain ⟨m, rfl⟩ := Int.eq_ofNat_of_zero_le hb.1
  unfold cel
  rw [UInt8.toNat_ofNat', Int.toNat_natCast]
  congr 1
  omega

theorem rd_of_row {w : World} {a : Option Addr} {len cap : Nat} {zs : List Int} (h : IsRow .u8 w a len cap zs) : ∃ l, Rd w a len cap l := by
  rcases h with ⟨rfl, rfl, rfl, rfl⟩ | ⟨x, rfl, hl, hm, hz, hc, hw⟩
  · exact ⟨[], rfl, Nat.le_refl _, Nat.zero_le _, fun h => absurd h (by decide)⟩
  · refine ⟨(zs.take len).map fun z => UInt8.ofNat z.toNat, by simp [hz, hl], hl, hm, fun hn => ?_⟩
    obtain ⟨b, off, spot⟩ := x
    have h0 := hc 0 (by omega)
    have hspot : spot = none := by simpa [Addr.add] using World.cell?_spot h0
    subst hspot
    refine ⟨b, off, rfl, World.block_lt_of_cell? w _ h0, fun i u hu => ?_⟩
    rw [List.getElem?_map, List.getElem?_take] at hu
    split at hu
    · have hi : i < zs.length := by omega
      have := hc i hi
      rw [Addr.add_lit] at this
      rw [this]
      simp [List.getElem?_eq_getElem hi] at hu
      subst hu
      have e : zs.getD i 0 = zs[i] := by simp [List.getD, hi]
      rw [e, u8_of_wf (hw _ (List.getElem_mem hi))]
    · simp at hu
end Go.Proofs.Ytbljghjhpkhcaaa
