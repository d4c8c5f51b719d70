/- What the frame of a row gives: a slice of bytes as the walks' word Rd; the listed table as Tab; a world for the witness. -/
import Derived.Test.YtbljghjhpkhcaaaDoorSum
import Derived.ProofKit
import Derived.OpenShut
import Derived.ShutString
import Derived.ChangeOld
import Derived.Below
import Derived.Deep.DeepHandedRow
import Derived.Lib.LaidTab
import Derived.Test.YtbljghjhpkhcaaaDoorCards
import Derived.Test.YtbljghjhpkhcaaaDoorTie
namespace Go.Proofs.YtbljghjhpkhcaaaDoor
open Go.RowKit

theorem own : ownKnob Tryd.prog.godebug = none := by kernel_rfl
theorem laidOut : laidOutB Tryd.prog = true := by kernel_rfl

/-- A slice of integers that came in: nil, or a row of cap cells. -/
def IsRow (k : IntKind) (w : World) (a : Option Addr) (len cap : Nat) (zs : List Int) : Prop :=
  (a = none ∧ len = 0 ∧ cap = 0 ∧ zs = []) ∨
  ∃ x, a = some x ∧ len ≤ cap ∧ cap ≤ maxLen ∧ zs.length = cap ∧ (∀ i, i < zs.length → w.cell? (x.add i) = some (.int k (zs.getD i 0))) ∧ ∀ n ∈ zs, (Lit.int k n).wf = true

theorem u8_of_wf {z : Int} (h : (Lit.int .u8 z).wf = true) : Value.int .u8 z = cel (UInt8.ofNat z.toNat) := by
  have hb := bounds_u8 h
  obtain ⟨m, rfl⟩ := Int.eq_ofNat_of_zero_le hb.1
  unfold cel
  rw [UInt8.toNat_ofNat', Int.toNat_natCast]
  congr 1
  omega

theorem rd_of_row {w : World} {a : Option Addr} {len cap : Nat} {zs : List Int} (h : IsRow .u8 w a len cap zs) : ∃ l, Rd w a len cap l := by
  rcases h with ⟨rfl, rfl, rfl, rfl⟩ | ⟨x, rfl, hl, hm, hz, hc, hw⟩
  · exact ⟨[], rfl, Nat.le_refl _, Nat.zero_le _, fun h => absurd h (by decide)⟩
  · refine ⟨(zs.take len).map fun z => UInt8.ofNat z.toNat, by simp [hz, hl], hl, hm, fun hn => ?_⟩
    obtain ⟨b, off, spot⟩ := x
    have h0 := hc 0 (by omega)
    have hspot : spot = none := by simpa [Addr.add] using World.cell?_spot h0
    subst hspot
    refine ⟨b, off, rfl, World.block_lt_of_cell? w _ h0, fun i u hu => ?_⟩
    rw [List.getElem?_map, List.getElem?_take] at hu
    split at hu
    · have hi : i < zs.length := by omega
      have := hc i hi
      rw [Addr.add_lit] at this
      rw [this]
      simp [List.getElem?_eq_getElem hi] at hu
      subst hu
      have e : zs.getD i 0 = zs[i] := by simp [List.getD, hi]
      rw [e, u8_of_wf (hw _ (List.getElem_mem hi))]
    · simp at hu

theorem gTab : Tryd.prog.globalNamed "folkmoot/seal.steps" = some 0 := by kernel_rfl
theorem gTabType : (Tryd.prog.globals[0]?).map (·.type) = some 41 := by kernel_rfl
theorem cells41 : Tryd.prog.cellsOf 41 = 16 := by kernel_rfl
theorem cells24 : Tryd.prog.cellsOf 24 = 1 := by kernel_rfl

/-- What the row's list gives: the table's cells hold its sixteen numbers. -/
theorem table {W : World} (h : laidMetH Tryd.prog [("folkmoot/seal.steps", Rows.laid_folkmoot_seal_steps)] W) :
    Lib.TabIs Tryd.prog W "folkmoot/seal.steps" .u32 [0, 498536548, 997073096, 651767980, 1994146192, 1802195444, 1303535960, 1342533948, 3988292384, 4027552580, 3604390888, 3412177804, 2607071920, 2262029012, 2685067896, 3183342108] :=
  Lib.tabIs_of_head (rest := []) gTab gTabType Tryd.underlying41 Tryd.underlying24 cells24 cells41 h

theorem tab_ints : ∀ i, i < 16 → ([0, 498536548, 997073096, 651767980, 1994146192, 1802195444, 1303535960, 1342533948, 3988292384, 4027552580, 3604390888, 3412177804, 2607071920, 2262029012, 2685067896, 3183342108] : List Int).getD i 0 = ((tab.getD i 0 : Nat) : Int) := by decide

theorem tab_of {W : World} (h : laidMetH Tryd.prog [("folkmoot/seal.steps", Rows.laid_folkmoot_seal_steps)] W) : Tab W := by
  have hc : ∀ i, i < 16 → W.cell? ⟨0, i, none⟩ = some (.int .u32 ((tab.getD i 0 : Nat) : Int)) := by
    intro i hi
    rw [← tab_ints i hi]
    exact (table h).cell gTab i hi
  exact ⟨World.block_lt_of_cell? W _ (hc 0 (by decide)), hc⟩

/-- A world for the witness: the settled one, the table holding what its initialiser lays. -/
noncomputable def laidWorld (os : Os) : World :=
  { World.holding Tryd.prog os ⟨#[], #[], []⟩ with heap := (World.holding Tryd.prog os ⟨#[], #[], []⟩).heap.modify 0 fun
      | .cells _ t frozen => .cells #[.int .u32 0, .int .u32 498536548, .int .u32 997073096, .int .u32 651767980, .int .u32 1994146192, .int .u32 1802195444, .int .u32 1303535960, .int .u32 1342533948, .int .u32 3988292384, .int .u32 4027552580, .int .u32 3604390888, .int .u32 3412177804, .int .u32 2607071920, .int .u32 2262029012, .int .u32 2685067896, .int .u32 3183342108] t frozen
      | o => o }
end Go.Proofs.YtbljghjhpkhcaaaDoor
