/- Contract of folkmootkeep.Back. -/
import Derived.Test.YtbljghjhpkhcaaaDoorMem
namespace Go.Proofs.YtbljghjhpkhcaaaDoor
open Go.RowKit

theorem cel_add77 (y : UInt8) : Value.int .u8 (((y.toNat : Int) + 77) % 256) = cel (y + 77) := by
  unfold cel
  rw [UInt8.toNat_add]
  rfl

set_option maxHeartbeats 400000 in
theorem back_any (A : Option Addr) (g n c : Nat) (l : List UInt8) (w : World) (h : Rd w A n c l) (hn : n ≤ 4194304) (hB : Blk w g 5 (l.map cel ++ [cel 165, cel 90])) :
    Calls Tryd.prog 12 #[.slice (some ⟨g, 0, none⟩) n (n + 2), .slice A n c] w fun e w' => e = .returned (.bool true) ∧ Oth g w w' := by
  have hcap := h.2.2.1
  unfold maxLen at hcap
  have hnc := h.2.1
  have s1 := run_str h
  have s2 := run_str (Rd.of_blk (c := n + 2) hB (by have := h.1; omega) (by unfold maxLen; omega))
  rw [h.1] at s2
  have H := Lib.hid h
  clear h
  have HB := Lib.hid hB
  clear hB
  have c1 : w.cell? ⟨g, n, none⟩ = some (.int .u8 165) := by rw [HB.out.cell, List.getElem?_append_right (by simp [H.out.1])]; simp [H.out.1]; rfl
  have c2 : w.cell? ⟨g, n + 1, none⟩ = some (.int .u8 90) := by rw [HB.out.cell, List.getElem?_append_right (by simp [H.out.1])]; simp [H.out.1]; rfl
  go_enter Tryd.func12, Tryd.ntmps12
  go_wp2_with fail
  go_loopw [7] (fun i wr => ∃ j : Nat, j ≤ n + 2 ∧ i = .int .i64 j ∧ Oth g w wr ∧ ∃ us : List UInt8, us.length = n + 2 ∧ Hid (Blk wr g 5 (us.map cel))) (fun i _ => n + 2 - (intOf i).toNat)
  case atStart => exact ⟨0, Nat.zero_le _, rfl, Oth.refl _ _, l ++ [165, 90], by simp [H.out.1], by show Blk _ _ _ _; simpa using HB.out⟩
  case round =>
    obtain ⟨j, hj, rfl, hoth, us, hus, hBr⟩ := hrel
    by_cases hlt : j < n + 2
    · obtain ⟨y, hy⟩ : ∃ y, us[j]? = some y := ⟨_, List.getElem?_eq_getElem (by omega)⟩
      have c1 : wr.cell? ⟨g, j, none⟩ = some (.int .u8 (y.toNat : Int)) := by
        rw [hBr.out.cell, List.getElem?_map, hy]; rfl
      have f1 : wr.frozen? ⟨g, j, none⟩ = false := hBr.out.frozen _
      clear hy
      go_wp2_with fail
      go_roundw
      case rel => exact ⟨j + 1, by omega, by go_num, hoth.setCell _ _, us.set j (y + 77), by simp [hus], by rw [List.map_set, ← cel_add77]; exact hBr.out.set_ _ _⟩
      case measure => simp [intOf]; omega
    · go_wp2_with fail
      go_ret
      exact ⟨rfl, hoth⟩
end Go.Proofs.YtbljghjhpkhcaaaDoor
