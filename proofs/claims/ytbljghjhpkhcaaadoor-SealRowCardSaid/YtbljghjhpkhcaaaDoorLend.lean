/- Contracts of folkmootkeep.Lend. -/
import Derived.Test.YtbljghjhpkhcaaaDoorMem
namespace Go.Proofs.YtbljghjhpkhcaaaDoor
open Go.RowKit

theorem two_set (l : List UInt8) (n : Nat) (h : l.length = n) (a b : Value) : ((l.map cel ++ zer 2).set n a).set (n + 1) b = l.map cel ++ [a, b] := by
  have e : (l.map cel).length = n := by simp [h]
  rw [List.set_append_right _ _ (by omega), List.set_append_right _ _ (by omega), e, Nat.sub_self, show n + 1 - n = 1 by omega]
  rfl

set_option maxHeartbeats 400000 in
theorem lend_any (A : Option Addr) (n c : Nat) (l : List UInt8) (w : World) (h : Rd w A n c l) (hn : n ≤ 4194304) :
    Calls Tryd.prog 10 #[.slice A n c] w fun e w' => e = .returned (.slice (some ⟨w.heap.size, 0, none⟩) n (n + 2)) ∧ Blk w' w.heap.size 5 (l.map cel ++ [cel 165, cel 90]) ∧ Below w.heap.size w w' := by
  have hcap := h.2.2.1
  unfold maxLen at hcap
  have hnc := h.2.1
  have H := Lib.hid h
  clear h
  go_enter Tryd.func10, Tryd.ntmps10
  go_wp2_with (at_make; refine wpList_make_bytes rfl _ _ rfl .i64 .i64 _ _ (n + 2) rfl rfl (by omega) (by omega) (by omega) ?_)
  intro w1 hB hbel hsz
  go_wp2_with (with_reducible refine wpList_copy_bytes rfl (.tmp 8) (.tmp 9) rfl w.heap.size (n + 2) (n + 2) n c A rfl rfl l hB.out (H.out.below hbel) (by omega) w.heap.size w hbel (Nat.le_refl _) ?_)
  intro w2 hB3 hbel2
  have hlt : w.heap.size < w2.heap.size := hB3.out.lt
  have c1 : w2.cell? ⟨w.heap.size, n, none⟩ = some (cel 0) := by rw [hB3.out.cell, List.getElem?_append_right (by simp [H.out.1])]; simp [H.out.1, zer]
  have c2 : w2.cell? ⟨w.heap.size, n + 1, none⟩ = some (cel 0) := by rw [hB3.out.cell, List.getElem?_append_right (by simp [H.out.1])]; simp [H.out.1, zer]
  have f1 : w2.frozen? ⟨w.heap.size, n, none⟩ = false := hB3.out.frozen _
  have f2 : w2.frozen? ⟨w.heap.size, n + 1, none⟩ = false := hB3.out.frozen _
  go_wp2_with fail
  go_ret
  refine ⟨rfl, ?_, (hbel2.setCell (Nat.le_refl _) _).setCell (Nat.le_refl _) _⟩
  have := (hB3.out.set_ n (.int .u8 165)).set_ (n + 1) (.int .u8 90)
  rw [two_set l n H.out.1] at this
  exact this
end Go.Proofs.YtbljghjhpkhcaaaDoor
