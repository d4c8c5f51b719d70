/- Contract of codec.laid. -/
import Derived.Test.YtbljghjhpkhcaaaDoorMem
namespace Go.Proofs.YtbljghjhpkhcaaaDoor
open Go.RowKit

/-- The k lowest bytes of v, the lowest first. -/
def lowB (v : Nat) (k : Nat) : List UInt8 := (List.range k).map fun i => UInt8.ofNat (v / 2 ^ (8 * i))

theorem lowB_length (v k : Nat) : (lowB v k).length = k := by simp [lowB]
theorem lowB_zero (v : Nat) : lowB v 0 = [] := rfl
theorem lowB_succ (v k : Nat) : lowB v (k + 1) = lowB v k ++ [UInt8.ofNat (v / 2 ^ (8 * k))] := by simp [lowB, List.range_succ]

theorem zer_succ (n : Nat) : zer (n + 1) = cel 0 :: zer n := by simp [zer, List.replicate_succ]

theorem set_mid (xs : List Value) (m n : Nat) (h : xs.length = n) (u : Value) : (xs ++ zer (m + 1)).set n u = xs ++ u :: zer m := by
  rw [List.set_append_right _ _ (by omega), h, Nat.sub_self, zer_succ]; rfl

theorem cel_shift (v : Int) (hv : 0 ≤ v) (j : Nat) : Value.int IntKind.u8 (v / 2 ^ (8 * j) % 256) = cel (UInt8.ofNat (v.toNat / 2 ^ (8 * j))) := by
  obtain ⟨m, rfl⟩ := Int.eq_ofNat_of_zero_le hv
  unfold cel
  rw [Int.toNat_natCast, UInt8.toNat_ofNat']
  rfl

theorem laid_step {w : World} {g n j k : Nat} {l : List UInt8} {v : Int} (hv : 0 ≤ v) (hl : l.length = n) (hj : j < k) (h : Blk w g 5 ((l ++ lowB v.toNat j).map cel ++ zer (k - j))) :
    Blk (w.setCell ⟨g, n + j, none⟩ (Value.int IntKind.u8 (v / 2 ^ (8 * j) % 256))) g 5 ((l ++ lowB v.toNat (j + 1)).map cel ++ zer (k - (j + 1))) := by
  have h2 := h.set_ (n + j) (Value.int IntKind.u8 (v / 2 ^ (8 * j) % 256))
  rw [show k - j = (k - (j + 1)) + 1 by omega, set_mid _ _ _ (by simp [hl, lowB_length]), cel_shift v hv] at h2
  rw [lowB_succ, cel_shift v hv]
  simpa using h2

set_option maxHeartbeats 400000 in
theorem laid_any (A : Option Addr) (n c : Nat) (l : List UInt8) (v : Int) (k : Nat) (w : World) (h : Rd w A n c l) (hn : n ≤ 4194304) (hk : k ≤ 8) (hv : 0 ≤ v) :
    Calls Tryd.prog 35 #[.slice A n c, .int .u64 v, .int .i64 k] w fun e w' => e = .returned (.slice (some ⟨w.heap.size, 0, none⟩) (n + k) (n + k)) ∧ Blk w' w.heap.size 5 ((l ++ lowB v.toNat k).map cel) ∧ Below w.heap.size w w' := by
  have hcap := h.2.2.1
  unfold maxLen at hcap
  have hnc := h.2.1
  have H := Lib.hid h
  clear h
  go_enter Tryd.func35, Tryd.ntmps35
  go_wp2_with (at_make; refine wpList_make_bytes rfl _ _ rfl .i64 .i64 _ _ (n + k) rfl rfl (by omega) (by omega) (by omega) ?_)
  intro w1 hB hbel hsz
  go_wp2_with (with_reducible refine wpList_copy_bytes rfl (.tmp 14) (.tmp 15) rfl w.heap.size (n + k) (n + k) n c A rfl rfl l hB.out (H.out.below hbel) (by omega) w.heap.size w hbel (Nat.le_refl _) ?_)
  intro w2 hB2 hbel2
  go_wp2_with fail
  go_loopw [18, 8] (fun i _ wr => ∃ j : Nat, j ≤ k ∧ i = .int .i64 j ∧ Below w.heap.size w wr ∧ Hid (Blk wr w.heap.size 5 ((l ++ lowB v.toNat j).map cel ++ zer (k - j)))) (fun i _ _ => k - (intOf i).toNat)
  case atStart => exact ⟨0, Nat.zero_le _, rfl, hbel2, by simpa [lowB_zero] using hB2⟩
  case round =>
    obtain ⟨j, hj, rfl, hbr, hBr⟩ := hrel
    by_cases hlt : j < k
    · have c1 : wr.cell? ⟨w.heap.size, n + j, none⟩ = some (cel 0) := by
        rw [hBr.out.cell, List.getElem?_append_right (by simp [H.out.1, lowB_length])]
        rw [List.length_map, List.length_append, H.out.1, lowB_length, Nat.sub_self, zer, List.getElem?_replicate, if_pos (by omega)]
      have f1 : wr.frozen? ⟨w.heap.size, n + j, none⟩ = false := hBr.out.frozen _
      go_wp2_with fail
      go_roundw
      case rel => exact ⟨j + 1, by omega, by go_num, hbr.setCell (Nat.le_refl _) _, laid_step hv H.out.1 hlt hBr.out⟩
      case measure => simp [intOf]; omega
    · go_wp2_with fail
      go_ret
      obtain rfl : j = k := by omega
      refine ⟨rfl, ?_, hbr⟩
      have := hBr.out
      rw [Nat.sub_self] at this
      simpa [zer] using this
end Go.Proofs.YtbljghjhpkhcaaaDoor
