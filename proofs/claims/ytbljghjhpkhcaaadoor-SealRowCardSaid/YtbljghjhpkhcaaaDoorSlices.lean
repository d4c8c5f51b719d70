/- Contracts of slices.Grow, Concat, Clone and Equal at bytes. -/
import Derived.Test.YtbljghjhpkhcaaaDoorMem
import Derived.Lib.AppendZeros
import Derived.Lib.SliceRun
import Derived.Deep.QuietTactic
import Derived.BigQuiet
namespace Go.Proofs.YtbljghjhpkhcaaaDoor
open Go.RowKit

set_option maxHeartbeats 400000 in
theorem grow_nil (n : Nat) (w : World) (h0 : 0 < n) (hn : n ≤ 4194304) :
    Calls Tryd.prog 36 #[.slice none 0 0, .int .i64 n] w fun e w' => ∃ A' c', e = .returned (.slice A' 0 c') ∧ Own w' w.heap.size (.slice A' 0 c') [] ∧ Below w.heap.size w w' := by
  obtain ⟨i, hi, hz0, hz1, hz2⟩ := info_parts Tryd.info5
  have hr := fun ty => Lib.run_append_nil_zeros (P := Tryd.prog) w 22 3 ty 5 i (.int .u8 0) .i64 .i64 Tryd.underlying22 Tryd.underlying3 hi hz0 n h0 (by omega) (by omega) (by rw [hz2]; omega)
  have HR := Lib.hid hr
  clear hr
  go_enter Tryd.func36, Tryd.ntmps36
  go_wp2_with (at_builtin; refine Lib.wpList_append_run _ rfl (.tmp 20) (.tmp 21) 22 3 rfl _ _ rfl rfl _ _ (HR.out _) ?_)
  go_ret
  have hc := grownCap_ge w n 0 5
  have hm := grownCap_le_maxLen w n 0 5 (by unfold maxLen; omega)
  refine ⟨_, _, rfl, ⟨rfl, .inr ⟨w.heap.size, grownCap w n 0 5, _, rfl, Nat.le_refl _, heap_alloc_new w _, Nat.zero_le _, hm, ?_, rfl⟩⟩, ((Below.refl _ _).alloc (Nat.le_refl _) _).drew⟩
  simp only [Array.size_append, size_zeroCells]
  show n * 1 + (grownCap w n 0 5 - n) * 1 = grownCap w n 0 5 * 1
  omega

theorem flat_step {ls : List (List UInt8)} {j : Nat} {l : List UInt8} (h : ls[j]? = some l) : (ls.take (j + 1)).flatten = (ls.take j).flatten ++ l := by
  rw [List.take_add_one, h, Option.toList_some, List.flatten_append]
  simp
theorem flat_le (ls : List (List UInt8)) (j : Nat) : (ls.take j).flatten.length ≤ ls.flatten.length := by
  conv => rhs; rw [← List.take_append_drop j ls, List.flatten_append, List.length_append]
  omega

/-- The rows of a slice of slices of bytes: row i is the slice value rows i and reads as the bytes ls i. -/
def Rows2 (w : World) (g off : Nat) (rows : List (Option Addr × Nat × Nat)) (ls : List (List UInt8)) : Prop :=
  rows.length = ls.length ∧ ∀ (i : Nat) r l, rows[i]? = some r → ls[i]? = some l → w.cell? ⟨g, off + i, none⟩ = some (.slice r.1 r.2.1 r.2.2) ∧ Rd w r.1 r.2.1 r.2.2 l

set_option maxHeartbeats 1000000 in
theorem concat_any (g k kc : Nat) (rows : List (Option Addr × Nat × Nat)) (ls : List (List UInt8)) (w : World) (hg : g < w.heap.size) (h : Rows2 w g 0 rows ls) (hk : ls.length = k) (hkk : k ≤ kc) (hkc : kc ≤ 100) (h0 : 0 < ls.flatten.length) (hn : ls.flatten.length ≤ 4194304) :
    Calls Tryd.prog 33 #[.slice (some ⟨g, 0, none⟩) k kc] w fun e w' => ∃ A' n' c', e = .returned (.slice A' n' c') ∧ n' = ls.flatten.length ∧ Own w' w.heap.size (.slice A' n' c') ls.flatten ∧ Below w.heap.size w w' := by
  have H := Lib.hid h
  have HK := Lib.hid hk
  obtain ⟨L, hL⟩ : ∃ L, L = ls.flatten.length := ⟨_, rfl⟩
  have HG := Lib.hid (grow_nil L w (by omega) (by omega))
  have hle := flat_le ls
  have HL := Lib.hid hle
  have hLn : L ≤ 4194304 := by omega
  have HLL := Lib.hid hL
  clear h hk h0 hle hn hL
  go_enter Tryd.func33, Tryd.ntmps33
  go_wp2_with fail
  go_loop [3, 5, 11] (fun s _ i => ∃ j : Nat, j ≤ k ∧ i = .int .i64 j ∧ s = .int .i64 ((ls.take j).flatten.length : Nat)) (fun _ _ i => k - (intOf i).toNat)
  case atStart => exact ⟨0, Nat.zero_le _, rfl, rfl⟩
  case round =>
    obtain ⟨j, hj, rfl, rfl⟩ := hrel
    by_cases hlt : j < k
    · obtain ⟨l, hl⟩ : ∃ l, ls[j]? = some l := ⟨_, List.getElem?_eq_getElem (by have := HK.out; omega)⟩
      obtain ⟨r, hr⟩ : ∃ r, rows[j]? = some r := ⟨_, List.getElem?_eq_getElem (by have := HK.out; have := H.out.1; omega)⟩
      obtain ⟨A, n, c⟩ := r
      obtain ⟨hc, hR⟩ := H.out.2 j _ l hr hl
      rw [Nat.zero_add] at hc
      have e1 : (ls.take (j + 1)).flatten.length = (ls.take j).flatten.length + n := by rw [flat_step hl, List.length_append, hR.1]
      have hb := HL.out (j + 1)
      rw [← HLL.out] at hb
      obtain ⟨t', ht'⟩ : ∃ t', t' = (ls.take (j + 1)).flatten.length := ⟨_, rfl⟩
      rw [← ht'] at e1 hb
      generalize (ls.take j).flatten.length = t at *
      have e2 : ((t' : Nat) : Int) = (t : Int) + (n : Int) := by omega
      have hb1 : (t : Int) + (n : Int) ≤ 4194304 := by omega
      have E2 := Lib.hid e2
      have HT := Lib.hid ht'
      clear e1 e2 ht' hl hr hR
      go_wp2_with fail
      go_round
      case rel => exact ⟨j + 1, by omega, by go_num, by rw [← HT.out, E2.out]⟩
      case measure => simp [intOf]; omega
    · obtain rfl : j = k := by omega
      have e : ls.take j = ls := List.take_of_length_le (by rw [HK.out]; exact Nat.le_refl _)
      rw [e, ← HLL.out]
      clear e
      go_wp2_with fail
      refine HG.out.mono ?_
      rintro e w1 ⟨A1, c1, rfl, ho1, hb1⟩
      have O1 := Lib.hid ho1
      clear ho1
      go_wp2_with fail
      go_loopw [6, 8, 27] (fun s _ i wr => ∃ m : Nat, m ≤ j ∧ i = .int .i64 m ∧ ∃ A' n' c', s = .slice A' n' c' ∧ Hid (n' = (ls.take m).flatten.length) ∧ Hid (Own wr w.heap.size (.slice A' n' c') (ls.take m).flatten) ∧ Below w.heap.size w wr) (fun _ _ i _ => j - (intOf i).toNat)
      case atStart => exact ⟨0, Nat.zero_le _, rfl, A1, 0, c1, rfl, rfl, O1, hb1⟩
      case round =>
        obtain ⟨m, hm, rfl, A', n', c', rfl, hn', ho, hbr⟩ := hrel
        by_cases hlt2 : m < j
        · obtain ⟨l, hl⟩ : ∃ l, ls[m]? = some l := ⟨_, List.getElem?_eq_getElem (by have := HK.out; omega)⟩
          obtain ⟨r, hr⟩ : ∃ r, rows[m]? = some r := ⟨_, List.getElem?_eq_getElem (by have := HK.out; have := H.out.1; omega)⟩
          obtain ⟨A, n, c⟩ := r
          obtain ⟨hc, hR⟩ := H.out.2 m _ l hr hl
          rw [Nat.zero_add] at hc
          have hc' : wr.cell? ⟨g, m, none⟩ = some (.slice A n c) := (hbr.cell (p := ⟨g, m, none⟩) hg).trans hc
          have R := Lib.hid (hR.below hbr)
          have e1 : (ls.take (m + 1)).flatten = (ls.take m).flatten ++ l := flat_step hl
          have hb := HL.out (m + 1)
          rw [e1, List.length_append, hR.1, ← HLL.out] at hb
          have hnn : n' + n ≤ 4194304 := by have := hn'.out; have hb' : (ls.take m).flatten.length + n ≤ L := hb; omega
          have E1 := Lib.hid e1
          have E3 : Hid (l.length = n) := hR.1
          clear hc hl hr hR e1 hb
          go_wp2_with (at_builtin; refine wpList_append_bytes rfl (.tmp 31) (.tmp 32) rfl w.heap.size _ n' _ rfl ho.out hn'.out.symm A n c l rfl R.out (by omega) hbr.size w.heap.size w hbr (Nat.le_refl _) ?_)
          intro A2 c2 w2 ho2 hb2
          have O2 := Lib.hid ho2
          clear ho2
          go_wp2_with fail
          go_roundw
          case rel => exact ⟨m + 1, by omega, by go_num, A2, n' + n, c2, rfl, by show _ = _; rw [E1.out, List.length_append, E3.out, hn'.out], by rw [E1.out]; exact O2, hb2⟩
          case measure => simp [intOf]; omega
        · obtain rfl : m = j := by omega
          have e : ls.take m = ls := List.take_of_length_le (by rw [HK.out]; exact Nat.le_refl _)
          rw [e] at hn' ho
          clear e
          go_wp2_with fail
          go_ret
          exact ⟨A', n', c', rfl, hn'.out, ho.out, hbr⟩

theorem Own.empty (w : World) : Own (w.alloc (.cells #[] 5)) w.heap.size (.slice (some ⟨w.heap.size, 0, none⟩) 0 0) [] :=
  Own.of_blk0 (l := []) (Blk.new w 5 []) rfl rfl (Nat.zero_le _) (Nat.le_refl _)

set_option maxHeartbeats 400000 in
theorem clone_any (A : Option Addr) (n c : Nat) (l : List UInt8) (w : World) (h : Rd w A n c l) (hn : n ≤ 4194304) :
    Calls Tryd.prog 29 #[.slice A n c] w fun e w' => ∃ A' c', e = .returned (.slice A' n c') ∧ Own w' w.heap.size (.slice A' n c') l ∧ Below w.heap.size w w' := by
  have he := Lib.run_eql_slice_nil (P := Tryd.prog) w 22 5 A n c 0 0 Tryd.underlying22
  have hl := h.1
  have hz : A = none → n = 0 ∧ l = [] := by
    intro hA
    have : n = 0 := by
      rcases Nat.eq_zero_or_pos n with h0 | h0
      · exact h0
      · obtain ⟨b, off, hA', _⟩ := h.2.2.2 h0
        rw [hA] at hA'
        cases hA'
    exact ⟨this, List.eq_nil_of_length_eq_zero (by omega)⟩
  have H := Lib.hid h
  have HZ := Lib.hid hz
  clear h hl hz
  cases A with
  | none =>
    obtain ⟨rfl, rfl⟩ := HZ.out rfl
    go_enter Tryd.func29, Tryd.ntmps29
    go_wp2_with fail
    go_ret
    exact ⟨none, 0, rfl, Own.nil _ _, Below.refl _ _⟩
  | some a =>
    go_enter Tryd.func29, Tryd.ntmps29
    go_wp2_with (at_builtin; refine wpList_append_bytes rfl (.tmp 5) (.tmp 6) rfl w.heap.size _ 0 [] rfl (Own.empty w) rfl (some a) n c l rfl (H.out.below ((Below.refl _ _).alloc (Nat.le_refl _) _)) (by omega) (by simp) w.heap.size w ((Below.refl _ _).alloc (Nat.le_refl _) _) (Nat.le_refl _) ?_)
    intro A' c' w' ho hb
    go_wp2_with fail
    go_ret
    exact ⟨A', c', rfl, ho, hb⟩

set_option maxHeartbeats 400000 in
theorem equal_len (A1 A2 : Option Addr) (n1 c1 n2 c2 : Nat) (w : World) (hn : n1 ≠ n2) :
    Calls Tryd.prog 30 #[.slice A1 n1 c1, .slice A2 n2 c2] w fun e w' => e = .returned (.bool false) ∧ ∃ m, w' = w.drewN m := by
  have h1 : ((n1 : Int) != (n2 : Int)) = true := by simp; omega
  clear hn
  go_enter Tryd.func30, Tryd.ntmps30
  go_wp2_with fail
  go_ret
  exact ⟨rfl, 0, rfl⟩

set_option maxHeartbeats 400000 in
theorem equal_any (A1 A2 : Option Addr) (n c1 c2 : Nat) (l1 l2 : List UInt8) (w : World) (h1 : Rd w A1 n c1 l1) (h2 : Rd w A2 n c2 l2) :
    Calls Tryd.prog 30 #[.slice A1 n c1, .slice A2 n c2] w fun e w' => e = .returned (.bool (l1 == l2)) ∧ ∃ m, w' = w.drewN m := by
  have hcap := h1.2.2.1
  unfold maxLen at hcap
  have hnc := h1.2.1
  have H1 := Lib.hid h1
  have H2 := Lib.hid h2
  clear h1 h2
  go_enter Tryd.func30, Tryd.ntmps30
  go_wp2_with fail
  go_loopw [5, 13] (fun _ i wr => ∃ j : Nat, j ≤ n ∧ i = .int .i64 j ∧ Hid (l1.take j = l2.take j) ∧ ∃ m, wr = w.drewN m) (fun _ i _ => n - (intOf i).toNat)
  case atStart => exact ⟨0, Nat.zero_le _, rfl, rfl, 0, rfl⟩
  case round =>
    obtain ⟨j, hj, rfl, heq, m, rfl⟩ := hrel
    by_cases hlt : j < n
    · obtain ⟨b1, o1, rfl, _, hc1⟩ := H1.out.2.2.2 (by omega)
      obtain ⟨b2, o2, rfl, _, hc2⟩ := H2.out.2.2.2 (by omega)
      obtain ⟨y1, hy1⟩ : ∃ y, l1[j]? = some y := ⟨_, List.getElem?_eq_getElem (by have := H1.out.1; omega)⟩
      obtain ⟨y2, hy2⟩ : ∃ y, l2[j]? = some y := ⟨_, List.getElem?_eq_getElem (by have := H2.out.1; omega)⟩
      have k1 : w.cell? ⟨b1, o1 + j, none⟩ = some (.int .u8 (y1.toNat : Int)) := hc1 j y1 hy1
      have k2 : w.cell? ⟨b2, o2 + j, none⟩ = some (.int .u8 (y2.toNat : Int)) := hc2 j y2 hy2
      have Y1 := Lib.hid hy1
      have Y2 := Lib.hid hy2
      have hj0 : (0 : Int) ≤ (j : Int) := by omega
      have hjn : (j : Int) < (n : Int) := by omega
      clear hy1 hy2 hc1 hc2
      by_cases hyy : y1 = y2
      · have ht : ((y1.toNat : Int) != (y2.toNat : Int)) = false := by rw [hyy]; simp
        have HY := Lib.hid hyy
        clear hyy
        go_wp2_with fail
        go_quiet (fail)
        go_wp2_with fail
        go_roundw
        case rel => exact ⟨j + 1, by omega, by go_num, by show _ = _; rw [List.take_add_one, List.take_add_one, heq.out, Y1.out, Y2.out, HY.out], m + nq, by simp⟩
        case measure => simp [intOf]; omega
      · have ht : ((y1.toNat : Int) != (y2.toNat : Int)) = true := by
          simp only [bne_iff_ne, ne_eq]
          intro e
          exact hyy (UInt8.toNat_inj.1 (by omega))
        have HY := Lib.hid hyy
        clear hyy
        go_wp2_with fail
        go_quiet (fail)
        go_wp2_with fail
        go_ret
        have hne : ¬ l1 = l2 := by
          intro e
          have h1 := Y1.out
          rw [e, Y2.out] at h1
          exact HY.out (Option.some.inj h1).symm
        exact ⟨by rw [beq_eq_false_iff_ne.2 hne]; rfl, m + nq, by simp⟩
    · go_wp2_with fail
      go_ret
      have e : l1 = l2 := by
        have := heq.out
        rwa [List.take_of_length_le (by rw [H1.out.1]; omega), List.take_of_length_le (by rw [H2.out.1]; omega)] at this
      exact ⟨by rw [e]; simp, m, rfl⟩
end Go.Proofs.YtbljghjhpkhcaaaDoor
