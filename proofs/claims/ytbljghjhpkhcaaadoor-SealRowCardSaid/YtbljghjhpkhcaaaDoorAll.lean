/- Contracts of seal.All and of the reference's All. -/
import Derived.Test.YtbljghjhpkhcaaaDoorMany
import Derived.Test.YtbljghjhpkhcaaaDoorRefFirst
import Derived.WalkMore
import Derived.Laws.IdiomStrings
namespace Go.Proofs.YtbljghjhpkhcaaaDoor
open Go.RowKit

/-- Where the frame number k begins. -/
def atA (l : List UInt8) : Nat → Nat
  | 0 => 0
  | k + 1 => atA l k + fstN (l.drop (atA l k))
/-- The first k frames. -/
def rowsA (l : List UInt8) : Nat → List (List UInt8)
  | 0 => []
  | k + 1 => rowsA l k ++ [fstB (l.drop (atA l k))]
def OkA (l : List UInt8) (k : Nat) : Prop := ∀ j, j < k → atA l j < l.length ∧ fstE (l.drop (atA l j)) = 0
def EndA (l : List UInt8) (ls : List (List UInt8)) (n : Nat) (e : Int) : Prop :=
  ∃ k, OkA l k ∧ ls = rowsA l k ∧ n = atA l k ∧ ((l.length ≤ n ∧ e = 0) ∨ (n < l.length ∧ fstE (l.drop n) = e ∧ e ≠ 0))

theorem fstE_zero {l : List UInt8} (h : fstE l = 0) : fstOk l := by
  unfold fstE at h
  by_cases h1 : l.length < 8
  · rw [if_pos h1] at h; cases h
  · rw [if_neg h1] at h
    by_cases h2 : 1048576 < flen l
    · rw [if_pos h2] at h; cases h
    · rw [if_neg h2] at h
      by_cases h3 : l.length < 8 + flen l
      · rw [if_pos h3] at h; cases h
      · rw [if_neg h3] at h
        by_cases h4 : fsum ((l.drop 8).take (flen l)) = ofB ((l.drop 4).take 4)
        · exact ⟨by omega, by omega, by omega, h4⟩
        · rw [if_neg h4] at h; cases h

theorem rowsA_length (l : List UInt8) (k : Nat) : (rowsA l k).length = k := by
  induction k with
  | zero => rfl
  | succ k ih => rw [rowsA, List.length_append, ih]; rfl

theorem atA_step {l : List UInt8} {k : Nat} (h : fstE (l.drop (atA l k)) = 0) : atA l k + 8 ≤ atA l (k + 1) ∧ atA l (k + 1) ≤ atA l k + (l.length - atA l k) := by
  have hk := fstE_zero h
  have h3 := hk.2.2.1
  rw [List.length_drop] at h3
  rw [atA, fstN, if_pos hk]
  omega

theorem atA_le {l : List UInt8} {k : Nat} (h : OkA l k) : 8 * k ≤ atA l k ∧ atA l k ≤ l.length := by
  induction k with
  | zero => exact ⟨Nat.le_refl _, Nat.zero_le _⟩
  | succ k ih =>
    have h1 := ih fun j hj => h j (by omega)
    have h2 := atA_step (h k (by omega)).2
    have h3 := (h k (by omega)).1
    omega

theorem EndA.same {l : List UInt8} {ls ls' : List (List UInt8)} {n n' : Nat} {e e' : Int} (h : EndA l ls n e) (h' : EndA l ls' n' e') : ls = ls' ∧ n = n' ∧ e = e' := by
  obtain ⟨k, hk, rfl, rfl, hE⟩ := h
  obtain ⟨k', hk', rfl, rfl, hE'⟩ := h'
  have : k = k' := by
    rcases Nat.lt_trichotomy k k' with h1 | h1 | h1
    · have h2 := hk' k h1
      rcases hE with h3 | h3
      · omega
      · exact absurd (h3.2.1.symm.trans h2.2) h3.2.2
    · exact h1
    · have h2 := hk k' h1
      rcases hE' with h3 | h3
      · omega
      · exact absurd (h3.2.1.symm.trans h2.2) h3.2.2
  subst this
  refine ⟨rfl, rfl, ?_⟩
  rcases hE with h3 | h3 <;> rcases hE' with h4 | h4
  · rw [h3.2, h4.2]
  · omega
  · omega
  · rw [← h3.2.1, ← h4.2.1]

def AllPost (P : Nat → Prop) (w : World) (l : List UInt8) (e : Ending) (w' : World) : Prop :=
  ∃ A' k c' m E ls, e = .returned (.tuple #[.slice A' k c', .int .i64 (m : Nat), .int .i64 E]) ∧ ls.length = k ∧ EndA l ls m E ∧ Own2 w' w.heap.size P (.slice A' k c') ls ∧ Below w.heap.size w w'

theorem one_cell (w : World) (v : Value) : (w.alloc (.cells #[v] 22)).cell? ⟨w.heap.size, 0, none⟩ = some v :=
  World.cell?_alloc_mark w #[v] 22 (0, 0) 0

set_option maxHeartbeats 2000000 in
theorem all_any (A : Option Addr) (n c : Nat) (l : List UInt8) (w : World) (h : Rd w A n c l) (hnn : n ≤ 4194304) (ht : Tab w) :
    Calls Tryd.prog 21 #[.slice A n c] w fun e w' => AllPost (fun g => w.heap.size ≤ g) w l e w' := by
  have H := Lib.hid h
  have HT := Lib.hid ht
  clear h ht
  go_enter Tryd.func21, Tryd.ntmps21
  go_wp2_with fail
  go_step3
  go_wp2_with fail
  go_step3
  go_wp2_with fail
  go_loopw [5, 6, 7, 8, 9] (fun out at_ e _ _ wr => ∃ (k : Nat) (A' : Option Addr) (R c' p : Nat), out = .slice A' R c' ∧ Hid (R = (rowsA l k).length) ∧ R ≤ p ∧ at_ = .int .i64 p ∧ Hid (p = atA l k) ∧ p ≤ n ∧ e = .int .i64 0 ∧ Hid (OkA l k) ∧ Hid (Own2 wr w.heap.size (fun g => w.heap.size ≤ g) (.slice A' R c') (rowsA l k)) ∧ Below w.heap.size w wr) (fun _ i _ _ _ _ => n - (intOf i).toNat)
  case atStart => exact ⟨0, none, 0, 0, 0, rfl, rfl, Nat.le_refl _, rfl, rfl, Nat.zero_le _, rfl, (show Hid (OkA l 0) from fun j hj => absurd hj (Nat.not_lt_zero _)), (show Hid (Own2 _ _ _ _ _) from Own2.nil _ _ _), Below.refl _ _⟩
  case round =>
    obtain ⟨k, A', R, c', p, rfl, hR, hRp, rfl, hp, hpn, rfl, hok, ho, hb⟩ := hrel
    by_cases hlt : p < n
    · obtain ⟨A2, hsl, hR2, _⟩ := cut_from (H.out.below hb) p hpn .i64
      have ct := first_any A2 _ _ _ wr hR2 (by omega) (HT.out.below hb)
      by_cases hE : fstE (l.drop p) = 0
      · rw [hE] at ct
        have st := atA_step (l := l) (k := k) (by rw [← hp.out]; exact hE)
        have hN : atA l (k + 1) = p + fstN (l.drop p) := by rw [atA, ← hp.out]
        have hB : rowsA l (k + 1) = rowsA l k ++ [fstB (l.drop p)] := by rw [rowsA, ← hp.out]
        rw [← hp.out, hN, H.out.1] at st
        have HN := Lib.hid hN
        have HB := Lib.hid hB
        have HE := Lib.hid hE
        generalize fstN (l.drop p) = q at *
        have C := Lib.hid ct
        obtain ⟨st1, st2⟩ := st
        have hq : (p : Int) + (q : Int) ≤ 4194304 := by omega
        clear ct hN hB hR2 hE
        go_wp2_with fail
        refine C.out.mono ?_
        rintro e w2 ⟨A3, k3, c3, rfl, hk3, ho3, hb3⟩
        have O3 := Lib.hid (ho3.mono hb.size)
        have O2 := Lib.hid (ho.out.kept hb3)
        have hb3' : Below w.heap.size w w2 := hb.trans (hb3.mono hb.size)
        have HK3 := Lib.hid hk3
        clear ho ho3 hk3 hsl C
        go_wp2_with (at_builtin; refine wpList_append_row rfl (.tmp 24) (.tmp 26) rfl w.heap.size _ _ R _ rfl (O2.out.kept ((Below.refl _ _).alloc (Nat.le_refl _) (.cells #[.slice A3 k3 c3] 22))) hR.out.symm w2.heap.size 1 A3 k3 c3 _ rfl (one_cell _ _) (O3.out.rd.below ((Below.refl _ _).alloc (Nat.le_refl _) _)) (O3.out.row O2.out fun _ h => h) (by omega) (Nat.le_trans hb3'.size (by simp)) w.heap.size w (hb3'.alloc hb3'.size _) (Nat.le_refl _) ?_)
        intro A4 c4 w4 ho4 hb4
        have O4 := Lib.hid ho4
        clear ho4 O2 O3
        go_wp2_with fail
        go_roundw
        case rel => exact ⟨k + 1, A4, R + 1, c4, p + q, rfl, by show _ = _; rw [rowsA_length, hR.out, rowsA_length], by omega, by go_num, HN.out.symm, by omega, rfl, by
          intro j hj
          by_cases h : j < k
          · exact hok.out j h
          · obtain rfl : j = k := by omega
            rw [← hp.out, H.out.1]
            exact ⟨hlt, HE.out⟩, by rw [HB.out]; exact O4, hb4⟩
        case measure => simp [intOf]; omega
      · generalize hEE : fstE (l.drop p) = E at *
        have HEE := Lib.hid hEE
        have hne : (E != 0) = true := by simp [hE]
        have HE := Lib.hid hE
        have C := Lib.hid ct
        clear hEE hE ct hR2
        go_wp2_with fail
        refine C.out.mono ?_
        rintro e w2 ⟨A3, k3, c3, rfl, hk3, ho3, hb3⟩
        have O2 := Lib.hid (ho.out.kept hb3)
        have hb3' : Below w.heap.size w w2 := hb.trans (hb3.mono hb.size)
        clear ho ho3 hk3 hsl C
        go_wp2_with fail
        rw [Exit.noGoto_ret]
        go_ret3
        exact ⟨A', R, c', p, E, rowsA l k, rfl, hR.out.symm, ⟨k, hok.out, rfl, hp.out, .inr ⟨by rw [H.out.1]; exact hlt, HEE.out, HE.out⟩⟩, O2.out, hb3'⟩
    · obtain rfl : p = n := by omega
      go_wp2_with fail
      rw [Exit.noGoto_ret]
      go_ret3
      exact ⟨A', R, c', p, 0, rowsA l k, rfl, hR.out.symm, ⟨k, hok.out, rfl, hp.out, .inl ⟨by rw [H.out.1]; exact Nat.le_refl _, rfl⟩⟩, ho.out, hb⟩
set_option maxHeartbeats 2000000 in
theorem rall_any (A : Option Addr) (n c : Nat) (l : List UInt8) (w : World) (h : Rd w A n c l) (hnn : n ≤ 4194304) :
    Calls Tryd.prog 22 #[.slice A n c] w fun e w' => AllPost (fun _ => True) w l e w' := by
  have H := Lib.hid h
  clear h
  go_enter Tryd.func22, Tryd.ntmps22
  go_wp2_with fail
  go_loopw [5, 6, 7, 8, 9] (fun out at_ _ _ _ wr => ∃ (k : Nat) (A' : Option Addr) (R c' p : Nat), out = .slice A' R c' ∧ Hid (R = (rowsA l k).length) ∧ R ≤ p ∧ at_ = .int .i64 p ∧ Hid (p = atA l k) ∧ p ≤ n ∧ Hid (OkA l k) ∧ Hid (Own2 wr w.heap.size (fun _ => True) (.slice A' R c') (rowsA l k)) ∧ Below w.heap.size w wr) (fun _ i _ _ _ _ => n - (intOf i).toNat)
  case atStart => exact ⟨0, none, 0, 0, 0, rfl, rfl, Nat.le_refl _, rfl, rfl, Nat.zero_le _, (show Hid (OkA l 0) from fun j hj => absurd hj (Nat.not_lt_zero _)), (show Hid (Own2 _ _ _ _ _) from Own2.nil _ _ _), Below.refl _ _⟩
  case round =>
    obtain ⟨k, A', R, c', p, rfl, hR, hRp, rfl, hp, hpn, hok, ho, hb⟩ := hrel
    by_cases hlt : p < n
    · obtain ⟨A2, hsl, hR2, _⟩ := cut_from H.out p hpn .i64
      have ct := rfirst_at A2 _ _ _ wr (hR2.below hb) (by omega)
      by_cases hE : fstE (l.drop p) = 0
      · rw [hE] at ct
        have st := atA_step (l := l) (k := k) (by rw [← hp.out]; exact hE)
        have hN : atA l (k + 1) = p + fstN (l.drop p) := by rw [atA, ← hp.out]
        have hB : rowsA l (k + 1) = rowsA l k ++ [fstB (l.drop p)] := by rw [rowsA, ← hp.out]
        rw [← hp.out, hN, H.out.1] at st
        have HN := Lib.hid hN
        have HB := Lib.hid hB
        have HE := Lib.hid hE
        generalize fstN (l.drop p) = q at *
        have C := Lib.hid ct
        obtain ⟨st1, st2⟩ := st
        have hq : (p : Int) + (q : Int) ≤ 4194304 := by omega
        have HR2 := Lib.hid hR2
        clear ct hN hB hR2 hE
        go_wp2_with fail
        refine C.out.mono ?_
        rintro e w2 ⟨A3, k3, c3, rfl, hk3, ho3, hb3⟩
        have O3 := Lib.hid (ho3 w HR2.out)
        have O2 := Lib.hid (ho.out.kept hb3)
        have hb3' : Below w.heap.size w w2 := hb.trans (hb3.mono hb.size)
        have HK3 := Lib.hid hk3
        clear ho ho3 hk3 hsl C
        go_wp2_with (at_builtin; refine wpList_append_row rfl (.tmp 27) (.tmp 29) rfl w.heap.size _ _ R _ rfl (O2.out.kept ((Below.refl _ _).alloc (Nat.le_refl _) (.cells #[.slice A3 k3 c3] 22))) hR.out.symm w2.heap.size 1 A3 k3 c3 _ rfl (one_cell _ _) (O3.out.below (hb3'.alloc hb3'.size _)) (O2.out.far O3.out) (by omega) (Nat.le_trans hb3'.size (by simp)) w.heap.size w (hb3'.alloc hb3'.size _) (Nat.le_refl _) ?_)
        intro A4 c4 w4 ho4 hb4
        have O4 := Lib.hid ho4
        clear ho4 O2 O3
        go_wp2_with fail
        go_roundw
        case rel => exact ⟨k + 1, A4, R + 1, c4, p + q, rfl, by show _ = _; rw [rowsA_length, hR.out, rowsA_length], by omega, by go_num, HN.out.symm, by omega, by
          intro j hj
          by_cases h : j < k
          · exact hok.out j h
          · obtain rfl : j = k := by omega
            rw [← hp.out, H.out.1]
            exact ⟨hlt, HE.out⟩, by rw [HB.out]; exact O4, hb4⟩
        case measure => simp [intOf]; omega
      · generalize hEE : fstE (l.drop p) = E at *
        have HEE := Lib.hid hEE
        have hne : (E != 0) = true := by simp [hE]
        have HE := Lib.hid hE
        have C := Lib.hid ct
        clear hEE hE ct hR2
        go_wp2_with fail
        refine C.out.mono ?_
        rintro e w2 ⟨A3, k3, c3, rfl, hk3, ho3, hb3⟩
        have O2 := Lib.hid (ho.out.kept hb3)
        have hb3' : Below w.heap.size w w2 := hb.trans (hb3.mono hb.size)
        clear ho ho3 hk3 hsl C
        go_wp2_with fail
        go_ret3
        exact ⟨A', R, c', p, E, rowsA l k, rfl, hR.out.symm, ⟨k, hok.out, rfl, hp.out, .inr ⟨by rw [H.out.1]; exact hlt, HEE.out, HE.out⟩⟩, O2.out, hb3'⟩
    · obtain rfl : p = n := by omega
      go_wp2_with fail
      go_ret3
      exact ⟨A', R, c', p, 0, rowsA l k, rfl, hR.out.symm, ⟨k, hok.out, rfl, hp.out, .inl ⟨by rw [H.out.1]; exact Nat.le_refl _, rfl⟩⟩, ho.out, hb⟩
end Go.Proofs.YtbljghjhpkhcaaaDoor
