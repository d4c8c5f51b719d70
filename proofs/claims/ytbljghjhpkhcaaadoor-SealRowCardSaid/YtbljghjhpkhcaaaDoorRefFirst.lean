/- Contract of the document's First. -/
import Derived.Test.YtbljghjhpkhcaaaDoorFirstOf
namespace Go.Proofs.YtbljghjhpkhcaaaDoor
open Go.RowKit

theorem Rd.none_ (w : World) : Rd w none 0 0 [] := ⟨rfl, Nat.le_refl _, Nat.zero_le _, fun h => absurd h (by decide)⟩

set_option maxHeartbeats 400000 in
theorem rfirst_short (A : Option Addr) (n c : Nat) (w : World) (hn : n < 8) :
    Calls Tryd.prog 19 #[.slice A n c] w fun e w' => e = .returned (.tuple #[.slice none 0 0, .int .i64 0, .int .i64 20]) ∧ Below w.heap.size w w' := by
  go_enter Tryd.func19, Tryd.ntmps19
  go_wp2_with fail
  go_ret3
  exact ⟨rfl, Below.refl _ _⟩

set_option maxHeartbeats 400000 in
theorem rfirst_form (A : Option Addr) (n c : Nat) (l : List UInt8) (w : World) (h : Rd w A n c l) (hn : 8 ≤ n) (hx : 1048576 < flen l) :
    Calls Tryd.prog 19 #[.slice A n c] w fun e w' => e = .returned (.tuple #[.slice none 0 0, .int .i64 0, .int .i64 21]) ∧ Below w.heap.size w w' := by
  have hnc := h.2.1
  have hcm : c ≤ 9223372036854775807 := by have := h.2.2.1; unfold maxLen at this; omega
  have co := of_any A 4 c (l.take 4) w (h.take 4 (by omega)) (by decide)
  have hf : ofB (l.take 4) = flen l := rfl
  rw [hf] at co
  generalize flen l = x at *
  have CO := Lib.hid co
  clear h co hf
  go_enter Tryd.func19, Tryd.ntmps19
  go_wp2_with fail
  refine CO.out.mono ?_
  rintro e w' ⟨rfl, rfl⟩
  go_wp2_with fail
  go_ret3
  exact ⟨rfl, Below.refl _ _⟩

set_option maxHeartbeats 400000 in
theorem rfirst_cut (A : Option Addr) (n c : Nat) (l : List UInt8) (w : World) (h : Rd w A n c l) (hn : 8 ≤ n) (hnn : n ≤ 4194304) (hx : flen l ≤ 1048576) (hc : n < 8 + flen l) :
    Calls Tryd.prog 19 #[.slice A n c] w fun e w' => e = .returned (.tuple #[.slice none 0 0, .int .i64 0, .int .i64 20]) ∧ Below w.heap.size w w' := by
  have hnc := h.2.1
  have hcm : c ≤ 9223372036854775807 := by have := h.2.2.1; unfold maxLen at this; omega
  have co := of_any A 4 c (l.take 4) w (h.take 4 (by omega)) (by decide)
  have hf : ofB (l.take 4) = flen l := rfl
  rw [hf] at co
  generalize flen l = x at *
  have CO := Lib.hid co
  clear h co hf
  go_enter Tryd.func19, Tryd.ntmps19
  go_wp2_with fail
  refine CO.out.mono ?_
  rintro e w' ⟨rfl, rfl⟩
  go_wp2_with fail
  go_ret3
  exact ⟨rfl, Below.refl _ _⟩

/-- How the document's First ends where the bytes are all there. -/
def RBodyPost (A : Option Addr) (n c : Nat) (w : World) (l : List UInt8) (x : Nat) (ok : Bool) (e : Ending) (w' : World) : Prop :=
  ∃ A' c', e = .returned (if ok then .tuple #[.slice A' x c', .int .i64 (8 + (x : Int)), .int .i64 0] else .tuple #[.slice none 0 0, .int .i64 0, .int .i64 21]) ∧ (∀ w0, Rd w0 A n c l → Rd w0 A' x c' ((l.drop 8).take x)) ∧ Below w.heap.size w w'

set_option maxHeartbeats 1000000 in
theorem rfirst_body (A : Option Addr) (n c : Nat) (l : List UInt8) (w : World) (h : Rd w A n c l) (hn : 8 ≤ n) (hnn : n ≤ 4194304) (hx : flen l ≤ 1048576) (hc : 8 + flen l ≤ n) (ok : Bool) (hok : (((fsum ((l.drop 8).take (flen l)) : Nat) : Int) != ((ofB ((l.drop 4).take 4) : Nat) : Int)) = !ok) :
    Calls Tryd.prog 19 #[.slice A n c] w (RBodyPost A n c w l (flen l) ok) := by
  have H := Lib.hid h
  have hnc := h.2.1
  have hcm : c ≤ 9223372036854775807 := by have := h.2.2.1; unfold maxLen at this; omega
  have co := of_any A 4 c (l.take 4) w (h.take 4 (by omega)) (by decide)
  have hf : ofB (l.take 4) = flen l := rfl
  rw [hf] at co
  obtain ⟨A1, hs1, hR1, _⟩ := cut_both h 8 (8 + flen l) (by omega) hc .i64 .i64
  have hAll : ∀ w0, Rd w0 A n c l → Rd w0 A1 (8 + flen l - 8) (c - 8) ((l.take (8 + flen l)).drop 8) := by
    intro w0 h0
    obtain ⟨A1', hs', hR', _⟩ := cut_both h0 8 (8 + flen l) (by omega) hc .i64 .i64
    have e := (hs1 w).symm.trans (hs' w)
    injection e with e
    injection e with e
    rw [e]
    exact hR'
  rw [show 8 + flen l - 8 = flen l by omega, List.drop_take, show 8 + flen l - 8 = flen l by omega] at hR1 hAll
  have hs1' : ∀ W, (Instr.slice 22 (.slice A n c) (some (.int .i64 8)) (some (.int .i64 (8 + (flen l : Int)))) none).run Tryd.prog W = .ok (.slice A1 (flen l) (c - 8)) W := by
    intro W
    have := hs1 W
    rw [show 8 + flen l - 8 = flen l by omega] at this
    exact this
  obtain ⟨A2, hs2, hR2, _⟩ := cut_both h 4 8 (by decide) hn .i64 .i64
  rw [List.drop_take] at hR2
  have hs2' : ∀ W, (Instr.slice 22 (.slice A n c) (some (.int .i64 4)) (some (.int .i64 8)) none).run Tryd.prog W = .ok (.slice A2 4 (c - 4)) W := hs2
  have hS := fsum_lt ((l.drop 8).take (flen l))
  have hO := ofB_lt ((l.drop 4).take 4)
  have hO4 : ((l.drop 4).take 4).length = 4 := by rw [List.length_take, List.length_drop, h.1]; omega
  rw [hO4] at hO
  obtain ⟨bd, hbd⟩ : ∃ bd, bd = (l.drop 8).take (flen l) := ⟨_, rfl⟩
  rw [← hbd] at hok hR1 hS
  have HBD := Lib.hid hbd
  have RA := Lib.hid hAll
  clear hAll
  have CS : Hid (∀ W, Below w.heap.size w W → Calls Tryd.prog 26 #[.slice A1 (flen l) (c - 8)] W fun e w' => e = .returned (.int .u32 (fsum bd : Nat)) ∧ Below W.heap.size W w') := fun W hb => summed_any A1 _ _ bd W (hR1.below hb) (by omega)
  have CF : Hid (∀ W, Below w.heap.size w W → Calls Tryd.prog 31 #[.slice A2 4 (c - 4)] W fun e w' => e = .returned (.int .u64 (ofB ((l.drop 4).take 4) : Nat)) ∧ W = w') := fun W hb => of_any A2 4 _ _ W (hR2.below hb) (by decide)
  have R1 := Lib.hid hR1
  generalize fsum bd = s at *
  generalize ofB ((l.drop 4).take 4) = o at *
  clear hR1 hR2 hs1 hs2 hO4 hbd hf h
  generalize flen l = x at *
  have CO := Lib.hid co
  clear co
  go_enter Tryd.func19, Tryd.ntmps19
  go_wp2_with fail
  refine CO.out.mono ?_
  rintro e w' ⟨rfl, rfl⟩
  go_wp2_with fail
  have hw : IntKind.u64.wrap (s : Int) = (s : Int) := by rw [IntKind.wrap_u64]; omega
  go_region_with (first
    | (go_at_call 26; go_must (refine (CS.out _ (Below.refl _ _).drew).mono ?_); rintro e w4 ⟨rfl, hb4⟩; have hb4' : Below w.heap.size w w4 := (Below.refl _ _).drew.trans hb4)
    | (go_at_call 31; go_must (refine (CF.out _ hb4').mono ?_); rintro e w5 ⟨rfl, rfl⟩))
  all_goals cases ok
  all_goals (go_wp2_with fail; go_ret3; exact ⟨A1, c - 8, rfl, RA.out, hb4'⟩)

/-- The document's First, whatever the bytes; its body reads wherever the bytes read. -/
theorem rfirst_at (A : Option Addr) (n c : Nat) (l : List UInt8) (w : World) (h : Rd w A n c l) (hnn : n ≤ 4194304) :
    Calls Tryd.prog 19 #[.slice A n c] w fun e w' => ∃ A' k c', e = .returned (.tuple #[.slice A' k c', .int .i64 (fstN l : Nat), .int .i64 (fstE l)]) ∧ k = (fstB l).length ∧ (∀ w0, Rd w0 A n c l → Rd w0 A' k c' (fstB l)) ∧ Below w.heap.size w w' := by
  have hl := h.1
  have no (E : Int) (hE : fstE l = E) (hno : ¬ fstOk l) (cc : Calls Tryd.prog 19 #[.slice A n c] w fun e w' => e = .returned (.tuple #[.slice none 0 0, .int .i64 0, .int .i64 E]) ∧ Below w.heap.size w w') :
      Calls Tryd.prog 19 #[.slice A n c] w fun e w' => ∃ A' k c', e = .returned (.tuple #[.slice A' k c', .int .i64 (fstN l : Nat), .int .i64 (fstE l)]) ∧ k = (fstB l).length ∧ (∀ w0, Rd w0 A n c l → Rd w0 A' k c' (fstB l)) ∧ Below w.heap.size w w' := by
    rw [fstN, fstB, if_neg hno, if_neg hno, hE]
    exact cc.mono fun e w' ⟨he, hb⟩ => ⟨none, 0, 0, he, rfl, fun w0 _ => Rd.none_ w0, hb⟩
  by_cases h8 : n < 8
  · exact no 20 (by rw [fstE, if_pos (by omega)]) (fun hh => by have := hh.1; omega) (rfirst_short A n c w h8)
  · by_cases hx : 1048576 < flen l
    · exact no 21 (by rw [fstE, if_neg (by omega), if_pos hx]) (fun hh => by have := hh.2.1; omega) (rfirst_form A n c l w h (by omega) hx)
    · by_cases hc : n < 8 + flen l
      · exact no 20 (by rw [fstE, if_neg (by omega), if_neg hx, if_pos (by omega)]) (fun hh => by have := hh.2.2.1; omega) (rfirst_cut A n c l w h (by omega) hnn (by omega) hc)
      · by_cases hs : fsum ((l.drop 8).take (flen l)) = ofB ((l.drop 4).take 4)
        · have hok : fstOk l := ⟨by omega, by omega, by omega, hs⟩
          have hb := rfirst_body A n c l w h (by omega) hnn (by omega) (by omega) true (by rw [hs]; simp)
          have hk := fstB_length l hok
          rw [fstN, if_pos hok, fstE, if_neg (by omega), if_neg hx, if_neg (by omega), if_pos hs, hk]
          rw [fstB, if_pos hok]
          exact hb.mono fun e w' ⟨A', c', he, ho, hbb⟩ => ⟨A', flen l, c', he, rfl, ho, hbb⟩
        · have hb := rfirst_body A n c l w h (by omega) hnn (by omega) (by omega) false (by simp only [Bool.not_false, bne_iff_ne, ne_eq]; omega)
          exact no 21 (by rw [fstE, if_neg (by omega), if_neg hx, if_neg (by omega), if_neg hs]) (fun hh => hs hh.2.2.2) (hb.mono fun e w' ⟨A', c', he, _, hbb⟩ => ⟨he, hbb⟩)
theorem rfirst_any (A : Option Addr) (n c : Nat) (l : List UInt8) (w : World) (h : Rd w A n c l) (hnn : n ≤ 4194304) :
    Calls Tryd.prog 19 #[.slice A n c] w fun e w' => ∃ A' k c', e = .returned (.tuple #[.slice A' k c', .int .i64 (fstN l : Nat), .int .i64 (fstE l)]) ∧ k = (fstB l).length ∧ Rd w' A' k c' (fstB l) ∧ Below w.heap.size w w' :=
  (rfirst_at A n c l w h hnn).mono fun _ _ ⟨A', k, c', he, hk, hr, hb⟩ => ⟨A', k, c', he, hk, hr _ (h.below hb), hb⟩
end Go.Proofs.YtbljghjhpkhcaaaDoor
