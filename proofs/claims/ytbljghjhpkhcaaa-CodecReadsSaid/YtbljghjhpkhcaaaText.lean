/- Contract of the reader's Text. -/
import Derived.Test.YtbljghjhpkhcaaaRead
namespace Go.Proofs.Ytbljghjhpkhcaaa
open Go.RowKit

/-- What Text answers of the bytes ahead. -/
def txtOk (l : List UInt8) : Prop := 4 ≤ l.length ∧ ofB (l.take 4) ≤ 65536 ∧ 4 + ofB (l.take 4) ≤ l.length
instance (l : List UInt8) : Decidable (txtOk l) := by unfold txtOk; infer_instance
def txtB (l : List UInt8) : List UInt8 := if txtOk l then (l.take (4 + ofB (l.take 4))).drop 4 else []
def txtE (l : List UInt8) : Int := if l.length < 4 then 10 else if 65536 < ofB (l.take 4) then 11 else if l.length < 4 + ofB (l.take 4) then 10 else 0
def txtRest (l : List UInt8) : List UInt8 := if txtOk l then l.drop (4 + ofB (l.take 4)) else l

set_option maxHeartbeats 400000 in
theorem text_short (q : Nat) (l : List UInt8) (w : World) (h : Rdr w q l) (hl : l.length < 4) :
    Calls Try.prog 29 #[.pointer (some ⟨q, 0, none⟩)] w fun e w' => e = .returned (.tuple #[.string ⟨#[]⟩, .int .i64 10]) ∧ w = w' := by
  have H := Lib.hid h
  clear h
  go_enter Try.func29, Try.ntmps29
  go_wp2_with fail
  refine (first_no q 4 l w H.out hl).mono ?_
  rintro e w' ⟨rfl, rfl⟩
  go_wp2_with fail
  go_ret2
  exact ⟨rfl, rfl⟩

set_option maxHeartbeats 400000 in
theorem text_form (q : Nat) (l : List UInt8) (w : World) (h : Rdr w q l) (hl : 4 ≤ l.length) (hv : 65536 < ofB (l.take 4)) :
    Calls Try.prog 29 #[.pointer (some ⟨q, 0, none⟩)] w fun e w' => e = .returned (.tuple #[.string ⟨#[]⟩, .int .i64 11]) ∧ w = w' := by
  have c := first_yes q 4 l w h (by decide) (by decide) hl
  clear h
  generalize ofB (l.take 4) = x at *
  have HC := Lib.hid c
  clear c
  go_enter Try.func29, Try.ntmps29
  go_wp2_with fail
  refine HC.out.mono ?_
  rintro e w' ⟨rfl, rfl⟩
  go_wp2_with fail
  go_ret2
  exact ⟨rfl, rfl⟩

set_option maxHeartbeats 400000 in
theorem text_cut (q : Nat) (l : List UInt8) (w : World) (h : Rdr w q l) (hl : 4 ≤ l.length) (hv : ofB (l.take 4) ≤ 65536) (hx : l.length < 4 + ofB (l.take 4)) :
    Calls Try.prog 29 #[.pointer (some ⟨q, 0, none⟩)] w fun e w' => e = .returned (.tuple #[.string ⟨#[]⟩, .int .i64 10]) ∧ w = w' := by
  have cc := first_yes q 4 l w h (by decide) (by decide) hl
  obtain ⟨A, n, c, hB, hR, hne⟩ := h
  have hn : 4 ≤ n := by have := hR.1; omega
  have hnx : n < 4 + ofB (l.take 4) := by have := hR.1; omega
  have hcap := hR.2.2.1
  have hnc := hR.2.1
  unfold maxLen at hcap
  have c0 : w.cell? ⟨q, 0, none⟩ = some (.slice A n c) := hB.cell 0
  clear hB hR hne
  generalize ofB (l.take 4) = x at *
  have HC := Lib.hid cc
  clear cc
  go_enter Try.func29, Try.ntmps29
  go_wp2_with fail
  refine HC.out.mono ?_
  rintro e w' ⟨rfl, rfl⟩
  go_wp2_with fail
  go_ret2
  exact ⟨rfl, rfl⟩

set_option maxHeartbeats 400000 in
theorem text_ok (P : Nat → Prop) (q : Nat) (l : List UInt8) (w : World) (h : RdrP w P q l) (hl : 4 ≤ l.length) (hv : ofB (l.take 4) ≤ 65536) (hx : 4 + ofB (l.take 4) ≤ l.length) :
    Calls Try.prog 29 #[.pointer (some ⟨q, 0, none⟩)] w fun e w' => e = .returned (.tuple #[.string ⟨((l.take (4 + ofB (l.take 4))).drop 4).toArray⟩, .int .i64 0]) ∧ RdrP w' P q (l.drop (4 + ofB (l.take 4))) ∧ Oth q w w' := by
  have cc := first_yes q 4 l w h.rdr (by decide) (by decide) hl
  obtain ⟨hq, A, n, c, hB, hR, hne⟩ := h
  generalize ofB (l.take 4) = x at *
  have hn : 4 ≤ n := by have := hR.1; omega
  have hnx : 4 + x ≤ n := by have := hR.1; omega
  have hnc := hR.2.1
  have hcm : c ≤ 9223372036854775807 := by have := hR.2.2.1; unfold maxLen at this; omega
  obtain ⟨A1, hs1, hR1, hb1⟩ := cut_both hR 4 (4 + x) (by omega) hnx .i64 .u64
  obtain ⟨A2, hs2, hR2, hb2⟩ := cut_from hR (4 + x) hnx .u64
  have hs1' : ∀ W, (Instr.slice 22 (.slice A n c) (some (.int .i64 4)) (some (.int .u64 (4 + (x : Int)))) none).run Try.prog W = .ok (.slice A1 x (c - 4)) W := by
    intro W
    have := hs1 W
    rw [show 4 + x - 4 = x by omega] at this
    exact this
  have hs2' : ∀ W, (Instr.slice 22 (.slice A n c) (some (.int .u64 (4 + (x : Int)))) none none).run Try.prog W = .ok (.slice A2 (n - (4 + x)) (c - (4 + x))) W := hs2
  rw [show 4 + x - 4 = x by omega] at hR1
  have hst := run_str hR1
  clear hs1 hs2 hR1 hb1
  have c0 : w.cell? ⟨q, 0, none⟩ = some (.slice A n c) := hB.cell 0
  have f0 : w.frozen? ⟨q, 0, none⟩ = false := hB.frozen 0
  have HB := Lib.hid hB
  have HR := Lib.hid hR2
  have HN := Lib.hid hne
  have HBB := Lib.hid hb2
  have HQ := Lib.hid hq
  clear hq
  clear hB hR hne hR2 hb2
  have HC := Lib.hid cc
  clear cc
  go_enter Try.func29, Try.ntmps29
  go_wp2_with fail
  refine HC.out.mono ?_
  rintro e w' ⟨rfl, rfl⟩
  go_wp2_with fail
  go_ret2
  exact ⟨rfl, rdrP_next HBB.out HQ.out HN.out (HB.out.set_ 0 _) HR.out ((Oth.refl _ _).setCell _ _), (Oth.refl _ _).setCell _ _⟩

/-- Text, whatever is ahead. -/
theorem text_anyP (P : Nat → Prop) (q : Nat) (l : List UInt8) (w : World) (h : RdrP w P q l) :
    Calls Try.prog 29 #[.pointer (some ⟨q, 0, none⟩)] w fun e w' => e = .returned (.tuple #[.string ⟨(txtB l).toArray⟩, .int .i64 (txtE l)]) ∧ RdrP w' P q (txtRest l) ∧ Oth q w w' := by
  by_cases hl : l.length < 4
  · have h0 : ¬ txtOk l := fun hh => by have := hh.1; omega
    rw [txtB, txtE, txtRest, if_neg h0, if_neg h0, if_pos hl]
    exact (text_short q l w h.rdr hl).mono fun e w' ⟨he, hw⟩ => by subst hw; exact ⟨he, h, Oth.refl _ _⟩
  · by_cases hv : 65536 < ofB (l.take 4)
    · have h0 : ¬ txtOk l := fun hh => by have := hh.2.1; omega
      rw [txtB, txtE, txtRest, if_neg h0, if_neg h0, if_neg hl, if_pos hv]
      exact (text_form q l w h.rdr (by omega) hv).mono fun e w' ⟨he, hw⟩ => by subst hw; exact ⟨he, h, Oth.refl _ _⟩
    · by_cases hx : l.length < 4 + ofB (l.take 4)
      · have h0 : ¬ txtOk l := fun hh => by have := hh.2.2; omega
        rw [txtB, txtE, txtRest, if_neg h0, if_neg h0, if_neg hl, if_neg hv, if_pos hx]
        exact (text_cut q l w h.rdr (by omega) (by omega) hx).mono fun e w' ⟨he, hw⟩ => by subst hw; exact ⟨he, h, Oth.refl _ _⟩
      · have h0 : txtOk l := ⟨by omega, by omega, by omega⟩
        rw [txtB, txtE, txtRest, if_pos h0, if_pos h0, if_neg hl, if_neg hv, if_neg hx]
        exact text_ok P q l w h (by omega) (by omega) (by omega)
theorem text_anyB (B q : Nat) (l : List UInt8) (w : World) (h : RdrB w B q l) :
    Calls Try.prog 29 #[.pointer (some ⟨q, 0, none⟩)] w fun e w' => e = .returned (.tuple #[.string ⟨(txtB l).toArray⟩, .int .i64 (txtE l)]) ∧ RdrB w' B q (txtRest l) ∧ Oth q w w' :=
  text_anyP _ q l w h

theorem text_any (q : Nat) (l : List UInt8) (w : World) (h : Rdr w q l) :
    Calls Try.prog 29 #[.pointer (some ⟨q, 0, none⟩)] w fun e w' => e = .returned (.tuple #[.string ⟨(txtB l).toArray⟩, .int .i64 (txtE l)]) ∧ Rdr w' q (txtRest l) ∧ Oth q w w' :=
  (text_anyP _ q l w h.any).mono fun _ _ ⟨he, hr, ho⟩ => ⟨he, hr.rdr, ho⟩

/-- A reader whose memory lies from B on, behind a change of a block below B. -/
theorem RdrB.oth {w w' : World} {B q g : Nat} {l : List UInt8} (h : RdrB w B q l) (ho : Oth g w w') (hg : g < B) : RdrB w' B q l :=
  RdrP.oth h ho (by omega)
end Go.Proofs.Ytbljghjhpkhcaaa
