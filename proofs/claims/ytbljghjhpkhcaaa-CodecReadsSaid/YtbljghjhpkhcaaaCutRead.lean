/- Contracts of the document's Cut: Number, Int, Text. -/
import Derived.Test.YtbljghjhpkhcaaaCut
namespace Go.Proofs.Ytbljghjhpkhcaaa
open Go.RowKit

theorem Oth.drewN {g : Nat} {w w' : World} (h : Oth g w w') (m : Nat) : Oth g w (w'.drewN m) := ⟨h.os, h.tape, h.output, h.size, h.block⟩
theorem Oth.trans {g : Nat} {a b c : World} (h : Oth g a b) (k : Oth g b c) : Oth g a c :=
  ⟨k.os.trans h.os, k.tape.trans h.tape, k.output.trans h.output, k.size.trans h.size, fun i hi => (k.block i hi).trans (h.block i hi)⟩

theorem cleft_r {A : Option Addr} {n c : Nat} {q p : Nat} {l r : List UInt8} {w : World} (h : Ctr w q A n c l p) (hr : l.drop p = r) :
    Calls Try.prog 25 #[.pointer (some ⟨q, 0, none⟩)] w fun e w' => e = .returned (.int .i64 (r.length : Nat)) ∧ ∃ m, w' = w.drewN m := by
  subst hr; exact cleft_any A n c q p l w h
theorem small_r {A : Option Addr} {n c : Nat} {q p k : Nat} {l r : List UInt8} {w : World} (h : Ctr w q A n c l p) (hr : l.drop p = r) (hk : k ≤ 8) (hp : k ≤ r.length) :
    Calls Try.prog 35 #[.pointer (some ⟨q, 0, none⟩), .int .i64 k] w fun e w' => e = .returned (.int .u64 (ofB (r.take k) : Nat)) ∧ ∃ m, w' = w.drewN m := by
  subst hr
  have h1 := h.1
  rw [List.length_drop] at hp
  exact small_any A n c q p k l w h hk (by omega)

/-- The place moved on by k bytes. -/
theorem Ctr.next {w : World} {A : Option Addr} {n c : Nat} {q p k : Nat} {l r : List UInt8} (h : Ctr w q A n c l p) (hr : l.drop p = r) (hk : k ≤ r.length) (v : Value) (hv : v = .int .i64 (p + k : Nat)) : Ctr (w.setCell ⟨q, 1, none⟩ v) q A n c l (p + k) := by
  obtain ⟨h1, h2, hB, hR, hne⟩ := h
  subst hr hv
  rw [List.length_drop] at hk
  exact ⟨by omega, h2, hB.set_ 1 _, hR.oth ((Oth.refl q w).setCell 1 _) hne, hne⟩

def numTake (l : List UInt8) : Nat := if numOk l then 4 else 0
def intTake (l : List UInt8) : Nat := if 8 ≤ l.length then 8 else 0
def txtTake (l : List UInt8) : Nat := if txtOk l then 4 + ofB (l.take 4) else 0
theorem numRest_take (l : List UInt8) : numRest l = l.drop (numTake l) := by unfold numRest numTake; split <;> simp
theorem intRest_take (l : List UInt8) : intRest l = l.drop (intTake l) := by unfold intRest intTake; split <;> simp
theorem txtRest_take (l : List UInt8) : txtRest l = l.drop (txtTake l) := by unfold txtRest txtTake; split <;> simp

set_option maxHeartbeats 400000 in
theorem cnum_short (A : Option Addr) (n c : Nat) (q p : Nat) (l r : List UInt8) (w : World) (h : Ctr w q A n c l p) (hr : l.drop p = r) (hl : r.length < 4) :
    Calls Try.prog 27 #[.pointer (some ⟨q, 0, none⟩)] w fun e w' => e = .returned (.tuple #[.int .i64 0, .int .i64 10]) ∧ ∃ m, w' = w.drewN m := by
  have C := Lib.hid (cleft_r h hr)
  clear h hr
  go_enter Try.func27, Try.ntmps27
  go_wp2_with fail
  refine C.out.mono ?_
  rintro e w' ⟨rfl, m, rfl⟩
  go_wp2_with fail
  go_ret2
  exact ⟨rfl, m, rfl⟩

set_option maxHeartbeats 400000 in
theorem cnum_form (A : Option Addr) (n c : Nat) (q p : Nat) (l r : List UInt8) (w : World) (h : Ctr w q A n c l p) (hr : l.drop p = r) (hl : 4 ≤ r.length) (hv : 1000000000 < ofB (r.take 4)) :
    Calls Try.prog 27 #[.pointer (some ⟨q, 0, none⟩)] w fun e w' => e = .returned (.tuple #[.int .i64 0, .int .i64 11]) ∧ ∃ m, w' = w.drewN m := by
  have C := Lib.hid (cleft_r h hr)
  have ks : ∀ m, Calls Try.prog 35 #[.pointer (some ⟨q, 0, none⟩), .int .i64 (4 : Nat)] (w.drewN m) fun e w' => e = .returned (.int .u64 (ofB (r.take 4) : Nat)) ∧ ∃ m', w' = (w.drewN m).drewN m' := fun m => small_r (h.drewN m) hr (by decide) hl
  generalize ofB (r.take 4) = x at *
  have KS := Lib.hid ks
  clear h hr ks
  go_enter Try.func27, Try.ntmps27
  go_wp2_with fail
  refine C.out.mono ?_
  rintro e w' ⟨rfl, m, rfl⟩
  go_wp2_with fail
  refine (KS.out m).mono ?_
  rintro e w' ⟨rfl, m', rfl⟩
  go_wp2_with fail
  go_ret2
  exact ⟨rfl, m + m', by simp⟩

set_option maxHeartbeats 400000 in
theorem cnum_ok (A : Option Addr) (n c : Nat) (q p : Nat) (l r : List UInt8) (w : World) (h : Ctr w q A n c l p) (hr : l.drop p = r) (hl : 4 ≤ r.length) (hv : ofB (r.take 4) ≤ 1000000000) :
    Calls Try.prog 27 #[.pointer (some ⟨q, 0, none⟩)] w fun e w' => e = .returned (.tuple #[.int .i64 (ofB (r.take 4) : Nat), .int .i64 0]) ∧ Ctr w' q A n c l (p + 4) ∧ Oth q w w' := by
  have C := Lib.hid (cleft_r h hr)
  have ks : ∀ m, Calls Try.prog 35 #[.pointer (some ⟨q, 0, none⟩), .int .i64 (4 : Nat)] (w.drewN m) fun e w' => e = .returned (.int .u64 (ofB (r.take 4) : Nat)) ∧ ∃ m', w' = (w.drewN m).drewN m' := fun m => small_r (h.drewN m) hr (by decide) hl
  generalize ofB (r.take 4) = x at *
  have KS := Lib.hid ks
  have hp : p ≤ 4194304 := Nat.le_trans h.1 h.2.1
  have H := Lib.hid h
  obtain ⟨h1, h2, hB, hR, hne⟩ := h
  have c1 : w.cell? ⟨q, 1, none⟩ = some (.int .i64 p) := hB.cell 1
  have f1 : w.frozen? ⟨q, 1, none⟩ = false := hB.frozen 1
  have HR := Lib.hid hr
  clear hB hR hne hr ks h1 h2
  go_enter Try.func27, Try.ntmps27
  go_wp2_with fail
  refine C.out.mono ?_
  rintro e w' ⟨rfl, m, rfl⟩
  go_wp2_with fail
  refine (KS.out m).mono ?_
  rintro e w' ⟨rfl, m', rfl⟩
  go_wp2_with fail
  go_ret2
  exact ⟨rfl, (H.out.drewN _).next HR.out hl _ rfl, ((Oth.refl q w).drewN _).setCell _ _⟩

/-- Number, whatever is ahead. -/
theorem cnum_any (A : Option Addr) (n c : Nat) (q p : Nat) (l : List UInt8) (w : World) (h : Ctr w q A n c l p) :
    Calls Try.prog 27 #[.pointer (some ⟨q, 0, none⟩)] w fun e w' => e = .returned (.tuple #[.int .i64 (numV (l.drop p)), .int .i64 (numE (l.drop p))]) ∧ Ctr w' q A n c l (p + numTake (l.drop p)) ∧ Oth q w w' := by
  obtain ⟨r, hr⟩ : ∃ r, l.drop p = r := ⟨_, rfl⟩
  rw [hr]
  by_cases hl : r.length < 4
  · have h0 : ¬ numOk r := fun hh => by have := hh.1; omega
    rw [numV, numE, numTake, if_neg h0, if_neg h0, if_pos hl]
    exact (cnum_short A n c q p l r w h hr hl).mono fun e w' ⟨he, m, hw⟩ => by subst hw; exact ⟨he, h, (Oth.refl _ _).drewN m⟩
  · by_cases hv : ofB (r.take 4) ≤ 1000000000
    · have h0 : numOk r := ⟨by omega, hv⟩
      rw [numV, numE, numTake, if_pos h0, if_pos h0, if_neg hl, if_pos hv]
      exact cnum_ok A n c q p l r w h hr (by omega) hv
    · have h0 : ¬ numOk r := fun hh => hv hh.2
      rw [numV, numE, numTake, if_neg h0, if_neg h0, if_neg hl, if_neg hv]
      exact (cnum_form A n c q p l r w h hr (by omega) (by omega)).mono fun e w' ⟨he, m, hw⟩ => by subst hw; exact ⟨he, h, (Oth.refl _ _).drewN m⟩

set_option maxHeartbeats 400000 in
theorem cint_short (A : Option Addr) (n c : Nat) (q p : Nat) (l r : List UInt8) (w : World) (h : Ctr w q A n c l p) (hr : l.drop p = r) (hl : r.length < 8) :
    Calls Try.prog 28 #[.pointer (some ⟨q, 0, none⟩)] w fun e w' => e = .returned (.tuple #[.int .i64 0, .int .i64 10]) ∧ ∃ m, w' = w.drewN m := by
  have C := Lib.hid (cleft_r h hr)
  clear h hr
  go_enter Try.func28, Try.ntmps28
  go_wp2_with fail
  refine C.out.mono ?_
  rintro e w' ⟨rfl, m, rfl⟩
  go_wp2_with fail
  go_ret2
  exact ⟨rfl, m, rfl⟩

set_option maxHeartbeats 400000 in
theorem cint_ok (A : Option Addr) (n c : Nat) (q p : Nat) (l r : List UInt8) (w : World) (h : Ctr w q A n c l p) (hr : l.drop p = r) (hl : 8 ≤ r.length) :
    Calls Try.prog 28 #[.pointer (some ⟨q, 0, none⟩)] w fun e w' => e = .returned (.tuple #[.int .i64 (wrap64 (ofB (r.take 8) : Nat)), .int .i64 0]) ∧ Ctr w' q A n c l (p + 8) ∧ Oth q w w' := by
  have C := Lib.hid (cleft_r h hr)
  have ks : ∀ m, Calls Try.prog 35 #[.pointer (some ⟨q, 0, none⟩), .int .i64 (8 : Nat)] (w.drewN m) fun e w' => e = .returned (.int .u64 (ofB (r.take 8) : Nat)) ∧ ∃ m', w' = (w.drewN m).drewN m' := fun m => small_r (h.drewN m) hr (by decide) hl
  generalize ofB (r.take 8) = x at *
  have KS := Lib.hid ks
  have hp : p ≤ 4194304 := Nat.le_trans h.1 h.2.1
  have H := Lib.hid h
  obtain ⟨h1, h2, hB, hR, hne⟩ := h
  have c1 : w.cell? ⟨q, 1, none⟩ = some (.int .i64 p) := hB.cell 1
  have f1 : w.frozen? ⟨q, 1, none⟩ = false := hB.frozen 1
  have HR := Lib.hid hr
  clear hB hR hne hr ks h1 h2
  go_enter Try.func28, Try.ntmps28
  go_wp2_with fail
  refine C.out.mono ?_
  rintro e w' ⟨rfl, m, rfl⟩
  go_wp2_with fail
  refine (KS.out m).mono ?_
  rintro e w' ⟨rfl, m', rfl⟩
  go_wp2_with fail
  go_ret2
  exact ⟨rfl, (H.out.drewN _).next HR.out hl _ rfl, ((Oth.refl q w).drewN _).setCell _ _⟩

/-- Int, whatever is ahead. -/
theorem cint_any (A : Option Addr) (n c : Nat) (q p : Nat) (l : List UInt8) (w : World) (h : Ctr w q A n c l p) :
    Calls Try.prog 28 #[.pointer (some ⟨q, 0, none⟩)] w fun e w' => e = .returned (.tuple #[.int .i64 (intV (l.drop p)), .int .i64 (intE (l.drop p))]) ∧ Ctr w' q A n c l (p + intTake (l.drop p)) ∧ Oth q w w' := by
  obtain ⟨r, hr⟩ : ∃ r, l.drop p = r := ⟨_, rfl⟩
  rw [hr]
  by_cases hl : 8 ≤ r.length
  · rw [intV, intE, intTake, if_pos hl, if_pos hl, if_pos hl]
    exact cint_ok A n c q p l r w h hr hl
  · rw [intV, intE, intTake, if_neg hl, if_neg hl, if_neg hl]
    exact (cint_short A n c q p l r w h hr (by omega)).mono fun e w' ⟨he, m, hw⟩ => by subst hw; exact ⟨he, h, (Oth.refl _ _).drewN m⟩

set_option maxHeartbeats 400000 in
theorem ctxt_short (A : Option Addr) (n c : Nat) (q p : Nat) (l r : List UInt8) (w : World) (h : Ctr w q A n c l p) (hr : l.drop p = r) (hl : r.length < 4) :
    Calls Try.prog 30 #[.pointer (some ⟨q, 0, none⟩)] w fun e w' => e = .returned (.tuple #[.string ⟨#[]⟩, .int .i64 10]) ∧ ∃ m, w' = w.drewN m := by
  have C := Lib.hid (cleft_r h hr)
  clear h hr
  go_enter Try.func30, Try.ntmps30
  go_wp2_with fail
  refine C.out.mono ?_
  rintro e w' ⟨rfl, m, rfl⟩
  go_wp2_with fail
  go_ret2
  exact ⟨rfl, m, rfl⟩

set_option maxHeartbeats 400000 in
theorem ctxt_form (A : Option Addr) (n c : Nat) (q p : Nat) (l r : List UInt8) (w : World) (h : Ctr w q A n c l p) (hr : l.drop p = r) (hl : 4 ≤ r.length) (hv : 65536 < ofB (r.take 4)) :
    Calls Try.prog 30 #[.pointer (some ⟨q, 0, none⟩)] w fun e w' => e = .returned (.tuple #[.string ⟨#[]⟩, .int .i64 11]) ∧ ∃ m, w' = w.drewN m := by
  have C := Lib.hid (cleft_r h hr)
  have ks : ∀ m, Calls Try.prog 35 #[.pointer (some ⟨q, 0, none⟩), .int .i64 (4 : Nat)] (w.drewN m) fun e w' => e = .returned (.int .u64 (ofB (r.take 4) : Nat)) ∧ ∃ m', w' = (w.drewN m).drewN m' := fun m => small_r (h.drewN m) hr (by decide) hl
  generalize ofB (r.take 4) = x at *
  have KS := Lib.hid ks
  clear h hr ks
  go_enter Try.func30, Try.ntmps30
  go_wp2_with fail
  refine C.out.mono ?_
  rintro e w' ⟨rfl, m, rfl⟩
  go_wp2_with fail
  refine (KS.out m).mono ?_
  rintro e w' ⟨rfl, m', rfl⟩
  go_wp2_with fail
  go_ret2
  exact ⟨rfl, m + m', by simp⟩

set_option maxHeartbeats 400000 in
theorem ctxt_cut (A : Option Addr) (n c : Nat) (q p : Nat) (l r : List UInt8) (w : World) (h : Ctr w q A n c l p) (hr : l.drop p = r) (hl : 4 ≤ r.length) (hv : ofB (r.take 4) ≤ 65536) (hx : r.length < 4 + ofB (r.take 4)) :
    Calls Try.prog 30 #[.pointer (some ⟨q, 0, none⟩)] w fun e w' => e = .returned (.tuple #[.string ⟨#[]⟩, .int .i64 10]) ∧ ∃ m, w' = w.drewN m := by
  have cl : ∀ m, Calls Try.prog 25 #[.pointer (some ⟨q, 0, none⟩)] (w.drewN m) fun e w' => e = .returned (.int .i64 (r.length : Nat)) ∧ ∃ m', w' = (w.drewN m).drewN m' := fun m => cleft_r (h.drewN m) hr
  have CL := Lib.hid cl
  have C := Lib.hid (cleft_r h hr)
  have ks : ∀ m, Calls Try.prog 35 #[.pointer (some ⟨q, 0, none⟩), .int .i64 (4 : Nat)] (w.drewN m) fun e w' => e = .returned (.int .u64 (ofB (r.take 4) : Nat)) ∧ ∃ m', w' = (w.drewN m).drewN m' := fun m => small_r (h.drewN m) hr (by decide) hl
  have hrl : r.length ≤ 4194304 := by have := h.2.1; subst hr; rw [List.length_drop]; omega
  generalize ofB (r.take 4) = x at *
  have KS := Lib.hid ks
  clear h hr ks cl
  go_enter Try.func30, Try.ntmps30
  go_wp2_with fail
  refine C.out.mono ?_
  rintro e w' ⟨rfl, m, rfl⟩
  go_wp2_with fail
  refine (KS.out m).mono ?_
  rintro e w' ⟨rfl, m', rfl⟩
  go_wp2_with fail
  refine (CL.out _).mono ?_
  rintro e w' ⟨rfl, m'', rfl⟩
  go_wp2_with fail
  go_ret2
  exact ⟨rfl, m + m' + m'', by simp⟩

set_option maxHeartbeats 400000 in
theorem ctxt_ok (A : Option Addr) (n c : Nat) (q p : Nat) (l r : List UInt8) (w : World) (h : Ctr w q A n c l p) (hr : l.drop p = r) (hl : 4 ≤ r.length) (hv : ofB (r.take 4) ≤ 65536) (hx : 4 + ofB (r.take 4) ≤ r.length) :
    Calls Try.prog 30 #[.pointer (some ⟨q, 0, none⟩)] w fun e w' => e = .returned (.tuple #[.string ⟨((r.take (4 + ofB (r.take 4))).drop 4).toArray⟩, .int .i64 0]) ∧ Ctr w' q A n c l (p + (4 + ofB (r.take 4))) ∧ Oth q w w' := by
  have cl : ∀ m, Calls Try.prog 25 #[.pointer (some ⟨q, 0, none⟩)] (w.drewN m) fun e w' => e = .returned (.int .i64 (r.length : Nat)) ∧ ∃ m', w' = (w.drewN m).drewN m' := fun m => cleft_r (h.drewN m) hr
  have CL := Lib.hid cl
  have C := Lib.hid (cleft_r h hr)
  have ks : ∀ m, Calls Try.prog 35 #[.pointer (some ⟨q, 0, none⟩), .int .i64 (4 : Nat)] (w.drewN m) fun e w' => e = .returned (.int .u64 (ofB (r.take 4) : Nat)) ∧ ∃ m', w' = (w.drewN m).drewN m' := fun m => small_r (h.drewN m) hr (by decide) hl
  have hrl : r.length ≤ 4194304 := by have := h.2.1; subst hr; rw [List.length_drop]; omega
  generalize ofB (r.take 4) = x at *
  have KS := Lib.hid ks
  have hp : p ≤ 4194304 := Nat.le_trans h.1 h.2.1
  have H := Lib.hid h
  obtain ⟨h1, h2, hB, hR, hne⟩ := h
  have hrn : r.length = n - p := by have := hR.1; subst hr; rw [List.length_drop]; omega
  have c0 : w.cell? ⟨q, 0, none⟩ = some (.slice A n c) := hB.cell 0
  have c1 : w.cell? ⟨q, 1, none⟩ = some (.int .i64 p) := hB.cell 1
  have f1 : w.frozen? ⟨q, 1, none⟩ = false := hB.frozen 1
  obtain ⟨A1, hs1, hR1, _⟩ := cut_both hR (p + 4) (p + 4 + x) (by omega) (by omega) .i64 .i64
  have hs1' : ∀ W, (Instr.slice 22 (.slice A n c) (some (.int .i64 ((p : Int) + 4))) (some (.int .i64 ((p : Int) + 4 + (x : Int)))) none).run Try.prog W = .ok (.slice A1 x (c - (p + 4))) W := by
    intro W
    have := hs1 W
    rw [show p + 4 + x - (p + 4) = x by omega] at this
    exact this
  rw [show p + 4 + x - (p + 4) = x by omega] at hR1
  have eL : (l.take (p + 4 + x)).drop (p + 4) = (r.take (4 + x)).drop 4 := by
    subst hr
    rw [← List.drop_drop, Nat.add_assoc, List.drop_take, show p + (4 + x) - p = 4 + x by omega]
  rw [eL] at hR1
  have w1 : IntKind.i64.wrap ((p : Int) + 4) = (p : Int) + 4 := by rw [IntKind.wrap_i64]; omega
  have w2 : IntKind.i64.wrap ((p : Int) + 4 + (x : Int)) = (p : Int) + 4 + x := by rw [IntKind.wrap_i64]; omega
  have w3 : IntKind.i64.wrap (x : Int) = (x : Int) := by rw [IntKind.wrap_i64]; omega
  have hst : ∀ m, (convert 22 9 (.slice A1 x (c - (p + 4)))).run Try.prog (w.drewN m) = .ok (.string ⟨((r.take (4 + x)).drop 4).toArray⟩) (w.drewN m) := fun m => run_str (show Rd (w.drewN m) A1 x _ _ from hR1)
  generalize ((r.take (4 + x)).drop 4) = tx at *
  have HR := Lib.hid hr
  clear hB hR hne hr ks h1 h2 cl hs1 hR1 eL hrn
  go_enter Try.func30, Try.ntmps30
  go_wp2_with fail
  refine C.out.mono ?_
  rintro e w' ⟨rfl, m, rfl⟩
  go_wp2_with fail
  refine (KS.out m).mono ?_
  rintro e w' ⟨rfl, m', rfl⟩
  go_wp2_with fail
  refine (CL.out _).mono ?_
  rintro e w' ⟨rfl, m'', rfl⟩
  go_wp2_with fail
  go_quiet (fail)
  clear w1 w2 w3
  go_wp2_with fail
  go_ret2
  have e1 : Value.int .i64 ((p : Int) + 4 + (x : Int)) = .int .i64 ((p + (4 + x) : Nat) : Int) := by congr 1; omega
  exact ⟨rfl, (H.out.drewN _).next HR.out hx _ e1, ((Oth.refl q w).drewN _).setCell _ _⟩

/-- Text, whatever is ahead. -/
theorem ctxt_any (A : Option Addr) (n c : Nat) (q p : Nat) (l : List UInt8) (w : World) (h : Ctr w q A n c l p) :
    Calls Try.prog 30 #[.pointer (some ⟨q, 0, none⟩)] w fun e w' => e = .returned (.tuple #[.string ⟨(txtB (l.drop p)).toArray⟩, .int .i64 (txtE (l.drop p))]) ∧ Ctr w' q A n c l (p + txtTake (l.drop p)) ∧ Oth q w w' := by
  obtain ⟨r, hr⟩ : ∃ r, l.drop p = r := ⟨_, rfl⟩
  rw [hr]
  by_cases hl : r.length < 4
  · have h0 : ¬ txtOk r := fun hh => by have := hh.1; omega
    rw [txtB, txtE, txtTake, if_neg h0, if_neg h0, if_pos hl]
    exact (ctxt_short A n c q p l r w h hr hl).mono fun e w' ⟨he, m, hw⟩ => by subst hw; exact ⟨he, h, (Oth.refl _ _).drewN m⟩
  · by_cases hv : 65536 < ofB (r.take 4)
    · have h0 : ¬ txtOk r := fun hh => by have := hh.2.1; omega
      rw [txtB, txtE, txtTake, if_neg h0, if_neg h0, if_neg hl, if_pos hv]
      exact (ctxt_form A n c q p l r w h hr (by omega) hv).mono fun e w' ⟨he, m, hw⟩ => by subst hw; exact ⟨he, h, (Oth.refl _ _).drewN m⟩
    · by_cases hx : r.length < 4 + ofB (r.take 4)
      · have h0 : ¬ txtOk r := fun hh => by have := hh.2.2; omega
        rw [txtB, txtE, txtTake, if_neg h0, if_neg h0, if_neg hl, if_neg hv, if_pos hx]
        exact (ctxt_cut A n c q p l r w h hr (by omega) (by omega) hx).mono fun e w' ⟨he, m, hw⟩ => by subst hw; exact ⟨he, h, (Oth.refl _ _).drewN m⟩
      · have h0 : txtOk r := ⟨by omega, by omega, by omega⟩
        rw [txtB, txtE, txtTake, if_pos h0, if_pos h0, if_neg hl, if_neg hv, if_neg hx]
        exact ctxt_ok A n c q p l r w h hr (by omega) (by omega) (by omega)
end Go.Proofs.Ytbljghjhpkhcaaa
