/- Contracts of codec.New and of the reader's methods. -/
import Derived.Test.YtbljghjhpkhcaaaDoorFirst
namespace Go.Proofs.YtbljghjhpkhcaaaDoor
open Go.RowKit

/-- A reader all of whose memory lies in blocks of which P holds. -/
def RdrP (w : World) (P : Nat → Prop) (q : Nat) (l : List UInt8) : Prop :=
  P q ∧ ∃ A n c, Blk w q 52 [.slice A n c] ∧ Rd w A n c l ∧ ∀ ad, 0 < n → A = some ad → ad.block ≠ q ∧ P ad.block
theorem RdrP.rdr {w : World} {P : Nat → Prop} {q : Nat} {l : List UInt8} (h : RdrP w P q l) : Rdr w q l := by
  obtain ⟨_, A, n, c, hB, hR, hne⟩ := h
  exact ⟨A, n, c, hB, hR, fun ad hn hA => (hne ad hn hA).1⟩
theorem RdrP.below {w w' : World} {P : Nat → Prop} {q : Nat} {l : List UInt8} (h : RdrP w P q l) (hb : Below w.heap.size w w') : RdrP w' P q l := by
  obtain ⟨h0, A, n, c, hB, hR, hne⟩ := h
  exact ⟨h0, A, n, c, hB.below hb hB.lt, hR.below hb, hne⟩
theorem RdrP.oth {w w' : World} {P : Nat → Prop} {q g : Nat} {l : List UInt8} (h : RdrP w P q l) (ho : Oth g w w') (hg : ¬ P g) : RdrP w' P q l := by
  obtain ⟨h0, A, n, c, hB, hR, hne⟩ := h
  exact ⟨h0, A, n, c, (ho.block q (fun e => hg (e ▸ h0))).trans hB, hR.oth ho fun ad hn hA e => hg (e ▸ (hne ad hn hA).2), hne⟩
theorem Rdr.any {w : World} {q : Nat} {l : List UInt8} (h : Rdr w q l) : RdrP w (fun _ => True) q l := by
  obtain ⟨A, n, c, hB, hR, hne⟩ := h
  exact ⟨trivial, A, n, c, hB, hR, fun ad hn hA => ⟨hne ad hn hA, trivial⟩⟩
theorem rdrP_next {w w' : World} {P : Nat → Prop} {q n c k : Nat} {A A' : Option Addr} {l : List UInt8} (hb : ∀ ad, 0 < n - k → A' = some ad → ∃ ad0, A = some ad0 ∧ ad.block = ad0.block) (hq : P q) (hne : ∀ ad, 0 < n → A = some ad → ad.block ≠ q ∧ P ad.block)
    (hB : Blk w' q 52 [.slice A' (n - k) (c - k)]) (hR : Rd w A' (n - k) (c - k) l) (ho : Oth q w w') : RdrP w' P q l := by
  have hne' : ∀ ad, 0 < n - k → A' = some ad → ad.block ≠ q ∧ P ad.block := by
    intro ad hn hA
    obtain ⟨ad0, h0, e0⟩ := hb ad hn hA
    rw [e0]
    exact hne ad0 (by omega) h0
  exact ⟨hq, A', n - k, c - k, hB, hR.oth ho fun ad hn hA => (hne' ad hn hA).1, hne'⟩

/-- A reader all of whose memory lies from block B on. -/
def RdrB (w : World) (B q : Nat) (l : List UInt8) : Prop := RdrP w (fun b => B ≤ b) q l
theorem RdrB.rdr {w : World} {B q : Nat} {l : List UInt8} (h : RdrB w B q l) : Rdr w q l := by
  obtain ⟨_, A, n, c, hB, hR, hne⟩ := h
  exact ⟨A, n, c, hB, hR, fun ad hn hA => (hne ad hn hA).1⟩
theorem RdrB.below {w w' : World} {B q : Nat} {l : List UInt8} (h : RdrB w B q l) (hb : Below w.heap.size w w') : RdrB w' B q l := by
  obtain ⟨h0, A, n, c, hB, hR, hne⟩ := h
  exact ⟨h0, A, n, c, hB.below hb hB.lt, hR.below hb, hne⟩
theorem RdrB.grown {w w' : World} {B q : Nat} {l : List UInt8} {row : Option Nat} (h : RdrB w B q l) (hg : w.grownBy w' row) (hr : ∀ k, row = some k → k < B) : RdrB w' B q l := by
  obtain ⟨h0, A, n, c, hB, ⟨h1, h2, h3, h4⟩, hne⟩ := h
  refine ⟨h0, A, n, c, (hg.block q hB.lt (fun e => by have := hr q e.symm; omega)).trans hB, ⟨h1, h2, h3, fun hn => ?_⟩, hne⟩
  obtain ⟨b, off, hA, hlt, hc⟩ := h4 hn
  have hBb : B ≤ b := (hne _ hn hA).2
  exact ⟨b, off, hA, Nat.lt_of_lt_of_le hlt hg.size, fun i u hu => (World.cell?_of_block (hg.block b hlt (fun e => by have := hr b e.symm; omega))).trans (hc i u hu)⟩

set_option maxHeartbeats 400000 in
theorem new_own (A : Option Addr) (n c : Nat) (l : List UInt8) (w : World) (h : Rd w A n c l) (hn : n ≤ 4194304) :
    Calls Tryd.prog 27 #[.slice A n c] w fun e w' => ∃ q, e = .returned (.pointer (some ⟨q, 0, none⟩)) ∧ RdrB w' w.heap.size q l ∧ Below w.heap.size w w' := by
  have hcap := h.2.2.1
  unfold maxLen at hcap
  have hnc := h.2.1
  have H := Lib.hid h
  clear h
  go_enter Tryd.func27, Tryd.ntmps27
  go_wp2_with (at_make; refine wpList_make_bytes rfl _ _ rfl .i64 .i64 _ _ n rfl rfl (by omega) (by omega) (by omega) ?_)
  intro w1 hB hbel hsz
  go_wp2_with (with_reducible refine wpList_copy_bytes rfl (.tmp 7) (.tmp 8) rfl w.heap.size n n n c A rfl rfl l hB.out (H.out.below hbel) (by omega) w.heap.size w hbel (Nat.le_refl _) ?_)
  intro w2 hB2 hbel2
  go_wp2_with fail
  go_ret
  have hl := H.out.1
  have hB3 : Blk w2 w.heap.size 5 (l.map cel ++ []) := by have := hB2.out; simpa [zer] using this
  have hlt := hB3.lt
  refine ⟨w2.heap.size, rfl, ⟨hbel2.size, _, n, n, Blk.new w2 52 _, ?_, ?_⟩, hbel2.alloc hbel2.size _⟩
  · have := Rd.of_blk (c := n) (hB3.alloc (.cells #[Value.slice (some ⟨w.heap.size, 0, none⟩) n n] 52)) (by omega) (by unfold maxLen; omega)
    rwa [hl] at this
  · intro ad _ hA
    obtain rfl := Option.some.inj hA
    refine ⟨?_, Nat.le_refl _⟩
    show w.heap.size ≠ _
    omega

theorem new_any (A : Option Addr) (n c : Nat) (l : List UInt8) (w : World) (h : Rd w A n c l) (hn : n ≤ 4194304) :
    Calls Tryd.prog 27 #[.slice A n c] w fun e w' => ∃ q, e = .returned (.pointer (some ⟨q, 0, none⟩)) ∧ w.heap.size ≤ q ∧ Rdr w' q l ∧ Below w.heap.size w w' :=
  (new_own A n c l w h hn).mono fun _ _ ⟨q, he, hr, hb⟩ => ⟨q, he, hr.1, hr.rdr, hb⟩

theorem elem22 : Tryd.prog.elem 22 = 5 := by kernel_rfl
theorem und22 : Tryd.prog.underlying 22 = some (.slice (Tryd.prog.elem 22)) := by rw [elem22]; exact Tryd.underlying22
theorem run_size5 (W : World) : (sizeOf (Tryd.prog.elem 22)).run Tryd.prog W = .ok 1 W := by
  obtain ⟨i, hi, hz0, hz1, hz2⟩ := info_parts Tryd.info5
  rw [elem22]
  simp [sizeOf, typeInfo, hi, hz1]

/-- A slice of bytes, cut: s[k:m]. -/
theorem Rd.cut {w : World} {A : Option Addr} {n c : Nat} {l : List UInt8} (h : Rd w A n c l) (k m : Nat) (hk : k ≤ m) (hm : m ≤ n) :
    ∃ A', (if c = k then A else A.map (·.add (k * 1))) = A' ∧ Rd w A' (m - k) (c - k) ((l.take m).drop k) ∧ (∀ ad, 0 < m - k → A' = some ad → ∃ ad0, A = some ad0 ∧ ad.block = ad0.block) := by
  obtain ⟨h1, h2, h3, h4⟩ := h
  refine ⟨_, rfl, ⟨by rw [List.length_drop, List.length_take]; omega, by omega, by omega, fun hn => ?_⟩, fun ad hn hA => ?_⟩
  · obtain ⟨b, off, rfl, hlt, hc⟩ := h4 (by omega)
    rw [if_neg (by omega)]
    refine ⟨b, off + k, by simp [Addr.add_lit], hlt, fun i u hu => ?_⟩
    rw [Nat.add_assoc]
    refine hc (k + i) u ?_
    rw [List.getElem?_drop, List.getElem?_take] at hu
    split at hu
    · exact hu
    · cases hu
  · rw [if_neg (by omega)] at hA
    obtain ⟨b, off, rfl, hlt, hc⟩ := h4 (by omega)
    refine ⟨_, rfl, ?_⟩
    simp [Addr.add_lit] at hA
    rw [← hA]

theorem cut_from {w : World} {A : Option Addr} {n c : Nat} {l : List UInt8} (h : Rd w A n c l) (k : Nat) (hk : k ≤ n) (kk : IntKind) :
    ∃ A', (∀ W, (Instr.slice 22 (.slice A n c) (some (.int kk k)) none none).run Tryd.prog W = .ok (.slice A' (n - k) (c - k)) W) ∧ Rd w A' (n - k) (c - k) (l.drop k) ∧ (∀ ad, 0 < n - k → A' = some ad → ∃ ad0, A = some ad0 ∧ ad.block = ad0.block) := by
  obtain ⟨A', hA, hR, hb⟩ := h.cut k n hk (Nat.le_refl _)
  rw [List.take_of_length_le (by rw [h.1]; exact Nat.le_refl _)] at hR
  refine ⟨A', fun W => ?_, hR, hb⟩
  rw [run_slice_l W 22 A n c und22 kk k (by omega) (by omega), run_size5]
  simp only [Result.andThen, sliced, Int.toNat_natCast, hA]

theorem cut_both {w : World} {A : Option Addr} {n c : Nat} {l : List UInt8} (h : Rd w A n c l) (k m : Nat) (hk : k ≤ m) (hm : m ≤ n) (kk km : IntKind) :
    ∃ A', (∀ W, (Instr.slice 22 (.slice A n c) (some (.int kk k)) (some (.int km m)) none).run Tryd.prog W = .ok (.slice A' (m - k) (c - k)) W) ∧ Rd w A' (m - k) (c - k) ((l.take m).drop k) ∧ (∀ ad, 0 < m - k → A' = some ad → ∃ ad0, A = some ad0 ∧ ad.block = ad0.block) := by
  obtain ⟨A', hA, hR, hb⟩ := h.cut k m hk hm
  refine ⟨A', fun W => ?_, hR, hb⟩
  rw [run_slice_lh W 22 A n c und22 kk km k m (by omega) (by omega) (by have := h.2.1; omega), run_size5]
  simp only [Result.andThen, sliced, Int.toNat_natCast, hA]

/-- What Number answers of the bytes ahead. -/
def numOk (l : List UInt8) : Prop := 4 ≤ l.length ∧ ofB (l.take 4) ≤ 1000000000
instance (l : List UInt8) : Decidable (numOk l) := by unfold numOk; infer_instance
def numV (l : List UInt8) : Int := if numOk l then (ofB (l.take 4) : Nat) else 0
def numE (l : List UInt8) : Int := if l.length < 4 then 10 else if ofB (l.take 4) ≤ 1000000000 then 0 else 11
def numRest (l : List UInt8) : List UInt8 := if numOk l then l.drop 4 else l

set_option maxHeartbeats 400000 in
theorem number_short (q : Nat) (l : List UInt8) (w : World) (h : Rdr w q l) (hl : l.length < 4) :
    Calls Tryd.prog 28 #[.pointer (some ⟨q, 0, none⟩)] w fun e w' => e = .returned (.tuple #[.int .i64 0, .int .i64 10]) ∧ w = w' := by
  have H := Lib.hid h
  clear h
  go_enter Tryd.func28, Tryd.ntmps28
  go_wp2_with fail
  refine (first_no q 4 l w H.out hl).mono ?_
  rintro e w' ⟨rfl, rfl⟩
  go_wp2_with fail
  go_ret2
  exact ⟨rfl, rfl⟩

set_option maxHeartbeats 400000 in
theorem number_form (q : Nat) (l : List UInt8) (w : World) (h : Rdr w q l) (hl : 4 ≤ l.length) (hv : 1000000000 < ofB (l.take 4)) :
    Calls Tryd.prog 28 #[.pointer (some ⟨q, 0, none⟩)] w fun e w' => e = .returned (.tuple #[.int .i64 0, .int .i64 11]) ∧ w = w' := by
  have H := Lib.hid h
  clear h
  have c := first_yes q 4 l w H.out (by decide) (by decide) hl
  generalize ofB (l.take 4) = x at *
  have HC := Lib.hid c
  clear c
  go_enter Tryd.func28, Tryd.ntmps28
  go_wp2_with fail
  refine HC.out.mono ?_
  rintro e w' ⟨rfl, rfl⟩
  go_wp2_with fail
  go_ret2
  exact ⟨rfl, rfl⟩

set_option maxHeartbeats 400000 in
theorem number_ok (P : Nat → Prop) (q : Nat) (l : List UInt8) (w : World) (h : RdrP w P q l) (hl : 4 ≤ l.length) (hv : ofB (l.take 4) ≤ 1000000000) :
    Calls Tryd.prog 28 #[.pointer (some ⟨q, 0, none⟩)] w fun e w' => e = .returned (.tuple #[.int .i64 (ofB (l.take 4) : Nat), .int .i64 0]) ∧ RdrP w' P q (l.drop 4) ∧ Oth q w w' := by
  have cc := first_yes q 4 l w h.rdr (by decide) (by decide) hl
  obtain ⟨hq, A, n, c, hB, hR, hne⟩ := h
  have hn : 4 ≤ n := by have := hR.1; omega
  have hnc := hR.2.1
  have hcm : c ≤ 9223372036854775807 := by have := hR.2.2.1; unfold maxLen at this; omega
  obtain ⟨A', hsl, hR', hb⟩ := cut_from hR 4 hn .i64
  have hsl' : ∀ W, (Instr.slice 22 (.slice A n c) (some (.int .i64 4)) none none).run Tryd.prog W = .ok (.slice A' (n - 4) (c - 4)) W := hsl
  clear hsl
  have c0 : w.cell? ⟨q, 0, none⟩ = some (.slice A n c) := hB.cell 0
  have f0 : w.frozen? ⟨q, 0, none⟩ = false := hB.frozen 0
  have HB := Lib.hid hB
  have HR := Lib.hid hR'
  have HN := Lib.hid hne
  have HBB := Lib.hid hb
  have HQ := Lib.hid hq
  clear hq
  clear hB hR hne hR' hb
  generalize ofB (l.take 4) = x at *
  have HC := Lib.hid cc
  clear cc
  go_enter Tryd.func28, Tryd.ntmps28
  go_wp2_with fail
  refine HC.out.mono ?_
  rintro e w' ⟨rfl, rfl⟩
  go_wp2_with fail
  go_ret2
  exact ⟨rfl, rdrP_next HBB.out HQ.out HN.out (HB.out.set_ 0 _) HR.out ((Oth.refl _ _).setCell _ _), (Oth.refl _ _).setCell _ _⟩

/-- Number, whatever is ahead. -/
theorem number_anyP (P : Nat → Prop) (q : Nat) (l : List UInt8) (w : World) (h : RdrP w P q l) :
    Calls Tryd.prog 28 #[.pointer (some ⟨q, 0, none⟩)] w fun e w' => e = .returned (.tuple #[.int .i64 (numV l), .int .i64 (numE l)]) ∧ RdrP w' P q (numRest l) ∧ Oth q w w' := by
  by_cases hl : l.length < 4
  · have h0 : ¬ numOk l := fun hh => by have := hh.1; omega
    rw [numV, numE, numRest, if_neg h0, if_neg h0, if_pos hl]
    exact (number_short q l w h.rdr hl).mono fun e w' ⟨he, hw⟩ => by subst hw; exact ⟨he, h, Oth.refl _ _⟩
  · by_cases hv : ofB (l.take 4) ≤ 1000000000
    · have h0 : numOk l := ⟨by omega, hv⟩
      rw [numV, numE, numRest, if_pos h0, if_pos h0, if_neg hl, if_pos hv]
      exact number_ok P q l w h (by omega) hv
    · have h0 : ¬ numOk l := fun hh => hv hh.2
      rw [numV, numE, numRest, if_neg h0, if_neg h0, if_neg hl, if_neg hv]
      exact (number_form q l w h.rdr (by omega) (by omega)).mono fun e w' ⟨he, hw⟩ => by subst hw; exact ⟨he, h, Oth.refl _ _⟩

theorem number_any (q : Nat) (l : List UInt8) (w : World) (h : Rdr w q l) :
    Calls Tryd.prog 28 #[.pointer (some ⟨q, 0, none⟩)] w fun e w' => e = .returned (.tuple #[.int .i64 (numV l), .int .i64 (numE l)]) ∧ Rdr w' q (numRest l) ∧ Oth q w w' :=
  (number_anyP _ q l w h.any).mono fun _ _ ⟨he, hr, ho⟩ => ⟨he, hr.rdr, ho⟩

set_option maxHeartbeats 400000 in
theorem number_nil (w : World) : Calls Tryd.prog 28 #[.pointer none] w fun e w' => e = .returned (.tuple #[.int .i64 0, .int .i64 3]) ∧ w = w' := by
  go_enter Tryd.func28, Tryd.ntmps28
  go_wp2_with fail
  go_ret2
  exact ⟨rfl, rfl⟩

/-- What Int answers of the bytes ahead. -/
def intV (l : List UInt8) : Int := if 8 ≤ l.length then wrap64 (ofB (l.take 8) : Nat) else 0
def intE (l : List UInt8) : Int := if 8 ≤ l.length then 0 else 10
def intRest (l : List UInt8) : List UInt8 := if 8 ≤ l.length then l.drop 8 else l

end Go.Proofs.YtbljghjhpkhcaaaDoor
