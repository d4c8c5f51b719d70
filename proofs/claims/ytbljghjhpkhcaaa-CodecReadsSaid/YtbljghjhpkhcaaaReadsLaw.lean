/- The walk of CodecReads. -/
import Derived.Test.YtbljghjhpkhcaaaCutRead
import Derived.Test.YtbljghjhpkhcaaaBacks
import Derived.Test.YtbljghjhpkhcaaaLend
import Derived.Test.YtbljghjhpkhcaaaBack
namespace Go.Proofs.Ytbljghjhpkhcaaa
open Go.RowKit

/-- A slice of ints that reads as zs. -/
def RdI (w : World) (A : Option Addr) (n c : Nat) (zs : List Int) : Prop :=
  zs.length = n ∧ n ≤ c ∧ c ≤ maxLen ∧ (0 < n → ∃ b off, A = some ⟨b, off, none⟩ ∧ b < w.heap.size ∧ ∀ (i : Nat) z, zs[i]? = some z → w.cell? ⟨b, off + i, none⟩ = some (.int .i64 z))

theorem RdrP.drewN {w : World} {P : Nat → Prop} {q : Nat} {l : List UInt8} (h : RdrP w P q l) (m : Nat) : RdrP (w.drewN m) P q l := h

theorem Ctr.oth {w w' : World} {A : Option Addr} {n c g q p : Nat} {l : List UInt8} (h : Ctr w q A n c l p) (ho : Oth g w w') (hq : q ≠ g) (hA : ∀ ad, 0 < n → A = some ad → ad.block ≠ g) : Ctr w' q A n c l p := by
  obtain ⟨h1, h2, hB, hR, hne⟩ := h
  exact ⟨h1, h2, (ho.block q hq).trans hB, hR.oth ho hA, hne⟩

theorem RdrB.top {w : World} {B q : Nat} {l : List UInt8} (h : RdrB w B q l) : RdrP w (fun b => B ≤ b ∧ b < w.heap.size) q l := by
  obtain ⟨h0, A, n, c, hB, hR, hne⟩ := h
  refine ⟨⟨h0, hB.lt⟩, A, n, c, hB, hR, fun ad hn hA => ⟨(hne ad hn hA).1, (hne ad hn hA).2, ?_⟩⟩
  obtain ⟨b, off, hA', hlt, _⟩ := hR.2.2.2 hn
  rw [hA] at hA'
  obtain rfl := Option.some.inj hA'
  exact hlt

/-- What holds at the head of each round: the reader and the Cut stand at one place p, the lent bytes stand as they were lent. -/
def RInv (w0 : World) (T q1 q2 : Nat) (A : Option Addr) (n c : Nat) (l : List UInt8) (w : World) (p : Nat) : Prop :=
  RdrP w (fun b => w0.heap.size < b ∧ b < T) q1 (l.drop p) ∧ Ctr w q2 A n c l p ∧ Blk w w0.heap.size 5 (l.map cel ++ [cel 165, cel 90]) ∧ Below w0.heap.size w0 w

/-- Behind a round: the reader took k bytes, then the Cut did. -/
theorem RInv.step {w0 wr w1 w2 : World} {T q1 q2 n c p k m : Nat} {A : Option Addr} {l r1 : List UInt8} (h : RInv w0 T q1 q2 A n c l wr p) (hT : T ≤ q2)
    (h1 : RdrP w1 (fun b => w0.heap.size < b ∧ b < T) q1 r1) (o1 : Oth q1 (wr.drewN m) w1) (h2 : Ctr w2 q2 A n c l (p + k)) (o2 : Oth q2 w1 w2) (e : r1 = (l.drop p).drop k) : RInv w0 T q1 q2 A n c l w2 (p + k) := by
  obtain ⟨i1, i2, i3, i4⟩ := h
  have hq := h1.1
  subst e
  rw [List.drop_drop] at h1
  refine ⟨h1.oth o2 (by omega), h2, (o2.block _ (by omega)).trans ((o1.block _ (by omega)).trans i3), o2.below (o1.below (w0 := w0) ?_ (by omega)) (by omega)⟩
  exact ⟨i4.os, i4.tape, i4.output, i4.size, i4.block⟩

set_option maxHeartbeats 400000 in
theorem codecReads_long (A KA : Option Addr) (n c nk kc : Nat) (w : World) (hn : 262144 < n ∨ 1000 < nk) :
    Calls Try.prog 7 #[.slice A n c, .slice KA nk kc] w fun e w' => e = .returned (.bool true) ∧ Below w.heap.size w w' := by
  by_cases h0 : 262144 < n
  · go_enter Try.func7, Try.ntmps7
    go_wp2_with fail
    go_ret
    exact ⟨rfl, Below.refl _ _⟩
  · have h1 : 1000 < nk := by omega
    go_enter Try.func7, Try.ntmps7
    go_wp2_with fail
    go_ret
    exact ⟨rfl, Below.refl _ _⟩

set_option maxRecDepth 100000 in
set_option maxHeartbeats 2000000 in
theorem codecReads_walk (A KA : Option Addr) (n c nk kc : Nat) (l : List UInt8) (zs : List Int) (w : World) (h : Rd w A n c l) (hn : n ≤ 262144) (hz : RdI w KA nk kc zs) (hnk : nk ≤ 1000) :
    Calls Try.prog 7 #[.slice A n c, .slice KA nk kc] w fun e w' => e = .returned (.bool true) ∧ Below w.heap.size w w' := by
  have HZ := Lib.hid hz
  have hkc : kc ≤ 9223372036854775807 := by have := hz.2.2.1; unfold maxLen at this; omega
  have hkn := hz.2.1
  have H := Lib.hid h
  clear h hz
  go_enter Try.func7, Try.ntmps7
  go_wp2_with fail
  refine (lend_any A n c l _ H.out (by omega)).mono ?_
  rintro e w1 ⟨rfl, hB, hb1⟩
  have HB := Lib.hid hB
  clear hB
  have RL : Hid (Rd w1 (some ⟨w.heap.size, 0, none⟩) n (n + 2) l) := by
    have := Rd.of_blk (c := n + 2) HB.out (by have := H.out.1; omega) (by unfold maxLen; omega)
    rw [H.out.1] at this
    exact this
  go_wp2_with fail
  refine (new_own _ _ _ _ _ RL.out (by omega)).mono ?_
  rintro e w2 ⟨q1, rfl, hr2, hb2⟩
  have hlt : w.heap.size < w1.heap.size := HB.out.lt
  have R2 : Hid (RdrP w2 (fun b => w.heap.size < b ∧ b < w2.heap.size) q1 l) := by
    obtain ⟨h0, A1, n1, c1, hB1, hR1, hne1⟩ := hr2.top
    exact ⟨⟨by omega, h0.2⟩, A1, n1, c1, hB1, hR1, fun ad hn hA => ⟨(hne1 ad hn hA).1, by have := (hne1 ad hn hA).2.1; omega, (hne1 ad hn hA).2.2⟩⟩
  have HA : Hid (∀ ad, 0 < n → A = some ad → ad.block < w.heap.size) := by
    intro ad hn hA
    obtain ⟨b, off, hA', hlt, _⟩ := H.out.2.2.2 hn
    rw [hA] at hA'
    obtain rfl := Option.some.inj hA'
    exact hlt
  have I0 : Hid (RInv w w2.heap.size q1 w2.heap.size A n c l (w2.alloc (.cells #[.slice A n c, .int .i64 0] 46)) 0) := by
    have hbb : Below w.heap.size w w2 := hb1.trans (hb2.mono hb1.size)
    refine ⟨R2.out.below ((Below.refl _ _).alloc (Nat.le_refl _) _), ⟨Nat.zero_le _, by rw [H.out.1]; omega, Blk.new w2 46 [.slice A n c, .int .i64 0], ((H.out.below hb1).below hb2).below ((Below.refl _ _).alloc (Nat.le_refl _) _), ?_⟩, (HB.out.below hb2 hlt).alloc _, hbb.alloc hbb.size _⟩
    intro ad hn hA
    have := HA.out ad hn hA
    have := hbb.size
    omega
  have hq1 : q1 < w2.heap.size := R2.out.1.2
  have hq0 : w.heap.size < q1 := R2.out.1.1
  have hw2 : w.heap.size < w2.heap.size := by omega
  clear hr2 R2 hb2 hb1 HB RL
  go_wp2_with fail
  go_loopw [8] (fun i wr => ∃ j : Nat, j ≤ nk ∧ i = .int .i64 j ∧ ∃ p, Hid (RInv w w2.heap.size q1 w2.heap.size A n c l wr p)) (fun i _ => nk - (intOf i).toNat)
  case atStart => exact ⟨0, Nat.zero_le _, rfl, 0, I0⟩
  case round =>
    obtain ⟨j, hj, rfl, p, hI⟩ := hrel
    by_cases hlt : j < nk
    · obtain ⟨r, hr⟩ : ∃ r, l.drop p = r := ⟨_, rfl⟩
      obtain ⟨kb, koff, rfl, hkb, hkc'⟩ := HZ.out.2.2.2 (by omega)
      obtain ⟨z, hz⟩ : ∃ z, zs[j]? = some z := ⟨_, List.getElem?_eq_getElem (by have := HZ.out.1; omega)⟩
      have ck : wr.cell? ⟨kb, koff + j, none⟩ = some (.int .i64 z) := (hI.out.2.2.2.cell (p := ⟨kb, koff + j, none⟩) hkb).trans (hkc' j z hz)
      have i1 := hI.out.1
      rw [hr] at i1
      have C1 := Lib.hid (left_any q1 r wr i1.rdr)
      have C2 := Lib.hid (cleft_r hI.out.2.1 hr)
      have I1 := Lib.hid i1
      have HR := Lib.hid hr
      have HRR : Hid (RInv w w2.heap.size q1 w2.heap.size A n c l wr p) := hI
      clear hkc' hz i1 hr hI I0
      go_wp2_with fail
      refine C1.out.mono ?_
      rintro e w3 ⟨rfl, rfl⟩
      go_wp2_with fail
      refine C2.out.mono ?_
      rintro e w4 ⟨rfl, m, rfl⟩
      have C3 : Hid (∀ W, Ctr W w2.heap.size A n c l p → Calls Try.prog 27 #[.pointer (some ⟨w2.heap.size, 0, none⟩)] W fun e w' => e = .returned (.tuple #[.int .i64 (numV r), .int .i64 (numE r)]) ∧ Ctr w' w2.heap.size A n c l (p + numTake r) ∧ Oth w2.heap.size W w') := by
        intro W hW
        have := cnum_any A n c w2.heap.size p l W hW
        rwa [HR.out] at this
      have C4 : Hid (∀ W, Ctr W w2.heap.size A n c l p → Calls Try.prog 28 #[.pointer (some ⟨w2.heap.size, 0, none⟩)] W fun e w' => e = .returned (.tuple #[.int .i64 (intV r), .int .i64 (intE r)]) ∧ Ctr w' w2.heap.size A n c l (p + intTake r) ∧ Oth w2.heap.size W w') := by
        intro W hW
        have := cint_any A n c w2.heap.size p l W hW
        rwa [HR.out] at this
      have C5 : Hid (∀ W, Ctr W w2.heap.size A n c l p → Calls Try.prog 30 #[.pointer (some ⟨w2.heap.size, 0, none⟩)] W fun e w' => e = .returned (.tuple #[.string ⟨(txtB r).toArray⟩, .int .i64 (txtE r)]) ∧ Ctr w' w2.heap.size A n c l (p + txtTake r) ∧ Oth w2.heap.size W w') := by
        intro W hW
        have := ctxt_any A n c w2.heap.size p l W hW
        rwa [HR.out] at this
      by_cases h1 : z = 1
      · subst h1
        go_wp2_with fail
        refine (number_anyP _ q1 r _ (I1.out.drewN m)).mono ?_
        rintro e w5 ⟨rfl, hr5, ho5⟩
        have I5 := Lib.hid hr5
        have O5 := Lib.hid ho5
        have CT := Lib.hid ((HRR.out.2.1.drewN m).oth ho5 (by omega) fun ad hn hA => by have := HA.out ad hn hA; omega)
        clear hr5 ho5
        go_wp2_with fail
        refine (C3.out _ CT.out).mono ?_
        rintro e w6 ⟨rfl, hr6, ho6⟩
        have I6 : Hid (RInv w w2.heap.size q1 w2.heap.size A n c l w6 (p + numTake r)) := HRR.out.step (Nat.le_refl _) I5.out O5.out hr6 ho6 (by rw [HR.out]; exact numRest_take r)
        clear hr6 ho6 I5 O5 CT C1 C2 C3 C4 C5 HRR
        go_wp2_with fail
        go_roundw
        case rel => exact ⟨j + 1, by omega, by go_num, _, I6⟩
        case measure => simp [intOf]; omega
      · by_cases h2 : z = 2
        · subst h2
          go_wp2_with fail
          refine (int_anyP _ q1 r _ (I1.out.drewN m)).mono ?_
          rintro e w5 ⟨rfl, hr5, ho5⟩
          have I5 := Lib.hid hr5
          have O5 := Lib.hid ho5
          have CT := Lib.hid ((HRR.out.2.1.drewN m).oth ho5 (by omega) fun ad hn hA => by have := HA.out ad hn hA; omega)
          clear hr5 ho5
          go_wp2_with fail
          refine (C4.out _ CT.out).mono ?_
          rintro e w6 ⟨rfl, hr6, ho6⟩
          have I6 : Hid (RInv w w2.heap.size q1 w2.heap.size A n c l w6 (p + intTake r)) := HRR.out.step (Nat.le_refl _) I5.out O5.out hr6 ho6 (by rw [HR.out]; exact intRest_take r)
          clear hr6 ho6 I5 O5 CT C1 C2 C3 C4 C5 HRR
          go_wp2_with fail
          go_roundw
          case rel => exact ⟨j + 1, by omega, by go_num, _, I6⟩
          case measure => simp [intOf]; omega
        · have e1 : (z == 1) = false := by simp [h1]
          have e2 : (z == 2) = false := by simp [h2]
          clear h1 h2
          go_wp2_with fail
          refine (text_anyP _ q1 r _ (I1.out.drewN m)).mono ?_
          rintro e w5 ⟨rfl, hr5, ho5⟩
          have I5 := Lib.hid hr5
          have O5 := Lib.hid ho5
          have CT := Lib.hid ((HRR.out.2.1.drewN m).oth ho5 (by omega) fun ad hn hA => by have := HA.out ad hn hA; omega)
          clear hr5 ho5
          go_wp2_with fail
          refine (C5.out _ CT.out).mono ?_
          rintro e w6 ⟨rfl, hr6, ho6⟩
          have I6 : Hid (RInv w w2.heap.size q1 w2.heap.size A n c l w6 (p + txtTake r)) := HRR.out.step (Nat.le_refl _) I5.out O5.out hr6 ho6 (by rw [HR.out]; exact txtRest_take r)
          clear hr6 ho6 I5 O5 CT C1 C2 C3 C4 C5 HRR
          go_wp2_with fail
          go_roundw
          case rel => exact ⟨j + 1, by omega, by go_num, _, I6⟩
          case measure => simp [intOf]; omega
    · have CL := Lib.hid (left_any q1 _ wr hI.out.1.rdr)
      have CC := Lib.hid (cleft_any A n c _ p l wr hI.out.2.1)
      generalize (l.drop p).length = len at *
      go_wp2_with fail
      refine CL.out.mono ?_
      rintro e w3 ⟨rfl, rfl⟩
      go_wp2_with fail
      refine CC.out.mono ?_
      rintro e w4 ⟨rfl, m, rfl⟩
      have hb4 : Below w.heap.size w (wr.drewN m) := ⟨hI.out.2.2.2.os, hI.out.2.2.2.tape, hI.out.2.2.2.output, hI.out.2.2.2.size, hI.out.2.2.2.block⟩
      have HB4 : Hid (Blk (wr.drewN m) w.heap.size 5 (l.map cel ++ [cel 165, cel 90])) := hI.out.2.2.1
      go_wp2_with fail
      refine (back_any A w.heap.size n c l (wr.drewN m) (H.out.below hb4) (by omega) HB4.out).mono ?_
      rintro e w5 ⟨rfl, ho5⟩
      have hb5 : Below w.heap.size w w5 := ho5.below hb4 (Nat.le_refl _)
      go_wp2_with fail
      refine (reads_any _).mono ?_
      rintro e w6 ⟨rfl, hb6⟩
      go_wp2_with fail
      go_ret
      exact ⟨rfl, hb5.trans (hb6.mono hb5.size)⟩
end Go.Proofs.Ytbljghjhpkhcaaa
