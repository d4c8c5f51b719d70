/- Contract of seal.First. -/
import Derived.Test.YtbljghjhpkhcaaaDoorHead
import Derived.Test.YtbljghjhpkhcaaaDoorRead
import Derived.Test.YtbljghjhpkhcaaaDoorOf
import Derived.Deep.RegionWith
import Derived.Deep.DeepMust
namespace Go.Proofs.YtbljghjhpkhcaaaDoor
open Go.RowKit

theorem Own.drewN {w : World} {B : Nat} {v : Value} {l : List UInt8} (h : Own w B v l) (m : Nat) : Own (w.drewN m) B v l := h
theorem belowN {B : Nat} {a w : World} (h : Below B a w) (n : Nat) : Below B a (w.drewN n) := ⟨h.os, h.tape, h.output, h.size, h.block⟩

theorem Rd.take {w : World} {A : Option Addr} {n c : Nat} {l : List UInt8} (h : Rd w A n c l) (m : Nat) (hm : m ≤ n) : Rd w A m c (l.take m) := by
  obtain ⟨h1, h2, h3, h4⟩ := h
  refine ⟨by rw [List.length_take]; omega, by omega, h3, fun h0 => ?_⟩
  obtain ⟨b, off, hA, hlt, hc⟩ := h4 (by omega)
  refine ⟨b, off, hA, hlt, fun i u hu => hc i u ?_⟩
  rw [List.getElem?_take] at hu
  split at hu
  · exact hu
  · cases hu

/-- The length that stands in a frame's first four bytes. -/
def flen (l : List UInt8) : Nat := ofB (l.take 4)
/-- What First answers. -/
def fstOk (l : List UInt8) : Prop := 8 ≤ l.length ∧ flen l ≤ 1048576 ∧ 8 + flen l ≤ l.length ∧ fsum ((l.drop 8).take (flen l)) = ofB ((l.drop 4).take 4)
instance (l : List UInt8) : Decidable (fstOk l) := by unfold fstOk; infer_instance
def fstB (l : List UInt8) : List UInt8 := if fstOk l then (l.drop 8).take (flen l) else []
def fstN (l : List UInt8) : Nat := if fstOk l then 8 + flen l else 0
def fstE (l : List UInt8) : Int := if l.length < 8 then 20 else if 1048576 < flen l then 21 else if l.length < 8 + flen l then 20 else if fsum ((l.drop 8).take (flen l)) = ofB ((l.drop 4).take 4) then 0 else 21

theorem lowB_ofB (l : List UInt8) : lowB (ofB l) l.length = l := by
  have key : ∀ (m : List UInt8) (k : Nat), k ≤ m.length → lowB (ofB m) k = m.take k := by
    intro m k
    induction k with
    | zero => intro _; rfl
    | succ k ih =>
      intro hk
      rw [lowB_succ, ih (by omega), List.take_add_one, List.getElem?_eq_getElem (by omega), Option.toList_some]
      congr 2
      have h1 : m = m.take k ++ (m[k] :: m.drop (k + 1)) := by rw [← List.drop_eq_getElem_cons (by omega), List.take_append_drop]
      have h2 : ∀ a b : List UInt8, ofB (a ++ b) = ofB a + ofB b * 2 ^ (8 * a.length) := by
        intro a b
        induction a with
        | nil => simp [ofB]
        | cons y r ih2 =>
          simp only [List.cons_append, ofB, ih2, List.length_cons]
          rw [show 8 * (r.length + 1) = 8 * r.length + 8 by omega, Nat.pow_add, Nat.mul_add, show (2 : Nat) ^ 8 = 256 from rfl, ← Nat.mul_assoc (ofB b), Nat.mul_comm _ 256]
          omega
      have h3 : ofB m = ofB (m.take k) + ofB (m[k] :: m.drop (k + 1)) * 2 ^ (8 * k) := by
        conv => lhs; rw [h1]
        rw [h2, List.length_take, Nat.min_eq_left (by omega)]
      have h4 := ofB_lt (m.take k)
      rw [List.length_take, Nat.min_eq_left (by omega)] at h4
      have h5 : ofB m / 2 ^ (8 * k) = ofB (m[k] :: m.drop (k + 1)) := by
        rw [h3, Nat.add_mul_div_right _ _ (by exact Nat.two_pow_pos _), Nat.div_eq_of_lt h4, Nat.zero_add]
      rw [h5, ofB]
      apply UInt8.toNat_inj.1
      rw [UInt8.toNat_ofNat']
      have := m[k].toNat_lt
      omega
  have := key l l.length (Nat.le_refl _)
  rwa [List.take_length] at this

theorem lowB_inj {a b : Nat} (ha : a < 4294967296) (hb : b < 4294967296) (h : lowB a 4 = lowB b 4) : a = b := by
  have e : ∀ v k, ofB (lowB v k) = v % 2 ^ (8 * k) := by
    intro v k
    induction k with
    | zero => simp [lowB, ofB, Nat.mod_one]
    | succ k ih =>
      rw [lowB_succ, ofB_append, ih, lowB_length, UInt8.toNat_ofNat', show 8 * (k + 1) = 8 * k + 8 by omega, Nat.pow_add, Nat.mod_mul, Nat.mul_comm (2 ^ (8 * k))]
  have h1 := congrArg ofB h
  rw [e, e] at h1
  omega

/-- The head of the body is the frame's first eight bytes just where the sum is right. -/
theorem head_eq (l : List UInt8) (h8 : 8 ≤ l.length) (hx : 8 + flen l ≤ l.length) : headB ((l.drop 8).take (flen l)) = l.take 8 ↔ fsum ((l.drop 8).take (flen l)) = ofB ((l.drop 4).take 4) := by
  have hlen : ((l.drop 8).take (flen l)).length = flen l := by rw [List.length_take, List.length_drop]; omega
  have h4 : (l.take 4).length = 4 := by rw [List.length_take]; omega
  have h4' : ((l.drop 4).take 4).length = 4 := by rw [List.length_take, List.length_drop]; omega
  have e1 : lowB (flen l) 4 = l.take 4 := by
    have := lowB_ofB (l.take 4)
    rwa [h4] at this
  have e2 : lowB (ofB ((l.drop 4).take 4)) 4 = (l.drop 4).take 4 := by
    have := lowB_ofB ((l.drop 4).take 4)
    rwa [h4'] at this
  have e3 : l.take 8 = l.take 4 ++ (l.drop 4).take 4 := by rw [show 8 = 4 + 4 from rfl, List.take_add]
  have hlt : ofB ((l.drop 4).take 4) < 4294967296 := by have := ofB_lt ((l.drop 4).take 4); rwa [h4'] at this
  rw [headB, hlen, e1, e3]
  constructor
  · intro h
    have := List.append_cancel_left h
    rw [← e2] at this
    exact lowB_inj (fsum_lt _) hlt this
  · intro h
    rw [h, e2]

set_option maxHeartbeats 400000 in
theorem first_short (A : Option Addr) (n c : Nat) (l : List UInt8) (w : World) (h : Rd w A n c l) (hn : n < 8) :
    Calls Tryd.prog 18 #[.slice A n c] w fun e w' => e = .returned (.tuple #[.slice none 0 0, .int .i64 0, .int .i64 20]) ∧ Below w.heap.size w w' := by
  have H := Lib.hid h
  have hnc := h.2.1
  have hcm : c ≤ 9223372036854775807 := by have := h.2.2.1; unfold maxLen at this; omega
  clear h
  by_cases h4 : 4 ≤ n
  · go_enter Tryd.func18, Tryd.ntmps18
    go_wp2_with fail
    refine (new_any A 4 c _ w (H.out.take 4 h4) (by decide)).mono ?_
    rintro e w1 ⟨q, rfl, hq, hr, hb1⟩
    have C := Lib.hid (number_any q _ w1 hr)
    clear hr
    go_wp2_with fail
    refine C.out.mono ?_
    rintro e w2 ⟨rfl, _, ho2⟩
    have hb2 : Below w.heap.size w w2 := ho2.below hb1 hq
    clear ho2
    go_wp2_with fail
    go_ret3
    exact ⟨rfl, hb2⟩
  · go_enter Tryd.func18, Tryd.ntmps18
    go_wp2_with fail
    refine (new_any A n c l w H.out (by omega)).mono ?_
    rintro e w1 ⟨q, rfl, hq, hr, hb1⟩
    have C := Lib.hid (number_any q _ w1 hr)
    clear hr
    go_wp2_with fail
    refine C.out.mono ?_
    rintro e w2 ⟨rfl, _, ho2⟩
    have hb2 : Below w.heap.size w w2 := ho2.below hb1 hq
    clear ho2
    go_wp2_with fail
    go_ret3
    exact ⟨rfl, hb2⟩

theorem take4 (l : List UInt8) (h : 8 ≤ l.length) : (l.take 4).length = 4 := by rw [List.length_take]; omega
theorem take44 (l : List UInt8) : (l.take 4).take 4 = l.take 4 := by rw [List.take_take]; rfl

set_option maxHeartbeats 400000 in
theorem first_form (A : Option Addr) (n c : Nat) (l : List UInt8) (w : World) (h : Rd w A n c l) (hn : 8 ≤ n) (hx : 1048576 < flen l) :
    Calls Tryd.prog 18 #[.slice A n c] w fun e w' => e = .returned (.tuple #[.slice none 0 0, .int .i64 0, .int .i64 21]) ∧ Below w.heap.size w w' := by
  have H := Lib.hid h
  have hnc := h.2.1
  have hcm : c ≤ 9223372036854775807 := by have := h.2.2.1; unfold maxLen at this; omega
  have h4 := take4 l (by rw [h.1]; exact hn)
  have hf : ofB ((l.take 4).take 4) = flen l := by rw [take44]; rfl
  clear h
  by_cases hv : flen l ≤ 1000000000
  · have e1 : numV (l.take 4) = (flen l : Int) := by rw [numV, if_pos ⟨by omega, by rw [hf]; exact hv⟩, hf]
    have e2 : numE (l.take 4) = 0 := by rw [numE, if_neg (by omega), hf, if_pos hv]
    have HE := Lib.hid (And.intro e1 e2)
    clear e1 e2 h4 hf
    go_enter Tryd.func18, Tryd.ntmps18
    go_wp2_with fail
    refine (new_any A 4 c _ w (H.out.take 4 (by omega)) (by decide)).mono ?_
    rintro e w1 ⟨q, rfl, hq, hr, hb1⟩
    have cc := number_any q _ w1 hr
    rw [HE.out.1, HE.out.2] at cc
    generalize flen l = x at *
    have C := Lib.hid cc
    clear hr cc
    go_wp2_with fail
    refine C.out.mono ?_
    rintro e w2 ⟨rfl, _, ho2⟩
    have hb2 : Below w.heap.size w w2 := ho2.below hb1 hq
    clear ho2
    go_wp2_with fail
    go_ret3
    exact ⟨rfl, hb2⟩
  · have e1 : numV (l.take 4) = 0 := by rw [numV, if_neg (fun hh => by have := hh.2; rw [hf] at this; omega)]
    have e2 : numE (l.take 4) = 11 := by rw [numE, if_neg (by omega), hf, if_neg hv]
    have HE := Lib.hid (And.intro e1 e2)
    clear e1 e2 h4 hf hv hx
    go_enter Tryd.func18, Tryd.ntmps18
    go_wp2_with fail
    refine (new_any A 4 c _ w (H.out.take 4 (by omega)) (by decide)).mono ?_
    rintro e w1 ⟨q, rfl, hq, hr, hb1⟩
    have cc := number_any q _ w1 hr
    rw [HE.out.1, HE.out.2] at cc
    have C := Lib.hid cc
    clear hr cc
    go_wp2_with fail
    refine C.out.mono ?_
    rintro e w2 ⟨rfl, _, ho2⟩
    have hb2 : Below w.heap.size w w2 := ho2.below hb1 hq
    clear ho2
    go_wp2_with fail
    go_ret3
    exact ⟨rfl, hb2⟩

set_option maxHeartbeats 400000 in
theorem first_cut (A : Option Addr) (n c : Nat) (l : List UInt8) (w : World) (h : Rd w A n c l) (hn : 8 ≤ n) (hnn : n ≤ 4194304) (hx : flen l ≤ 1048576) (hc : n < 8 + flen l) :
    Calls Tryd.prog 18 #[.slice A n c] w fun e w' => e = .returned (.tuple #[.slice none 0 0, .int .i64 0, .int .i64 20]) ∧ Below w.heap.size w w' := by
  have H := Lib.hid h
  have hnc := h.2.1
  have hcm : c ≤ 9223372036854775807 := by have := h.2.2.1; unfold maxLen at this; omega
  have h4 := take4 l (by rw [h.1]; exact hn)
  have hf : ofB ((l.take 4).take 4) = flen l := by rw [take44]; rfl
  clear h
  have e1 : numV (l.take 4) = (flen l : Int) := by rw [numV, if_pos ⟨by omega, by rw [hf]; omega⟩, hf]
  have e2 : numE (l.take 4) = 0 := by rw [numE, if_neg (by omega), hf, if_pos (by omega)]
  have HE := Lib.hid (And.intro e1 e2)
  clear e1 e2 h4 hf
  go_enter Tryd.func18, Tryd.ntmps18
  go_wp2_with fail
  refine (new_any A 4 c _ w (H.out.take 4 (by omega)) (by decide)).mono ?_
  rintro e w1 ⟨q, rfl, hq, hr, hb1⟩
  have cc := number_any q _ w1 hr
  rw [HE.out.1, HE.out.2] at cc
  generalize flen l = x at *
  have C := Lib.hid cc
  clear hr cc
  go_wp2_with fail
  refine C.out.mono ?_
  rintro e w2 ⟨rfl, _, ho2⟩
  have hb2 : Below w.heap.size w w2 := ho2.below hb1 hq
  clear ho2
  go_wp2_with fail
  go_ret3
  exact ⟨rfl, hb2⟩

/-- How First ends where the bytes are all there. -/
def BodyPost (w : World) (l : List UInt8) (x : Nat) (ok : Bool) (e : Ending) (w' : World) : Prop :=
  ∃ A' c', e = .returned (if ok then .tuple #[.slice A' x c', .int .i64 (8 + (x : Int)), .int .i64 0] else .tuple #[.slice none 0 0, .int .i64 0, .int .i64 21]) ∧ Own w' w.heap.size (.slice A' x c') ((l.drop 8).take x) ∧ Below w.heap.size w w'

set_option maxHeartbeats 1000000 in
theorem first_body (A : Option Addr) (n c : Nat) (l : List UInt8) (w : World) (h : Rd w A n c l) (hn : 8 ≤ n) (hnn : n ≤ 4194304) (hx : flen l ≤ 1048576) (hc : 8 + flen l ≤ n) (ht : Tab w) (ok : Bool) (hok : (headB ((l.drop 8).take (flen l)) == l.take 8) = ok) :
    Calls Tryd.prog 18 #[.slice A n c] w (BodyPost w l (flen l) ok) := by
  have H := Lib.hid h
  have HT := Lib.hid ht
  have hnc := h.2.1
  have hcm : c ≤ 9223372036854775807 := by have := h.2.2.1; unfold maxLen at this; omega
  have h4 := take4 l (by rw [h.1]; exact hn)
  have hf : ofB ((l.take 4).take 4) = flen l := by rw [take44]; rfl
  obtain ⟨A1, hs1, hR1, _⟩ := cut_both h 8 (8 + flen l) (by omega) hc .i64 .i64
  rw [show 8 + flen l - 8 = flen l by omega, List.drop_take, show 8 + flen l - 8 = flen l by omega] at hR1
  have hs1' : ∀ W, (Instr.slice 22 (.slice A n c) (some (.int .i64 8)) (some (.int .i64 (8 + (flen l : Int)))) none).run Tryd.prog W = .ok (.slice A1 (flen l) (c - 8)) W := by
    intro W
    have := hs1 W
    rw [show 8 + flen l - 8 = flen l by omega] at this
    exact this
  clear h ht
  have e1 : numV (l.take 4) = (flen l : Int) := by rw [numV, if_pos ⟨by omega, by rw [hf]; omega⟩, hf]
  have e2 : numE (l.take 4) = 0 := by rw [numE, if_neg (by omega), hf, if_pos (by omega)]
  have HE := Lib.hid (And.intro e1 e2)
  have HR1 := Lib.hid hR1
  have HOK := Lib.hid hok
  clear e1 e2 h4 hf hs1 hR1 hok
  go_enter Tryd.func18, Tryd.ntmps18
  go_wp2_with fail
  refine (new_any A 4 c _ w (H.out.take 4 (by omega)) (by decide)).mono ?_
  rintro e w1 ⟨q, rfl, hq, hr, hb1⟩
  have cc := number_any q _ w1 hr
  rw [HE.out.1, HE.out.2] at cc
  generalize flen l = x at *
  have C := Lib.hid cc
  clear hr cc
  go_wp2_with fail
  refine C.out.mono ?_
  rintro e w2 ⟨rfl, _, ho2⟩
  have hb2 : Below w.heap.size w w2 := ho2.below hb1 hq
  clear ho2 hb1 hq C
  go_wp2_with fail
  refine (clone_any A1 x (c - 8) _ w2 (HR1.out.below hb2) (by omega)).mono ?_
  rintro e w3 ⟨A3, c3, rfl, ho3, hb3⟩
  have O3 : Hid (Own w3.drew w2.heap.size (.slice A3 x c3) ((l.drop 8).take x)) := ho3
  have hb3' : Below w.heap.size w w3.drew := (hb2.trans (hb3.mono hb2.size)).drew
  have T3 : Hid (Tab w3.drew) := HT.out.below hb3'
  clear ho3
  go_wp2_with fail
  go_region_with (first
    | (go_at_call 24; go_must (refine (head_any A3 x c3 _ w3.drew O3.out.rd (by omega) T3.out).mono ?_); rintro e w4 ⟨A4, c4, rfl, ho4, hb4⟩; have hb4' : Below w.heap.size w w4 := hb3'.trans (hb4.mono hb3'.size); have E5 := Lib.hid (equal_any A4 A 8 c4 c _ _ w4 ho4.rd ((H.out.take 8 hn).below hb4')); have O4 := Lib.hid (O3.out.kept hb4); clear ho4)
    | (go_at_call 30; go_must (refine E5.out.mono ?_); rintro e w5 ⟨rfl, m5, rfl⟩; rw [HOK.out]))
  all_goals cases ok
  all_goals (go_wp2_with fail; go_ret3; exact ⟨A3, c3, rfl, (O4.out.drewN m5).mono hb2.size, belowN hb4' m5⟩)

theorem fstB_length (l : List UInt8) (h : fstOk l) : (fstB l).length = flen l := by
  rw [fstB, if_pos h, List.length_take, List.length_drop]
  have := h.2.2.1
  omega

/-- First, whatever the bytes. -/
theorem first_any (A : Option Addr) (n c : Nat) (l : List UInt8) (w : World) (h : Rd w A n c l) (hnn : n ≤ 4194304) (ht : Tab w) :
    Calls Tryd.prog 18 #[.slice A n c] w fun e w' => ∃ A' k c', e = .returned (.tuple #[.slice A' k c', .int .i64 (fstN l : Nat), .int .i64 (fstE l)]) ∧ k = (fstB l).length ∧ Own w' w.heap.size (.slice A' k c') (fstB l) ∧ Below w.heap.size w w' := by
  have hl := h.1
  have no (E : Int) (hE : fstE l = E) (hno : ¬ fstOk l) (cc : Calls Tryd.prog 18 #[.slice A n c] w fun e w' => e = .returned (.tuple #[.slice none 0 0, .int .i64 0, .int .i64 E]) ∧ Below w.heap.size w w') :
      Calls Tryd.prog 18 #[.slice A n c] w fun e w' => ∃ A' k c', e = .returned (.tuple #[.slice A' k c', .int .i64 (fstN l : Nat), .int .i64 (fstE l)]) ∧ k = (fstB l).length ∧ Own w' w.heap.size (.slice A' k c') (fstB l) ∧ Below w.heap.size w w' := by
    rw [fstN, fstB, if_neg hno, if_neg hno, hE]
    exact cc.mono fun e w' ⟨he, hb⟩ => ⟨none, 0, 0, he, rfl, Own.nil _ _, hb⟩
  by_cases h8 : n < 8
  · exact no 20 (by rw [fstE, if_pos (by omega)]) (fun hh => by have := hh.1; omega) (first_short A n c l w h h8)
  · by_cases hx : 1048576 < flen l
    · exact no 21 (by rw [fstE, if_neg (by omega), if_pos hx]) (fun hh => by have := hh.2.1; omega) (first_form A n c l w h (by omega) hx)
    · by_cases hc : n < 8 + flen l
      · exact no 20 (by rw [fstE, if_neg (by omega), if_neg hx, if_pos (by omega)]) (fun hh => by have := hh.2.2.1; omega) (first_cut A n c l w h (by omega) hnn (by omega) hc)
      · have hq := head_eq l (by omega) (by omega)
        by_cases hs : fsum ((l.drop 8).take (flen l)) = ofB ((l.drop 4).take 4)
        · have hok : fstOk l := ⟨by omega, by omega, by omega, hs⟩
          have hb := first_body A n c l w h (by omega) hnn (by omega) (by omega) ht true (beq_iff_eq.2 (hq.2 hs))
          have hk := fstB_length l hok
          rw [fstN, if_pos hok, fstE, if_neg (by omega), if_neg hx, if_neg (by omega), if_pos hs, hk]
          rw [fstB, if_pos hok]
          exact hb.mono fun e w' ⟨A', c', he, ho, hbb⟩ => ⟨A', flen l, c', he, rfl, ho, hbb⟩
        · have hb := first_body A n c l w h (by omega) hnn (by omega) (by omega) ht false (beq_eq_false_iff_ne.2 fun hh => hs (hq.1 hh))
          exact no 21 (by rw [fstE, if_neg (by omega), if_neg hx, if_neg (by omega), if_neg hs]) (fun hh => hs hh.2.2.2) (hb.mono fun e w' ⟨A', c', he, _, hbb⟩ => ⟨he, hbb⟩)
end Go.Proofs.YtbljghjhpkhcaaaDoor
