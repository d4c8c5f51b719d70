/- Slices of slices of bytes: the call's own, and any; append of one; Same. -/
import Derived.Test.YtbljghjhpkhcaaaDoorFrames
import Derived.Test.YtbljghjhpkhcaaaDoorFinds
import Derived.BigQuiet
import Derived.Maps.AppendAt
import Derived.Deep.QuietTactic
namespace Go.Proofs.YtbljghjhpkhcaaaDoor
open Go.RowKit

theorem Tryd.info22 : (Tryd.prog.info? 22).map (fun i => (i.zero, i.size, i.bytes)) = some (some (.slice none 0 0), 1, 24) := by kernel_rfl

/-- What the values of a row of slices of bytes read as; none of them lies in block row, each in one of P. -/
def Vals (w : World) (P : Nat → Prop) (row : Option Nat) (vs : List Value) (ls : List (List UInt8)) : Prop :=
  vs.length = ls.length ∧ ∀ (i : Nat) v l, vs[i]? = some v → ls[i]? = some l → ∃ A n c, v = .slice A n c ∧ Rd w A n c l ∧ ∀ ad, 0 < n → A = some ad → some ad.block ≠ row ∧ P ad.block
/-- A slice of slices of bytes, its row the call's own; each of its slices lies in a block of P. -/
def Own2 (w : World) (B : Nat) (P : Nat → Prop) (v : Value) (ls : List (List UInt8)) : Prop := ∃ vs, w.ownsRow B 22 1 v ls.length vs ∧ Vals w P v.ownBlock vs ls

/-- Any slice of slices of bytes. -/
def Rd2 (w : World) (A : Option Addr) (n c : Nat) (ls : List (List UInt8)) : Prop :=
  ls.length = n ∧ n ≤ c ∧ c ≤ maxLen ∧ (0 < n → ∃ b off, A = some ⟨b, off, none⟩ ∧ b < w.heap.size ∧ ∀ (i : Nat) l, ls[i]? = some l → ∃ A' n' c', w.cell? ⟨b, off + i, none⟩ = some (.slice A' n' c') ∧ Rd w A' n' c' l)

theorem Own2.nil (w : World) (B : Nat) (P : Nat → Prop) : Own2 w B P (.slice none 0 0) [] := ⟨[], World.ownsRow_nil w B 22 1, rfl, fun i v l h => by cases h⟩

theorem Own2.kept {w w' : World} {B : Nat} {P : Nat → Prop} {v : Value} {ls : List (List UInt8)} (h : Own2 w B P v ls) (hb : Below w.heap.size w w') : Own2 w' B P v ls := by
  obtain ⟨vs, hr, hv⟩ := h
  refine ⟨vs, ⟨hr.1, ?_⟩, hv.1, fun i v l h1 h2 => by obtain ⟨A, n, c, e, h3, h4⟩ := hv.2 i v l h1 h2; exact ⟨A, n, c, e, h3.below hb, h4⟩⟩
  rcases hr.2 with hn | ⟨g, cap, cur, rfl, hB, hg, rest⟩
  · exact .inl hn
  · exact .inr ⟨g, cap, cur, rfl, hB, (hb.block g (Array.getElem?_eq_some_iff.1 hg).1).trans hg, rest⟩

theorem Own2.shape {w : World} {B : Nat} {P : Nat → Prop} {v : Value} {ls : List (List UInt8)} (h : Own2 w B P v ls) : ∃ A c, v = .slice A ls.length c := by
  obtain ⟨vs, hr, hv⟩ := h
  rcases hr.2 with ⟨rfl, hn⟩ | ⟨g, cap, cur, rfl, _⟩
  · exact ⟨none, 0, by rw [hn]⟩
  · exact ⟨_, _, rfl⟩

theorem Own2.rd {w : World} {B n c : Nat} {P : Nat → Prop} {A : Option Addr} {ls : List (List UInt8)} (h : Own2 w B P (.slice A n c) ls) : Rd2 w A n c ls := by
  obtain ⟨vs, hr, hv⟩ := h
  rcases hr.2 with ⟨e, hn⟩ | ⟨g, cap, cur, e, hB, hg, hnc, hcm, hsz, ht⟩
  · injection e with h1 h2 h3
    subst h1 h2 h3
    exact ⟨hn, Nat.le_refl _, Nat.zero_le _, fun h => absurd h (by omega)⟩
  · injection e with h1 h2 h3
    subst h1 h2 h3
    refine ⟨rfl, hnc, hcm, fun _ => ⟨g, 0, rfl, (Array.getElem?_eq_some_iff.1 hg).1, fun i l hl => ?_⟩⟩
    have hi : i < ls.length := (List.getElem?_eq_some_iff.1 hl).1
    obtain ⟨v, hvi⟩ : ∃ v, vs[i]? = some v := ⟨_, List.getElem?_eq_getElem (by have := hv.1; omega)⟩
    obtain ⟨A', n', c', rfl, ho, _⟩ := hv.2 i v l hvi hl
    refine ⟨A', n', c', ?_, ho⟩
    rw [Nat.zero_add, hr.cellAt i (by omega), hvi]

theorem Rd2.below {w w' : World} {A : Option Addr} {n c : Nat} {ls : List (List UInt8)} (h : Rd2 w A n c ls) (hb : Below w.heap.size w w') : Rd2 w' A n c ls := by
  refine ⟨h.1, h.2.1, h.2.2.1, fun hn => ?_⟩
  obtain ⟨b, off, hA, hlt, hc⟩ := h.2.2.2 hn
  refine ⟨b, off, hA, Nat.lt_of_lt_of_le hlt hb.size, fun i l hl => ?_⟩
  obtain ⟨A', n', c', hcell, hr⟩ := hc i l hl
  exact ⟨A', n', c', (hb.cell (p := ⟨b, off + i, none⟩) hlt).trans hcell, hr.below hb⟩

/-- A row of bytes of the call's own is another block than a row of slices. -/
theorem Own.row {w : World} {B B' n c k : Nat} {P : Nat → Prop} {V : Value} {A : Option Addr} {l : List UInt8} {ls : List (List UInt8)} (h : Own w B (.slice A n c) l) (hV : Own2 w B' P V ls) (hP : ∀ g, B ≤ g → P g) : ∀ ad, k < n → A = some ad → some ad.block ≠ V.ownBlock ∧ P ad.block := by
  intro ad hn hA
  obtain ⟨vs, hV, _⟩ := hV
  rcases h.2 with ⟨e, hl⟩ | ⟨g, cap, cur, e, hB, hgg, _⟩
  · injection e with e1 e2 e3
    rw [e1] at hA
    cases hA
  · injection e with e1 e2 e3
    rw [e1] at hA
    cases hA
    refine ⟨?_, hP _ hB⟩
    rcases hV.2 with ⟨rfl, _⟩ | ⟨g', cap', cur', rfl, hB', hgg', _⟩
    · simp [Value.ownBlock]
    · simp only [Value.ownBlock, ne_eq, Option.some.injEq]
      intro e
      subst e
      rw [hgg] at hgg'
      simp at hgg'
/-- What lay before the row's base is another block than the row. -/
theorem Own2.far {w w0 : World} {n c : Nat} {V : Value} {A : Option Addr} {l : List UInt8} {ls : List (List UInt8)} (hV : Own2 w w0.heap.size (fun _ => True) V ls) (h : Rd w0 A n c l) : ∀ ad, 0 < n → A = some ad → some ad.block ≠ V.ownBlock ∧ True := by
  intro ad hn hA
  refine ⟨fun e => ?_, trivial⟩
  obtain ⟨vs, hV, _⟩ := hV
  exact h.ne (World.ownsRow.lt hV _ e.symm).1 ad hn hA rfl

theorem Rd.grown {w w' : World} {n c : Nat} {A : Option Addr} {l : List UInt8} {row : Option Nat} (h : Rd w A n c l) (hg : w.grownBy w' row) (hne : ∀ ad, 0 < n → A = some ad → some ad.block ≠ row) : Rd w' A n c l := by
  refine ⟨h.1, h.2.1, h.2.2.1, fun hn => ?_⟩
  obtain ⟨b, off, hA, hlt, hc⟩ := h.2.2.2 hn
  exact ⟨b, off, hA, Nat.lt_of_lt_of_le hlt hg.size, fun i u hu => (World.cell?_of_block (hg.block b hlt (hne _ hn hA))).trans (hc i u hu)⟩

theorem wpList_append_row {w : World} {ops : Array Oper} {rest : List Oper} {o : Oper} {a : Act} {Q : Exit → Act → World → Prop} (hgd : o.guard = none) (s x : Operand)
    (ho : o.op = .call { callee := .builtin .append, args := #[s, x], argTypes := #[35, 35] }) (B : Nat) (P : Nat → Prop) (v : Value) (n : Nat) (ls : List (List UInt8)) (hs : a.eval s = v) (hown : Own2 w B P v ls) (hl : ls.length = n)
    (g c : Nat) (A : Option Addr) (m mc : Nat) (l : List UInt8) (hx : a.eval x = .slice (some ⟨g, 0, none⟩) 1 c) (hu : w.cell? ⟨g, 0, none⟩ = some (.slice A m mc)) (hr : Rd w A m mc l) (hne : ∀ ad, 0 < m → A = some ad → some ad.block ≠ v.ownBlock ∧ P ad.block)
    (h63 : n ≤ 4194304) (hbase : B ≤ w.heap.size) (B0 : Nat) (w0 : World) (hb : Below B0 w0 w) (hB0 : B0 ≤ B)
    (h : ∀ A' c' w', Own2 w' B P (.slice A' (n + 1) c') (ls ++ [l]) → Below B0 w0 w' → wpList Tryd.prog ops Q rest (a.put o.dst (.slice A' (n + 1) c')) w') :
    wpList Tryd.prog ops Q (o :: rest) a w := by
  subst hl
  obtain ⟨i, hi, hz0, hz1, hz2⟩ := info_parts Tryd.info22
  obtain ⟨vs, hown', hvs⟩ := hown
  refine wpList_append_own_at w hgd s x 35 ho B 22 i (.slice none 0 0) 1 24 Tryd.underlying35 hi hz0 hz1 hz2 rfl (by decide) v ls.length vs hs hown' ⟨g, 0, none⟩ 1 c [.slice A m mc] hx rfl ?_ ?_ (by unfold maxLen; omega) (by omega) hbase ?_
  · intro j u' hu'
    cases j with
    | zero => cases hu'; rw [Addr.add_lit]; exact hu
    | succ j => cases hu'
  · intro u' hu'
    obtain rfl := List.mem_singleton.1 hu'
    rfl
  · intro v' w' h1 h2 _ h4
    have fresh : ∀ (A : Option Addr) (n c : Nat) l, Rd w A n c l → (∀ ad, 0 < n → A = some ad → some ad.block ≠ v.ownBlock ∧ P ad.block) → ∀ ad, 0 < n → A = some ad → some ad.block ≠ v'.ownBlock ∧ P ad.block := by
      intro A n c l hr hne ad hn hA
      refine ⟨?_, (hne ad hn hA).2⟩
      rcases h4 with h5 | h5
      · rw [h5]; exact (hne ad hn hA).1
      · rw [h5]
        intro e
        exact hr.ne (Nat.le_refl _) ad hn hA (Option.some.inj e)
    have e2 : Own2 w' B P v' (ls ++ [l]) := by
      refine ⟨vs ++ [.slice A m mc], by rw [List.length_append]; exact h1, by rw [List.length_append, List.length_append, hvs.1]; rfl, fun j v l' hv hl' => ?_⟩
      by_cases hj : j < ls.length
      · rw [List.getElem?_append_left (by have := hvs.1; omega)] at hv
        rw [List.getElem?_append_left hj] at hl'
        obtain ⟨A5, n5, c5, e5, r5, f5⟩ := hvs.2 j v l' hv hl'
        exact ⟨A5, n5, c5, e5, r5.grown h2 fun ad hn hA => (f5 ad hn hA).1, fresh _ _ _ _ r5 f5⟩
      · rw [List.getElem?_append_right (by have := hvs.1; omega)] at hv
        rw [List.getElem?_append_right (by omega)] at hl'
        rw [hvs.1] at hv
        generalize j - ls.length = q at hv hl'
        cases q with
        | zero => cases hv; cases hl'; exact ⟨A, m, mc, rfl, hr.grown h2 fun ad hn hA => (hne ad hn hA).1, fresh _ _ _ _ hr hne⟩
        | succ q => cases hv
    obtain ⟨A', c', rfl⟩ := e2.shape
    rw [List.length_append] at e2 ⊢
    exact h A' c' w' e2 (hb.grown h2 (by have := hb.size; omega) fun k hk => by have := World.ownsRow.lt hown' k hk; omega)

set_option maxHeartbeats 1000000 in
theorem same_any (A1 A2 : Option Addr) (n c1 c2 : Nat) (ls : List (List UInt8)) (w : World) (h1 : Rd2 w A1 n c1 ls) (h2 : Rd2 w A2 n c2 ls) (hn : n ≤ 4194304) :
    Calls Tryd.prog 23 #[.slice A1 n c1, .slice A2 n c2] w fun e w' => e = .returned (.bool true) ∧ Below w.heap.size w w' := by
  have H1 := Lib.hid h1
  have H2 := Lib.hid h2
  clear h1 h2
  go_enter Tryd.func23, Tryd.ntmps23
  go_wp2_with fail
  go_loopw [5] (fun i wr => ∃ j : Nat, j ≤ n ∧ i = .int .i64 j ∧ ∃ m, wr = w.drewN m) (fun i _ => n - (intOf i).toNat)
  case atStart => exact ⟨0, Nat.zero_le _, rfl, 0, rfl⟩
  case round =>
    obtain ⟨j, hj, rfl, m, rfl⟩ := hrel
    by_cases hlt : j < n
    · obtain ⟨b1, o1, rfl, _, hc1⟩ := H1.out.2.2.2 (by omega)
      obtain ⟨b2, o2, rfl, _, hc2⟩ := H2.out.2.2.2 (by omega)
      obtain ⟨l, hl⟩ : ∃ l, ls[j]? = some l := ⟨_, List.getElem?_eq_getElem (by have := H1.out.1; omega)⟩
      obtain ⟨A3, n3, c3, k1, r1⟩ := hc1 j l hl
      obtain ⟨A4, n4, c4, k2, r2⟩ := hc2 j l hl
      have q1 := fun k => run_str (r1.below (belowN (Below.refl _ w) k))
      have q2 := fun k => run_str (r2.below (belowN (Below.refl _ w) k))
      have hj0 : (0 : Int) ≤ (j : Int) := by omega
      have hjn : (j : Int) < (n : Int) := by omega
      clear hc1 hc2 hl r1 r2
      go_wp2_with fail
      go_quiet (fail)
      go_wp2_with fail
      go_roundw
      case rel => exact ⟨j + 1, by omega, by go_num, m + nq, by simp⟩
      case measure => simp [intOf]; omega
    · go_wp2_with fail
      go_ret
      exact ⟨rfl, belowN (Below.refl _ _) _⟩
end Go.Proofs.YtbljghjhpkhcaaaDoor
