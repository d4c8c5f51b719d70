/- The walk of SealRow. -/
import Derived.Test.YtbljghjhpkhcaaaDoorFlat
import Derived.Test.YtbljghjhpkhcaaaDoorRead
namespace Go.Proofs.YtbljghjhpkhcaaaDoor
open Go.RowKit

theorem cut_to {w : World} {A : Option Addr} {n c : Nat} {l : List UInt8} (h : Rd w A n c l) (m : Nat) (hm : m ≤ n) (kk : IntKind) :
    ∃ A', (∀ W, (Instr.slice 22 (.slice A n c) none (some (.int kk m)) none).run Tryd.prog W = .ok (.slice A' m c) W) ∧ Rd w A' m c (l.take m) := by
  obtain ⟨A', hA, hR, hb⟩ := h.cut 0 m (Nat.zero_le _) hm
  refine ⟨A', fun W => ?_, hR⟩
  rw [run_slice_h W 22 A n c und22 kk m (by omega) (by have := h.2.1; omega), run_size5]
  simp only [Result.andThen, sliced, Int.toNat_natCast, hA, Nat.sub_zero]

theorem elem35 : Tryd.prog.elem 35 = 22 := by kernel_rfl
theorem und35 : Tryd.prog.underlying 35 = some (.slice (Tryd.prog.elem 35)) := by rw [elem35]; exact Tryd.underlying35
theorem run_size22 (W : World) : (sizeOf (Tryd.prog.elem 35)).run Tryd.prog W = .ok 1 W := by
  obtain ⟨i, hi, hz0, hz1, hz2⟩ := info_parts Tryd.info22
  rw [elem35]
  simp [sizeOf, typeInfo, hi, hz1]

theorem cut2_to {w : World} {A : Option Addr} {n c : Nat} {ls : List (List UInt8)} (h : Rd2 w A n c ls) (m : Nat) (hm : m ≤ n) (kk : IntKind) :
    ∃ A', (∀ W, (Instr.slice 35 (.slice A n c) none (some (.int kk m)) none).run Tryd.prog W = .ok (.slice A' m c) W) ∧ Rd2 w A' m c (ls.take m) := by
  refine ⟨if c = 0 then A else A.map (·.add (0 * 1)), fun W => ?_, ?_⟩
  · rw [run_slice_h W 35 A n c und35 kk m (by omega) (by have := h.2.1; omega), run_size22]
    simp only [Result.andThen, sliced, Int.toNat_natCast, Nat.sub_zero]
  · refine ⟨by rw [List.length_take, h.1]; omega, by have := h.2.1; omega, h.2.2.1, fun hm0 => ?_⟩
    obtain ⟨b, off, rfl, hlt, hc⟩ := h.2.2.2 (by omega)
    refine ⟨b, off, ?_, hlt, fun i l hl => hc i l ?_⟩
    · rw [if_neg (by have := h.2.1; omega)]
      simp [Addr.add_lit]
    · rw [List.getElem?_take] at hl
      split at hl
      · exact hl
      · cases hl

set_option maxRecDepth 100000 in
set_option maxHeartbeats 400000 in
theorem sealRow_long (A : Option Addr) (n c : Nat) (i : Int) (w : World) (hn : 50 < n) :
    Calls Tryd.prog 9 #[.slice A n c, .int .i64 i] w fun e w' => e = .returned (.bool true) ∧ Below w.heap.size w w' := by
  go_enter Tryd.func9, Tryd.ntmps9
  go_wp2_with fail
  go_ret
  exact ⟨rfl, Below.refl _ _⟩

set_option maxRecDepth 100000 in
set_option maxHeartbeats 4000000 in
theorem sealRow_walk (A : Option Addr) (n c : Nat) (ls : List (List UInt8)) (i : Int) (w : World) (h : Rd2 w A n c ls) (hn : n ≤ 50) (ht : Tab w) :
    Calls Tryd.prog 9 #[.slice A n c, .int .i64 i] w fun e w' => e = .returned (.bool true) ∧ Below w.heap.size w w' := by
  have H := Lib.hid h
  have HT := Lib.hid ht
  clear h ht
  go_enter Tryd.func9, Tryd.ntmps9
  go_wp2_with fail
  go_loopw [5, 6, 7, 8] (fun out i _ _ wr => ∃ (j : Nat) (A' : Option Addr) (R c' : Nat), j ≤ n ∧ out = .slice A' R c' ∧ i = .int .i64 j ∧ Hid (R = (flatB (ls.take j)).length) ∧ R ≤ 1008 * j ∧ Hid (∀ k l, k < j → ls[k]? = some l → l.length ≤ 1000) ∧ Hid (Own wr w.heap.size (.slice A' R c') (flatB (ls.take j))) ∧ Below w.heap.size w wr) (fun _ i _ _ _ => n - (intOf i).toNat)
  case atStart => exact ⟨0, none, 0, 0, Nat.zero_le _, rfl, rfl, rfl, Nat.zero_le _, (show ∀ k l, k < 0 → ls[k]? = some l → l.length ≤ 1000 from fun k l hk => absurd hk (Nat.not_lt_zero _)), (show Own _ _ _ _ from Own.nil _ _), Below.refl _ _⟩
  case round =>
    obtain ⟨j, A', R, c', hj, rfl, rfl, hR, hRj, hsm, ho, hb⟩ := hrel
    by_cases hlt : j < n
    · obtain ⟨b1, o1, rfl, hb1, hc1⟩ := (H.out.below hb).2.2.2 (by omega)
      obtain ⟨l, hl⟩ : ∃ l, ls[j]? = some l := ⟨_, List.getElem?_eq_getElem (by have := H.out.1; omega)⟩
      obtain ⟨A3, n3, c3, k1, r1⟩ := hc1 j l hl
      have hj0 : (0 : Int) ≤ (j : Int) := by omega
      have hjn : (j : Int) < (n : Int) := by omega
      have R1 := Lib.hid r1
      have HL := Lib.hid hl
      clear hc1 r1 hl
      by_cases hbig : 1000 < n3
      · go_wp2_with fail
        go_ret
        exact ⟨rfl, hb⟩
      · go_wp2_with fail
        refine (frame_yes A3 n3 c3 l wr R1.out (by omega) (HT.out.below hb)).mono ?_
        rintro e w2 ⟨A4, c4, rfl, ho4, hb4⟩
        have hb4' : Below w.heap.size w w2 := hb.trans (hb4.mono hb.size)
        have O4 := Lib.hid ho4.rd
        have O2 := Lib.hid (ho.out.kept hb4)
        clear ho4 ho
        go_wp2_with (at_builtin; refine wpList_append_bytes rfl (.tmp 37) (.tmp 38) rfl w.heap.size _ R _ rfl O2.out hR.out.symm A4 (8 + n3) c4 (frameB l) rfl O4.out (by omega) hb4'.size w.heap.size w hb4' (Nat.le_refl _) ?_)
        intro A5 c5 w5 ho5 hb5
        have O5 := Lib.hid ho5
        clear ho5 O2 O4
        go_wp2_with fail
        go_roundw
        case rel =>
          have e1 : flatB (ls.take (j + 1)) = flatB (ls.take j) ++ frameB l := by
            rw [List.take_add_one, HL.out, Option.toList_some, flatB_append, flatB_cons, flatB_nil, List.append_nil]
          have e2 : l.length = n3 := R1.out.1
          exact ⟨j + 1, A5, R + (8 + n3), c5, by omega, rfl, by go_num, by show _ = _; rw [e1, List.length_append, frameB_length, hR.out, e2], by omega, by
            intro k l' hk hl'
            by_cases h : k < j
            · exact hsm.out k l' h hl'
            · obtain rfl : k = j := by omega
              rw [HL.out] at hl'
              cases hl'
              omega, by rw [e1]; exact O5, hb5⟩
        case measure => simp [intOf]; omega
    · obtain rfl : j = n := by omega
      have hall : ls.take j = ls := List.take_of_length_le (by rw [H.out.1]; exact Nat.le_refl _)
      have hsmall : ∀ l ∈ ls, l.length ≤ 1048576 := by
        intro l hl
        obtain ⟨k, hk, hkl⟩ := List.mem_iff_getElem.1 hl
        have h5 := hsm.out k l (by have := H.out.1; omega) (by rw [List.getElem?_eq_getElem hk, hkl])
        omega
      rw [hall] at hR ho
      have HS := Lib.hid hsmall
      clear hall hsm hsmall
      go_wp2_with fail
      refine (all_any A' R c' (flatB ls) wr ho.out.rd (by omega) (HT.out.below hb)).mono ?_
      rintro e w2 ⟨A2, k2, c2, m2, E2, ls2, rfl, hk2, hE2, ho2, hb2⟩
      have hfull := (end_flat ls HS.out (flatB ls).length (Nat.le_refl _) ls2 m2 E2 (by rw [List.take_length]; exact hE2)).2.2.2.2 rfl
      obtain ⟨rfl, hm2, rfl⟩ := hfull
      obtain rfl : m2 = R := by rw [hm2, hR.out]
      obtain rfl : k2 = j := by rw [← hk2, H.out.1]
      have hb2' : Below w.heap.size w w2 := hb.trans (hb2.mono hb.size)
      have O2 := Lib.hid ho2
      have OA := Lib.hid (ho.out.kept hb2)
      have H2 := Lib.hid (H.out.below hb2')
      clear ho2 hE2 hm2 hk2 ho
      go_wp2_with fail
      refine (same_any _ _ _ _ _ _ w2 O2.out.rd H2.out (by omega)).mono ?_
      rintro e w3 ⟨rfl, hb3⟩
      have hb3' : Below w.heap.size w w3 := hb2'.trans (hb3.mono hb2'.size)
      have OA3 := Lib.hid (OA.out.kept hb3)
      have H3 := Lib.hid (H2.out.below hb3)
      clear OA H2 O2
      by_cases hi : i < 0 ∨ (m2 : Int) < i
      · have hd : (decide (i < 0) || decide ((m2 : Int) < i)) = true := by simpa using hi
        by_cases hi0 : i < 0
        · go_wp2_with fail
          refine (frames_any _ (HT.out.below hb3')).mono ?_
          rintro e w5 ⟨rfl, hb5⟩
          have hb5' : Below w.heap.size w w5 := hb3'.trans (hb5.mono hb3'.size)
          go_wp2_with fail
          refine (finds_any _ (HT.out.below hb5')).mono ?_
          rintro e w6 ⟨rfl, hb6⟩
          go_wp2_with fail
          go_ret
          exact ⟨rfl, hb5'.trans (hb6.mono hb5'.size)⟩
        · have hi1 : (m2 : Int) < i := by omega
          go_wp2_with fail
          refine (frames_any _ (HT.out.below hb3')).mono ?_
          rintro e w5 ⟨rfl, hb5⟩
          have hb5' : Below w.heap.size w w5 := hb3'.trans (hb5.mono hb3'.size)
          go_wp2_with fail
          refine (finds_any _ (HT.out.below hb5')).mono ?_
          rintro e w6 ⟨rfl, hb6⟩
          go_wp2_with fail
          go_ret
          exact ⟨rfl, hb5'.trans (hb6.mono hb5'.size)⟩
      · obtain ⟨cut, rfl⟩ : ∃ cut : Nat, i = cut := ⟨i.toNat, by omega⟩
        have hcut : cut ≤ m2 := by omega
        obtain ⟨A6, hsl, hR6⟩ := cut_to OA3.out.rd cut hcut .i64
        have R6 := Lib.hid hR6
        have HC : Hid (cut ≤ (flatB ls2).length) := Lib.hid (by rw [← hR.out]; exact hcut)
        clear hR6
        go_wp2_with fail
        refine (all_any A6 cut c' _ w3 R6.out (by omega) (HT.out.below hb3')).mono ?_
        rintro e w4 ⟨A7, k7, c7, m7, E7, ls7, rfl, hk7, hE7, ho7, hb7⟩
        obtain ⟨g1, g2, g3, g4, _⟩ := end_flat ls2 HS.out cut HC.out ls7 m7 E7 hE7
        have hb7' : Below w.heap.size w w4 := hb3'.trans (hb7.mono hb3'.size)
        have hkk : k7 ≤ k2 := by have := H3.out.1; omega
        rw [hk7] at g2
        obtain ⟨A8, hsl8, hR8⟩ := cut2_to (H3.out.below hb7) k7 hkk .i64
        rw [← g2] at hR8
        have R8 := Lib.hid hR8
        have O7 := Lib.hid ho7
        clear hR8 ho7 hE7 hsl R6 g1 g2 hk7
        rcases g4 with ⟨rfl, rfl⟩ | ⟨rfl, hne⟩
        · go_wp2_with fail
          refine (frames_any _ (HT.out.below hb7')).mono ?_
          rintro e w5 ⟨rfl, hb5⟩
          have hb5' : Below w.heap.size w w5 := hb7'.trans (hb5.mono hb7'.size)
          go_wp2_with fail
          refine (finds_any _ (HT.out.below hb5')).mono ?_
          rintro e w6 ⟨rfl, hb6⟩
          have hb6' : Below w.heap.size w w6 := hb5'.trans (hb6.mono hb5'.size)
          go_wp2_with fail
          refine (same_any _ _ _ _ _ _ w6 ((O7.out.kept hb5).kept hb6).rd ((R8.out.below hb5).below hb6) (by omega)).mono ?_
          rintro e w8 ⟨rfl, hb8⟩
          go_wp2_with fail
          go_ret
          exact ⟨rfl, hb6'.trans (hb8.mono hb6'.size)⟩
        · have hlt7 : m7 < cut := by omega
          have hne7 : ((m7 : Int) == (cut : Int)) = false := by simp; omega
          go_wp2_with fail
          refine (frames_any _ (HT.out.below hb7')).mono ?_
          rintro e w5 ⟨rfl, hb5⟩
          have hb5' : Below w.heap.size w w5 := hb7'.trans (hb5.mono hb7'.size)
          go_wp2_with fail
          refine (finds_any _ (HT.out.below hb5')).mono ?_
          rintro e w6 ⟨rfl, hb6⟩
          have hb6' : Below w.heap.size w w6 := hb5'.trans (hb6.mono hb5'.size)
          go_wp2_with fail
          refine (same_any _ _ _ _ _ _ w6 ((O7.out.kept hb5).kept hb6).rd ((R8.out.below hb5).below hb6) (by omega)).mono ?_
          rintro e w8 ⟨rfl, hb8⟩
          go_wp2_with fail
          go_ret
          exact ⟨rfl, hb6'.trans (hb8.mono hb6'.size)⟩
end Go.Proofs.YtbljghjhpkhcaaaDoor
