/- Contracts of seal.head and seal.Frame, and of the document's summed and Frame. -/
import Derived.Test.YtbljghjhpkhcaaaDoorSlices
import Derived.Test.YtbljghjhpkhcaaaDoorRefSum
import Derived.Test.YtbljghjhpkhcaaaDoorPut
namespace Go.Proofs.YtbljghjhpkhcaaaDoor
open Go.RowKit

/-- The sum that a frame of these bytes bears. -/
def fsum (l : List UInt8) : Nat := crc (lowB l.length 4 ++ l)
/-- A frame's first eight bytes; the frame. -/
def headB (l : List UInt8) : List UInt8 := lowB l.length 4 ++ lowB (fsum l) 4
def frameB (l : List UInt8) : List UInt8 := headB l ++ l
theorem fsum_lt (l : List UInt8) : fsum l < 4294967296 := crc_lt _
theorem headB_length (l : List UInt8) : (headB l).length = 8 := by unfold headB; rw [List.length_append, lowB_length, lowB_length]

/-- Some bytes in a new block. -/
theorem Rd.lits {w : World} {cs : Array Value} {l : List UInt8} {n : Nat} (h : cs = (l.map cel).toArray) (hn : l.length = n) (hm : n ≤ 100) : Rd (w.alloc (.cells cs 5)) (some ⟨w.heap.size, 0, none⟩) n n l := by
  subst h
  have := Rd.of_blk (c := n) (l := l) (rest := []) (by rw [List.append_nil]; exact Blk.new w 5 (l.map cel)) (by omega) (by unfold maxLen; omega)
  rwa [hn] at this

theorem four_cells (s : Nat) : (#[Value.int .u8 ((s : Int) % 256), .int .u8 ((s : Int) / 256 % 256), .int .u8 ((s : Int) / 65536 % 256), .int .u8 ((s : Int) / 16777216 % 256)] : Array Value) = ((lowB s 4).map cel).toArray := by
  have h (k : Nat) : Value.int IntKind.u8 ((s : Int) / 2 ^ (8 * k) % 256) = cel (UInt8.ofNat (s / 2 ^ (8 * k))) := by
    have := cel_shift (s : Int) (by omega) k
    rwa [Int.toNat_natCast] at this
  have h0 := h 0
  have h1 := h 1
  have h2 := h 2
  have h3 := h 3
  have e : lowB s 4 = [UInt8.ofNat (s / 2 ^ (8 * 0)), UInt8.ofNat (s / 2 ^ (8 * 1)), UInt8.ofNat (s / 2 ^ (8 * 2)), UInt8.ofNat (s / 2 ^ (8 * 3))] := rfl
  rw [e, List.map_cons, List.map_cons, List.map_cons, List.map_cons, List.map_nil, ← h0, ← h1, ← h2, ← h3]
  simp

set_option maxHeartbeats 1000000 in
theorem head_any (A : Option Addr) (n c : Nat) (l : List UInt8) (w : World) (h : Rd w A n c l) (hn : n ≤ 2097152) (ht : Tab w) :
    Calls Tryd.prog 24 #[.slice A n c] w fun e w' => ∃ A' c', e = .returned (.slice A' 8 c') ∧ Own w' w.heap.size (.slice A' 8 c') (headB l) ∧ Below w.heap.size w w' := by
  have H := Lib.hid h
  have HT := Lib.hid ht
  clear h ht
  go_enter Tryd.func24, Tryd.ntmps24
  go_wp2_with fail
  refine (putNumber_yes none 0 0 [] n w ⟨rfl, Nat.le_refl _, Nat.zero_le _, fun h => absurd h (by decide)⟩ (by decide) (by omega) (by omega)).mono ?_
  rintro e w1 ⟨A1, c1, rfl, ho1, hb1⟩
  have O1 : Hid (Own w1 w.heap.size (.slice A1 4 c1) (lowB n 4)) := by
    have h5 := ho1
    rw [List.nil_append, Int.toNat_natCast, Nat.zero_add] at h5
    exact h5
  clear ho1
  go_wp2_with fail
  have RR : Hid (Rows2 (w1.alloc (.cells #[.slice A1 4 c1, .slice A n c] 22)) w1.heap.size 0 [(A1, 4, c1), (A, n, c)] [lowB n 4, l]) := by
    have hb := (Below.refl w1.heap.size w1).alloc (Nat.le_refl _) (.cells #[.slice A1 4 c1, .slice A n c] 22)
    have hB := Blk.new w1 22 [.slice A1 4 c1, .slice A n c]
    refine ⟨rfl, fun i r l' hr hl => ?_⟩
    rcases i with _ | _ | i
    · obtain rfl := Option.some.inj hr
      obtain rfl := Option.some.inj hl
      exact ⟨hB.cell 0, (O1.out.kept hb).rd⟩
    · obtain rfl := Option.some.inj hr
      obtain rfl := Option.some.inj hl
      exact ⟨hB.cell 1, (H.out.below hb1).below hb⟩
    · cases hl
  have hfl : [lowB n 4, l].flatten.length = 4 + n := by
    show (lowB n 4 ++ (l ++ [])).length = _
    rw [List.append_nil, List.length_append, lowB_length, H.out.1]
  refine (concat_any w1.heap.size 2 2 [(A1, 4, c1), (A, n, c)] [lowB n 4, l] _ (by simp) RR.out rfl (by decide) (by decide) (by omega) (by omega)).mono ?_
  rintro e w2 ⟨A2, n2, c2, rfl, hn2, ho2, hb2⟩
  have hbA : Below w.heap.size w (w1.alloc (.cells #[.slice A1 4 c1, .slice A n c] 22)) := hb1.alloc hb1.size _
  have hb2' : Below w.heap.size w w2 := hbA.trans (hb2.mono hbA.size)
  have e1 : [lowB n 4, l].flatten = lowB l.length 4 ++ l := by rw [H.out.1]; simp
  rw [e1] at ho2
  rw [hfl] at hn2
  subst hn2
  have R2 := Lib.hid ho2.rd
  have O2 : Hid (Own w2 w.heap.size (.slice A1 4 c1) (lowB n 4)) := (O1.out.kept ((Below.refl _ _).alloc (Nat.le_refl _) _)).kept hb2
  clear ho2 RR hfl e1 O1
  go_wp2_with fail
  refine (sum_any A2 (4 + n) c2 _ w2 R2.out (HT.out.below hb2')).mono ?_
  rintro e w3 ⟨rfl, rfl⟩
  have hs : crc (lowB l.length 4 ++ l) = fsum l := rfl
  rw [hs]
  have F := Lib.hid (four_cells (fsum l))
  have hs0 : (0 : Int) ≤ (fsum l : Int) := by omega
  have HHB : Hid (headB l = lowB n 4 ++ lowB (fsum l) 4) := by show _ = _; rw [headB, H.out.1]
  obtain ⟨s, hs'⟩ : ∃ s, s = fsum l := ⟨_, rfl⟩
  rw [← hs'] at F HHB hs0
  rw [← hs']
  clear hs hs' R2
  go_wp2_with (at_builtin; refine wpList_append_bytes rfl (.tmp 17) (.tmp 29) rfl w.heap.size _ 4 _ rfl (O2.out.kept ((Below.refl _ _).alloc (Nat.le_refl _) _)) (lowB_length _ _) _ 4 4 (lowB s 4) rfl (Rd.lits F.out (lowB_length _ _) (by decide)) (by omega) (Nat.le_trans hb2'.size (by simp)) w.heap.size w (hb2'.alloc hb2'.size _) (Nat.le_refl _) ?_)
  intro A4 c4 w4 ho4 hb4
  go_wp2_with fail
  go_ret
  exact ⟨A4, c4, rfl, by rw [HHB.out]; exact ho4, hb4⟩

set_option maxHeartbeats 400000 in
theorem frame_no (A : Option Addr) (n c : Nat) (w : World) (hn : 1048576 < n) :
    Calls Tryd.prog 15 #[.slice A n c] w fun e w' => e = .returned (.tuple #[.slice none 0 0, .int .i64 2]) ∧ w = w' := by
  go_enter Tryd.func15, Tryd.ntmps15
  go_wp2_with fail
  go_ret2
  exact ⟨rfl, rfl⟩

set_option maxHeartbeats 400000 in
theorem frame_yes (A : Option Addr) (n c : Nat) (l : List UInt8) (w : World) (h : Rd w A n c l) (hn : n ≤ 1048576) (ht : Tab w) :
    Calls Tryd.prog 15 #[.slice A n c] w fun e w' => ∃ A' c', e = .returned (.tuple #[.slice A' (8 + n) c', .int .i64 0]) ∧ Own w' w.heap.size (.slice A' (8 + n) c') (frameB l) ∧ Below w.heap.size w w' := by
  have H := Lib.hid h
  have HT := Lib.hid ht
  clear h ht
  go_enter Tryd.func15, Tryd.ntmps15
  go_wp2_with fail
  refine (head_any A n c l w H.out (by omega) HT.out).mono ?_
  rintro e w1 ⟨A1, c1, rfl, ho1, hb1⟩
  have O1 := Lib.hid ho1
  clear ho1
  go_wp2_with (at_builtin; refine wpList_append_bytes rfl (.tmp 8) (.tmp 9) rfl w.heap.size _ 8 _ rfl O1.out (headB_length l) A n c l rfl (H.out.below hb1) (by omega) hb1.size w.heap.size w hb1 (Nat.le_refl _) ?_)
  intro A4 c4 w4 ho4 hb4
  go_wp2_with fail
  go_ret2
  exact ⟨A4, c4, rfl, ho4, hb4⟩

set_option maxHeartbeats 400000 in
theorem summed_any (A : Option Addr) (n c : Nat) (l : List UInt8) (w : World) (h : Rd w A n c l) (hn : n ≤ 2097152) :
    Calls Tryd.prog 26 #[.slice A n c] w fun e w' => e = .returned (.int .u32 (fsum l : Nat)) ∧ Below w.heap.size w w' := by
  have H := Lib.hid h
  clear h
  go_enter Tryd.func26, Tryd.ntmps26
  go_wp2_with fail
  refine (low_any n 4 w (by decide) (by omega) (by omega)).mono ?_
  rintro e w1 ⟨A1, c1, rfl, ho1, hb1⟩
  rw [Int.toNat_natCast] at ho1
  have O1 := Lib.hid ho1
  clear ho1
  go_wp2_with (at_builtin; refine wpList_append_bytes rfl (.tmp 8) (.tmp 9) rfl w.heap.size _ 4 _ rfl O1.out (lowB_length _ _) A n c l rfl (H.out.below hb1) (by omega) hb1.size w.heap.size w hb1 (Nat.le_refl _) ?_)
  intro A2 c2 w2 ho2 hb2
  have R2 := Lib.hid ho2.rd
  have HS : Hid (crc (lowB n 4 ++ l) = fsum l) := by show _ = _; rw [fsum, H.out.1]
  clear ho2
  go_wp2_with fail
  refine (refSum_any A2 (4 + n) c2 _ w2 R2.out).mono ?_
  rintro e w3 ⟨rfl, rfl⟩
  rw [HS.out]
  go_wp2_with fail
  go_ret
  exact ⟨rfl, hb2⟩

set_option maxHeartbeats 400000 in
theorem refFrame_no (A : Option Addr) (n c : Nat) (w : World) (hn : 1048576 < n) :
    Calls Tryd.prog 16 #[.slice A n c] w fun e w' => e = .returned (.tuple #[.slice none 0 0, .int .i64 2]) ∧ w = w' := by
  go_enter Tryd.func16, Tryd.ntmps16
  go_wp2_with fail
  go_ret2
  exact ⟨rfl, rfl⟩

set_option maxHeartbeats 1000000 in
theorem refFrame_yes (A : Option Addr) (n c : Nat) (l : List UInt8) (w : World) (h : Rd w A n c l) (hn : n ≤ 1048576) :
    Calls Tryd.prog 16 #[.slice A n c] w fun e w' => ∃ A' c', e = .returned (.tuple #[.slice A' (8 + n) c', .int .i64 0]) ∧ Own w' w.heap.size (.slice A' (8 + n) c') (frameB l) ∧ Below w.heap.size w w' := by
  have H := Lib.hid h
  clear h
  go_enter Tryd.func16, Tryd.ntmps16
  go_wp2_with fail
  refine (low_any n 4 w (by decide) (by omega) (by omega)).mono ?_
  rintro e w1 ⟨A1, c1, rfl, ho1, hb1⟩
  rw [Int.toNat_natCast] at ho1
  have O1 := Lib.hid ho1
  clear ho1
  go_wp2_with fail
  refine (summed_any A n c l w1 (H.out.below hb1) (by omega)).mono ?_
  rintro e w2 ⟨rfl, hb2⟩
  have hb2' : Below w.heap.size w w2 := hb1.trans (hb2.mono hb1.size)
  have hs0 : (0 : Int) ≤ (fsum l : Int) := by omega
  have hs1 := fsum_lt l
  have O2 := Lib.hid (O1.out.kept hb2)
  have R2 := Lib.hid ((H.out.below hb1).below hb2)
  have HHB : Hid (frameB l = lowB n 4 ++ (lowB (fsum l) 4 ++ l)) := by show _ = _; rw [frameB, headB, H.out.1, List.append_assoc]
  obtain ⟨s, hs'⟩ : ∃ s, s = fsum l := ⟨_, rfl⟩
  rw [← hs'] at HHB hs0 hs1
  rw [← hs']
  clear hs' O1
  go_wp2_with fail
  refine (low_any s 4 w2 (by decide) (by omega) (by omega)).mono ?_
  rintro e w3 ⟨A3, c3, rfl, ho3, hb3⟩
  rw [Int.toNat_natCast] at ho3
  have O3 := Lib.hid ho3
  have O2' := Lib.hid (O2.out.kept hb3)
  have R3 := Lib.hid (R2.out.below hb3)
  have hb3' : Below w.heap.size w w3 := hb2'.trans (hb3.mono hb2'.size)
  clear ho3 O2 R2
  go_wp2_with (at_builtin; refine wpList_append_bytes rfl (.tmp 12) (.tmp 16) rfl w.heap.size _ 4 _ rfl O2'.out (lowB_length _ _) A3 4 c3 _ rfl O3.out.rd (by omega) hb3'.size w.heap.size w hb3' (Nat.le_refl _) ?_)
  intro A4 c4 w4 ho4 hb4
  have O4 := Lib.hid ho4
  have R4 := Lib.hid (H.out.below hb4)
  clear ho4 O3 O2' R3
  go_wp2_with (at_builtin; refine wpList_append_bytes rfl (.tmp 18) (.tmp 19) rfl w.heap.size _ 8 _ rfl O4.out (by rw [List.length_append, lowB_length, lowB_length]) A n c l rfl R4.out (by omega) hb4.size w.heap.size w hb4 (Nat.le_refl _) ?_)
  intro A5 c5 w5 ho5 hb5
  have O5 : Hid (Own w5 w.heap.size (.slice A5 (8 + n) c5) (frameB l)) := by
    show Own _ _ _ _
    rw [HHB.out, ← List.append_assoc]
    simpa using ho5
  clear ho5
  go_wp2_with fail
  go_ret2
  exact ⟨A5, c5, rfl, O5.out, hb5⟩
end Go.Proofs.YtbljghjhpkhcaaaDoor
