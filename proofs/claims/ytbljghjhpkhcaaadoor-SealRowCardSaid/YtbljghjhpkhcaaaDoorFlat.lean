/- Frames, one behind the other: plain lists of bytes. -/
import Derived.Test.YtbljghjhpkhcaaaDoorAll
namespace Go.Proofs.YtbljghjhpkhcaaaDoor

def flatB (ls : List (List UInt8)) : List UInt8 := (ls.map frameB).flatten

theorem flatB_append (a b : List (List UInt8)) : flatB (a ++ b) = flatB a ++ flatB b := by simp [flatB]
theorem flatB_cons (a : List UInt8) (b : List (List UInt8)) : flatB (a :: b) = frameB a ++ flatB b := by simp [flatB]
theorem flatB_nil : flatB [] = [] := rfl
theorem flatB_split (ls : List (List UInt8)) (k : Nat) : flatB ls = flatB (ls.take k) ++ flatB (ls.drop k) := by rw [← flatB_append, List.take_append_drop]
theorem flatB_len (ls : List (List UInt8)) (k : Nat) : (flatB ls).length = (flatB (ls.take k)).length + (flatB (ls.drop k)).length := by
  conv => lhs; rw [flatB_split ls k, List.length_append]
theorem flatB_drop (ls : List (List UInt8)) (k : Nat) : (flatB ls).drop (flatB (ls.take k)).length = flatB (ls.drop k) := by
  conv => lhs; arg 2; rw [flatB_split ls k]
  rw [List.drop_left]

/-- A frame cut short is cut short. -/
theorem fstE_cut (l r : List UInt8) (h : l.length ≤ 1048576) (m : Nat) (hm : m < 8 + l.length) : fstE ((frameB l ++ r).take m) = 20 := by
  have hl : ((frameB l ++ r).take m).length = m := by
    rw [List.length_take, List.length_append, frameB_length]; omega
  by_cases h8 : m < 8
  · rw [fstE, if_pos (by omega)]
  · have h1 : flen ((frameB l ++ r).take m) = l.length := by
      unfold flen
      rw [List.take_take, Nat.min_eq_left (by omega)]
      exact flen_frame l r h
    rw [fstE, if_neg (by omega), h1, if_neg (by omega), if_pos (by omega)]

/-- Whole frames ahead of a cut. -/
theorem take_frame (l r : List UInt8) (m : Nat) (hm : 8 + l.length ≤ m) : (frameB l ++ r).take m = frameB l ++ r.take (m - (8 + l.length)) := by
  rw [List.take_append, List.take_of_length_le (by rw [frameB_length]; exact hm), frameB_length]

theorem step_flat (ls : List (List UInt8)) (cut : Nat) (k : Nat) (l : List UInt8) (hl : ls[k]? = some l) :
    ((flatB ls).take cut).drop (flatB (ls.take k)).length = (frameB l ++ flatB (ls.drop (k + 1))).take (cut - (flatB (ls.take k)).length) := by
  obtain ⟨hk, rfl⟩ := List.getElem?_eq_some_iff.1 hl
  rw [List.drop_take, flatB_drop, List.drop_eq_getElem_cons hk, flatB_cons]

theorem len_step (ls : List (List UInt8)) (k : Nat) (l : List UInt8) (hl : ls[k]? = some l) : (flatB (ls.take (k + 1))).length = (flatB (ls.take k)).length + (8 + l.length) := by
  rw [List.take_add_one, hl, Option.toList_some, flatB_append, List.length_append, flatB_cons, flatB_nil, List.append_nil, frameB_length]

theorem ok_flat (ls : List (List UInt8)) (h : ∀ l ∈ ls, l.length ≤ 1048576) (cut : Nat) (hc : cut ≤ (flatB ls).length) (k : Nat) (hk : OkA ((flatB ls).take cut) k) :
    k ≤ ls.length ∧ atA ((flatB ls).take cut) k = (flatB (ls.take k)).length ∧ rowsA ((flatB ls).take cut) k = ls.take k := by
  induction k with
  | zero => exact ⟨Nat.zero_le _, rfl, rfl⟩
  | succ k ih =>
    obtain ⟨h1, h2, h3⟩ := ih fun j hj => hk j (by omega)
    obtain ⟨h4, h5⟩ := hk k (by omega)
    have h6 : ((flatB ls).take cut).length = cut := by rw [List.length_take]; omega
    rw [h6, h2] at h4
    have hlt : k < ls.length := by
      rcases Nat.lt_or_ge k ls.length with h7 | h7
      · exact h7
      · rw [List.take_of_length_le h7] at h4; omega
    obtain ⟨l, hl⟩ : ∃ l, ls[k]? = some l := ⟨_, List.getElem?_eq_getElem hlt⟩
    have hll := h l (List.mem_of_getElem? hl)
    have e1 := step_flat ls cut k l hl
    rw [h2, e1] at h5
    have hm : 8 + l.length ≤ cut - (flatB (ls.take k)).length := by
      rcases Nat.lt_or_ge (cut - (flatB (ls.take k)).length) (8 + l.length) with h7 | h7
      · rw [fstE_cut l _ hll _ h7] at h5; cases h5
      · exact h7
    rw [take_frame _ _ _ hm] at e1
    refine ⟨hlt, ?_, ?_⟩
    · rw [atA, h2, e1, fstN_frame _ _ hll, len_step ls k l hl]
    · rw [rowsA, h2, h3, e1, fstB_frame _ _ hll, List.take_add_one, hl, Option.toList_some]

/-- What All tells of frames that are cut off. -/
theorem end_flat (ls : List (List UInt8)) (h : ∀ l ∈ ls, l.length ≤ 1048576) (cut : Nat) (hc : cut ≤ (flatB ls).length) (got : List (List UInt8)) (n : Nat) (e : Int) (hE : EndA ((flatB ls).take cut) got n e) :
    got.length ≤ ls.length ∧ got = ls.take got.length ∧ n ≤ cut ∧ ((e = 0 ∧ n = cut) ∨ (e = 20 ∧ n ≠ cut)) ∧ (cut = (flatB ls).length → got = ls ∧ n = cut ∧ e = 0) := by
  obtain ⟨k, hk, rfl, rfl, hend⟩ := hE
  have h6 : ((flatB ls).take cut).length = cut := by rw [List.length_take]; omega
  have hle := (atA_le hk).2
  obtain ⟨h1, h2, h3⟩ := ok_flat ls h cut hc k hk
  have hgl : (rowsA ((flatB ls).take cut) k).length = k := rowsA_length _ _
  rw [h6] at hend hle
  have tot := flatB_len ls k
  have part : (atA ((flatB ls).take cut) k < cut) → ∀ l, ls[k]? = some l → (8 + l.length ≤ cut - (flatB (ls.take k)).length → fstE (((flatB ls).take cut).drop (atA ((flatB ls).take cut) k)) = 0) ∧ (cut - (flatB (ls.take k)).length < 8 + l.length → fstE (((flatB ls).take cut).drop (atA ((flatB ls).take cut) k)) = 20) := by
    intro _ l hl
    have hll := h l (List.mem_of_getElem? hl)
    rw [h2, step_flat ls cut k l hl]
    exact ⟨fun hm => by rw [take_frame _ _ _ hm, fstE_frame _ _ hll], fun hm => fstE_cut l _ hll _ hm⟩
  have more : atA ((flatB ls).take cut) k < cut → ∃ l, ls[k]? = some l := by
    intro hlt
    rcases Nat.lt_or_ge k ls.length with h7 | h7
    · exact ⟨_, List.getElem?_eq_getElem h7⟩
    · rw [h2, List.take_of_length_le h7] at hlt; omega
  refine ⟨by rw [hgl]; exact h1, by rw [hgl]; exact h3, hle, ?_, ?_⟩
  · rcases hend with ⟨h7, rfl⟩ | ⟨h7, h8, h9⟩
    · exact .inl ⟨rfl, by omega⟩
    · obtain ⟨l, hl⟩ := more h7
      have hp := part h7 l hl
      rcases Nat.lt_or_ge (cut - (flatB (ls.take k)).length) (8 + l.length) with hm | hm
      · exact .inr ⟨h8.symm.trans (hp.2 hm), by omega⟩
      · exact absurd (h8.symm.trans (hp.1 hm)) h9
  · intro hcc
    rcases hend with ⟨h7, rfl⟩ | ⟨h7, h8, h9⟩
    · refine ⟨?_, by omega, rfl⟩
      rw [h3]
      rcases Nat.lt_or_ge k ls.length with h10 | h10
      · exfalso
        have h11 := len_step ls k _ (List.getElem?_eq_getElem h10)
        have h12 := flatB_len ls (k + 1)
        omega
      · exact List.take_of_length_le h10
    · exfalso
      obtain ⟨l, hl⟩ := more h7
      have hp := part h7 l hl
      have h11 := len_step ls k l hl
      have h12 := flatB_len ls (k + 1)
      exact h9 (h8.symm.trans (hp.1 (by omega)))
end Go.Proofs.YtbljghjhpkhcaaaDoor
