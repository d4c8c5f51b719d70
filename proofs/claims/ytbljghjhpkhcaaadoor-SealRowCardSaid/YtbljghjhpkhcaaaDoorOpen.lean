/- A slice of slices of bytes that came in, as the walks' word Rd2. -/
import Derived.Test.YtbljghjhpkhcaaaDoorFrame
import Derived.Test.YtbljghjhpkhcaaaDoorMany
import Derived.Deep.Matrix
namespace Go.Proofs.YtbljghjhpkhcaaaDoor
open Go.ChangeShapes Go.WideShapes Go.ChangeAt Go.RowKit Go.Deep

theorem rd2_of_trod {H : Type} {enc : TypeId × Value → H} {W : World} {a : Option Addr} {len cap : Nat} {d : DataW H} {p : List MemPlace}
    (h : DataW.Trod enc Tryd.prog W 0 (fun _ => true) true 35 (.slice a len cap) d p) : ∃ ls, Rd2 W a len cap ls := by
  obtain ⟨fuel, hf⟩ := h
  rcases open_int_rows Tryd.underlying35 Tryd.underlying22 Tryd.underlying5 (by kernel_rfl) (by kernel_rfl) hf with ⟨hcs, _⟩ | ⟨x, l, c, A, L, C, Z, hcs, _, hl, hm, _, hrow⟩
  · simp [Value.cells] at hcs
    obtain ⟨rfl, rfl, rfl⟩ := hcs
    exact ⟨[], rfl, Nat.le_refl _, Nat.zero_le _, fun h => absurd h (by decide)⟩
  · simp [Value.cells] at hcs
    obtain ⟨rfl, rfl, rfl⟩ := hcs
    have each : ∀ r, ∃ u : List UInt8, r < cap → Rd W (A r) (L r) (C r) u := by
      intro r
      by_cases hr : r < cap
      · obtain ⟨_, r1, r2, r3, r4, r5, r6⟩ := hrow r hr
        obtain ⟨u, hu⟩ := rd_of_row (w := W) (a := A r) (len := L r) (cap := C r) (zs := Z r) (by
          cases hA : A r with
          | none =>
            have h0 := r5 hA
            exact .inl ⟨rfl, by omega, h0, List.eq_nil_of_length_eq_zero (by omega)⟩
          | some a' => exact .inr ⟨a', rfl, r1, r2, r3, fun i hi => (r6 a' hA).2 i (by omega), r4⟩)
        exact ⟨u, fun _ => hu⟩
      · exact ⟨[], fun h => absurd h hr⟩
    obtain ⟨f, hff⟩ := Classical.axiomOfChoice each
    refine ⟨(List.range len).map f, by simp, hl, hm, fun hn => ?_⟩
    obtain ⟨b, off, spot⟩ := x
    have h0 := (hrow 0 (by omega)).1
    have hspot : spot = none := by simpa [Addr.add] using World.cell?_spot h0
    subst hspot
    have hlt := World.block_lt_of_cell? W _ h0
    refine ⟨b, off, rfl, hlt, fun i u hu => ?_⟩
    obtain ⟨hi, rfl⟩ := List.getElem?_eq_some_iff.1 hu
    rw [List.length_map, List.length_range] at hi
    have hc := (hrow i (by omega)).1
    rw [Addr.add_lit] at hc
    exact ⟨A i, L i, C i, hc, by simpa using hff i (by omega)⟩
end Go.Proofs.YtbljghjhpkhcaaaDoor
