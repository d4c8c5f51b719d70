/- Words for byte slices in memory, and the laws of make and copy at them. No law is proved here. -/
import Derived.Test.YtbljghjhpkhcaaaDoorRows
import Derived.WalkKit
import Derived.WalkSpells
import Derived.WalkLawsBesides
import Derived.Lib.Hide
import Derived.Deep.Draws
import Derived.Laws.CopyOwn
import Derived.Lib.AppendStr
namespace Go.Proofs.YtbljghjhpkhcaaaDoor
open Go.RowKit

/-- The cell of a byte. -/
def cel (u : UInt8) : Value := .int .u8 (u.toNat : Int)

/-- A slice value with base A, length n and capacity c reads as the bytes l. -/
def Rd (w : World) (A : Option Addr) (n c : Nat) (l : List UInt8) : Prop :=
  l.length = n ∧ n ≤ c ∧ c ≤ maxLen ∧ (0 < n → ∃ b off, A = some ⟨b, off, none⟩ ∧ b < w.heap.size ∧ ∀ (i : Nat) u, l[i]? = some u → w.cell? ⟨b, off + i, none⟩ = some (cel u))

/-- Block g is the row of cells cs, none frozen. -/
def Blk (w : World) (g : Nat) (t : TypeId) (cs : List Value) : Prop := w.heap[g]? = some (.cells cs.toArray t (0, 0))

theorem Rd.below {w w' : World} {A : Option Addr} {n c : Nat} {l : List UInt8} (h : Rd w A n c l) (hb : Below w.heap.size w w') : Rd w' A n c l := by
  obtain ⟨h1, h2, h3, h4⟩ := h
  refine ⟨h1, h2, h3, fun hn => ?_⟩
  obtain ⟨b, off, hA, hlt, hc⟩ := h4 hn
  exact ⟨b, off, hA, Nat.lt_of_lt_of_le hlt hb.size, fun i u hu => (hb.cell (p := ⟨b, off + i, none⟩) hlt).trans (hc i u hu)⟩

theorem Blk.lt {w : World} {g : Nat} {t : TypeId} {cs : List Value} (h : Blk w g t cs) : g < w.heap.size := by
  rcases Nat.lt_or_ge g w.heap.size with hlt | hge
  · exact hlt
  · unfold Blk at h; rw [Array.getElem?_eq_none hge] at h; cases h
theorem Blk.cell {w : World} {g : Nat} {t : TypeId} {cs : List Value} (h : Blk w g t cs) (i : Nat) : w.cell? ⟨g, i, none⟩ = cs[i]? := by
  have := cell_of_row w g i cs.toArray t (0, 0) h
  simpa using this
theorem Blk.frozen {w : World} {g : Nat} {t : TypeId} {cs : List Value} (h : Blk w g t cs) (i : Nat) : w.frozen? ⟨g, i, none⟩ = false := by
  unfold Blk at h
  simp [World.frozen?, h]
theorem Blk.set_ {w : World} {g : Nat} {t : TypeId} {cs : List Value} (h : Blk w g t cs) (i : Nat) (u : Value) : Blk (w.setCell ⟨g, i, none⟩ u) g t (cs.set i u) := by
  unfold Blk at h ⊢
  simp [World.setCell, Array.getElem?_modify, h]
theorem Blk.far {w : World} {g : Nat} {t : TypeId} {cs : List Value} (h : Blk w g t cs) {p : Addr} (hp : g ≠ p.block) (u : Value) : Blk (w.setCell p u) g t cs := (Below.heap_setCell w p u g hp).trans h
theorem Blk.below {w w' : World} {g B : Nat} {t : TypeId} {cs : List Value} (h : Blk w g t cs) (hb : Below B w w') (hg : g < B) : Blk w' g t cs := (hb.block g hg).trans h
theorem Blk.alloc {w : World} {g : Nat} {t : TypeId} {cs : List Value} (h : Blk w g t cs) (o : Obj) : Blk (w.alloc o) g t cs := (Below.heap_alloc w o g h.lt).trans h
theorem Blk.new (w : World) (t : TypeId) (cs : List Value) : Blk (w.alloc (.cells cs.toArray t)) w.heap.size t cs := heap_alloc_new w _

/-- A slice over the head of a block of bytes reads as those bytes. -/
theorem Rd.of_blk {w : World} {g c : Nat} {t : TypeId} {l : List UInt8} {rest : List Value} (h : Blk w g t (l.map cel ++ rest)) (hc : l.length ≤ c) (hm : c ≤ maxLen) : Rd w (some ⟨g, 0, none⟩) l.length c l := by
  refine ⟨rfl, hc, hm, fun _ => ⟨g, 0, rfl, h.lt, fun i u hu => ?_⟩⟩
  rw [Nat.zero_add, h.cell, List.getElem?_append_left (by simpa using (List.getElem?_eq_some_iff.1 hu).1)]
  simp [hu]

theorem Tryd.info5 : (Tryd.prog.info? 5).map (fun i => (i.zero, i.size, i.bytes)) = some (some (.int .u8 0), 1, 1) := by kernel_rfl

/-- Zero bytes. -/
def zer (n : Nat) : List Value := List.replicate n (cel 0)

theorem zer_length (n : Nat) : (zer n).length = n := by simp [zer]

/-- make([]byte, n): a new row of zero bytes. -/
theorem wpList_make_bytes {w : World} {ops : Array Oper} {rest : List Oper} {o : Oper} {a : Act} {Q : Exit → Act → World → Prop}
    (hg : o.guard = none) (l c : Operand) (hop : o.op = Op.makeSlice 22 l c) (kl kc : IntKind) (L C : Int) (n : Nat) (hl : a.eval l = .int kl L) (hc : a.eval c = .int kc C) (hL : L = (n : Int)) (hC : C = (n : Int))
    (hn : n ≤ 281474976710656)
    (hK : ∀ w', Hid (Blk w' w.heap.size 5 (zer n)) → Below w.heap.size w w' → w.heap.size < w'.heap.size → wpList Tryd.prog ops Q rest (a.put o.dst (.slice (some ⟨w.heap.size, 0, none⟩) n n)) w') :
    wpList Tryd.prog ops Q (o :: rest) a w := by
  obtain ⟨i, hi, hz0, hz1, hz2⟩ := info_parts Tryd.info5
  refine wpList_plain hg fun K hK' => ?_
  have hrun := run_make (P := Tryd.prog) w 22 5 i (.int .u8 0) Tryd.underlying22 hi hz0 kl kc (n : Int) (n : Int) (by omega) (by omega) (by rw [hz2]; omega) (by omega)
  subst hL
  subst hC
  have hm : madeCells (Value.int IntKind.u8 0).cells ((n : Int).toNat * i.size) = (zer n).toArray := by
    rw [hz1, Nat.mul_one, Int.toNat_natCast, show (Value.int IntKind.u8 0).cells = #[Value.int .u8 0] from rfl]
    apply Array.toList_inj.1
    rw [toList_madeCells_one]; rfl
  rw [hm] at hrun
  unfold Oper.wp
  simp only [execOp, hop, hl, hc, Sem.run_bind, hrun, Result.andThen]
  exact hK' _ _ (hK _ (Blk.new w 5 (zer n)) ((Below.refl _ _).alloc (Nat.le_refl _) _) (by simp))

/-- copy(out, b): out a new row of zero bytes that is long enough, b any slice that reads as bytes. -/
theorem wpList_copy_bytes {w : World} {ops : Array Oper} {rest : List Oper} {o : Oper} {a : Act} {Q : Exit → Act → World → Prop} (hgd : o.guard = none) (d s : Operand)
    (ho : o.op = .call { callee := .builtin .copy, args := #[d, s], argTypes := #[22, 22] }) (g m mc n c : Nat) (A : Option Addr) (hd : a.eval d = .slice (some ⟨g, 0, none⟩) m mc) (hs : a.eval s = .slice A n c)
    (l : List UInt8) (hB : Blk w g 5 (zer m)) (hR : Rd w A n c l) (hnm : n ≤ m) (B : Nat) (w0 : World) (hb : Below B w0 w) (hBg : B ≤ g)
    (h : ∀ w', Hid (Blk w' g 5 (l.map cel ++ zer (m - n))) → Below B w0 w' → wpList Tryd.prog ops Q rest (a.put o.dst (goInt n)) w') :
    wpList Tryd.prog ops Q (o :: rest) a w := by
  have hl : l.length = n := hR.1
  have e1 : (l.map cel).length = n := by simp [hl]
  have h' := wpList_copy_splice (P := Tryd.prog) (w := w) (ops := ops) (rest := rest) (o := o) (a := a) (Q := Q) hgd d s 22 22 ho 5 Tryd.underlying22 (by kernel_rfl)
    (some ⟨g, 0, none⟩) A m mc n c hd hs g 0 (zer m) 5 hB (l.map cel) (by rw [e1]; exact (Nat.min_eq_left hnm).symm)
    (fun hp => ⟨rfl, by
      obtain ⟨b, off, hA, _, hc⟩ := hR.2.2.2 (by omega)
      refine ⟨_, hA, fun j v hj => ?_⟩
      rw [List.getElem?_map] at hj
      obtain ⟨u, hu, rfl⟩ := Option.map_eq_some_iff.1 hj
      rw [Addr.add_lit]
      exact hc j u hu⟩)
    (by rw [e1, zer_length]; omega) (by intro v hv; obtain ⟨u, _, rfl⟩ := List.mem_map.1 hv; rfl) B w0 hb hBg
  refine h' fun w' hG hbel => ?_
  rw [e1]
  refine h w' ?_ hbel
  have hG' := hG.out
  have e2 : splice (zer m) 0 (l.map cel) = l.map cel ++ zer (m - n) := by
    unfold splice zer
    simp [hl]
  rw [e2] at hG'
  exact hG'

/-- A slice value that the call owns from block B on reads as the bytes l. -/
def Own (w : World) (B : Nat) (v : Value) (l : List UInt8) : Prop := w.ownsRow B 5 1 v l.length (l.map cel)

theorem Own.nil (w : World) (B : Nat) : Own w B (.slice none 0 0) [] := World.ownsRow_nil w B 5 1

theorem Own.of_blk {w : World} {g c B : Nat} {l : List UInt8} {rest : List Value} (h : Blk w g 5 (l.map cel ++ rest)) (hc : c = l.length + rest.length) (hm : c ≤ maxLen) (hB : B ≤ g) : Own w B (.slice (some ⟨g, 0, none⟩) l.length c) l := by
  refine ⟨by simp, .inr ⟨g, c, _, rfl, hB, h, by omega, hm, by simp [hc], by simp⟩⟩

theorem Own.of_blk0 {w : World} {g c n B : Nat} {l : List UInt8} (h : Blk w g 5 (l.map cel)) (hn : n = l.length) (hc : c = l.length) (hm : c ≤ maxLen) (hB : B ≤ g) : Own w B (.slice (some ⟨g, 0, none⟩) n c) l := by
  subst hn
  exact Own.of_blk (rest := []) (by simpa using h) (by simpa using hc) hm hB

theorem Own.kept {w w' : World} {B : Nat} {v : Value} {l : List UInt8} (h : Own w B v l) (hb : Below w.heap.size w w') : Own w' B v l := by
  refine ⟨h.1, ?_⟩
  rcases h.2 with hn | ⟨g, cap, cur, rfl, hB, hg, rest⟩
  · exact .inl hn
  · exact .inr ⟨g, cap, cur, rfl, hB, (hb.block g (Array.getElem?_eq_some_iff.1 hg).1).trans hg, rest⟩

theorem Own.mono {w : World} {B B' : Nat} {v : Value} {l : List UInt8} (h : Own w B v l) (hB : B' ≤ B) : Own w B' v l := by
  refine ⟨h.1, ?_⟩
  rcases h.2 with hn | ⟨g, cap, cur, rfl, hB', hg, rest⟩
  · exact .inl hn
  · exact .inr ⟨g, cap, cur, rfl, by omega, hg, rest⟩

theorem Own.shape {w : World} {B : Nat} {v : Value} {l : List UInt8} (h : Own w B v l) : ∃ A c, v = .slice A l.length c := by
  rcases h.2 with ⟨rfl, hn⟩ | ⟨g, cap, cur, rfl, _⟩
  · exact ⟨none, 0, by rw [hn]⟩
  · exact ⟨_, _, rfl⟩

theorem Own.rd {w : World} {B n c : Nat} {A : Option Addr} {l : List UInt8} (h : Own w B (.slice A n c) l) : Rd w A n c l := by
  rcases h.2 with ⟨hv, hn⟩ | ⟨g, cap, cur, hv, hB, hg, hnc, hcm, hsz, ht⟩
  · injection hv with h1 h2 h3
    subst h1 h2 h3
    exact ⟨hn, Nat.le_refl _, Nat.zero_le _, fun h => absurd h (by omega)⟩
  · injection hv with h1 h2 h3
    subst h1 h2 h3
    refine ⟨rfl, hnc, hcm, fun _ => ⟨g, 0, rfl, (Array.getElem?_eq_some_iff.1 hg).1, fun i u hu => ?_⟩⟩
    have := h.cells (g := g) rfl i (cel u) (by rw [List.getElem?_map, hu]; rfl)
    rwa [Addr.add_lit] at this

/-- string(b): the bytes of a slice as a text. -/
theorem run_str {w : World} {n c : Nat} {A : Option Addr} {l : List UInt8} (h : Rd w A n c l) : (convert 22 9 (.slice A n c)).run Tryd.prog w = .ok (.string ⟨l.toArray⟩) w := by
  obtain ⟨h1, h2, h3, h4⟩ := h
  by_cases hn : n = 0
  · subst hn
    obtain rfl : l = [] := List.eq_nil_of_length_eq_zero h1
    cases A with
    | none => exact run_convert_bytes_nil w 22 5 Tryd.underlying22 Tryd.underlying5 0 c 9 Tryd.underlying9
    | some a =>
      rw [run_convert_bytes_string w 22 9 5 _ 0 c Tryd.underlying22 Tryd.underlying5 Tryd.underlying9, run_bytesToString w _ 0 c [] (by simp [loadCells, loadCellsFrom])]
      rfl
  · obtain ⟨b, off, rfl, _, hc⟩ := h4 (by omega)
    have := run_convert_bytes_arg (P := Tryd.prog) w 22 5 Tryd.underlying22 Tryd.underlying5 b off n c (l.map fun u => (u.toNat : Int)) (by simpa using h1)
      (fun i hi => by
        rw [hc i l[i] (List.getElem?_eq_getElem (by omega)), cel]
        congr 2
        simp [List.getD, show i < l.length by omega]) 9 Tryd.underlying9
    rw [this]
    congr 2
    unfold strOfNums
    congr 2
    rw [List.map_map]
    conv => rhs; rw [← List.map_id l]
    apply List.map_congr_left
    intro u _
    simp

/-- append of nothing. -/
theorem run_append_none {w : World} {B c : Nat} {v : Value} {l : List UInt8} (ty : TypeId) (h : Own w B v l) : (Builtin.append_ #[22, 22] ty #[v, .slice none 0 c]).run Tryd.prog w = .ok v w := by
  obtain ⟨i, hi, hz0, hz1, hz2⟩ := info_parts Tryd.info5
  rcases h.2 with ⟨rfl, hn⟩ | ⟨g, cap, cur, rfl, _, _, hnc, _⟩
  · simp [Builtin.append_, run_underlying Tryd.underlying22, sizeOf, typeInfo, hi, Builtin.lenOf, Builtin.firstCells]
  · simp [Builtin.append_, run_underlying Tryd.underlying22, sizeOf, typeInfo, hi, Builtin.lenOf, Builtin.firstCells, hnc, storeCells]

theorem Own.grown {w w' : World} {B B0 : Nat} {w0 : World} {v : Value} {l : List UInt8} (h : Own w B v l) (hg : w.grownBy w' v.ownBlock) (hb : Below B0 w0 w) (h1 : B0 ≤ B) (h2 : B0 ≤ w.heap.size) : Below B0 w0 w' :=
  hb.grown hg h2 fun k hk => by have := World.ownsRow.lt h k hk; omega

/-- append(out, b...): out the call's own, b any slice that reads as bytes; only out's block may have turned. -/
theorem wpList_append_bytes_g {w : World} {ops : Array Oper} {rest : List Oper} {o : Oper} {a : Act} {Q : Exit → Act → World → Prop} (hgd : o.guard = none) (s x : Operand)
    (ho : o.op = .call { callee := .builtin .append, args := #[s, x], argTypes := #[22, 22] }) (B : Nat) (v : Value) (n : Nat) (l : List UInt8) (hs : a.eval s = v) (hown : Own w B v l) (hl : l.length = n)
    (A : Option Addr) (m c : Nat) (news : List UInt8) (hx : a.eval x = .slice A m c) (hr : Rd w A m c news) (h63 : n + m ≤ 140737488355328) (hbase : B ≤ w.heap.size) (B0 : Nat) (w0 : World) (hb : Below B0 w0 w) (hB0 : B0 ≤ B)
    (h : ∀ A' c' w', Own w' B (.slice A' (n + m) c') (l ++ news) → Below B0 w0 w' → w.grownBy w' v.ownBlock → wpList Tryd.prog ops Q rest (a.put o.dst (.slice A' (n + m) c')) w') :
    wpList Tryd.prog ops Q (o :: rest) a w := by
  subst hl
  obtain ⟨i, hi, hz0, hz1, hz2⟩ := info_parts Tryd.info5
  obtain ⟨k1, k2, k3, k4⟩ := hr
  have go : ∀ v' w', w'.ownsRow B 5 1 v' (l.length + m) (l.map cel ++ news.map cel) → w.grownBy w' v.ownBlock → wpList Tryd.prog ops Q rest (a.put o.dst v') w' := by
    intro v' w' hown' hg
    have e1 : Own w' B v' (l ++ news) := by unfold Own; rw [List.map_append, List.length_append, k1]; exact hown'
    obtain ⟨A', c', rfl⟩ := e1.shape
    rw [List.length_append, k1] at e1 ⊢
    exact h A' c' w' e1 (hown.grown hg hb hB0 (by omega)) hg
  cases A with
  | none =>
    have hm : m = 0 := by
      rcases Nat.eq_zero_or_pos m with h0 | h0
      · exact h0
      · obtain ⟨b, off, hA, _⟩ := k4 h0
        cases hA
    subst hm
    obtain rfl : news = [] := List.eq_nil_of_length_eq_zero k1
    refine wpList_plain hgd fun K hK => ?_
    have hrun := run_append_none (c := c) o.type hown
    unfold Oper.wp execOp
    simp only [ho, resolve, invoke, builtin, Sem.run_bind, Sem.run_pure, Result.andThen_ok, List.map_toArray, List.map_cons, List.map_nil, hs, hx, hrun]
    exact hK _ _ (go v w (by have h5 : w.ownsRow B 5 1 v l.length (l.map cel) := hown; simpa using h5) (World.grownBy.refl _ _))
  | some ad =>
    refine wpList_append_own w hgd s x 22 ho B 5 i (.int .u8 0) 1 1 Tryd.underlying22 hi hz0 hz1 hz2 rfl (by decide) v l.length (l.map cel) hs hown ad m c (news.map cel) hx (by simp [k1]) ?_ ?_ (by unfold maxLen; omega) (by omega) hbase ?_
    · intro j u hu
      rw [List.getElem?_map] at hu
      obtain ⟨y, hy, rfl⟩ := Option.map_eq_some_iff.1 hu
      obtain ⟨b, off, hA, _, hc⟩ := k4 (by have := (List.getElem?_eq_some_iff.1 hy).1; omega)
      obtain rfl := Option.some.inj hA
      rw [Addr.add_lit]
      exact hc j y hy
    · intro u hu
      obtain ⟨_, _, rfl⟩ := List.mem_map.1 hu
      rfl
    · intro v' w' h1 h2 _
      exact go v' w' h1 h2

/-- append(out, b...): out the call's own, b any slice that reads as bytes. -/
theorem wpList_append_bytes {w : World} {ops : Array Oper} {rest : List Oper} {o : Oper} {a : Act} {Q : Exit → Act → World → Prop} (hgd : o.guard = none) (s x : Operand)
    (ho : o.op = .call { callee := .builtin .append, args := #[s, x], argTypes := #[22, 22] }) (B : Nat) (v : Value) (n : Nat) (l : List UInt8) (hs : a.eval s = v) (hown : Own w B v l) (hl : l.length = n)
    (A : Option Addr) (m c : Nat) (news : List UInt8) (hx : a.eval x = .slice A m c) (hr : Rd w A m c news) (h63 : n + m ≤ 140737488355328) (hbase : B ≤ w.heap.size) (B0 : Nat) (w0 : World) (hb : Below B0 w0 w) (hB0 : B0 ≤ B)
    (h : ∀ A' c' w', Own w' B (.slice A' (n + m) c') (l ++ news) → Below B0 w0 w' → wpList Tryd.prog ops Q rest (a.put o.dst (.slice A' (n + m) c')) w') :
    wpList Tryd.prog ops Q (o :: rest) a w :=
  wpList_append_bytes_g hgd s x ho B v n l hs hown hl A m c news hx hr h63 hbase B0 w0 hb hB0 fun A' c' w' h1 h2 _ => h A' c' w' h1 h2

/-- append(out, s...): s a text. -/
theorem wpList_append_text {w : World} {ops : Array Oper} {rest : List Oper} {o : Oper} {a : Act} {Q : Exit → Act → World → Prop} (hgd : o.guard = none) (s x : Operand)
    (ho : o.op = .call { callee := .builtin .append, args := #[s, x], argTypes := #[22, 9] }) (B : Nat) (v : Value) (n : Nat) (l : List UInt8) (hs : a.eval s = v) (hown : Own w B v l) (hl : l.length = n)
    (t : ByteArray) (hx : a.eval x = .string t) (h63 : n + t.size ≤ 140737488355328) (hbase : B ≤ w.heap.size) (B0 : Nat) (w0 : World) (hb : Below B0 w0 w) (hB0 : B0 ≤ B)
    (h : ∀ A' c' w', Own w' B (.slice A' (n + t.size) c') (l ++ t.data.toList) → Below B0 w0 w' → wpList Tryd.prog ops Q rest (a.put o.dst (.slice A' (n + t.size) c')) w') :
    wpList Tryd.prog ops Q (o :: rest) a w := by
  subst hl
  obtain ⟨i, hi, hz0, hz1, hz2⟩ := info_parts Tryd.info5
  refine Lib.wpList_append_own_string w hgd s x 22 9 ho B 5 i Tryd.underlying22 Tryd.underlying9 hi hz0 hz1 hz2 v l.length (l.map cel) hs hown t hx (by unfold maxLen; omega) (by omega) hbase ?_
  intro v' w' h1 h2 _
  have e0 : t.data.toList.length = t.size := rfl
  have e1 : Own w' B v' (l ++ t.data.toList) := by unfold Own; rw [List.map_append, List.length_append, e0]; exact h1
  obtain ⟨A', c', rfl⟩ := e1.shape
  rw [List.length_append, e0] at e1 ⊢
  exact h A' c' w' e1 (hown.grown h2 hb hB0 (by omega))

/-- A new block of one byte. -/
theorem Rd.one {w : World} {x : Value} {u : UInt8} (hx : x = cel u) : Rd (w.alloc (.cells #[x] 5)) (some ⟨w.heap.size, 0, none⟩) 1 1 [u] := by
  subst hx
  exact Rd.of_blk (l := [u]) (rest := []) (Blk.new w 5 [cel u]) (Nat.le_refl _) (by unfold maxLen; decide)

/-- Only block g has turned. -/
structure Oth (g : Nat) (w w' : World) : Prop where
  os : w'.os = w.os
  tape : w'.tape = w.tape
  output : w'.output = w.output
  size : w'.heap.size = w.heap.size
  block : ∀ k, k ≠ g → w'.heap[k]? = w.heap[k]?

theorem Oth.refl (g : Nat) (w : World) : Oth g w w := ⟨rfl, rfl, rfl, rfl, fun _ _ => rfl⟩
theorem Oth.setCell {g : Nat} {w w' : World} (h : Oth g w w') (i : Nat) (u : Value) : Oth g w (w'.setCell ⟨g, i, none⟩ u) :=
  ⟨h.os, h.tape, h.output, by rw [← h.size]; simp [World.setCell], fun k hk => (Below.heap_setCell w' ⟨g, i, none⟩ u k hk).trans (h.block k hk)⟩
theorem Oth.below {g B : Nat} {w0 w w' : World} (h : Oth g w w') (hb : Below B w0 w) (hB : B ≤ g) : Below B w0 w' :=
  hb.trans ⟨h.os, h.tape, h.output, Nat.le_of_eq h.size.symm, fun k hk => h.block k (by omega)⟩
theorem Rd.oth {w w' : World} {g n c : Nat} {A : Option Addr} {l : List UInt8} (h : Rd w A n c l) (ho : Oth g w w') (hne : ∀ ad, 0 < n → A = some ad → ad.block ≠ g) : Rd w' A n c l := by
  obtain ⟨h1, h2, h3, h4⟩ := h
  refine ⟨h1, h2, h3, fun hn => ?_⟩
  obtain ⟨b, off, hA, hlt, hc⟩ := h4 hn
  exact ⟨b, off, hA, by rw [ho.size]; exact hlt, fun i u hu => (World.cell?_of_block (ho.block b (hne _ hn hA))).trans (hc i u hu)⟩
theorem Rd.ne {w : World} {g n c : Nat} {A : Option Addr} {l : List UInt8} (h : Rd w A n c l) (hg : w.heap.size ≤ g) : ∀ ad, 0 < n → A = some ad → ad.block ≠ g := by
  intro ad hn hA
  obtain ⟨b, off, hA', hlt, _⟩ := h.2.2.2 hn
  rw [hA] at hA'
  obtain rfl := Option.some.inj hA'
  show b ≠ g
  omega
theorem Own.oth {w w' : World} {g B : Nat} {v : Value} {l : List UInt8} (h : Own w B v l) (ho : Oth g w w') (hg : g < B) : Own w' B v l := by
  refine ⟨h.1, ?_⟩
  rcases h.2 with hn | ⟨g', cap, cur, rfl, hB, hh, rest⟩
  · exact .inl hn
  · exact .inr ⟨g', cap, cur, rfl, hB, (ho.block g' (by omega)).trans hh, rest⟩

end Go.Proofs.YtbljghjhpkhcaaaDoor
