/- The check sum on plain numbers: bit by bit, by half bytes, and that one byte changed changes it. No Go here. -/
import Derived.Laws.BitsAllLaws
namespace Go.Proofs.YtbljghjhpkhcaaaDoor

/-- One bit out at the right. -/
def bitS (x : Nat) : Nat := x / 2 ^^^ (if x % 2 = 1 then 3988292384 else 0)
def bitN : Nat → Nat → Nat
  | 0, x => x
  | k + 1, x => bitS (bitN k x)
/-- The register behind a byte. -/
def upd (r : Nat) (c : UInt8) : Nat := bitN 8 (r ^^^ c.toNat)
def reg (l : List UInt8) : Nat := l.foldl upd 4294967295
def crc (l : List UInt8) : Nat := 4294967295 ^^^ reg l

theorem bitS_zero : bitS 0 = 0 := rfl
theorem xor_half (x y : Nat) : (x ^^^ y) / 2 = x / 2 ^^^ y / 2 := Nat.xor_div_two
theorem bitS_xor (x y : Nat) : bitS (x ^^^ y) = bitS x ^^^ bitS y := by
  unfold bitS
  rw [xor_half]
  have h := @Nat.xor_mod_two_eq_one x y
  rcases Nat.mod_two_eq_zero_or_one x with hx | hx <;> rcases Nat.mod_two_eq_zero_or_one y with hy | hy <;> simp only [hx, hy] at h <;> simp [hx, hy, h]
  · rw [Nat.xor_assoc]
  · rw [Nat.xor_assoc, Nat.xor_assoc, Nat.xor_comm (y / 2)]
  · rw [Nat.xor_assoc, Nat.xor_comm (3988292384) _, Nat.xor_assoc (y / 2), Nat.xor_self, Nat.xor_zero]
theorem bitN_xor (k x y : Nat) : bitN k (x ^^^ y) = bitN k x ^^^ bitN k y := by
  induction k with
  | zero => rfl
  | succ k ih => rw [bitN, bitN, bitN, ih, bitS_xor]
theorem bitS_lt {x : Nat} (h : x < 4294967296) : bitS x < 4294967296 := by
  unfold bitS
  have : x / 2 < 2 ^ 32 := by omega
  split
  · exact Nat.xor_lt_two_pow (n := 32) this (by decide)
  · exact Nat.xor_lt_two_pow (n := 32) this (by decide)
theorem bitN_lt {x : Nat} (k : Nat) (h : x < 4294967296) : bitN k x < 4294967296 := by
  induction k with
  | zero => exact h
  | succ k ih => exact bitS_lt ih
theorem upd_lt {r : Nat} (c : UInt8) (h : r < 4294967296) : upd r c < 4294967296 :=
  bitN_lt 8 (Nat.xor_lt_two_pow (n := 32) h (by have := c.toNat_lt; omega))
theorem foldl_lt (l : List UInt8) : ∀ r, r < 4294967296 → l.foldl upd r < 4294967296 := by
  induction l with
  | nil => intro r h; exact h
  | cons c l ih => intro r h; exact ih _ (upd_lt c h)
theorem reg_lt (l : List UInt8) : reg l < 4294967296 := foldl_lt l _ (by decide)
theorem crc_lt (l : List UInt8) : crc l < 4294967296 := Nat.xor_lt_two_pow (n := 32) (by decide) (reg_lt l)

/-- The table of half bytes. -/
def tab : List Nat := [0, 498536548, 997073096, 651767980, 1994146192, 1802195444, 1303535960, 1342533948, 3988292384, 4027552580, 3604390888, 3412177804, 2607071920, 2262029012, 2685067896, 3183342108]
theorem tab_length : tab.length = 16 := rfl
theorem tab_bits : ∀ i, i < 16 → bitN 4 i = tab.getD i 0 := by decide
theorem bitS_even (m : Nat) : bitS (2 * m) = m := by
  unfold bitS
  rw [if_neg (by omega), Nat.xor_zero]
  omega
theorem bitN4_high (h : Nat) : bitN 4 (16 * h) = h := by
  show bitS (bitS (bitS (bitS (16 * h)))) = h
  rw [show 16 * h = 2 * (2 * (2 * (2 * h))) by omega, bitS_even, bitS_even, bitS_even, bitS_even]
theorem split16 (x : Nat) : x = (16 * (x / 16)) ^^^ (x % 16) := by
  apply Nat.eq_of_testBit_eq
  intro i
  show x.testBit i = (2 ^ 4 * (x / 2 ^ 4) ^^^ x % 2 ^ 4).testBit i
  rw [Nat.testBit_xor, Nat.testBit_two_pow_mul, Nat.testBit_div_two_pow, Nat.testBit_mod_two_pow]
  by_cases hi : 4 ≤ i
  · have h2 : ¬ i < 4 := by omega
    simp [hi, h2]
  · have h2 : i < 4 := by omega
    simp [hi, h2]
theorem half_step (x : Nat) : bitN 4 x = x / 16 ^^^ tab.getD (x % 16) 0 := by
  conv => lhs; rw [split16 x]
  rw [bitN_xor, bitN4_high, tab_bits _ (Nat.mod_lt _ (by decide))]
theorem bitN_add (a b x : Nat) : bitN (a + b) x = bitN a (bitN b x) := by
  induction a with
  | zero => rw [Nat.zero_add]; rfl
  | succ a ih => rw [Nat.succ_add, bitN, ih, bitN]
/-- A byte by two half bytes. -/
theorem upd_halves (r : Nat) (c : UInt8) : upd r c = bitN 4 (bitN 4 (r ^^^ c.toNat)) := bitN_add 4 4 _

theorem bitS_inj {x y : Nat} (hx : x < 4294967296) (hy : y < 4294967296) (h : bitS x = bitS y) : x = y := by
  have h0 : bitS (x ^^^ y) = 0 := by rw [bitS_xor, h, Nat.xor_self]
  have hlt : x ^^^ y < 2 ^ 32 := Nat.xor_lt_two_pow (n := 32) hx hy
  have hz : x ^^^ y = 0 := by
    generalize x ^^^ y = z at *
    unfold bitS at h0
    rcases Nat.mod_two_eq_zero_or_one z with hm | hm
    · rw [if_neg (by omega), Nat.xor_zero] at h0
      omega
    · rw [if_pos hm] at h0
      have hb := congrArg (fun n => n.testBit 31) h0
      simp only [Nat.testBit_xor, Nat.zero_testBit] at hb
      have h1 : (z / 2).testBit 31 = false := Nat.testBit_lt_two_pow (by omega)
      have h2 : (3988292384 : Nat).testBit 31 = true := by decide
      rw [h1, h2] at hb
      cases hb
  have := congrArg (fun n => n ^^^ y) hz
  simp only [Nat.xor_assoc, Nat.xor_self, Nat.xor_zero, Nat.zero_xor] at this
  exact this
theorem bitN_inj (k : Nat) : ∀ {x y : Nat}, x < 4294967296 → y < 4294967296 → bitN k x = bitN k y → x = y := by
  induction k with
  | zero => intro x y _ _ h; exact h
  | succ k ih => intro x y hx hy h; exact ih hx hy (bitS_inj (bitN_lt k hx) (bitN_lt k hy) h)
theorem xor_cancel_right {a b c : Nat} (h : a ^^^ c = b ^^^ c) : a = b := by
  have := congrArg (fun n => n ^^^ c) h
  simpa only [Nat.xor_assoc, Nat.xor_self, Nat.xor_zero] using this
theorem upd_inj_reg {a b : Nat} (c : UInt8) (ha : a < 4294967296) (hb : b < 4294967296) (h : upd a c = upd b c) : a = b := by
  have hc : c.toNat < 2 ^ 32 := by have := c.toNat_lt; omega
  exact xor_cancel_right (bitN_inj 8 (Nat.xor_lt_two_pow (n := 32) ha hc) (Nat.xor_lt_two_pow (n := 32) hb hc) h)
theorem upd_inj_byte {r : Nat} {c d : UInt8} (hr : r < 4294967296) (h : upd r c = upd r d) : c = d := by
  have hc : c.toNat < 2 ^ 32 := by have := c.toNat_lt; omega
  have hd : d.toNat < 2 ^ 32 := by have := d.toNat_lt; omega
  have h1 := bitN_inj 8 (Nat.xor_lt_two_pow (n := 32) hr hc) (Nat.xor_lt_two_pow (n := 32) hr hd) h
  rw [Nat.xor_comm r, Nat.xor_comm r] at h1
  exact UInt8.toNat_inj.1 (xor_cancel_right h1)
theorem foldl_inj (l : List UInt8) : ∀ {a b : Nat}, a < 4294967296 → b < 4294967296 → l.foldl upd a = l.foldl upd b → a = b := by
  induction l with
  | nil => intro a b _ _ h; exact h
  | cons c l ih => intro a b ha hb h; exact upd_inj_reg c ha hb (ih (upd_lt c ha) (upd_lt c hb) h)
/-- One byte changed changes the sum. -/
theorem crc_byte (a b : List UInt8) (c d : UInt8) (hcd : c ≠ d) : crc (a ++ c :: b) ≠ crc (a ++ d :: b) := by
  intro h
  have h3 : reg (a ++ c :: b) = reg (a ++ d :: b) := by
    unfold crc at h
    rw [Nat.xor_comm, Nat.xor_comm 4294967295] at h
    exact xor_cancel_right h
  unfold reg at h3
  rw [List.foldl_append, List.foldl_append, List.foldl_cons, List.foldl_cons] at h3
  have hr : a.foldl upd 4294967295 < 4294967296 := foldl_lt a _ (by decide)
  exact hcd (upd_inj_byte hr (foldl_inj b (upd_lt c hr) (upd_lt d hr) h3))

theorem reg_snoc (l : List UInt8) (c : UInt8) : reg (l ++ [c]) = upd (reg l) c := by
  unfold reg
  rw [List.foldl_append]
  rfl
end Go.Proofs.YtbljghjhpkhcaaaDoor
