/-
  Sums of bytes, as plain law: halving is linear over exclusive or, and nothing but 0 is halved to 0.
-/
import Derived.Test.YtemhbpgjnhdchaaDoorTy
set_option linter.unusedVariables false
namespace Go.Proofs.YtemhbpgjnhdchaaDoor
open Go Go.RowKit Sx

def poly : Nat := 3988292384
def ones : Nat := 4294967295
def half (v : Nat) : Nat := if v % 2 = 1 then v / 2 ^^^ poly else v / 2
theorem xlc (a b c : Nat) : a ^^^ (b ^^^ c) = b ^^^ (a ^^^ c) := by rw [← Nat.xor_assoc, Nat.xor_comm a b, Nat.xor_assoc]
theorem xcancel (a b : Nat) : a ^^^ (a ^^^ b) = b := by rw [← Nat.xor_assoc, Nat.xor_self, Nat.zero_xor]
theorem half_xor (a b : Nat) : half (a ^^^ b) = half a ^^^ half b := by
  unfold half
  have h := @Nat.xor_mod_two_eq_one a b
  rw [Nat.xor_div_two]
  by_cases ha : a % 2 = 1 <;> by_cases hb : b % 2 = 1
  · rw [if_neg (by rw [h]; simp [ha, hb]), if_pos ha, if_pos hb, Nat.xor_assoc, xlc poly, Nat.xor_self, Nat.xor_zero]
  · rw [if_pos (by rw [h]; simp [ha, hb]), if_pos ha, if_neg hb]
    rw [Nat.xor_assoc, Nat.xor_comm (b / 2), ← Nat.xor_assoc]
  · rw [if_pos (by rw [h]; simp [ha, hb]), if_neg ha, if_pos hb, Nat.xor_assoc]
  · rw [if_neg (by rw [h]; simp [ha, hb]), if_neg ha, if_neg hb]
theorem half_lt {v : Nat} (h : v < 2 ^ 32) : half v < 2 ^ 32 := by
  unfold half
  split
  · exact Nat.xor_lt_two_pow (by omega) (by unfold poly; omega)
  · omega
theorem half_zero : half 0 = 0 := rfl
theorem half_ne {v : Nat} (h : v < 2 ^ 32) (h0 : v ≠ 0) : half v ≠ 0 := by
  unfold half
  split
  · intro e
    have h1 : v / 2 = poly := by
      have := congrArg (fun x => x ^^^ poly) e
      simp only [Nat.xor_assoc, Nat.xor_self, Nat.xor_zero, Nat.zero_xor] at this
      exact this
    unfold poly at h1
    omega
  · omega
/-- Halved n times. -/
def hn : Nat → Nat → Nat
  | 0, v => v
  | n + 1, v => hn n (half v)
theorem hn_xor : ∀ (n a b : Nat), hn n (a ^^^ b) = hn n a ^^^ hn n b
  | 0, _, _ => rfl
  | n + 1, a, b => by simp only [hn, half_xor, hn_xor n]
theorem hn_lt : ∀ (n : Nat) {v : Nat}, v < 2 ^ 32 → hn n v < 2 ^ 32
  | 0, _, h => h
  | n + 1, _, h => hn_lt n (half_lt h)
theorem hn_ne : ∀ (n : Nat) {v : Nat}, v < 2 ^ 32 → v ≠ 0 → hn n v ≠ 0
  | 0, _, _, h => h
  | n + 1, _, h, h0 => hn_ne n (half_lt h) (half_ne h h0)
theorem hn_zero : ∀ (n : Nat), hn n 0 = 0
  | 0 => rfl
  | n + 1 => hn_zero n
theorem hn_add : ∀ (a b v : Nat), hn (a + b) v = hn b (hn a v)
  | 0, b, v => by simp [hn]
  | a + 1, b, v => by rw [Nat.add_right_comm]; simp only [hn]; exact hn_add a b _
theorem hn_succ (n v : Nat) : hn (n + 1) v = half (hn n v) := hn_add n 1 v
def h8 (v : Nat) : Nat := hn 8 v
theorem half_even (q : Nat) : half (2 * q) = q := by
  unfold half
  rw [if_neg (by omega)]; omega
theorem h8_high (q : Nat) : h8 (256 * q) = q := by
  unfold h8
  simp only [hn]
  rw [show 256 * q = 2 * (128 * q) from by omega, half_even, show 128 * q = 2 * (64 * q) from by omega, half_even, show 64 * q = 2 * (32 * q) from by omega, half_even, show 32 * q = 2 * (16 * q) from by omega, half_even,
    show 16 * q = 2 * (8 * q) from by omega, half_even, show 8 * q = 2 * (4 * q) from by omega, half_even, show 4 * q = 2 * (2 * q) from by omega, half_even, half_even]
theorem split_low (v : Nat) : v = (256 * (v / 256)) ^^^ (v % 256) := by
  have h1 : ((256 * (v / 256)) ^^^ (v % 256)) / 2 ^ 8 = v / 256 := by
    rw [Nat.xor_div_two_pow, show 256 * (v / 256) / 2 ^ 8 = v / 256 from by omega, show v % 256 / 2 ^ 8 = 0 from by omega, Nat.xor_zero]
  have h2 : ((256 * (v / 256)) ^^^ (v % 256)) % 2 ^ 8 = v % 256 := by
    rw [Nat.xor_mod_two_pow, show 256 * (v / 256) % 2 ^ 8 = 0 from by omega, show v % 256 % 2 ^ 8 = v % 256 from by omega, Nat.zero_xor]
  omega
/-- A byte more, by the table. -/
theorem step_eq (v b : Nat) (hb : b < 256) : h8 (v ^^^ b) = v / 256 ^^^ h8 (v % 256 ^^^ b) := by
  have h1 : (v ^^^ b) / 256 = v / 256 := by
    have := @Nat.xor_div_two_pow v b 8
    rw [show b / 2 ^ 8 = 0 from by omega, Nat.xor_zero] at this
    exact this
  have h2 : (v ^^^ b) % 256 = v % 256 ^^^ b := by
    have := @Nat.xor_mod_two_pow v b 8
    rw [show b % 2 ^ 8 = b from by omega] at this
    exact this
  rw [split_low (v ^^^ b), h1, h2, h8, hn_xor, ← h8, ← h8, h8_high]
def crc (v : Nat) (bs : List UInt8) : Nat := bs.foldl (fun v b => h8 (v ^^^ b.toNat)) v
def more (s : Nat) (bs : List UInt8) : Nat := crc (s ^^^ ones) bs ^^^ ones
def sumOf (bs : List UInt8) : Nat := more 0 bs
theorem b8 (b : UInt8) : b.toNat < 2 ^ 32 := by have := b.toNat_lt; omega
theorem h8_lt {v : Nat} (h : v < 2 ^ 32) : h8 v < 2 ^ 32 := hn_lt 8 h
theorem crc_lt : ∀ (bs : List UInt8) {v : Nat}, v < 2 ^ 32 → crc v bs < 2 ^ 32
  | [], _, h => h
  | b :: bs, v, h => by
    simp only [crc, List.foldl_cons]
    exact crc_lt bs (h8_lt (Nat.xor_lt_two_pow h (b8 b)))
theorem ones_lt : ones < 2 ^ 32 := by decide
theorem more_lt (bs : List UInt8) {s : Nat} (h : s < 2 ^ 32) : more s bs < 2 ^ 32 := Nat.xor_lt_two_pow (crc_lt bs (Nat.xor_lt_two_pow h ones_lt)) ones_lt
theorem sumOf_lt (bs : List UInt8) : sumOf bs < 2 ^ 32 := more_lt bs (by omega)
theorem crc_nil (v : Nat) : crc v [] = v := rfl
theorem crc_cons (v : Nat) (b : UInt8) (bs : List UInt8) : crc v (b :: bs) = crc (h8 (v ^^^ b.toNat)) bs := rfl
theorem crc_snoc (v : Nat) (bs : List UInt8) (b : UInt8) : crc v (bs ++ [b]) = h8 (crc v bs ^^^ b.toNat) := by simp [crc, List.foldl_append]
theorem crc_append (v : Nat) (a b : List UInt8) : crc v (a ++ b) = crc (crc v a) b := by simp [crc, List.foldl_append]
def xorL (a b : List UInt8) : List UInt8 := List.zipWith (· ^^^ ·) a b
theorem crc_xor : ∀ (a b : List UInt8) (u v : Nat), a.length = b.length → crc (u ^^^ v) (xorL a b) = crc u a ^^^ crc v b
  | [], [], _, _, _ => rfl
  | x :: a, y :: b, u, v, h => by
    simp only [xorL, List.zipWith_cons_cons, crc_cons]
    have e : u ^^^ v ^^^ (x ^^^ y).toNat = (u ^^^ x.toNat) ^^^ (v ^^^ y.toNat) := by
      rw [UInt8.toNat_xor, Nat.xor_assoc, Nat.xor_assoc, xlc v x.toNat]
    rw [e, h8, hn_xor, ← h8, ← h8]
    exact crc_xor a b _ _ (by simpa using h)
theorem crc_zeros : ∀ (n v : Nat), crc v (List.replicate n 0) = hn (8 * n) v
  | 0, v => rfl
  | n + 1, v => by
    rw [List.replicate_succ, crc_cons, crc_zeros n]
    have e : (0 : UInt8).toNat = 0 := rfl
    rw [e, Nat.xor_zero, h8, show 8 * (n + 1) = 8 + 8 * n from by omega, hn_add]
/-- One byte that differs: the sums differ. -/
theorem crc_differ (v : Nat) (hv : v < 2 ^ 32) (a c : List UInt8) (x y : UInt8) (h : x ≠ y) : crc v (a ++ x :: c) ≠ crc v (a ++ y :: c) := by
  rw [crc_append, crc_append, crc_cons, crc_cons]
  have hu := crc_lt a hv
  generalize crc v a = u at hu
  have e := crc_xor c c (h8 (u ^^^ x.toNat)) (h8 (u ^^^ y.toNat)) rfl
  intro hh
  rw [hh, Nat.xor_self] at e
  have e2 : xorL c c = List.replicate c.length 0 := by
    unfold xorL
    induction c with
    | nil => rfl
    | cons z c ih =>
      simp [List.replicate_succ]
      apply List.ext_getElem <;> simp
  rw [e2, crc_zeros] at e
  rw [h8, h8, ← hn_xor, ← hn_add] at e
  have e3 : u ^^^ x.toNat ^^^ (u ^^^ y.toNat) = x.toNat ^^^ y.toNat := by rw [Nat.xor_assoc, xlc x.toNat, xcancel]
  rw [e3] at e
  refine hn_ne _ (Nat.xor_lt_two_pow (b8 x) (b8 y)) (fun h0 => h ?_) e
  have : x.toNat = y.toNat := by
    have := congrArg (fun z => z ^^^ y.toNat) h0
    simpa only [Nat.xor_assoc, Nat.xor_self, Nat.xor_zero, Nat.zero_xor] using this
  exact UInt8.toNat_inj.1 this
theorem sumOf_differ (a c : List UInt8) (x y : UInt8) (h : x ≠ y) : sumOf (a ++ x :: c) ≠ sumOf (a ++ y :: c) := by
  unfold sumOf more
  intro e
  have := congrArg (fun z => z ^^^ ones) e
  simp only [Nat.xor_assoc, Nat.xor_self, Nat.xor_zero] at this
  exact crc_differ _ (by decide) a c x y h this
end Go.Proofs.YtemhbpgjnhdchaaDoor
