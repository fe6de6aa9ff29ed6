/- The law IdsOnce, part 4 of 6: what is proved: for every input that can be read the call of IdsOnce returns true and leaves its arguments alone. No conditions but the listed tables of the card. -/
import Derived.Test.YtjlfmolfcgennaaDoorZ3
namespace Go.Proofs.YtjlfmolfcgennaaDoor.V
open Go.RowKit
def tlen (x : Nat) : Int := if x = 0 then 0 else if x < 2 then 1 else if x < 4 then 2 else if x < 8 then 3 else if x < 16 then 4 else if x < 32 then 5 else if x < 64 then 6 else if x < 128 then 7 else 8
set_option maxRecDepth 100000 in
theorem len1_small : ∀ (x : _root_.Fin 256) (j : _root_.Fin 8), b_math_bits_Len64_1 (((x.val : Nat) : Int)) (((8 * j.val : Nat) : Int)) = some (((8 * j.val : Nat) : Int) + tlen x.val, ()) := by decide +kernel
theorem len1_is (a : Int) (j : Nat) (h0 : 0 ≤ a) (h1 : a < 65536) (hj : j < 7) :
  math_bits_Len64_1 a (((8 * j : Nat) : Int)) = some (if 256 ≤ a then ((8 * j : Nat) : Int) + 8 + tlen (a / 256).toNat else ((8 * j : Nat) : Int) + tlen a.toNat, ()) := by
 rw [math_bits_Len64_1_eq]
 by_cases h : 256 ≤ a
 ·
  have e1 : b_math_bits_Len64_1 a ((8 * j : Nat) : Int) = b_math_bits_Len64_1 (a / 256) (((8 * (j + 1) : Nat) : Int)) := by
   have hf : Int.fdiv a 256 = a / 256 := Int.fdiv_eq_ediv_of_nonneg a (by omega)
   have hw : IntKind.wrap .i64 (((8 * j : Nat) : Int) + 8) = ((8 * (j + 1) : Nat) : Int) := by rw [wrap_i64 _ (by omega) (by omega)]; omega
   have hge : ¬ (a / 256 ≥ 256) := by omega
   unfold b_math_bits_Len64_1
   simp only [ge_iff_le, h, decide_true, cond_true, hf, hw]
   simp only [ge_iff_le] at hge
   simp only [hge, decide_false, cond_false]
  rw [e1, if_pos h]
  have := len1_small ⟨(a / 256).toNat, by omega⟩ ⟨j + 1, by omega⟩
  simp only at this
  rw [show (((a / 256).toNat : Nat) : Int) = a / 256 by omega] at this
  rw [this]
  congr 2
 ·
  rw [if_neg h]
  have := len1_small ⟨a.toNat, by omega⟩ ⟨j, by omega⟩
  simp only at this
  rw [show ((a.toNat : Nat) : Int) = a by omega] at this
  exact this
def len16 (a : Int) : Int := if 256 ≤ a then 8 + tlen (a / 256).toNat else tlen a.toNat
def len32 (a : Int) : Int := if 65536 ≤ a then 16 + len16 (a / 65536) else len16 a
def len64 (a : Int) : Int := if 4294967296 ≤ a then 32 + len32 (a / 4294967296) else len32 a
theorem len0_is (a : Int) (j : Nat) (h0 : 0 ≤ a) (h1 : a < 4294967296) (hj : j < 5) : math_bits_Len64_0 a (((8 * j : Nat) : Int)) = some (((8 * j : Nat) : Int) + len32 a, ()) := by
 rw [math_bits_Len64_0_eq, b_math_bits_Len64_0]
 unfold len32 len16
 by_cases h : 65536 ≤ a
 ·
  have hf : Int.fdiv a 65536 = a / 65536 := Int.fdiv_eq_ediv_of_nonneg a (by omega)
  have hw : IntKind.wrap .i64 (((8 * j : Nat) : Int) + 16) = ((8 * (j + 2) : Nat) : Int) := by rw [wrap_i64 _ (by omega) (by omega)]; omega
  simp only [ge_iff_le, h, decide_true, cond_true, hf, hw, if_true]
  rw [len1_is _ _ (by omega) (by omega) (by omega)]
  congr 2
  split <;> omega
 ·
  simp only [ge_iff_le, h, decide_false, cond_false, if_false]
  rw [len1_is _ _ h0 (by omega) (by omega)]
  congr 2
  split <;> omega
theorem len_is (a : Int) (h0 : 0 ≤ a) (h1 : a < 18446744073709551616) : math_bits_Len64 a = some (len64 a, ()) := by
 rw [math_bits_Len64_eq, b_math_bits_Len64]
 unfold len64
 by_cases h : 4294967296 ≤ a
 ·
  have hf : Int.fdiv a 4294967296 = a / 4294967296 := Int.fdiv_eq_ediv_of_nonneg a (by omega)
  simp only [ge_iff_le, h, decide_true, cond_true, hf, if_true]
  have := len0_is (a / 4294967296) 4 (by omega) (by omega) (by omega)
  exact this
 ·
  simp only [ge_iff_le, h, decide_false, cond_false, if_false]
  have := len0_is a 0 h0 (by omega) (by omega)
  simpa using this
theorem tlen_le (x : Nat) : (0 ≤ tlen x ∧ tlen x ≤ 8) ∧ (tlen x ≤ 6 ↔ x < 64) ∧ (0 < x → 1 ≤ tlen x) := by unfold tlen; omega
theorem len16_le (a : Int) (h0 : 0 ≤ a) (h1 : a < 65536) : (0 ≤ len16 a ∧ len16 a ≤ 16) ∧ (len16 a ≤ 6 ↔ a < 64) ∧ (len16 a ≤ 14 ↔ a < 16384) ∧ (0 < a → 1 ≤ len16 a) := by
 unfold len16
 have h2 := tlen_le (a / 256).toNat
 have h3 := tlen_le a.toNat
 by_cases h : 256 ≤ a
 · rw [if_pos h]; omega
 · rw [if_neg h]; omega
theorem len32_le (a : Int) (h0 : 0 ≤ a) (h1 : a < 4294967296) : (0 ≤ len32 a ∧ len32 a ≤ 32) ∧ (len32 a ≤ 6 ↔ a < 64) ∧ (len32 a ≤ 14 ↔ a < 16384) ∧ (len32 a ≤ 30 ↔ a < 1073741824) ∧ (0 < a → 1 ≤ len32 a) := by
 unfold len32
 by_cases h : 65536 ≤ a
 ·
  rw [if_pos h]
  have h2 := len16_le (a / 65536) (by omega) (by omega)
  omega
 ·
  rw [if_neg h]
  have h2 := len16_le a (by omega) (by omega)
  omega
theorem len64_le (a : Int) (h0 : 0 ≤ a) (h1 : a < 18446744073709551616) : (len64 a ≤ 6 ↔ a < 64) ∧ (len64 a ≤ 14 ↔ a < 16384) ∧ (len64 a ≤ 30 ↔ a < 1073741824) ∧ (len64 a ≤ 62 ↔ a < 4611686018427387904) := by
 unfold len64
 by_cases h : 4294967296 ≤ a
 ·
  rw [if_pos h]
  have h2 := len32_le (a / 4294967296) (by omega) (by omega)
  omega
 ·
  rw [if_neg h]
  have h2 := len32_le a (by omega) (by omega)
  omega
def vsize (n : Int) : Int := if n < 64 then 1 else if n < 16384 then 2 else if n < 1073741824 then 4 else if n < 4611686018427387904 then 8 else 0
theorem vsize_is (n : Int) (h0 : 0 ≤ n) (h1 : n < 18446744073709551616) : varint_Size n = some (vsize n, ()) := by
 rw [varint_Size_eq, b_varint_Size]
 obtain ⟨a, b, c, d⟩ := len64_le n h0 h1
 simp only [len_is n h0 h1, obind_some, a, b, c, d, vsize]
 by_cases e1 : n < 64
 · simp only [e1, decide_true, cond_true, if_true]
 ·
  by_cases e2 : n < 16384
  · simp only [e1, e2, decide_true, cond_true, if_true, decide_false, cond_false, if_false]
  ·
   by_cases e3 : n < 1073741824
   · simp only [e1, e2, e3, decide_true, cond_true, if_true, decide_false, cond_false, if_false]
   ·
    by_cases e4 : n < 4611686018427387904
    · simp only [e1, e2, e3, e4, decide_true, cond_true, if_true, decide_false, cond_false, if_false]
    · simp only [e1, e2, e3, e4, decide_false, cond_false, if_false]
theorem rot_low (n : Int) (h0 : 0 ≤ n) (h1 : n < 18446744073709551616) (k : Nat) (hk : 1 ≤ k ∧ k ≤ 7) :
  ∃ r, math_bits_RotateLeft64 n ((8 * k : Nat) : Int) = some (r, ()) ∧ IntKind.wrap .u8 r = n / 2 ^ (64 - 8 * k) % 256 := by
 rw [math_bits_RotateLeft64_eq, b_math_bits_RotateLeft64]
 have w1 : IntKind.wrap .u64 ((8 * k : Nat) : Int) = ((8 * k : Nat) : Int) := wrap_u64 _ (by omega) (by omega)
 have w2 : bits .and .u64 ((8 * k : Nat) : Int) 63 = ((8 * k : Nat) : Int) := by
  rw [bits_and_u64 _ _ (by omega) (by omega)]
  have : ∀ k : _root_.Fin 8, ((8 * k.val : Nat) : Int).toNat &&& Int.toNat 63 = 8 * k.val := by decide
  rw [this ⟨k, by omega⟩]
 have w3 : IntKind.wrap .u64 (64 - ((8 * k : Nat) : Int)) = ((64 - 8 * k : Nat) : Int) := by rw [wrap_u64 _ (by omega) (by omega)]; omega
 simp only [w1, w2, w3, Int.toNat_natCast]
 have g1 : (0 : Int) ≤ ((8 * k : Nat) : Int) := by omega
 have g2 : (0 : Int) ≤ ((64 - 8 * k : Nat) : Int) := by omega
 simp only [g1, g2, decide_true, cond_true]
 refine ⟨_, rfl, ?_⟩
 have m1 : min (8 * k) 64 = 8 * k := by omega
 have m2 : min (64 - 8 * k) 64 = 64 - 8 * k := by omega
 rw [m1, m2, wrap_u8]
 have hp : (0 : Int) < 2 ^ (64 - 8 * k) := Int.pow_pos (by omega)
 have hf : Int.fdiv n (2 ^ (64 - 8 * k)) = n / 2 ^ (64 - 8 * k) := Int.fdiv_eq_ediv_of_nonneg n (Int.le_of_lt hp)
 rw [hf, wrap_u64']
 have hd : 0 ≤ n / 2 ^ (64 - 8 * k) := Int.ediv_nonneg h0 (Int.le_of_lt hp)
 have hd2 : n / 2 ^ (64 - 8 * k) ≤ n := Int.ediv_le_self _ h0
 rw [bits_or_u64 _ _ (by omega) (by omega)]
 have low : (n * 2 ^ (8 * k) % 18446744073709551616).toNat % 256 = 0 := by
  have hm : (n * 2 ^ (8 * k)) % 256 = 0 := by
   obtain ⟨j, rfl⟩ : ∃ j, k = j + 1 := ⟨k - 1, by omega⟩
   have : (2 : Int) ^ (8 * (j + 1)) = 256 * 2 ^ (8 * j) := by rw [Nat.mul_add, Int.pow_add, Int.mul_comm]; rfl
   rw [this, Int.mul_left_comm, Int.mul_emod_right]
  omega
 generalize (n * 2 ^ (8 * k) % 18446744073709551616).toNat = x at low
 have or_mod : (x ||| (n / 2 ^ (64 - 8 * k)).toNat) % 2 ^ 8 = (x % 2 ^ 8) ||| ((n / 2 ^ (64 - 8 * k)).toNat % 2 ^ 8) := Nat.or_mod_two_pow
 rw [show (2 : Nat) ^ 8 = 256 from rfl, low, Nat.zero_or] at or_mod
 omega
theorem rot_64 (n : Int) (h0 : 0 ≤ n) (h1 : n < 18446744073709551616) : ∃ r, math_bits_RotateLeft64 n 64 = some (r, ()) ∧ IntKind.wrap .u8 r = n % 256 := by
 rw [math_bits_RotateLeft64_eq, b_math_bits_RotateLeft64]
 have w1 : IntKind.wrap .u64 (64 : Int) = 64 := wrap_u64 _ (by omega) (by omega)
 have w2 : bits .and .u64 64 63 = 0 := by rw [bits_and_u64 _ _ (by omega) (by omega)]; decide
 have w3 : IntKind.wrap .u64 (64 - (0 : Int)) = 64 := wrap_u64 _ (by omega) (by omega)
 simp only [w1, w2, w3]
 refine ⟨_, rfl, ?_⟩
 rw [wrap_u8]
 have e1 : IntKind.wrap .u64 (n * 2 ^ min (Int.toNat 0) 64) = n := by
  rw [show min (Int.toNat 0) 64 = 0 from rfl, wrap_u64']; omega
 have e2 : Int.fdiv n (2 ^ min (Int.toNat 64) 64) = 0 := by
  rw [show min (Int.toNat 64) 64 = 64 from rfl, Int.fdiv_eq_ediv_of_nonneg n (by decide)]
  exact Int.ediv_eq_zero_of_lt h0 (by omega)
 rw [e1, e2, bits_or_u64 _ _ (by omega) (by omega)]
 simp
 omega
theorem split_is (n : Int) (h0 : 0 ≤ n) (h1 : n < 18446744073709551616) : varint_split n =
  some ((n / 72057594037927936 % 256, n / 281474976710656 % 256, n / 1099511627776 % 256, n / 4294967296 % 256, n / 16777216 % 256, n / 65536 % 256, n / 256 % 256, n % 256, ()), ()) := by
 rw [varint_split_eq, b_varint_split]
 obtain ⟨r1, e1, w1⟩ := rot_low n h0 h1 1 (by omega)
 obtain ⟨r2, e2, w2⟩ := rot_low n h0 h1 2 (by omega)
 obtain ⟨r3, e3, w3⟩ := rot_low n h0 h1 3 (by omega)
 obtain ⟨r4, e4, w4⟩ := rot_low n h0 h1 4 (by omega)
 obtain ⟨r5, e5, w5⟩ := rot_low n h0 h1 5 (by omega)
 obtain ⟨r6, e6, w6⟩ := rot_low n h0 h1 6 (by omega)
 obtain ⟨r7, e7, w7⟩ := rot_low n h0 h1 7 (by omega)
 obtain ⟨r8, e8, w8⟩ := rot_64 n h0 h1
 simp only [show ((8 * 1 : Nat) : Int) = 8 from rfl] at e1
 simp only [show ((8 * 2 : Nat) : Int) = 16 from rfl] at e2
 simp only [show ((8 * 3 : Nat) : Int) = 24 from rfl] at e3
 simp only [show ((8 * 4 : Nat) : Int) = 32 from rfl] at e4
 simp only [show ((8 * 5 : Nat) : Int) = 40 from rfl] at e5
 simp only [show ((8 * 6 : Nat) : Int) = 48 from rfl] at e6
 simp only [show ((8 * 7 : Nat) : Int) = 56 from rfl] at e7
 simp only [e1, e2, e3, e4, e5, e6, e7, e8, obind_some, w1, w2, w3, w4, w5, w6, w7, w8]
 rfl
theorem tz_is : math_bits_TrailingZeros 1 = some (0, ()) ∧ math_bits_TrailingZeros 2 = some (1, ()) ∧ math_bits_TrailingZeros 4 = some (2, ()) ∧ math_bits_TrailingZeros 8 = some (3, ()) := by
 simp only [math_bits_TrailingZeros_eq, b_math_bits_TrailingZeros, math_bits_TrailingZeros64_eq, b_math_bits_TrailingZeros64, bits_eq]
 decide +kernel
def vb (n : Int) : List Int :=
 if n < 64 then [n] else if n < 16384 then [64 + n / 256, n % 256] else if n < 1073741824 then [128 + n / 16777216, n / 65536 % 256, n / 256 % 256, n % 256]
 else [192 + n / 72057594037927936, n / 281474976710656 % 256, n / 1099511627776 % 256, n / 4294967296 % 256, n / 16777216 % 256, n / 65536 % 256, n / 256 % 256, n % 256]
theorem vb_range (n : Int) (h0 : 0 ≤ n) (h1 : n < 4611686018427387904) : ∀ x ∈ vb n, 0 ≤ x ∧ x ≤ 255 := by
 unfold vb
 intro x hx
 split at hx
 · simp at hx; omega
 ·
  split at hx
  · simp at hx; omega
  ·
   split at hx
   · simp at hx; omega
   · simp at hx; omega
theorem or_top : ∀ (a : _root_.Fin 64) (t : _root_.Fin 4), a.val ||| t.val * 64 = t.val * 64 + a.val := by decide +kernel
theorem or_topI (a t : Int) (h0 : 0 ≤ a ∧ a < 64) (h1 : 0 ≤ t ∧ t < 4) : bits .or .u8 a (t * 64) = t * 64 + a := by
 rw [bits_or_u8 _ _ (by omega) (by omega)]
 have := or_top ⟨a.toNat, by omega⟩ ⟨t.toNat, by omega⟩
 simp only at this
 rw [show (t * 64).toNat = t.toNat * 64 by omega, this]
 omega
theorem vput_is (n : Int) (h0 : 0 ≤ n) (h1 : n < 18446744073709551616) : varint_Put n = some (if n < 4611686018427387904 then (bytesStr (vb n), 0, ()) else (⟨#[]⟩, 1, ())) := by
 rw [varint_Put_eq, b_varint_Put, vsize_is n h0 h1, split_is n h0 h1]
 simp only [obind_some]
 obtain ⟨t1, t2, t4, t8⟩ := tz_is
 unfold vsize vb
 by_cases e4 : n < 4611686018427387904
 ·
  rw [if_pos e4]
  by_cases e1 : n < 64
  ·
   rw [if_pos e1, if_pos e1]
   have k0 : n % 256 = n := by omega
   have k1 := or_topI n 0 (by omega) (by omega)
   simp only [Int.zero_mul, Int.zero_add] at k1
   simp [t1, wrap_i64, wrap_u64', wrap_u8, k0, k1, e4]
  ·
   by_cases e2 : n < 16384
   ·
    rw [if_neg e1, if_pos e2, if_neg e1, if_pos e2]
    have k0 : n / 256 % 256 = n / 256 := by omega
    have k1 := or_topI (n / 256) 1 (by omega) (by omega)
    simp only [Int.one_mul] at k1
    simp [t2, wrap_i64, wrap_u64', wrap_u8, k0, k1, e4]
   ·
    by_cases e3 : n < 1073741824
    ·
     rw [if_neg e1, if_neg e2, if_pos e3, if_neg e1, if_neg e2, if_pos e3]
     have k0 : n / 16777216 % 256 = n / 16777216 := by omega
     have k1 := or_topI (n / 16777216) 2 (by omega) (by omega)
     simp only [Int.reduceMul] at k1
     simp [t4, wrap_i64, wrap_u64', wrap_u8, k0, k1, e4]
    ·
     rw [if_neg e1, if_neg e2, if_neg e3, if_pos e4, if_neg e1, if_neg e2, if_neg e3]
     have k0 : n / 72057594037927936 % 256 = n / 72057594037927936 := by omega
     have k1 := or_topI (n / 72057594037927936) 3 (by omega) (by omega)
     simp only [Int.reduceMul] at k1
     simp [t8, wrap_i64, wrap_u64', wrap_u8, k0, k1]
 ·
  rw [if_neg e4, if_neg (by omega), if_neg (by omega), if_neg (by omega), if_neg e4]
  rfl
def vbs (l : List Int) : List Int := l.flatMap vb
theorem vb_len (n : Int) : 1 ≤ (vb n).length ∧ (vb n).length ≤ 8 := by
 unfold vb; split <;> (try split) <;> (try split) <;> simp
theorem vbs_len : ∀ (l : List Int), (vbs l).length ≤ 8 * l.length
 | [] => by simp [vbs]
 | x :: l => by
  have := vb_len x
  have := vbs_len l
  simp only [vbs, List.flatMap_cons, List.length_append, List.length_cons] at *
  omega
theorem vbs_range (l : List Int) (h : ∀ n ∈ l, 0 ≤ n ∧ n < 4611686018427387904) : ∀ x ∈ vbs l, 0 ≤ x ∧ x ≤ 255 := by
 intro x hx
 obtain ⟨n, hn, hx⟩ := List.mem_flatMap.mp hx
 exact vb_range n (h n hn).1 (h n hn).2 x hx
theorem puts_loop : ∀ (suf pre acc : List Int) (m : Nat), suf.length < m → (pre ++ suf).length ≤ 4294967296 → acc.length + 8 * suf.length ≤ 4294967296 → (∀ n ∈ suf, 0 ≤ n ∧ n < 4611686018427387904) →
  varint_Puts_0 m (pre ++ suf) (((pre ++ suf).length : Nat) : Int) ((pre.length : Nat) : Int) acc = some (bytesStr (acc ++ vbs suf), 0, ()) := by
 intro suf
 induction suf with
 | nil =>
  intro pre acc m hm _ ha _
  obtain ⟨m, rfl⟩ : ∃ k, m = k + 1 := ⟨m - 1, by omega⟩
  have : ((acc.length : Nat) : Int) ≤ 4294967296 := by simp at ha; omega
  simp only [varint_Puts_0, t_varint_Puts_0, List.append_nil, Int.lt_irrefl, decide_false, cond_false, this, and_self, decide_true, cond_true, vbs, List.flatMap_nil]
 | cons x suf ih =>
  intro pre acc m hm hl ha hr
  obtain ⟨m, rfl⟩ : ∃ k, m = k + 1 := ⟨m - 1, by omega⟩
  obtain ⟨x0, x1⟩ := hr x (by simp)
  simp only [varint_Puts_0, t_varint_Puts_0, mid_lt, nn, and_true, decide_true, cond_true, toNat_len, getD_mid, vput_is x x0 (by omega), obind_some, x1, if_true, bne_self_eq_false, cond_false,
   strings_Builder_copyCheck_h3_eq, b_strings_Builder_copyCheck_h3, strBytes_bytesStr (vb_range x x0 x1)]
  have hv := vb_len x
  have : acc.length + (vb x).length ≤ 4294967296 := by simp at ha; omega
  simp only [this, decide_true, cond_true]
  rw [mid_next pre x x suf hl, snoc_app, ih (pre ++ [x]) (acc ++ vb x) m (by simp at hm; omega) (by simpa using hl) (by simp at ha ⊢; omega) (fun n hn => hr n (by simp [hn]))]
  simp [vbs, List.append_assoc]
theorem puts_is (l : List Int) (hl : l.length ≤ 100000) (hr : ∀ n ∈ l, 0 ≤ n ∧ n < 4611686018427387904) : varint_Puts l = some (bytesStr (vbs l), 0, ()) := by
 rw [varint_Puts_eq, b_varint_Puts, varint_Puts_0'_eq, b_varint_Puts_0']
 exact puts_loop l [] [] _ (by simp) (by simp; omega) (by simp; omega) hr
end Go.Proofs.YtjlfmolfcgennaaDoor.V
namespace Go.Proofs.YtjlfmolfcgennaaDoor.V
open Go.RowKit Go.Proofs.Tryd
set_option maxRecDepth 100000
set_option linter.unusedVariables false
noncomputable def m_varint_Fixed : Mach prog Inv gInv := mach bas [(44, f44)] ⟨ok44, trivial⟩ [(57, c_varint_split)] ⟨⟨c_varint_split_ok, FnOk.callable ok57⟩, trivial⟩ [] trivial [] trivial
/-! ### domino/varint.Fixed -/
@[reducible] def r_varint_Fixed : List Ty := [.str]
def ks_varint_Fixed : List Nat := [44]
noncomputable def b_varint_Fixed (a0 : Int) (a1 : Int) : Option (ByteArray × Unit) :=
 let s2 : ByteArray := (ByteArray.mk (List.toArray ([] : List UInt8)))
 obind (varint_split a0) fun y3 =>
 let n4 : Int := (if ((8 : Int) < a1) then (8 : Int) else a1)
 let n5 : Int := (if (n4 > (0 : Int)) then n4 else (0 : Int))
 let n6 : Int := (Go.IntKind.wrap Go.IntKind.i64 ((8 : Int) - n5))
 bif (decide (((List.length (y3.1.1 :: (y3.1.2.1 :: (y3.1.2.2.1 :: (y3.1.2.2.2.1 :: (y3.1.2.2.2.2.1 :: (y3.1.2.2.2.2.2.1 :: (y3.1.2.2.2.2.2.2.1 :: (y3.1.2.2.2.2.2.2.2.1 :: ([] : List Int)))))))))) = 8) ∧ (((0 : Int) ≤ n6) ∧ ((n6 ≤ (8 : Int)) ∧ (((8 : Int) ≤ (8 : Int)) ∧ (n6 < (8 : Int))))))) then
  let o7 : Nat := (Int.toNat n6)
  let k8 : Nat := (8 - (Int.toNat n6))
  let s9 : ByteArray := (bytesStr (List.take k8 (List.drop o7 (y3.1.1 :: (y3.1.2.1 :: (y3.1.2.2.1 :: (y3.1.2.2.2.1 :: (y3.1.2.2.2.2.1 :: (y3.1.2.2.2.2.2.1 :: (y3.1.2.2.2.2.2.2.1 :: (y3.1.2.2.2.2.2.2.2.1 :: ([] : List Int))))))))))))
  some (s9, ())
 else none
theorem ex_varint_Fixed : ∃ f, f = @b_varint_Fixed := ⟨_, rfl⟩
noncomputable def varint_Fixed := Classical.choose ex_varint_Fixed
theorem varint_Fixed_eq : @varint_Fixed = @b_varint_Fixed := Classical.choose_spec ex_varint_Fixed
noncomputable def cb_varint_Fixed : Con := ⟨[(.int .u64), (.int .i64)], r_varint_Fixed, fun x => b_varint_Fixed x.1 x.2.1⟩
noncomputable def c_varint_Fixed : Con := ⟨[(.int .u64), (.int .i64)], r_varint_Fixed, fun x => varint_Fixed x.1 x.2.1⟩
theorem cb_varint_Fixed_ok : cb_varint_Fixed.Sound prog Inv gInv 44 :=
 con_run (M := m_varint_Fixed) inv_g (f := f44) rfl ks_varint_Fixed 100000 (X := nowhere) (fun base S0 cs0 hn hf => OSound.nowhere) (by intro x; kernel_rfl)
theorem c_varint_Fixed_ok : c_varint_Fixed.Sound prog Inv gInv 44 := by
 have e : c_varint_Fixed = cb_varint_Fixed := by unfold c_varint_Fixed cb_varint_Fixed; rw [varint_Fixed_eq]
 rw [e]; exact cb_varint_Fixed_ok
noncomputable def m_ideal_mix : Mach prog Inv gInv := mach bas [(45, f45)] ⟨ok45, trivial⟩ [] trivial [] trivial [] trivial
/-! ### domino/ideal.mix -/
@[reducible] def r_ideal_mix : List Ty := [(.int .u64)]
def ks_ideal_mix : List Nat := [45]
noncomputable def b_ideal_mix (a0 : Int) : Option (Int × Unit) :=
 let n1 : Int := (Go.IntKind.wrap Go.IntKind.u64 (a0 + (11400714819323198485 : Int)))
 let n2 : Int := (Int.fdiv n1 (1073741824 : Int))
 let n3 : Int := (bits Go.BinOp.xor Go.IntKind.u64 n1 n2)
 let n4 : Int := (Go.IntKind.wrap Go.IntKind.u64 (n3 * (13787848793156543929 : Int)))
 let n5 : Int := (Int.fdiv n4 (134217728 : Int))
 let n6 : Int := (bits Go.BinOp.xor Go.IntKind.u64 n4 n5)
 let n7 : Int := (Go.IntKind.wrap Go.IntKind.u64 (n6 * (10723151780598845931 : Int)))
 let n8 : Int := (Int.fdiv n7 (2147483648 : Int))
 let n9 : Int := (bits Go.BinOp.xor Go.IntKind.u64 n7 n8)
 some (n9, ())
theorem ex_ideal_mix : ∃ f, f = @b_ideal_mix := ⟨_, rfl⟩
noncomputable def ideal_mix := Classical.choose ex_ideal_mix
theorem ideal_mix_eq : @ideal_mix = @b_ideal_mix := Classical.choose_spec ex_ideal_mix
noncomputable def cb_ideal_mix : Con := ⟨[(.int .u64)], r_ideal_mix, fun x => b_ideal_mix x.1⟩
noncomputable def c_ideal_mix : Con := ⟨[(.int .u64)], r_ideal_mix, fun x => ideal_mix x.1⟩
theorem cb_ideal_mix_ok : cb_ideal_mix.Sound prog Inv gInv 45 :=
 con_run (M := m_ideal_mix) inv_g (f := f45) rfl ks_ideal_mix 100000 (X := nowhere) (fun base S0 cs0 hn hf => OSound.nowhere) (by intro x; kernel_rfl)
theorem c_ideal_mix_ok : c_ideal_mix.Sound prog Inv gInv 45 := by
 have e : c_ideal_mix = cb_ideal_mix := by unfold c_ideal_mix cb_ideal_mix; rw [ideal_mix_eq]
 rw [e]; exact cb_ideal_mix_ok
noncomputable def m_ideal_Id : Mach prog Inv gInv := mach bas [(30, f30)] ⟨ok30, trivial⟩ [(44, c_varint_Fixed), (45, c_ideal_mix)] ⟨⟨c_varint_Fixed_ok, FnOk.callable ok44⟩, ⟨c_ideal_mix_ok, FnOk.callable ok45⟩, trivial⟩ [] trivial [] trivial
/-! ### domino/ideal.Id -/
@[reducible] def r_ideal_Id : List Ty := [.str]
def ks_ideal_Id : List Nat := [30]
noncomputable def b_ideal_Id (a0 : Int) (a1 : Int) : Option (ByteArray × Unit) :=
 let s2 : ByteArray := (ByteArray.mk (List.toArray ([] : List UInt8)))
 let n3 : Int := (Go.IntKind.wrap Go.IntKind.u64 (a0 + a1))
 let n4 : Int := (Go.IntKind.wrap Go.IntKind.u64 (n3 + (9223372036854775808 : Int)))
 obind (ideal_mix n4) fun y5 =>
 obind (varint_Fixed y5.1 (8 : Int)) fun y6 =>
 some y6
theorem ex_ideal_Id : ∃ f, f = @b_ideal_Id := ⟨_, rfl⟩
noncomputable def ideal_Id := Classical.choose ex_ideal_Id
theorem ideal_Id_eq : @ideal_Id = @b_ideal_Id := Classical.choose_spec ex_ideal_Id
noncomputable def cb_ideal_Id : Con := ⟨[(.int .u64), (.int .u64)], r_ideal_Id, fun x => b_ideal_Id x.1 x.2.1⟩
noncomputable def c_ideal_Id : Con := ⟨[(.int .u64), (.int .u64)], r_ideal_Id, fun x => ideal_Id x.1 x.2.1⟩
theorem cb_ideal_Id_ok : cb_ideal_Id.Sound prog Inv gInv 30 :=
 con_run (M := m_ideal_Id) inv_g (f := f30) rfl ks_ideal_Id 100000 (X := nowhere) (fun base S0 cs0 hn hf => OSound.nowhere) (by intro x; kernel_rfl)
theorem c_ideal_Id_ok : c_ideal_Id.Sound prog Inv gInv 30 := by
 have e : c_ideal_Id = cb_ideal_Id := by unfold c_ideal_Id cb_ideal_Id; rw [ideal_Id_eq]
 rw [e]; exact cb_ideal_Id_ok
noncomputable def m_ideal_state_word_h0 : Mach prog Inv gInv := mach bas [(48, f48)] ⟨ok48, trivial⟩ [(44, c_varint_Fixed), (45, c_ideal_mix)] ⟨⟨c_varint_Fixed_ok, FnOk.callable ok44⟩, ⟨c_ideal_mix_ok, FnOk.callable ok45⟩, trivial⟩ [] trivial [] trivial
@[reducible] noncomputable def pa_ideal_state_word_h0 : List Pat := [.ptr 0 0]
@[reducible] noncomputable def pH_ideal_state_word_h0 : List HPat := [.cells 100 [.int .u64, .nilPtr, .nilSlice]]
/-! ### (*domino/ideal.state).word -/
abbrev R_ideal_state_word_h0 : Type := ByteArray × Int × Unit
@[reducible] noncomputable def qa_ideal_state_word_h0 : List Pat := [.str]
@[reducible] noncomputable def qH_ideal_state_word_h0 : List HPat := [.cells 100 [.int .u64, .nilPtr, .nilSlice]]
def ks_ideal_state_word_h0 : List Nat := [48]
noncomputable def b_ideal_state_word_h0 (i0 : Int) : Option R_ideal_state_word_h0 :=
 let s1 : ByteArray := (ByteArray.mk (List.toArray ([] : List UInt8)))
 obind (ideal_mix i0) fun y2 =>
 obind (varint_Fixed y2.1 (8 : Int)) fun y3 =>
 let n4 : Int := (Go.IntKind.wrap Go.IntKind.u64 (i0 + (1 : Int)))
 some (y3.1, (n4, ()))
theorem ex_ideal_state_word_h0 : ∃ f, f = @b_ideal_state_word_h0 := ⟨_, rfl⟩
noncomputable def ideal_state_word_h0 := Classical.choose ex_ideal_state_word_h0
theorem ideal_state_word_h0_eq : @ideal_state_word_h0 = @b_ideal_state_word_h0 := Classical.choose_spec ex_ideal_state_word_h0
noncomputable def hb_ideal_state_word_h0 : HCon := HCon.mk0 pa_ideal_state_word_h0 pH_ideal_state_word_h0 qa_ideal_state_word_h0 qH_ideal_state_word_h0 R_ideal_state_word_h0 (fun x => b_ideal_state_word_h0 x.2.1.1) (fun r => ((r.1, ()), ((r.2.1, ((), ((), ()))), ()))) (fun y => (y.1.1, y.2.1.1, ())) (fun _ => rfl)
noncomputable def h_ideal_state_word_h0 : HCon := HCon.mk0 pa_ideal_state_word_h0 pH_ideal_state_word_h0 qa_ideal_state_word_h0 qH_ideal_state_word_h0 R_ideal_state_word_h0 (fun x => ideal_state_word_h0 x.2.1.1) (fun r => ((r.1, ()), ((r.2.1, ((), ((), ()))), ()))) (fun y => (y.1.1, y.2.1.1, ())) (fun _ => rfl)
theorem hb_ideal_state_word_h0_ok : hb_ideal_state_word_h0.Sound prog Inv gInv 48 :=
 hcon_run (M := m_ideal_state_word_h0) (f := f48) rfl ks_ideal_state_word_h0 100000 (X := nowhere) (fun base S0 cs0 hn hf => OSound.nowhere) (by intro x; kernel_rfl)
theorem h_ideal_state_word_h0_ok : h_ideal_state_word_h0.Sound prog Inv gInv 48 := by
 have e : h_ideal_state_word_h0 = hb_ideal_state_word_h0 := by unfold h_ideal_state_word_h0 hb_ideal_state_word_h0; rw [ideal_state_word_h0_eq]
 rw [e]; exact hb_ideal_state_word_h0_ok
noncomputable def m_ideal_state_word_h1 : Mach prog Inv gInv := mach bas [(48, f48)] ⟨ok48, trivial⟩ [(44, c_varint_Fixed), (45, c_ideal_mix)] ⟨⟨c_varint_Fixed_ok, FnOk.callable ok44⟩, ⟨c_ideal_mix_ok, FnOk.callable ok45⟩, trivial⟩ [] trivial [] trivial
@[reducible] noncomputable def pa_ideal_state_word_h1 : List Pat := [.ptr 0 0]
@[reducible] noncomputable def pH_ideal_state_word_h1 : List HPat := [.cells 100 [.int .u64, .nos 0 1, .all 1], .row (.byt 5)]
/-! ### (*domino/ideal.state).word -/
abbrev R_ideal_state_word_h1 : Type := ByteArray × Int × (List Int) × Unit
@[reducible] noncomputable def qa_ideal_state_word_h1 : List Pat := [.str]
@[reducible] noncomputable def qH_ideal_state_word_h1 : List HPat := [.cells 100 [.int .u64, .nos 0 1, .all 1], .row (.byt 5)]
def ks_ideal_state_word_h1 : List Nat := [48]
noncomputable def b_ideal_state_word_h1 (i0 : Int) (l1 : (List Int)) : Option R_ideal_state_word_h1 :=
 let s2 : ByteArray := (ByteArray.mk (List.toArray ([] : List UInt8)))
 obind (ideal_mix i0) fun y3 =>
 obind (varint_Fixed y3.1 (8 : Int)) fun y4 =>
 let n5 : Int := (Go.IntKind.wrap Go.IntKind.u64 (i0 + (1 : Int)))
 some (y4.1, (n5, (l1, ())))
theorem ex_ideal_state_word_h1 : ∃ f, f = @b_ideal_state_word_h1 := ⟨_, rfl⟩
noncomputable def ideal_state_word_h1 := Classical.choose ex_ideal_state_word_h1
theorem ideal_state_word_h1_eq : @ideal_state_word_h1 = @b_ideal_state_word_h1 := Classical.choose_spec ex_ideal_state_word_h1
noncomputable def hb_ideal_state_word_h1 : HCon := HCon.mk0 pa_ideal_state_word_h1 pH_ideal_state_word_h1 qa_ideal_state_word_h1 qH_ideal_state_word_h1 R_ideal_state_word_h1 (fun x => b_ideal_state_word_h1 x.2.1.1 x.2.2.1) (fun r => ((r.1, ()), ((r.2.1, ((), ((), ()))), (r.2.2.1, ())))) (fun y => (y.1.1, y.2.1.1, y.2.2.1, ())) (fun _ => rfl)
noncomputable def h_ideal_state_word_h1 : HCon := HCon.mk0 pa_ideal_state_word_h1 pH_ideal_state_word_h1 qa_ideal_state_word_h1 qH_ideal_state_word_h1 R_ideal_state_word_h1 (fun x => ideal_state_word_h1 x.2.1.1 x.2.2.1) (fun r => ((r.1, ()), ((r.2.1, ((), ((), ()))), (r.2.2.1, ())))) (fun y => (y.1.1, y.2.1.1, y.2.2.1, ())) (fun _ => rfl)
theorem hb_ideal_state_word_h1_ok : hb_ideal_state_word_h1.Sound prog Inv gInv 48 :=
 hcon_run (M := m_ideal_state_word_h1) (f := f48) rfl ks_ideal_state_word_h1 100000 (X := nowhere) (fun base S0 cs0 hn hf => OSound.nowhere) (by intro x; kernel_rfl)
theorem h_ideal_state_word_h1_ok : h_ideal_state_word_h1.Sound prog Inv gInv 48 := by
 have e : h_ideal_state_word_h1 = hb_ideal_state_word_h1 := by unfold h_ideal_state_word_h1 hb_ideal_state_word_h1; rw [ideal_state_word_h1_eq]
 rw [e]; exact hb_ideal_state_word_h1_ok
noncomputable def m_ideal_Draw : Mach prog Inv gInv := mach bas [(36, f36), (46, f46), (47, f47), (48, f48), (49, f49), (58, f58)] ⟨ok36, ok46, ok47, ok48, ok49, ok58, trivial⟩ [(44, c_varint_Fixed), (45, c_ideal_mix)] ⟨⟨c_varint_Fixed_ok, FnOk.callable ok44⟩, ⟨c_ideal_mix_ok, FnOk.callable ok45⟩, trivial⟩ [] trivial [(48, h_ideal_state_word_h0), (58, h_strings_Builder_copyCheck_h0), (47, h_strings_Builder_WriteString_h0), (48, h_ideal_state_word_h1), (58, h_strings_Builder_copyCheck_h1), (47, h_strings_Builder_WriteString_h1)] ⟨⟨h_ideal_state_word_h0_ok, FnOk.callable ok48⟩, ⟨h_strings_Builder_copyCheck_h0_ok, FnOk.callable ok58⟩, ⟨h_strings_Builder_WriteString_h0_ok, FnOk.callable ok47⟩, ⟨h_ideal_state_word_h1_ok, FnOk.callable ok48⟩, ⟨h_strings_Builder_copyCheck_h1_ok, FnOk.callable ok58⟩, ⟨h_strings_Builder_WriteString_h1_ok, FnOk.callable ok47⟩, trivial⟩
/-! ### domino/ideal.Draw -/
@[reducible] def r_ideal_Draw : List Ty := [.str]
def ks_ideal_Draw : List Nat := [36, 46, 47, 48, 49, 58]
abbrev H_ideal_Draw (base : Base) (S0 : Nat → Prop) := base.n = 0 ∧ FinOk (finR r_ideal_Draw) base S0 (Post r_ideal_Draw S0)
abbrev J_ideal_Draw (base : Base) (S0 : Nat → Prop) (cs0 : List Go.Frame) (p : CPat) (J : denC p → Option (denL r_ideal_Draw)) := JSound m_ideal_Draw base S0 cs0 (Post r_ideal_Draw S0) p J
abbrev O_ideal_Draw (base : Base) (S0 : Nat → Prop) (cs0 : List Go.Frame) (X : Cfg → Option (Option (denL r_ideal_Draw))) := OSound m_ideal_Draw base S0 cs0 (Post r_ideal_Draw S0) X
@[reducible] noncomputable def p_ideal_Draw_0 : CPat := ⟨⟨36, [1, 1, 0, 0], none, [.any, .any, .int .i64, .any, .any, .any, .any, .ptr 0 0], 28⟩, [], [.cells 100 [.int .u64, .nos 0 1, .all 1], .row (.byt 5)], 0⟩
@[reducible] noncomputable def u_ideal_Draw_0 (k : Int → Int → (List Int) → Option (ByteArray × Unit)) : denC p_ideal_Draw_0 → Option (ByteArray × Unit) := fun x => k x.1.2.2.1 x.2.2.1.1 x.2.2.2.1
noncomputable def t_ideal_Draw_0 (k0 : Int → Int → (List Int) → Option (ByteArray × Unit)) (i16 : Int) (i17 : Int) (l18 : (List Int)) : Option (ByteArray × Unit) :=
 let n19 : Int := (((List.length l18) : Nat) : Int)
 let b20 : Bool := (decide (n19 < i16))
 bif b20 then
  obind (ideal_state_word_h1 i17 l18) fun y21 =>
  obind (strings_Builder_WriteString_h1 y21.1 y21.2.1 y21.2.2.1) fun y22 =>
  k0 i16 y22.2.1 y22.2.2.1
 else
  let s23 : ByteArray := (ByteArray.mk (List.toArray ([] : List UInt8)))
  let n24 : Int := (((List.length l18) : Nat) : Int)
  bif (decide ((n24 = (((List.length l18) : Nat) : Int)) ∧ (n24 ≤ (4294967296 : Int)))) then
   let s25 : ByteArray := (bytesStr l18)
   let n26 : Int := (if ((0 : Int) > i16) then (0 : Int) else i16)
   bif (decide (((0 : Int) ≤ (0 : Int)) ∧ (((0 : Int) ≤ n26) ∧ (n26 ≤ (((ByteArray.size s25) : Nat) : Int))))) then
    let s27 : ByteArray := (ByteArray.extract s25 0 (Int.toNat n26))
    some (s27, ())
   else none
  else none
noncomputable def ideal_Draw_0 : Nat → Int → Int → (List Int) → Option (ByteArray × Unit)
 | 0 => fun _ _ _ => none
 | m + 1 => t_ideal_Draw_0 (ideal_Draw_0 m)
noncomputable def b_ideal_Draw_0' (i16 : Int) (i17 : Int) (l18 : (List Int)) : Option (ByteArray × Unit) := ideal_Draw_0 (Int.toNat (i16 - (((List.length l18) : Nat) : Int)) + 2) i16 i17 l18
theorem ex_ideal_Draw_0' : ∃ f, f = @b_ideal_Draw_0' := ⟨_, rfl⟩
noncomputable def ideal_Draw_0' := Classical.choose ex_ideal_Draw_0'
theorem ideal_Draw_0'_eq : @ideal_Draw_0' = @b_ideal_Draw_0' := Classical.choose_spec ex_ideal_Draw_0'
theorem s_ideal_Draw_0 {base S0 cs0} (hfin : H_ideal_Draw base S0) : ∀ m, J_ideal_Draw base S0 cs0 p_ideal_Draw_0 (u_ideal_Draw_0 (ideal_Draw_0 m)) :=
 JSound.loop' hfin.2 ks_ideal_Draw 100000 u_ideal_Draw_0 (fun k0 => cut p_ideal_Draw_0 (u_ideal_Draw_0 k0) (nowhere)) (fun k0 h0 => OSound.cut (OSound.nowhere) (Nat.le_of_eq hfin.1) h0) (ideal_Draw_0) (by intro x; rfl) (by intro m x; kernel_rfl)
theorem s_ideal_Draw_0' {base S0 cs0} (hfin : H_ideal_Draw base S0) : J_ideal_Draw base S0 cs0 p_ideal_Draw_0 (u_ideal_Draw_0 (ideal_Draw_0')) := by
 rw [ideal_Draw_0'_eq]; exact fun x r hx => s_ideal_Draw_0 hfin _ x r hx
noncomputable def x_ideal_Draw_0 : Cfg → Option (Option (ByteArray × Unit)) := cut p_ideal_Draw_0 (u_ideal_Draw_0 (ideal_Draw_0')) (nowhere)
theorem o_ideal_Draw_0 {base S0 cs0} (hfin : H_ideal_Draw base S0) : O_ideal_Draw base S0 cs0 (x_ideal_Draw_0) := OSound.cut (OSound.nowhere) (Nat.le_of_eq hfin.1) (s_ideal_Draw_0' hfin)
noncomputable def b_ideal_Draw (a0 : Int) (a1 : Int) (a2 : Int) : Option (ByteArray × Unit) :=
 let s3 : ByteArray := (ByteArray.mk (List.toArray ([] : List UInt8)))
 obind (ideal_mix a0) fun y4 =>
 let n5 : Int := (Go.IntKind.wrap Go.IntKind.u64 (y4.1 + a1))
 obind (ideal_mix n5) fun y6 =>
 ideal_Draw_0' a2 y6.1 ([] : List Int)
theorem ex_ideal_Draw : ∃ f, f = @b_ideal_Draw := ⟨_, rfl⟩
noncomputable def ideal_Draw := Classical.choose ex_ideal_Draw
theorem ideal_Draw_eq : @ideal_Draw = @b_ideal_Draw := Classical.choose_spec ex_ideal_Draw
noncomputable def cb_ideal_Draw : Con := ⟨[(.int .u64), (.int .u64), (.int .i64)], r_ideal_Draw, fun x => b_ideal_Draw x.1 x.2.1 x.2.2.1⟩
noncomputable def c_ideal_Draw : Con := ⟨[(.int .u64), (.int .u64), (.int .i64)], r_ideal_Draw, fun x => ideal_Draw x.1 x.2.1 x.2.2.1⟩
theorem cb_ideal_Draw_ok : cb_ideal_Draw.Sound prog Inv gInv 36 :=
 con_run (M := m_ideal_Draw) inv_g (f := f36) rfl ks_ideal_Draw 100000 (X := x_ideal_Draw_0) (fun base S0 cs0 hn hf => have hfin : H_ideal_Draw base S0 := ⟨hn, hf⟩; o_ideal_Draw_0 hfin) (by intro x; kernel_rfl)
theorem c_ideal_Draw_ok : c_ideal_Draw.Sound prog Inv gInv 36 := by
 have e : c_ideal_Draw = cb_ideal_Draw := by unfold c_ideal_Draw cb_ideal_Draw; rw [ideal_Draw_eq]
 rw [e]; exact cb_ideal_Draw_ok
end Go.Proofs.YtjlfmolfcgennaaDoor.V
namespace Go.Proofs.YtjlfmolfcgennaaDoor.V
open Go.RowKit
theorem ofInt_back (z : Int) (h : 0 ≤ z ∧ z < 18446744073709551616) : ((BitVec.ofInt 64 z).toNat : Int) = z := by
 rw [BitVec.toNat_ofInt]
 omega
theorem add_bv (x : BitVec 64) (c : Nat) : IntKind.wrap .u64 ((x.toNat : Int) + (c : Int)) = ((x + BitVec.ofNat 64 c).toNat : Int) := by
 rw [wrap_u64', BitVec.toNat_add, BitVec.toNat_ofNat]
 omega
theorem mul_bv (x : BitVec 64) (c : Nat) : IntKind.wrap .u64 ((x.toNat : Int) * (c : Int)) = ((x * BitVec.ofNat 64 c).toNat : Int) := by
 rw [wrap_u64', BitVec.toNat_mul, BitVec.toNat_ofNat, Nat.mul_mod_mod]
 rw [← Int.natCast_mul]
 omega
theorem shr_bv (x : BitVec 64) (s : Nat) : Int.fdiv (x.toNat : Int) ((2 ^ s : Nat) : Int) = ((x >>> s).toNat : Int) := by
 rw [BitVec.toNat_ushiftRight, Nat.shiftRight_eq_div_pow, Int.fdiv_eq_ediv_of_nonneg _ (Int.natCast_nonneg _)]
 rfl
theorem ofInt_nat (x : BitVec 64) : BitVec.ofInt 64 (x.toNat : Int) = x := by
 apply BitVec.eq_of_toNat_eq
 rw [BitVec.toNat_ofInt]
 have := x.isLt
 omega
theorem xor_bv (x y : BitVec 64) : bits .xor .u64 (x.toNat : Int) (y.toNat : Int) = ((x ^^^ y).toNat : Int) := by
 rw [bits_eq]
 show IntKind.wrap .u64 (((BitVec.ofInt 64 (x.toNat : Int) ^^^ BitVec.ofInt 64 (y.toNat : Int)).toNat : Nat) : Int) = _
 rw [ofInt_nat, ofInt_nat, wrap_u64']
 have := (x ^^^ y).isLt
 omega
theorem mix_is (a : Int) (h : 0 ≤ a ∧ a < 18446744073709551616) : ideal_mix a = some (mixI a, ()) := by
 rw [ideal_mix_eq, b_ideal_mix]
 have e0 := ofInt_back a h
 unfold mixI mixB
 generalize BitVec.ofInt 64 a = x at *
 subst e0
 have c1 : (11400714819323198485 : Int) = ((11400714819323198485 : Nat) : Int) := rfl
 have c2 : (13787848793156543929 : Int) = ((13787848793156543929 : Nat) : Int) := rfl
 have c3 : (10723151780598845931 : Int) = ((10723151780598845931 : Nat) : Int) := rfl
 have d1 : (1073741824 : Int) = ((2 ^ 30 : Nat) : Int) := rfl
 have d2 : (134217728 : Int) = ((2 ^ 27 : Nat) : Int) := rfl
 have d3 : (2147483648 : Int) = ((2 ^ 31 : Nat) : Int) := rfl
 simp only [c1, c2, c3, d1, d2, d3, add_bv, shr_bv, xor_bv, mul_bv]
def be8 (v : Int) : List Int := [v / 72057594037927936 % 256, v / 281474976710656 % 256, v / 1099511627776 % 256, v / 4294967296 % 256, v / 16777216 % 256, v / 65536 % 256, v / 256 % 256, v % 256]
theorem be8_range (v : Int) : ∀ n ∈ be8 v, 0 ≤ n ∧ n ≤ 255 := by
 intro n hn
 simp only [be8, List.mem_cons, List.not_mem_nil, or_false] at hn
 omega
theorem be8_inj (v w : Int) (hv : 0 ≤ v ∧ v < 18446744073709551616) (hw : 0 ≤ w ∧ w < 18446744073709551616) (h : be8 v = be8 w) : v = w := by
 simp only [be8, List.cons.injEq, and_true] at h
 omega
theorem fixed8_is (v : Int) (h : 0 ≤ v ∧ v < 18446744073709551616) : varint_Fixed v 8 = some (bytesStr (be8 v), ()) := by
 obtain ⟨r1, e1, w1⟩ := rot_low v h.1 h.2 1 (by omega)
 obtain ⟨r2, e2, w2⟩ := rot_low v h.1 h.2 2 (by omega)
 obtain ⟨r3, e3, w3⟩ := rot_low v h.1 h.2 3 (by omega)
 obtain ⟨r4, e4, w4⟩ := rot_low v h.1 h.2 4 (by omega)
 obtain ⟨r5, e5, w5⟩ := rot_low v h.1 h.2 5 (by omega)
 obtain ⟨r6, e6, w6⟩ := rot_low v h.1 h.2 6 (by omega)
 obtain ⟨r7, e7, w7⟩ := rot_low v h.1 h.2 7 (by omega)
 obtain ⟨r8, e8, w8⟩ := rot_64 v h.1 h.2
 have f1 : math_bits_RotateLeft64 v 8 = some (r1, ()) := e1
 have f2 : math_bits_RotateLeft64 v 16 = some (r2, ()) := e2
 have f3 : math_bits_RotateLeft64 v 24 = some (r3, ()) := e3
 have f4 : math_bits_RotateLeft64 v 32 = some (r4, ()) := e4
 have f5 : math_bits_RotateLeft64 v 40 = some (r5, ()) := e5
 have f6 : math_bits_RotateLeft64 v 48 = some (r6, ()) := e6
 have f7 : math_bits_RotateLeft64 v 56 = some (r7, ()) := e7
 have hs : varint_split v = some ((v / 72057594037927936 % 256, v / 281474976710656 % 256, v / 1099511627776 % 256, v / 4294967296 % 256, v / 16777216 % 256, v / 65536 % 256, v / 256 % 256, v % 256, ()), ()) := by
  rw [varint_split_eq, b_varint_split]
  simp only [f1, f2, f3, f4, f5, f6, f7, e8, obind_some, w1, w2, w3, w4, w5, w6, w7, w8]
  rfl
 rw [varint_Fixed_eq, b_varint_Fixed, hs]
 have w0 : IntKind.wrap .i64 ((8 : Int) - 8) = 0 := rfl
 simp only [obind_some]
 have g1 : (if ((8 : Int) < 8) then (8 : Int) else 8) = 8 := rfl
 have g2 : (if ((8 : Int) > 0) then (8 : Int) else 0) = 8 := rfl
 simp only [g1, g2, w0]
 rfl
def idF (seed i : Int) : ByteArray := bytesStr (be8 (mixI ((seed + i + 9223372036854775808) % 18446744073709551616)))
theorem id_is (seed i : Int) : ideal_Id seed i = some (idF seed i, ()) := by
 rw [ideal_Id_eq, b_ideal_Id]
 simp only [wrap_u64']
 have e : ((seed + i) % 18446744073709551616 + 9223372036854775808) % 18446744073709551616 = (seed + i + 9223372036854775808) % 18446744073709551616 := by omega
 rw [e, mix_is _ (by omega)]
 simp only [obind_some, fixed8_is _ (mixI_range _)]
 rfl
theorem idF_size (seed i : Int) : (idF seed i).size = 8 := by unfold idF; rw [bytesStr_size]; rfl
theorem idF_inj (seed i j : Int) (hi : 0 ≤ i ∧ i < 18446744073709551616) (hj : 0 ≤ j ∧ j < 18446744073709551616) (h : idF seed i = idF seed j) : i = j := by
 unfold idF at h
 rw [bytesStr_inj (be8_range _) (be8_range _)] at h
 have h1 := be8_inj _ _ (mixI_range _) (mixI_range _) h
 have h2 := mixI_inj _ _ h1 (by omega) (by omega)
 omega
def drawS (seed i : Int) : Int := mixI ((mixI seed + i) % 18446744073709551616)
def drawF (seed i : Int) : ByteArray := bytesStr (be8 (mixI (drawS seed i)) ++ be8 (mixI ((drawS seed i + 1) % 18446744073709551616)))
theorem be8_len (v : Int) : (be8 v).length = 8 := rfl
theorem drawF_size (seed i : Int) : (drawF seed i).size = 16 := by unfold drawF; rw [bytesStr_size]; rfl
theorem draw_is (seed i : Int) (hs : 0 ≤ seed ∧ seed < 18446744073709551616) : ideal_Draw seed i 16 = some (drawF seed i, ()) := by
 rw [ideal_Draw_eq, b_ideal_Draw]
 rw [mix_is _ hs]
 simp only [obind_some, wrap_u64']
 rw [mix_is _ (by omega)]
 simp only [obind_some]
 have hr := mixI_range ((mixI seed + i) % 18446744073709551616)
 show ideal_Draw_0' 16 (drawS seed i) [] = _
 have hr : 0 ≤ drawS seed i ∧ drawS seed i < 18446744073709551616 := hr
 unfold drawF
 generalize drawS seed i = st at *
 rw [ideal_Draw_0'_eq, b_ideal_Draw_0']
 have word : ∀ (n : Int) (l : List Int), 0 ≤ n ∧ n < 18446744073709551616 → ideal_state_word_h1 n l = some (bytesStr (be8 (mixI n)), (n + 1) % 18446744073709551616, l, ()) := by
  intro n l hn
  rw [ideal_state_word_h1_eq, b_ideal_state_word_h1, mix_is _ hn]
  simp only [obind_some, fixed8_is _ (mixI_range _), wrap_u64']
 have wr : ∀ (v n : Int) (l : List Int), l.length ≤ 100 → strings_Builder_WriteString_h1 (bytesStr (be8 v)) n l = some (8, n, l ++ be8 v, ()) := by
  intro v n l hl
  rw [strings_Builder_WriteString_h1_eq, b_strings_Builder_WriteString_h1]
  simp only [strings_Builder_copyCheck_h1_eq, b_strings_Builder_copyCheck_h1, obind_some, strBytes_bytesStr (be8_range v)]
  have : l.length + 8 ≤ 4294967296 := by omega
  simp only [be8_len, this, decide_true, cond_true, bytesStr_size]
  rfl
 show ideal_Draw_0 (17 + 1) 16 st [] = _
 have hw1 := word st [] hr
 have hw2 := word ((st + 1) % 18446744073709551616) (be8 (mixI st)) (by omega)
 have hr1 := wr (mixI st) ((st + 1) % 18446744073709551616) [] (by decide)
 have hr2 := wr (mixI ((st + 1) % 18446744073709551616)) (((st + 1) % 18446744073709551616 + 1) % 18446744073709551616) (be8 (mixI st)) (by rw [be8_len]; decide)
 rw [List.nil_append] at hr1
 have l1 : (be8 (mixI st)).length = 8 := be8_len _
 have l2 : (be8 (mixI ((st + 1) % 18446744073709551616))).length = 8 := be8_len _
 have r1 := be8_range (mixI st)
 have r2 := be8_range (mixI ((st + 1) % 18446744073709551616))
 generalize be8 (mixI st) = A at *
 generalize be8 (mixI ((st + 1) % 18446744073709551616)) = B at *
 clear word wr
 simp only [ideal_Draw_0, t_ideal_Draw_0]
 have b1 : decide (((([] : List Int).length : Nat) : Int) < 16) = true := by decide
 have b2 : decide (((A.length : Nat) : Int) < 16) = true := by rw [l1]; decide
 have l3 : (A ++ B).length = 16 := by rw [List.length_append, l1, l2]
 have b3 : decide ((((A ++ B).length : Nat) : Int) < 16) = false := by rw [l3]; decide
 simp only [b1, cond_true, hw1, obind_some, hr1, b2, hw2, hr2, b3, cond_false]
 have b4 : (if ((0 : Int) > 16) then (0 : Int) else 16) = 16 := by decide
 have b5 : ByteArray.extract (bytesStr (A ++ B)) 0 (Int.toNat 16) = bytesStr (A ++ B) := by
  apply strBytes_inj.mp
  rw [strBytes_extract]
  have hl : (strBytes (bytesStr (A ++ B))).length = 16 := by rw [strBytes_len, bytesStr_size, l3]
  rw [List.drop_zero, List.take_of_length_le (by rw [hl]; decide)]
 simp only [b4, b5, bytesStr_size, l3]
 rfl
theorem drawF_inj (seed i j : Int) (hi : 0 ≤ i ∧ i < 18446744073709551616) (hj : 0 ≤ j ∧ j < 18446744073709551616) (h : drawF seed i = drawF seed j) : i = j := by
 unfold drawF at h
 have hr : ∀ v w : Int, ∀ n ∈ be8 v ++ be8 w, 0 ≤ n ∧ n ≤ 255 := by
  intro v w n hn
  rcases List.mem_append.mp hn with h | h
  · exact be8_range _ _ h
  · exact be8_range _ _ h
 rw [bytesStr_inj (hr _ _) (hr _ _)] at h
 have h0 := (List.append_inj h (by rw [be8_len, be8_len])).1
 have h1 := be8_inj _ _ (mixI_range _) (mixI_range _) h0
 have h2 := mixI_inj _ _ h1 (mixI_range _) (mixI_range _)
 have h3 := mixI_inj _ _ h2 (by omega) (by omega)
 omega
end Go.Proofs.YtjlfmolfcgennaaDoor.V
namespace Go.Proofs.YtjlfmolfcgennaaDoor.V
universe u
abbrev OwnT (α : Type) : Type := Int × α × α × Bool × Bool × Unit
abbrev GivT (α : Type) : Type := Int × α × α × Bool × Bool × Bool × Unit
abbrev StT (α : Type) : Type := Int × Int × Int × List (OwnT α) × List (GivT α) × Int × Int × Unit
abbrev FrT (α : Type) : Type := Int × Int × Int × α × α
section
variable {α : Type}
def liveO (l : List (OwnT α)) : Nat := (l.filter fun o => !o.2.2.2.2.1).length
def liveG (l : List (GivT α)) : Nat := (l.filter fun g => !g.2.2.2.2.1).length
def setL (s : StT α) (l : List (OwnT α)) : StT α := (s.1, s.2.1, s.2.2.1, l, s.2.2.2.2.1, s.2.2.2.2.2.1, s.2.2.2.2.2.2.1, ())
def fillId (dr : Int → OwnT α) (s : StT α) (many : Int) : StT α :=
 (s.1, s.2.1, max 2 (min many 4), s.2.2.2.1 ++ (List.range ((max 2 (min many 4)).toNat - liveO s.2.2.2.1)).map (fun j => dr ((s.2.2.2.1.length + j : Nat) : Int)), s.2.2.2.2.1, s.2.2.2.2.2.1, s.2.2.2.2.2.2.1, ())
def isFresh (g : GivT α) : Bool := !g.2.2.2.1 && !g.2.2.2.2.1
def useG (g : GivT α) : GivT α := (g.1, g.2.1, g.2.2.1, true, g.2.2.2.2.1, g.2.2.2.2.2.1, ())
def retG (g : GivT α) : GivT α := if g.2.2.2.2.1 then g else (g.1, g.2.1, g.2.2.1, g.2.2.2.1, true, true, ())
def moveP (l : List (GivT α)) : Option (List (GivT α) × Int) :=
 match l[l.findIdx isFresh]? with
 | some g => some (l.modify (l.findIdx isFresh) useG, g.1)
 | none => none
def nowI (l : List (GivT α)) (now : Int) : Nat := l.findIdx fun g => g.1 == now
def takeP (s : StT α) : Option (StT α) :=
 match moveP s.2.2.2.2.1 with
 | some (l, now) => some (s.1, s.2.1, s.2.2.1, s.2.2.2.1, l.modify (nowI s.2.2.2.2.1 s.2.2.2.2.2.2.1) retG, s.2.2.2.2.2.1, now, ())
 | none => none
def clash [DecidableEq α] (l : List (GivT α)) (q : Int) (c t : α) : Bool := l.any fun g => (decide (g.1 = q) != decide (g.2.1 = c)) || (decide (g.1 = q) && !decide (g.2.2.1 = t))
def putIn (l : List (GivT α)) (q : Int) (c t : α) : List (GivT α) :=
 if l.any (fun g => decide (g.1 = q)) then l else l.takeWhile (fun g => decide (g.1 < q)) ++ (q, c, t, false, false, false, ()) :: l.dropWhile (fun g => decide (g.1 < q))
def belowG (prior : Int) (g : GivT α) : GivT α := if g.1 < prior then retG g else g
def stepG (l : List (GivT α)) (now : Int) : Option (List (GivT α) × Int) :=
 match l[nowI l now]? with
 | some g => if g.2.2.2.2.1 then moveP l else some (l, now)
 | none => none
def newP [DecidableEq α] (s : StT α) (q prior : Int) (c t : α) : Option (StT α) :=
 if clash s.2.2.2.2.1 q c t then none else
 match stepG ((putIn s.2.2.2.2.1 q c t).map (belowG (max s.2.2.2.2.2.1 prior))) s.2.2.2.2.2.2.1 with
 | some (l, now) => if liveG ((putIn s.2.2.2.2.1 q c t).map (belowG (max s.2.2.2.2.2.1 prior))) ≤ 4 ∧ l.length ≤ 200 then some (s.1, s.2.1, s.2.2.1, s.2.2.2.1, l, max s.2.2.2.2.2.1 prior, now, ()) else none
 | none => none
def goneO (o : OwnT α) : OwnT α := (o.1, o.2.1, o.2.2.1, false, true, ())
def retP (dr : Int → OwnT α) (s : StT α) (q : Int) : Option (StT α) :=
 if (s.2.2.2.1.length : Int) ≤ q then none else
 if s.2.2.2.1.length < 200 then some (fillId dr (setL s (s.2.2.2.1.modify q.toNat goneO)) s.2.2.1) else some (setL s (s.2.2.2.1.modify q.toNat goneO))
def todoG (g : GivT α) : Bool := g.2.2.2.2.2.1
def todoO (o : OwnT α) : Bool := o.2.2.2.1
def toldG (g : GivT α) : GivT α := (g.1, g.2.1, g.2.2.1, g.2.2.2.1, g.2.2.2.2.1, false, ())
def toldO (o : OwnT α) : OwnT α := (o.1, o.2.1, o.2.2.1, false, o.2.2.2.2.1, ())
def nextP (fr : Int → Bool) (fo : OwnT α → Bool) (z : α) (s : StT α) : Option (StT α × FrT α) :=
 let rest := match s.2.2.2.1[s.2.2.2.1.findIdx todoO]? with
  | some o => if fo o then some (setL s (s.2.2.2.1.modify (s.2.2.2.1.findIdx todoO) toldO), 24, o.1, 0, o.2.1, o.2.2.1) else none
  | none => none
 match s.2.2.2.2.1[s.2.2.2.2.1.findIdx todoG]? with
 | some g => if fr g.1 then some ((s.1, s.2.1, s.2.2.1, s.2.2.2.1, s.2.2.2.2.1.modify (s.2.2.2.2.1.findIdx todoG) toldG, s.2.2.2.2.2.1, s.2.2.2.2.2.2.1, ()), 25, g.1, 0, z, z) else rest
 | none => rest
end
/-! #### other names -/
section
variable {α β : Type} (f h : α → β)
def mapO (o : OwnT α) : OwnT β := (o.1, f o.2.1, f o.2.2.1, o.2.2.2.1, o.2.2.2.2.1, ())
def mapG (g : GivT α) : GivT β := (g.1, f g.2.1, f g.2.2.1, g.2.2.2.1, g.2.2.2.2.1, g.2.2.2.2.2.1, ())
def mapS (seed : Int) (s : StT α) : StT β := (seed, s.2.1, s.2.2.1, s.2.2.2.1.map (mapO f), s.2.2.2.2.1.map (mapG h), s.2.2.2.2.2.1, s.2.2.2.2.2.2.1, ())
def mapF (f z : α → β) (x : FrT α) : FrT β := (x.1, x.2.1, x.2.2.1, f x.2.2.2.1, z x.2.2.2.2)
variable {f h}
theorem findIdx_map' {γ δ : Type} (k : γ → δ) (p : δ → Bool) (l : List γ) : (l.map k).findIdx p = l.findIdx (p ∘ k) := by
 induction l with
 | nil => rfl
 | cons x l ih => simp only [List.map_cons, List.findIdx_cons, ih, Function.comp]
theorem modify_map' {γ δ : Type} (k : γ → δ) (p : γ → γ) (p' : δ → δ) (hp : ∀ x, p' (k x) = k (p x)) : ∀ (l : List γ) (i : Nat), (l.map k).modify i p' = (l.modify i p).map k
 | [], i => by cases i <;> simp
 | x :: l, 0 => by simp [hp]
 | x :: l, i + 1 => by simp [modify_map' k p p' hp l i]
theorem liveO_map (l : List (OwnT α)) : liveO (l.map (mapO f)) = liveO l := by
 unfold liveO
 induction l with
 | nil => rfl
 | cons o l ih =>
  simp only [List.map_cons, List.filter_cons]
  have : (mapO f o).2.2.2.2.1 = o.2.2.2.2.1 := rfl
  rw [this]
  split <;> simp [ih]
theorem liveG_map (l : List (GivT α)) : liveG (l.map (mapG h)) = liveG l := by
 unfold liveG
 induction l with
 | nil => rfl
 | cons o l ih =>
  simp only [List.map_cons, List.filter_cons]
  have : (mapG h o).2.2.2.2.1 = o.2.2.2.2.1 := rfl
  rw [this]
  split <;> simp [ih]
theorem fillId_map (seed : Int) {dr : Int → OwnT α} {dr' : Int → OwnT β} (s : StT α) (many : Int) (hd : ∀ j : Nat, j < s.2.2.2.1.length + 4 → dr' j = mapO f (dr j)) : fillId dr' (mapS f h seed s) many = mapS f h seed (fillId dr s many) := by
 simp only [fillId, mapS, liveO_map, List.length_map, List.map_append, List.map_map]
 congr 5
 apply List.map_congr_left
 intro j hj
 have hj := List.mem_range.mp hj
 exact hd _ (by omega)
theorem moveP_map (l : List (GivT α)) : moveP (l.map (mapG h)) = (moveP l).map fun x => (x.1.map (mapG h), x.2) := by
 have e : (l.map (mapG h)).findIdx isFresh = l.findIdx isFresh := findIdx_map' _ _ _
 unfold moveP
 rw [e, List.getElem?_map]
 cases l[l.findIdx isFresh]? with
 | none => rfl
 | some g => simp only [Option.map_some, modify_map' (mapG h) useG useG (fun _ => rfl)]; rfl
theorem nowI_map (l : List (GivT α)) (now : Int) : nowI (l.map (mapG h)) now = nowI l now := findIdx_map' _ _ _
theorem retG_map (g : GivT α) : retG (mapG h g) = mapG h (retG g) := by
 unfold retG
 have : (mapG h g).2.2.2.2.1 = g.2.2.2.2.1 := rfl
 rw [this]
 split <;> rfl
theorem takeP_map (seed : Int) (s : StT α) : takeP (mapS f h seed s) = (takeP s).map (mapS f h seed) := by
 unfold takeP
 simp only [mapS, moveP_map]
 cases moveP s.2.2.2.2.1 with
 | none => rfl
 | some x => simp only [Option.map_some, nowI_map, modify_map' (mapG h) retG retG retG_map]; rfl
def Apart [DecidableEq α] [DecidableEq β] (h : α → β) (l : List (GivT α)) (q : Int) (c t : α) : Prop := ∀ g ∈ l, (h g.2.1 = h c ↔ g.2.1 = c) ∧ (g.1 = q → (h g.2.2.1 = h t ↔ g.2.2.1 = t))
theorem clash_map [DecidableEq α] [DecidableEq β] (l : List (GivT α)) (q : Int) (c t : α) (hi : Apart h l q c t) : clash (l.map (mapG h)) q (h c) (h t) = clash l q c t := by
 unfold clash
 rw [List.any_map]
 induction l with
 | nil => rfl
 | cons g l ih =>
  simp only [List.any_cons]
  rw [ih (fun x hx => hi x (List.mem_cons_of_mem _ hx))]
  obtain ⟨i1, i2⟩ := hi g List.mem_cons_self
  have key : ((decide (g.1 = q) != decide (h g.2.1 = h c)) || (decide (g.1 = q) && !decide (h g.2.2.1 = h t))) = ((decide (g.1 = q) != decide (g.2.1 = c)) || (decide (g.1 = q) && !decide (g.2.2.1 = t))) := by
   rw [decide_eq_decide.mpr i1]
   by_cases hq : g.1 = q
   · rw [decide_eq_decide.mpr (i2 hq)]
   · simp [hq]
  exact congrArg (fun b => b || l.any fun g => (decide (g.1 = q) != decide (g.2.1 = c)) || (decide (g.1 = q) && !decide (g.2.2.1 = t))) key
theorem takeWhile_map' {γ δ : Type} (k : γ → δ) (p : δ → Bool) (l : List γ) : (l.map k).takeWhile p = (l.takeWhile (p ∘ k)).map k := by
 induction l with
 | nil => rfl
 | cons x l ih =>
  simp only [List.map_cons, List.takeWhile_cons, Function.comp]
  split <;> simp [ih]
theorem dropWhile_map' {γ δ : Type} (k : γ → δ) (p : δ → Bool) (l : List γ) : (l.map k).dropWhile p = (l.dropWhile (p ∘ k)).map k := by
 induction l with
 | nil => rfl
 | cons x l ih =>
  simp only [List.map_cons, List.dropWhile_cons, Function.comp]
  split <;> simp [ih]
theorem putIn_map (l : List (GivT α)) (q : Int) (c t : α) : putIn (l.map (mapG h)) q (h c) (h t) = (putIn l q c t).map (mapG h) := by
 unfold putIn
 rw [List.any_map, takeWhile_map', dropWhile_map']
 have e1 : ((fun g : GivT β => decide (g.1 = q)) ∘ mapG h) = fun g : GivT α => decide (g.1 = q) := rfl
 have e2 : ((fun g : GivT β => decide (g.1 < q)) ∘ mapG h) = fun g : GivT α => decide (g.1 < q) := rfl
 rw [e1, e2]
 split
 · rfl
 · simp [mapG]
theorem belowG_map (p : Int) (l : List (GivT α)) : (l.map (mapG h)).map (belowG p) = (l.map (belowG p)).map (mapG h) := by
 simp only [List.map_map]
 congr 1
 funext g
 simp only [Function.comp, belowG]
 have : (mapG h g).1 = g.1 := rfl
 rw [this, retG_map]
 split <;> rfl
theorem stepG_map (l : List (GivT α)) (now : Int) : stepG (l.map (mapG h)) now = (stepG l now).map fun x => (x.1.map (mapG h), x.2) := by
 unfold stepG
 rw [nowI_map, List.getElem?_map]
 cases l[nowI l now]? with
 | none => rfl
 | some g =>
  simp only [Option.map_some, moveP_map]
  have : (mapG h g).2.2.2.2.1 = g.2.2.2.2.1 := rfl
  rw [this]
  split <;> rfl
theorem newP_map [DecidableEq α] [DecidableEq β] (seed : Int) (s : StT α) (q prior : Int) (c t : α) (hi : Apart h s.2.2.2.2.1 q c t) : newP (mapS f h seed s) q prior (h c) (h t) = (newP s q prior c t).map (mapS f h seed) := by
 unfold newP
 simp only [mapS, clash_map _ _ _ _ hi, putIn_map, belowG_map, stepG_map, liveG_map]
 split
 · rfl
 ·
  cases stepG ((putIn s.2.2.2.2.1 q c t).map (belowG (max s.2.2.2.2.2.1 prior))) s.2.2.2.2.2.2.1 with
  | none => rfl
  | some x =>
   simp only [Option.map_some, List.length_map]
   split <;> rfl
theorem retP_map (seed : Int) {dr : Int → OwnT α} {dr' : Int → OwnT β} (s : StT α) (q : Int) (hd : ∀ j : Nat, j < s.2.2.2.1.length + 4 → dr' j = mapO f (dr j)) : retP dr' (mapS f h seed s) q = (retP dr s q).map (mapS f h seed) := by
 have e : ∀ l : List (OwnT α), setL (mapS f h seed s) (l.map (mapO f)) = mapS f h seed (setL s l) := fun _ => rfl
 have em : ∀ i, ((s.2.2.2.1).map (mapO f)).modify i goneO = (s.2.2.2.1.modify i goneO).map (mapO f) := fun i => modify_map' (mapO f) goneO goneO (fun _ => rfl) _ _
 have e0 : (mapS f h seed s).2.2.2.1 = s.2.2.2.1.map (mapO f) := rfl
 have e1 : (mapS f h seed s).2.2.1 = s.2.2.1 := rfl
 unfold retP
 have ef := fillId_map (f := f) (h := h) seed (dr := dr) (dr' := dr') (setL s (s.2.2.2.1.modify q.toNat goneO)) s.2.2.1 (fun j hj => hd j (by
  have : (setL s (s.2.2.2.1.modify q.toNat goneO)).2.2.2.1.length = s.2.2.2.1.length := List.length_modify ..
  omega))
 simp only [e0, e1, List.length_map, em, e, ef]
 split
 · rfl
 · split <;> rfl
end
instance q_runtime_errorAddressString : DecidableEq D_runtime_errorAddressString := @instDecidableEqProd _ _ inferInstance (@instDecidableEqProd _ _ inferInstance (inferInstance))
instance q_ranges_Range : DecidableEq D_ranges_Range := @instDecidableEqProd _ _ inferInstance (@instDecidableEqProd _ _ inferInstance (inferInstance))
instance q_runtime_boundsError : DecidableEq D_runtime_boundsError := @instDecidableEqProd _ _ inferInstance (@instDecidableEqProd _ _ inferInstance (@instDecidableEqProd _ _ inferInstance (@instDecidableEqProd _ _ inferInstance (inferInstance))))
instance q_ids_Own : DecidableEq D_ids_Own := @instDecidableEqProd _ _ inferInstance (@instDecidableEqProd _ _ inferInstance (@instDecidableEqProd _ _ inferInstance (@instDecidableEqProd _ _ inferInstance (@instDecidableEqProd _ _ inferInstance (inferInstance)))))
instance q_4_int : DecidableEq D_4_int := @instDecidableEqProd _ _ inferInstance (@instDecidableEqProd _ _ inferInstance (@instDecidableEqProd _ _ inferInstance (@instDecidableEqProd _ _ inferInstance (inferInstance))))
instance q_ids_Given : DecidableEq D_ids_Given := @instDecidableEqProd _ _ inferInstance (@instDecidableEqProd _ _ inferInstance (@instDecidableEqProd _ _ inferInstance (@instDecidableEqProd _ _ inferInstance (@instDecidableEqProd _ _ inferInstance (@instDecidableEqProd _ _ inferInstance (inferInstance))))))
instance q_2_struct_shift_int_times_uint64 : DecidableEq D_2_struct_shift_int_times_uint64 := @instDecidableEqProd _ _ inferInstance (@instDecidableEqProd _ _ inferInstance (inferInstance))
instance q_8_uint8 : DecidableEq D_8_uint8 := @instDecidableEqProd _ _ inferInstance (@instDecidableEqProd _ _ inferInstance (@instDecidableEqProd _ _ inferInstance (@instDecidableEqProd _ _ inferInstance (@instDecidableEqProd _ _ inferInstance (@instDecidableEqProd _ _ inferInstance (@instDecidableEqProd _ _ inferInstance (@instDecidableEqProd _ _ inferInstance (inferInstance))))))))
instance q_8_uint64 : DecidableEq D_8_uint64 := @instDecidableEqProd _ _ inferInstance (@instDecidableEqProd _ _ inferInstance (@instDecidableEqProd _ _ inferInstance (@instDecidableEqProd _ _ inferInstance (@instDecidableEqProd _ _ inferInstance (@instDecidableEqProd _ _ inferInstance (@instDecidableEqProd _ _ inferInstance (@instDecidableEqProd _ _ inferInstance (inferInstance))))))))
instance q_frame_Frame : DecidableEq D_frame_Frame := @instDecidableEqProd _ _ inferInstance (@instDecidableEqProd _ _ inferInstance (@instDecidableEqProd _ _ inferInstance (@instDecidableEqProd _ _ inferInstance (@instDecidableEqProd _ _ inferInstance (@instDecidableEqProd _ _ inferInstance (@instDecidableEqProd _ _ inferInstance (@instDecidableEqProd _ _ inferInstance (@instDecidableEqProd _ _ inferInstance (@instDecidableEqProd _ _ inferInstance (@instDecidableEqProd _ _ inferInstance (@instDecidableEqProd _ _ inferInstance (@instDecidableEqProd _ _ inferInstance (inferInstance)))))))))))))
instance q_ids_State : DecidableEq D_ids_State := @instDecidableEqProd _ _ inferInstance (@instDecidableEqProd _ _ inferInstance (@instDecidableEqProd _ _ inferInstance (@instDecidableEqProd _ _ inferInstance (@instDecidableEqProd _ _ inferInstance (@instDecidableEqProd _ _ inferInstance (@instDecidableEqProd _ _ inferInstance (inferInstance)))))))
instance q_law18_Act : DecidableEq D_law18_Act := @instDecidableEqProd _ _ inferInstance (@instDecidableEqProd _ _ inferInstance (@instDecidableEqProd _ _ inferInstance (inferInstance)))
end Go.Proofs.YtjlfmolfcgennaaDoor.V
namespace Go.Proofs.YtjlfmolfcgennaaDoor.V
open Go.RowKit Go.Proofs.Tryd
set_option maxRecDepth 100000
set_option linter.unusedVariables false
noncomputable def m_frame_Frame_only : Mach prog Inv gInv := mach bas [(59, f59)] ⟨ok59, trivial⟩ [] trivial [] trivial [] trivial
/-! ### (domino/frame.Frame).only -/
@[reducible] def r_frame_Frame_only : List Ty := [T_frame_Frame, .bool]
def ks_frame_Frame_only : List Nat := [59]
abbrev H_frame_Frame_only (base : Base) (S0 : Nat → Prop) := base.n = 0 ∧ FinOk (finR r_frame_Frame_only) base S0 (Post r_frame_Frame_only S0)
abbrev J_frame_Frame_only (base : Base) (S0 : Nat → Prop) (cs0 : List Go.Frame) (p : CPat) (J : denC p → Option (denL r_frame_Frame_only)) := JSound m_frame_Frame_only base S0 cs0 (Post r_frame_Frame_only S0) p J
abbrev O_frame_Frame_only (base : Base) (S0 : Nat → Prop) (cs0 : List Go.Frame) (X : Cfg → Option (Option (denL r_frame_Frame_only))) := OSound m_frame_Frame_only base S0 cs0 (Post r_frame_Frame_only S0) X
@[reducible] noncomputable def p_frame_Frame_only_3 : CPat := ⟨⟨59, [1, 1, 0, 1, 0, 1, 1, 1, 1, 1, 1, 1, 1, 1, 1, 1, 1, 1, 1, 1, 1, 1, 1, 1, 1, 1], none, [.any, .ptr 0 0, .ptr 1 0, .any, .ptr 2 0, .any, .any, .any, .any, .int .u64, .any, .any, .any, .any, .any, .any, .any, .any, .any, .any, .any, .any, .any, .any, .any, .any, .any, .any, .any, .any, .any, .any, .any, .any, .any, .any, .any, .any, .any, .any, .any, .any, .any, .any, .any, .any, .any, .any, .any, .any, .any, .any, .any, .any, .any, .any, .any, .any, .any, .any, .any, .any, .any, .any, .any, .any, .any, .any, .any, .any, .any, .any, .any, .any, .any, .any, .any, .any, .any, .any, .any, .any, .any, .any, .any, .any, .any, .any, .any, .any, .any, .any, .any, .any, .any, .any, .any, .any, .any, .any, .any, .any, .bool], 25⟩, [], [.dat 36 T_frame_Frame, .dat 36 T_frame_Frame, .dat 36 T_frame_Frame], 0⟩
@[reducible] noncomputable def u_frame_Frame_only_3 (k : Int → Bool → D_frame_Frame → D_frame_Frame → D_frame_Frame → Option (D_frame_Frame × Bool × Unit)) : denC p_frame_Frame_only_3 → Option (D_frame_Frame × Bool × Unit) := fun x => k x.1.2.2.2.2.2.2.2.2.2.1 x.1.2.2.2.2.2.2.2.2.2.2.2.2.2.2.2.2.2.2.2.2.2.2.2.2.2.2.2.2.2.2.2.2.2.2.2.2.2.2.2.2.2.2.2.2.2.2.2.2.2.2.2.2.2.2.2.2.2.2.2.2.2.2.2.2.2.2.2.2.2.2.2.2.2.2.2.2.2.2.2.2.2.2.2.2.2.2.2.2.2.2.2.2.2.2.2.2.2.2.2.2.2.2.1 x.2.2.1 x.2.2.2.1 x.2.2.2.2.1
noncomputable def b_frame_Frame_only_3 (i39 : Int) (b40 : Bool) (d41 : D_frame_Frame) (d42 : D_frame_Frame) (d43 : D_frame_Frame) : Option (D_frame_Frame × Bool × Unit) :=
 bif b40 then
  some ((d43.1, (d43.2.1, (d43.2.2.1, (d43.2.2.2.1, (d43.2.2.2.2.1, (d43.2.2.2.2.2.1, (d43.2.2.2.2.2.2.1, (d43.2.2.2.2.2.2.2.1, (d43.2.2.2.2.2.2.2.2.1, (d43.2.2.2.2.2.2.2.2.2.1, (d43.2.2.2.2.2.2.2.2.2.2.1, (d41.2.2.2.2.2.2.2.2.2.2.2.1, d43.2.2.2.2.2.2.2.2.2.2.2.2)))))))))))), (true, ()))
 else
  let b44 : Bool := (i39 == (28 : Int))
  bif b44 then
   some ((d43.1, (d43.2.1, (d43.2.2.1, (d43.2.2.2.1, (d41.2.2.2.2.1, (d43.2.2.2.2.2.1, (d43.2.2.2.2.2.2.1, (d41.2.2.2.2.2.2.2.1, (d43.2.2.2.2.2.2.2.2.1, (d41.2.2.2.2.2.2.2.2.2.1, d43.2.2.2.2.2.2.2.2.2.2)))))))))), (true, ()))
  else
   let b45 : Bool := (i39 == (29 : Int))
   bif b45 then
    some ((d43.1, (d43.2.1, (d43.2.2.1, (d43.2.2.2.1, (d41.2.2.2.2.1, (d43.2.2.2.2.2.1, (d43.2.2.2.2.2.2.1, (d43.2.2.2.2.2.2.2.1, (d43.2.2.2.2.2.2.2.2.1, (d41.2.2.2.2.2.2.2.2.2.1, d43.2.2.2.2.2.2.2.2.2.2)))))))))), (true, ()))
   else
    let s46 : ByteArray := (ByteArray.mk (List.toArray ([] : List UInt8)))
    some (((0 : Int), ((0 : Int), ((0 : Int), ((0 : Int), ((0 : Int), ((0 : Int), ((0 : Int), ((0 : Int), (false, (s46, (s46, (s46, (([] : List D_ranges_Range), ()))))))))))))), (false, ()))
theorem ex_frame_Frame_only_3 : ∃ f, f = @b_frame_Frame_only_3 := ⟨_, rfl⟩
noncomputable def frame_Frame_only_3 := Classical.choose ex_frame_Frame_only_3
theorem frame_Frame_only_3_eq : @frame_Frame_only_3 = @b_frame_Frame_only_3 := Classical.choose_spec ex_frame_Frame_only_3
theorem s_frame_Frame_only_3 {base S0 cs0} (hfin : H_frame_Frame_only base S0) : J_frame_Frame_only base S0 cs0 p_frame_Frame_only_3 (u_frame_Frame_only_3 (frame_Frame_only_3)) :=
 JSound.join hfin.2 (OSound.nowhere) ks_frame_Frame_only 100000 (by rw [frame_Frame_only_3_eq]; intro x; kernel_rfl)
noncomputable def x_frame_Frame_only_3 : Cfg → Option (Option (D_frame_Frame × Bool × Unit)) := cut p_frame_Frame_only_3 (u_frame_Frame_only_3 (frame_Frame_only_3)) (nowhere)
theorem o_frame_Frame_only_3 {base S0 cs0} (hfin : H_frame_Frame_only base S0) : O_frame_Frame_only base S0 cs0 (x_frame_Frame_only_3) := OSound.cut (OSound.nowhere) (Nat.le_of_eq hfin.1) (s_frame_Frame_only_3 hfin)
@[reducible] noncomputable def p_frame_Frame_only_2 : CPat := ⟨⟨59, [1, 1, 0, 1, 0, 1, 1, 1, 1, 1, 1, 1, 1, 1, 1, 1, 1, 1, 1, 1], none, [.any, .ptr 0 0, .ptr 1 0, .any, .ptr 2 0, .any, .any, .any, .any, .int .u64, .any, .any, .any, .any, .any, .any, .any, .any, .any, .any, .any, .any, .any, .any, .any, .any, .any, .any, .any, .any, .any, .any, .any, .any, .any, .any, .any, .any, .any, .any, .any, .any, .any, .any, .any, .any, .any, .any, .any, .any, .any, .any, .any, .any, .any, .any, .any, .any, .any, .any, .any, .any, .any, .any, .any, .any, .any, .any, .any, .any, .any, .any, .any, .any, .bool], 53⟩, [], [.dat 36 T_frame_Frame, .dat 36 T_frame_Frame, .dat 36 T_frame_Frame], 0⟩
@[reducible] noncomputable def u_frame_Frame_only_2 (k : Int → Bool → D_frame_Frame → D_frame_Frame → D_frame_Frame → Option (D_frame_Frame × Bool × Unit)) : denC p_frame_Frame_only_2 → Option (D_frame_Frame × Bool × Unit) := fun x => k x.1.2.2.2.2.2.2.2.2.2.1 x.1.2.2.2.2.2.2.2.2.2.2.2.2.2.2.2.2.2.2.2.2.2.2.2.2.2.2.2.2.2.2.2.2.2.2.2.2.2.2.2.2.2.2.2.2.2.2.2.2.2.2.2.2.2.2.2.2.2.2.2.2.2.2.2.2.2.2.2.2.2.2.2.2.2.2.1 x.2.2.1 x.2.2.2.1 x.2.2.2.2.1
noncomputable def b_frame_Frame_only_2 (i30 : Int) (b31 : Bool) (d32 : D_frame_Frame) (d33 : D_frame_Frame) (d34 : D_frame_Frame) : Option (D_frame_Frame × Bool × Unit) :=
 bif b31 then
  some ((d34.1, (d32.2.1, (d34.2.2.1, (d32.2.2.2.1, d34.2.2.2.2)))), (true, ()))
 else
  let b35 : Bool := (i30 == (24 : Int))
  bif b35 then
   some ((d34.1, (d34.2.1, (d34.2.2.1, (d34.2.2.2.1, (d34.2.2.2.2.1, (d32.2.2.2.2.2.1, (d32.2.2.2.2.2.2.1, (d34.2.2.2.2.2.2.2.1, (d34.2.2.2.2.2.2.2.2.1, (d34.2.2.2.2.2.2.2.2.2.1, (d32.2.2.2.2.2.2.2.2.2.2.1, (d32.2.2.2.2.2.2.2.2.2.2.2.1, d34.2.2.2.2.2.2.2.2.2.2.2.2)))))))))))), (true, ()))
  else
   let b36 : Bool := (i30 == (25 : Int))
   bif b36 then
    some ((d34.1, (d34.2.1, (d34.2.2.1, (d34.2.2.2.1, (d34.2.2.2.2.1, (d32.2.2.2.2.2.1, d34.2.2.2.2.2.2)))))), (true, ()))
   else
    let b37 : Bool := (i30 == (26 : Int))
    bif b37 then
     frame_Frame_only_3 i30 true d32 d33 d34
    else
     let b38 : Bool := (i30 == (27 : Int))
     frame_Frame_only_3 i30 b38 d32 d33 d34
theorem ex_frame_Frame_only_2 : ∃ f, f = @b_frame_Frame_only_2 := ⟨_, rfl⟩
noncomputable def frame_Frame_only_2 := Classical.choose ex_frame_Frame_only_2
theorem frame_Frame_only_2_eq : @frame_Frame_only_2 = @b_frame_Frame_only_2 := Classical.choose_spec ex_frame_Frame_only_2
theorem s_frame_Frame_only_2 {base S0 cs0} (hfin : H_frame_Frame_only base S0) : J_frame_Frame_only base S0 cs0 p_frame_Frame_only_2 (u_frame_Frame_only_2 (frame_Frame_only_2)) :=
 JSound.join hfin.2 (o_frame_Frame_only_3 hfin) ks_frame_Frame_only 100000 (by rw [frame_Frame_only_2_eq]; intro x; kernel_rfl)
noncomputable def x_frame_Frame_only_2 : Cfg → Option (Option (D_frame_Frame × Bool × Unit)) := cut p_frame_Frame_only_2 (u_frame_Frame_only_2 (frame_Frame_only_2)) (x_frame_Frame_only_3)
theorem o_frame_Frame_only_2 {base S0 cs0} (hfin : H_frame_Frame_only base S0) : O_frame_Frame_only base S0 cs0 (x_frame_Frame_only_2) := OSound.cut (o_frame_Frame_only_3 hfin) (Nat.le_of_eq hfin.1) (s_frame_Frame_only_2 hfin)
@[reducible] noncomputable def p_frame_Frame_only_1 : CPat := ⟨⟨59, [1, 1, 0, 1, 0, 1, 1, 1, 1, 1, 1, 1, 1, 1, 1, 1, 1, 1], none, [.any, .ptr 0 0, .ptr 1 0, .any, .ptr 2 0, .any, .any, .any, .any, .int .u64, .any, .any, .any, .any, .any, .any, .any, .any, .any, .any, .any, .any, .any, .any, .any, .any, .any, .any, .any, .any, .any, .any, .any, .any, .any, .any, .any, .any, .any, .any, .any, .any, .any, .any, .any, .any, .any, .any, .any, .any, .any, .any, .any, .any, .any, .any, .any, .any, .any, .any, .any, .any, .any, .any, .bool], 63⟩, [], [.dat 36 T_frame_Frame, .dat 36 T_frame_Frame, .dat 36 T_frame_Frame], 0⟩
@[reducible] noncomputable def u_frame_Frame_only_1 (k : Int → Bool → D_frame_Frame → D_frame_Frame → D_frame_Frame → Option (D_frame_Frame × Bool × Unit)) : denC p_frame_Frame_only_1 → Option (D_frame_Frame × Bool × Unit) := fun x => k x.1.2.2.2.2.2.2.2.2.2.1 x.1.2.2.2.2.2.2.2.2.2.2.2.2.2.2.2.2.2.2.2.2.2.2.2.2.2.2.2.2.2.2.2.2.2.2.2.2.2.2.2.2.2.2.2.2.2.2.2.2.2.2.2.2.2.2.2.2.2.2.2.2.2.2.2.2.1 x.2.2.1 x.2.2.2.1 x.2.2.2.2.1
noncomputable def b_frame_Frame_only_1 (i23 : Int) (b24 : Bool) (d25 : D_frame_Frame) (d26 : D_frame_Frame) (d27 : D_frame_Frame) : Option (D_frame_Frame × Bool × Unit) :=
 bif b24 then
  some ((d27.1, (d27.2.1, (d27.2.2.1, (d25.2.2.2.1, d27.2.2.2.2)))), (true, ()))
 else
  let b28 : Bool := (i23 == (17 : Int))
  bif b28 then
   frame_Frame_only_2 i23 true d25 d26 d27
  else
   let b29 : Bool := (i23 == (21 : Int))
   frame_Frame_only_2 i23 b29 d25 d26 d27
theorem ex_frame_Frame_only_1 : ∃ f, f = @b_frame_Frame_only_1 := ⟨_, rfl⟩
noncomputable def frame_Frame_only_1 := Classical.choose ex_frame_Frame_only_1
theorem frame_Frame_only_1_eq : @frame_Frame_only_1 = @b_frame_Frame_only_1 := Classical.choose_spec ex_frame_Frame_only_1
theorem s_frame_Frame_only_1 {base S0 cs0} (hfin : H_frame_Frame_only base S0) : J_frame_Frame_only base S0 cs0 p_frame_Frame_only_1 (u_frame_Frame_only_1 (frame_Frame_only_1)) :=
 JSound.join hfin.2 (o_frame_Frame_only_2 hfin) ks_frame_Frame_only 100000 (by rw [frame_Frame_only_1_eq]; intro x; kernel_rfl)
noncomputable def x_frame_Frame_only_1 : Cfg → Option (Option (D_frame_Frame × Bool × Unit)) := cut p_frame_Frame_only_1 (u_frame_Frame_only_1 (frame_Frame_only_1)) (x_frame_Frame_only_2)
theorem o_frame_Frame_only_1 {base S0 cs0} (hfin : H_frame_Frame_only base S0) : O_frame_Frame_only base S0 cs0 (x_frame_Frame_only_1) := OSound.cut (o_frame_Frame_only_2 hfin) (Nat.le_of_eq hfin.1) (s_frame_Frame_only_1 hfin)
@[reducible] noncomputable def p_frame_Frame_only_0 : CPat := ⟨⟨59, [1, 1, 0, 1, 0, 1], none, [.any, .ptr 0 0, .ptr 1 0, .any, .ptr 2 0, .any, .any, .any, .any, .int .u64, .any, .bool], 116⟩, [], [.dat 36 T_frame_Frame, .dat 36 T_frame_Frame, .dat 36 T_frame_Frame], 0⟩
@[reducible] noncomputable def u_frame_Frame_only_0 (k : Int → Bool → D_frame_Frame → D_frame_Frame → D_frame_Frame → Option (D_frame_Frame × Bool × Unit)) : denC p_frame_Frame_only_0 → Option (D_frame_Frame × Bool × Unit) := fun x => k x.1.2.2.2.2.2.2.2.2.2.1 x.1.2.2.2.2.2.2.2.2.2.2.2.1 x.2.2.1 x.2.2.2.1 x.2.2.2.2.1
noncomputable def b_frame_Frame_only_0 (i7 : Int) (b8 : Bool) (d9 : D_frame_Frame) (d10 : D_frame_Frame) (d11 : D_frame_Frame) : Option (D_frame_Frame × Bool × Unit) :=
 bif b8 then
  some (d11, (true, ()))
 else
  let b12 : Bool := (i7 == (2 : Int))
  bif b12 then
   some ((d11.1, (d11.2.1, (d11.2.2.1, (d11.2.2.2.1, (d11.2.2.2.2.1, (d11.2.2.2.2.2.1, (d11.2.2.2.2.2.2.1, (d9.2.2.2.2.2.2.2.1, (d11.2.2.2.2.2.2.2.2.1, (d11.2.2.2.2.2.2.2.2.2.1, (d11.2.2.2.2.2.2.2.2.2.2.1, (d11.2.2.2.2.2.2.2.2.2.2.2.1, d9.2.2.2.2.2.2.2.2.2.2.2.2)))))))))))), (true, ()))
  else
   let b13 : Bool := (i7 == (4 : Int))
   bif b13 then
    some ((d11.1, (d9.2.1, (d11.2.2.1, (d9.2.2.2.1, (d9.2.2.2.2.1, d11.2.2.2.2.2))))), (true, ()))
   else
    let b14 : Bool := (i7 == (5 : Int))
    bif b14 then
     some ((d11.1, (d9.2.1, (d11.2.2.1, (d11.2.2.2.1, (d9.2.2.2.2.1, d11.2.2.2.2.2))))), (true, ()))
    else
     let b15 : Bool := (i7 == (6 : Int))
     bif b15 then
      some ((d11.1, (d11.2.1, (d9.2.2.1, (d11.2.2.2.1, (d11.2.2.2.2.1, (d11.2.2.2.2.2.1, (d11.2.2.2.2.2.2.1, (d11.2.2.2.2.2.2.2.1, (d11.2.2.2.2.2.2.2.2.1, (d9.2.2.2.2.2.2.2.2.2.1, d11.2.2.2.2.2.2.2.2.2.2)))))))))), (true, ()))
     else
      let b16 : Bool := (i7 == (8 : Int))
      bif b16 then
       some ((d11.1, (d9.2.1, (d9.2.2.1, (d11.2.2.2.1, (d11.2.2.2.2.1, (d11.2.2.2.2.2.1, (d11.2.2.2.2.2.2.1, (d11.2.2.2.2.2.2.2.1, (d9.2.2.2.2.2.2.2.2.1, (d9.2.2.2.2.2.2.2.2.2.1, d11.2.2.2.2.2.2.2.2.2.2)))))))))), (true, ()))
      else
       let b17 : Bool := (i7 == (16 : Int))
       bif b17 then
        frame_Frame_only_1 i7 true d9 d10 d11
       else
        let b18 : Bool := (i7 == (18 : Int))
        bif b18 then
         frame_Frame_only_1 i7 true d9 d10 d11
        else
         let b19 : Bool := (i7 == (19 : Int))
         bif b19 then
          frame_Frame_only_1 i7 true d9 d10 d11
         else
          let b20 : Bool := (i7 == (20 : Int))
          bif b20 then
           frame_Frame_only_1 i7 true d9 d10 d11
          else
           let b21 : Bool := (i7 == (22 : Int))
           bif b21 then
            frame_Frame_only_1 i7 true d9 d10 d11
           else
            let b22 : Bool := (i7 == (23 : Int))
            frame_Frame_only_1 i7 b22 d9 d10 d11
theorem ex_frame_Frame_only_0 : ∃ f, f = @b_frame_Frame_only_0 := ⟨_, rfl⟩
noncomputable def frame_Frame_only_0 := Classical.choose ex_frame_Frame_only_0
theorem frame_Frame_only_0_eq : @frame_Frame_only_0 = @b_frame_Frame_only_0 := Classical.choose_spec ex_frame_Frame_only_0
theorem s_frame_Frame_only_0 {base S0 cs0} (hfin : H_frame_Frame_only base S0) : J_frame_Frame_only base S0 cs0 p_frame_Frame_only_0 (u_frame_Frame_only_0 (frame_Frame_only_0)) :=
 JSound.join hfin.2 (o_frame_Frame_only_1 hfin) ks_frame_Frame_only 100000 (by rw [frame_Frame_only_0_eq]; intro x; kernel_rfl)
noncomputable def x_frame_Frame_only_0 : Cfg → Option (Option (D_frame_Frame × Bool × Unit)) := cut p_frame_Frame_only_0 (u_frame_Frame_only_0 (frame_Frame_only_0)) (x_frame_Frame_only_1)
theorem o_frame_Frame_only_0 {base S0 cs0} (hfin : H_frame_Frame_only base S0) : O_frame_Frame_only base S0 cs0 (x_frame_Frame_only_0) := OSound.cut (o_frame_Frame_only_1 hfin) (Nat.le_of_eq hfin.1) (s_frame_Frame_only_0 hfin)
noncomputable def b_frame_Frame_only (a0 : D_frame_Frame) : Option (D_frame_Frame × Bool × Unit) :=
 let s1 : ByteArray := (ByteArray.mk (List.toArray ([] : List UInt8)))
 let s2 : ByteArray := (ByteArray.mk (List.toArray ([] : List UInt8)))
 let s3 : ByteArray := (ByteArray.mk (List.toArray ([] : List UInt8)))
 let b4 : Bool := (a0.1 == (0 : Int))
 bif b4 then
  frame_Frame_only_0 a0.1 true a0 ((0 : Int), ((0 : Int), ((0 : Int), ((0 : Int), ((0 : Int), ((0 : Int), ((0 : Int), ((0 : Int), (false, (s1, (s1, (s1, (([] : List D_ranges_Range), ()))))))))))))) (a0.1, ((0 : Int), ((0 : Int), ((0 : Int), ((0 : Int), ((0 : Int), ((0 : Int), ((0 : Int), (false, (s2, (s2, (s2, (([] : List D_ranges_Range), ())))))))))))))
 else
  let b5 : Bool := (a0.1 == (1 : Int))
  bif b5 then
   frame_Frame_only_0 a0.1 true a0 ((0 : Int), ((0 : Int), ((0 : Int), ((0 : Int), ((0 : Int), ((0 : Int), ((0 : Int), ((0 : Int), (false, (s1, (s1, (s1, (([] : List D_ranges_Range), ()))))))))))))) (a0.1, ((0 : Int), ((0 : Int), ((0 : Int), ((0 : Int), ((0 : Int), ((0 : Int), ((0 : Int), (false, (s2, (s2, (s2, (([] : List D_ranges_Range), ())))))))))))))
  else
   let b6 : Bool := (a0.1 == (30 : Int))
   frame_Frame_only_0 a0.1 b6 a0 ((0 : Int), ((0 : Int), ((0 : Int), ((0 : Int), ((0 : Int), ((0 : Int), ((0 : Int), ((0 : Int), (false, (s1, (s1, (s1, (([] : List D_ranges_Range), ()))))))))))))) (a0.1, ((0 : Int), ((0 : Int), ((0 : Int), ((0 : Int), ((0 : Int), ((0 : Int), ((0 : Int), (false, (s2, (s2, (s2, (([] : List D_ranges_Range), ())))))))))))))
theorem ex_frame_Frame_only : ∃ f, f = @b_frame_Frame_only := ⟨_, rfl⟩
noncomputable def frame_Frame_only := Classical.choose ex_frame_Frame_only
theorem frame_Frame_only_eq : @frame_Frame_only = @b_frame_Frame_only := Classical.choose_spec ex_frame_Frame_only
noncomputable def cb_frame_Frame_only : Con := ⟨[T_frame_Frame], r_frame_Frame_only, fun x => b_frame_Frame_only x.1⟩
noncomputable def c_frame_Frame_only : Con := ⟨[T_frame_Frame], r_frame_Frame_only, fun x => frame_Frame_only x.1⟩
theorem cb_frame_Frame_only_ok : cb_frame_Frame_only.Sound prog Inv gInv 59 :=
 con_run (M := m_frame_Frame_only) inv_g (f := f59) rfl ks_frame_Frame_only 100000 (X := x_frame_Frame_only_0) (fun base S0 cs0 hn hf => have hfin : H_frame_Frame_only base S0 := ⟨hn, hf⟩; o_frame_Frame_only_0 hfin) (by intro x; kernel_rfl)
theorem c_frame_Frame_only_ok : c_frame_Frame_only.Sound prog Inv gInv 59 := by
 have e : c_frame_Frame_only = cb_frame_Frame_only := by unfold c_frame_Frame_only cb_frame_Frame_only; rw [frame_Frame_only_eq]
 rw [e]; exact cb_frame_Frame_only_ok
noncomputable def m_slices_Equal_ranges_Range : Mach prog Inv gInv := mach bas [(71, f71)] ⟨ok71, trivial⟩ [] trivial [] trivial [] trivial
/-! ### slices.Equal[domino/ranges.Set,domino/ranges.Range] -/
@[reducible] def r_slices_Equal_ranges_Range : List Ty := [.bool]
def ks_slices_Equal_ranges_Range : List Nat := [71]
abbrev H_slices_Equal_ranges_Range (base : Base) (S0 : Nat → Prop) := base.n = 0 ∧ FinOk (finR r_slices_Equal_ranges_Range) base S0 (Post r_slices_Equal_ranges_Range S0)
abbrev J_slices_Equal_ranges_Range (base : Base) (S0 : Nat → Prop) (cs0 : List Go.Frame) (p : CPat) (J : denC p → Option (denL r_slices_Equal_ranges_Range)) := JSound m_slices_Equal_ranges_Range base S0 cs0 (Post r_slices_Equal_ranges_Range S0) p J
abbrev O_slices_Equal_ranges_Range (base : Base) (S0 : Nat → Prop) (cs0 : List Go.Frame) (X : Cfg → Option (Option (denL r_slices_Equal_ranges_Range))) := OSound m_slices_Equal_ranges_Range base S0 cs0 (Post r_slices_Equal_ranges_Range S0) X
@[reducible] noncomputable def p_slices_Equal_ranges_Range_0 : CPat := ⟨⟨71, [1, 1, 0, 1, 0], none, [.rows T_ranges_Range false, .rows T_ranges_Range false, .any, .any, .any, .any, .any, .any, .any, .any, .any, .any, .int .i64, .int .i64], 12⟩, [], [], 0⟩
@[reducible] noncomputable def u_slices_Equal_ranges_Range_0 (k : (List D_ranges_Range) → (List D_ranges_Range) → Int → Int → Option (Bool × Unit)) : denC p_slices_Equal_ranges_Range_0 → Option (Bool × Unit) := fun x => k x.1.1 x.1.2.1 x.1.2.2.2.2.2.2.2.2.2.2.2.2.1 x.1.2.2.2.2.2.2.2.2.2.2.2.2.2.1
noncomputable def t_slices_Equal_ranges_Range_0 (k0 : (List D_ranges_Range) → (List D_ranges_Range) → Int → Int → Option (Bool × Unit)) (l13 : (List D_ranges_Range)) (l14 : (List D_ranges_Range)) (i15 : Int) (i16 : Int) : Option (Bool × Unit) :=
 let b17 : Bool := (decide (i16 < i15))
 bif b17 then
  bif (decide (((0 : Int) ≤ i16) ∧ (i16 < (((List.length l13) : Nat) : Int)))) then
   let x18 : D_ranges_Range := (List.getD l13 (Int.toNat i16) (Ty.dflt T_ranges_Range))
   bif (decide (((0 : Int) ≤ i16) ∧ (i16 < (((List.length l14) : Nat) : Int)))) then
    let x19 : D_ranges_Range := (List.getD l14 (Int.toNat i16) (Ty.dflt T_ranges_Range))
    let b20 : Bool := (!((x18.1 == x19.1) && ((x18.2.1 == x19.2.1) && true)))
    bif b20 then
     some (false, ())
    else
     let n21 : Int := (Go.IntKind.wrap Go.IntKind.i64 (i16 + (1 : Int)))
     k0 l13 l14 i15 n21
   else none
  else none
 else
  some (true, ())
noncomputable def slices_Equal_ranges_Range_0 : Nat → (List D_ranges_Range) → (List D_ranges_Range) → Int → Int → Option (Bool × Unit)
 | 0 => fun _ _ _ _ => none
 | m + 1 => t_slices_Equal_ranges_Range_0 (slices_Equal_ranges_Range_0 m)
noncomputable def b_slices_Equal_ranges_Range_0' (l13 : (List D_ranges_Range)) (l14 : (List D_ranges_Range)) (i15 : Int) (i16 : Int) : Option (Bool × Unit) := slices_Equal_ranges_Range_0 (Int.toNat (i15 - i16) + 2) l13 l14 i15 i16
theorem ex_slices_Equal_ranges_Range_0' : ∃ f, f = @b_slices_Equal_ranges_Range_0' := ⟨_, rfl⟩
noncomputable def slices_Equal_ranges_Range_0' := Classical.choose ex_slices_Equal_ranges_Range_0'
theorem slices_Equal_ranges_Range_0'_eq : @slices_Equal_ranges_Range_0' = @b_slices_Equal_ranges_Range_0' := Classical.choose_spec ex_slices_Equal_ranges_Range_0'
theorem s_slices_Equal_ranges_Range_0 {base S0 cs0} (hfin : H_slices_Equal_ranges_Range base S0) : ∀ m, J_slices_Equal_ranges_Range base S0 cs0 p_slices_Equal_ranges_Range_0 (u_slices_Equal_ranges_Range_0 (slices_Equal_ranges_Range_0 m)) :=
 JSound.loop' hfin.2 ks_slices_Equal_ranges_Range 100000 u_slices_Equal_ranges_Range_0 (fun k0 => cut p_slices_Equal_ranges_Range_0 (u_slices_Equal_ranges_Range_0 k0) (nowhere)) (fun k0 h0 => OSound.cut (OSound.nowhere) (Nat.le_of_eq hfin.1) h0) (slices_Equal_ranges_Range_0) (by intro x; rfl) (by intro m x; kernel_rfl)
theorem s_slices_Equal_ranges_Range_0' {base S0 cs0} (hfin : H_slices_Equal_ranges_Range base S0) : J_slices_Equal_ranges_Range base S0 cs0 p_slices_Equal_ranges_Range_0 (u_slices_Equal_ranges_Range_0 (slices_Equal_ranges_Range_0')) := by
 rw [slices_Equal_ranges_Range_0'_eq]; exact fun x r hx => s_slices_Equal_ranges_Range_0 hfin _ x r hx
noncomputable def x_slices_Equal_ranges_Range_0 : Cfg → Option (Option (Bool × Unit)) := cut p_slices_Equal_ranges_Range_0 (u_slices_Equal_ranges_Range_0 (slices_Equal_ranges_Range_0')) (nowhere)
theorem o_slices_Equal_ranges_Range_0 {base S0 cs0} (hfin : H_slices_Equal_ranges_Range base S0) : O_slices_Equal_ranges_Range base S0 cs0 (x_slices_Equal_ranges_Range_0) := OSound.cut (OSound.nowhere) (Nat.le_of_eq hfin.1) (s_slices_Equal_ranges_Range_0' hfin)
noncomputable def b_slices_Equal_ranges_Range (a0 : (List D_ranges_Range)) (a1 : (List D_ranges_Range)) : Option (Bool × Unit) :=
 let n2 : Int := (((List.length a0) : Nat) : Int)
 let n3 : Int := (((List.length a1) : Nat) : Int)
 let b4 : Bool := (n2 != n3)
 bif b4 then
  some (false, ())
 else
  let n5 : Int := (((List.length a0) : Nat) : Int)
  slices_Equal_ranges_Range_0' a0 a1 n5 (0 : Int)
theorem ex_slices_Equal_ranges_Range : ∃ f, f = @b_slices_Equal_ranges_Range := ⟨_, rfl⟩
noncomputable def slices_Equal_ranges_Range := Classical.choose ex_slices_Equal_ranges_Range
theorem slices_Equal_ranges_Range_eq : @slices_Equal_ranges_Range = @b_slices_Equal_ranges_Range := Classical.choose_spec ex_slices_Equal_ranges_Range
noncomputable def cb_slices_Equal_ranges_Range : Con := ⟨[(.slice T_ranges_Range), (.slice T_ranges_Range)], r_slices_Equal_ranges_Range, fun x => b_slices_Equal_ranges_Range x.1 x.2.1⟩
noncomputable def c_slices_Equal_ranges_Range : Con := ⟨[(.slice T_ranges_Range), (.slice T_ranges_Range)], r_slices_Equal_ranges_Range, fun x => slices_Equal_ranges_Range x.1 x.2.1⟩
theorem cb_slices_Equal_ranges_Range_ok : cb_slices_Equal_ranges_Range.Sound prog Inv gInv 71 :=
 con_run (M := m_slices_Equal_ranges_Range) inv_g (f := f71) rfl ks_slices_Equal_ranges_Range 100000 (X := x_slices_Equal_ranges_Range_0) (fun base S0 cs0 hn hf => have hfin : H_slices_Equal_ranges_Range base S0 := ⟨hn, hf⟩; o_slices_Equal_ranges_Range_0 hfin) (by intro x; kernel_rfl)
theorem c_slices_Equal_ranges_Range_ok : c_slices_Equal_ranges_Range.Sound prog Inv gInv 71 := by
 have e : c_slices_Equal_ranges_Range = cb_slices_Equal_ranges_Range := by unfold c_slices_Equal_ranges_Range cb_slices_Equal_ranges_Range; rw [slices_Equal_ranges_Range_eq]
 rw [e]; exact cb_slices_Equal_ranges_Range_ok
noncomputable def m_frame_Same_l1 : Mach prog Inv gInv := mach bas [(72, f72)] ⟨ok72, trivial⟩ [] trivial [] trivial [] trivial
/-! ### domino/frame.Same$1 -/
@[reducible] def r_frame_Same_l1 : List Ty := [T_8_uint64]
def ks_frame_Same_l1 : List Nat := [72]
noncomputable def b_frame_Same_l1 (a0 : D_frame_Frame) : Option (D_8_uint64 × Unit) :=
 some ((a0.1, (a0.2.1, (a0.2.2.1, (a0.2.2.2.1, (a0.2.2.2.2.1, (a0.2.2.2.2.2.1, (a0.2.2.2.2.2.2.1, (a0.2.2.2.2.2.2.2.1, ())))))))), ())
theorem ex_frame_Same_l1 : ∃ f, f = @b_frame_Same_l1 := ⟨_, rfl⟩
noncomputable def frame_Same_l1 := Classical.choose ex_frame_Same_l1
theorem frame_Same_l1_eq : @frame_Same_l1 = @b_frame_Same_l1 := Classical.choose_spec ex_frame_Same_l1
noncomputable def cb_frame_Same_l1 : Con := ⟨[T_frame_Frame], r_frame_Same_l1, fun x => b_frame_Same_l1 x.1⟩
noncomputable def c_frame_Same_l1 : Con := ⟨[T_frame_Frame], r_frame_Same_l1, fun x => frame_Same_l1 x.1⟩
theorem cb_frame_Same_l1_ok : cb_frame_Same_l1.Sound prog Inv gInv 72 :=
 con_run (M := m_frame_Same_l1) inv_g (f := f72) rfl ks_frame_Same_l1 100000 (X := nowhere) (fun base S0 cs0 hn hf => OSound.nowhere) (by intro x; kernel_rfl)
theorem c_frame_Same_l1_ok : c_frame_Same_l1.Sound prog Inv gInv 72 := by
 have e : c_frame_Same_l1 = cb_frame_Same_l1 := by unfold c_frame_Same_l1 cb_frame_Same_l1; rw [frame_Same_l1_eq]
 rw [e]; exact cb_frame_Same_l1_ok
noncomputable def m_frame_Same : Mach prog Inv gInv := mach bas [(60, f60)] ⟨ok60, trivial⟩ [(71, c_slices_Equal_ranges_Range), (72, c_frame_Same_l1)] ⟨⟨c_slices_Equal_ranges_Range_ok, FnOk.callable ok71⟩, ⟨c_frame_Same_l1_ok, FnOk.callable ok72⟩, trivial⟩ [] trivial [] trivial
/-! ### domino/frame.Same -/
@[reducible] def r_frame_Same : List Ty := [.bool]
def ks_frame_Same : List Nat := [60]
noncomputable def b_frame_Same (a0 : D_frame_Frame) (a1 : D_frame_Frame) : Option (Bool × Unit) :=
 obind (slices_Equal_ranges_Range a0.2.2.2.2.2.2.2.2.2.2.2.2.1 a1.2.2.2.2.2.2.2.2.2.2.2.2.1) fun y2 =>
 let b3 : Bool := (!y2.1)
 bif b3 then
  some (false, ())
 else
  obind (frame_Same_l1 a0) fun y4 =>
  obind (frame_Same_l1 a1) fun y5 =>
  let b6 : Bool := ((y4.1.1 == y5.1.1) && ((y4.1.2.1 == y5.1.2.1) && ((y4.1.2.2.1 == y5.1.2.2.1) && ((y4.1.2.2.2.1 == y5.1.2.2.2.1) && ((y4.1.2.2.2.2.1 == y5.1.2.2.2.2.1) && ((y4.1.2.2.2.2.2.1 == y5.1.2.2.2.2.2.1) && ((y4.1.2.2.2.2.2.2.1 == y5.1.2.2.2.2.2.2.1) && ((y4.1.2.2.2.2.2.2.2.1 == y5.1.2.2.2.2.2.2.2.1) && true))))))))
  bif b6 then
   let b7 : Bool := (a0.2.2.2.2.2.2.2.2.1 == a1.2.2.2.2.2.2.2.2.1)
   bif b7 then
    let b8 : Bool := ((ByteArray.toList a0.2.2.2.2.2.2.2.2.2.1) == (ByteArray.toList a1.2.2.2.2.2.2.2.2.2.1))
    bif b8 then
     let b9 : Bool := ((ByteArray.toList a0.2.2.2.2.2.2.2.2.2.2.1) == (ByteArray.toList a1.2.2.2.2.2.2.2.2.2.2.1))
     bif b9 then
      let b10 : Bool := ((ByteArray.toList a0.2.2.2.2.2.2.2.2.2.2.2.1) == (ByteArray.toList a1.2.2.2.2.2.2.2.2.2.2.2.1))
      some (b10, ())
     else
      some (false, ())
    else
     some (false, ())
   else
    some (false, ())
  else
   some (false, ())
theorem ex_frame_Same : ∃ f, f = @b_frame_Same := ⟨_, rfl⟩
noncomputable def frame_Same := Classical.choose ex_frame_Same
theorem frame_Same_eq : @frame_Same = @b_frame_Same := Classical.choose_spec ex_frame_Same
noncomputable def cb_frame_Same : Con := ⟨[T_frame_Frame, T_frame_Frame], r_frame_Same, fun x => b_frame_Same x.1 x.2.1⟩
noncomputable def c_frame_Same : Con := ⟨[T_frame_Frame, T_frame_Frame], r_frame_Same, fun x => frame_Same x.1 x.2.1⟩
theorem cb_frame_Same_ok : cb_frame_Same.Sound prog Inv gInv 60 :=
 con_run (M := m_frame_Same) inv_g (f := f60) rfl ks_frame_Same 100000 (X := nowhere) (fun base S0 cs0 hn hf => OSound.nowhere) (by intro x; kernel_rfl)
theorem c_frame_Same_ok : c_frame_Same.Sound prog Inv gInv 60 := by
 have e : c_frame_Same = cb_frame_Same := by unfold c_frame_Same cb_frame_Same; rw [frame_Same_eq]
 rw [e]; exact cb_frame_Same_ok
noncomputable def m_slices_Max_uint64 : Mach prog Inv gInv := mach bas [(61, f61)] ⟨ok61, trivial⟩ [] trivial [] trivial [] trivial
/-! ### slices.Max[[]uint64,uint64] -/
@[reducible] def r_slices_Max_uint64 : List Ty := [(.int .u64)]
def ks_slices_Max_uint64 : List Nat := [61]
abbrev H_slices_Max_uint64 (base : Base) (S0 : Nat → Prop) := base.n = 0 ∧ FinOk (finR r_slices_Max_uint64) base S0 (Post r_slices_Max_uint64 S0)
abbrev J_slices_Max_uint64 (base : Base) (S0 : Nat → Prop) (cs0 : List Go.Frame) (p : CPat) (J : denC p → Option (denL r_slices_Max_uint64)) := JSound m_slices_Max_uint64 base S0 cs0 (Post r_slices_Max_uint64 S0) p J
abbrev O_slices_Max_uint64 (base : Base) (S0 : Nat → Prop) (cs0 : List Go.Frame) (X : Cfg → Option (Option (denL r_slices_Max_uint64))) := OSound m_slices_Max_uint64 base S0 cs0 (Post r_slices_Max_uint64 S0) X
@[reducible] noncomputable def p_slices_Max_uint64_0 : CPat := ⟨⟨61, [1, 1, 1, 0, 1, 0], none, [.rows (.int .u64) false, .any, .any, .int .u64, .int .i64], 20⟩, [], [], 0⟩
@[reducible] noncomputable def u_slices_Max_uint64_0 (k : (List Int) → Int → Int → Option (Int × Unit)) : denC p_slices_Max_uint64_0 → Option (Int × Unit) := fun x => k x.1.1 x.1.2.2.2.1 x.1.2.2.2.2.1
noncomputable def t_slices_Max_uint64_0 (k0 : (List Int) → Int → Int → Option (Int × Unit)) (l11 : (List Int)) (i12 : Int) (i13 : Int) : Option (Int × Unit) :=
 let n14 : Int := (((List.length l11) : Nat) : Int)
 let b15 : Bool := (decide (i13 < n14))
 bif b15 then
  bif (decide (((0 : Int) ≤ i13) ∧ (i13 < (((List.length l11) : Nat) : Int)))) then
   let x16 : Int := (List.getD l11 (Int.toNat i13) (0 : Int))
   let n17 : Int := (if (x16 > i12) then x16 else i12)
   let n18 : Int := (Go.IntKind.wrap Go.IntKind.i64 (i13 + (1 : Int)))
   k0 l11 n17 n18
  else none
 else
  some (i12, ())
noncomputable def slices_Max_uint64_0 : Nat → (List Int) → Int → Int → Option (Int × Unit)
 | 0 => fun _ _ _ => none
 | m + 1 => t_slices_Max_uint64_0 (slices_Max_uint64_0 m)
noncomputable def b_slices_Max_uint64_0' (l11 : (List Int)) (i12 : Int) (i13 : Int) : Option (Int × Unit) := slices_Max_uint64_0 (Int.toNat ((((List.length l11) : Nat) : Int) - i13) + 2) l11 i12 i13
theorem ex_slices_Max_uint64_0' : ∃ f, f = @b_slices_Max_uint64_0' := ⟨_, rfl⟩
noncomputable def slices_Max_uint64_0' := Classical.choose ex_slices_Max_uint64_0'
theorem slices_Max_uint64_0'_eq : @slices_Max_uint64_0' = @b_slices_Max_uint64_0' := Classical.choose_spec ex_slices_Max_uint64_0'
theorem s_slices_Max_uint64_0 {base S0 cs0} (hfin : H_slices_Max_uint64 base S0) : ∀ m, J_slices_Max_uint64 base S0 cs0 p_slices_Max_uint64_0 (u_slices_Max_uint64_0 (slices_Max_uint64_0 m)) :=
 JSound.loop' hfin.2 ks_slices_Max_uint64 100000 u_slices_Max_uint64_0 (fun k0 => cut p_slices_Max_uint64_0 (u_slices_Max_uint64_0 k0) (nowhere)) (fun k0 h0 => OSound.cut (OSound.nowhere) (Nat.le_of_eq hfin.1) h0) (slices_Max_uint64_0) (by intro x; rfl) (by intro m x; kernel_rfl)
theorem s_slices_Max_uint64_0' {base S0 cs0} (hfin : H_slices_Max_uint64 base S0) : J_slices_Max_uint64 base S0 cs0 p_slices_Max_uint64_0 (u_slices_Max_uint64_0 (slices_Max_uint64_0')) := by
 rw [slices_Max_uint64_0'_eq]; exact fun x r hx => s_slices_Max_uint64_0 hfin _ x r hx
noncomputable def x_slices_Max_uint64_0 : Cfg → Option (Option (Int × Unit)) := cut p_slices_Max_uint64_0 (u_slices_Max_uint64_0 (slices_Max_uint64_0')) (nowhere)
theorem o_slices_Max_uint64_0 {base S0 cs0} (hfin : H_slices_Max_uint64 base S0) : O_slices_Max_uint64 base S0 cs0 (x_slices_Max_uint64_0) := OSound.cut (OSound.nowhere) (Nat.le_of_eq hfin.1) (s_slices_Max_uint64_0' hfin)
noncomputable def b_slices_Max_uint64 (a0 : (List Int)) : Option (Int × Unit) :=
 let n1 : Int := (((List.length a0) : Nat) : Int)
 let b2 : Bool := (decide (n1 < (1 : Int)))
 bif b2 then
  let s3 : ByteArray := (ByteArray.mk (List.toArray ((115 : UInt8) :: ((108 : UInt8) :: ((105 : UInt8) :: ((99 : UInt8) :: ((101 : UInt8) :: ((115 : UInt8) :: ((46 : UInt8) :: ((77 : UInt8) :: ((97 : UInt8) :: ((120 : UInt8) :: ((58 : UInt8) :: ((32 : UInt8) :: ((101 : UInt8) :: ((109 : UInt8) :: ((112 : UInt8) :: ((116 : UInt8) :: ((121 : UInt8) :: ((32 : UInt8) :: ((108 : UInt8) :: ((105 : UInt8) :: ((115 : UInt8) :: ((116 : UInt8) :: ([] : List UInt8)))))))))))))))))))))))))
  none
 else
  bif (decide (((0 : Int) ≤ (0 : Int)) ∧ ((0 : Int) < (((List.length a0) : Nat) : Int)))) then
   let x4 : Int := (List.getD a0 0 (0 : Int))
   slices_Max_uint64_0' a0 x4 (1 : Int)
  else none
theorem ex_slices_Max_uint64 : ∃ f, f = @b_slices_Max_uint64 := ⟨_, rfl⟩
noncomputable def slices_Max_uint64 := Classical.choose ex_slices_Max_uint64
theorem slices_Max_uint64_eq : @slices_Max_uint64 = @b_slices_Max_uint64 := Classical.choose_spec ex_slices_Max_uint64
noncomputable def cb_slices_Max_uint64 : Con := ⟨[(.slice (.int .u64))], r_slices_Max_uint64, fun x => b_slices_Max_uint64 x.1⟩
noncomputable def c_slices_Max_uint64 : Con := ⟨[(.slice (.int .u64))], r_slices_Max_uint64, fun x => slices_Max_uint64 x.1⟩
theorem cb_slices_Max_uint64_ok : cb_slices_Max_uint64.Sound prog Inv gInv 61 :=
 con_run (M := m_slices_Max_uint64) inv_g (f := f61) rfl ks_slices_Max_uint64 100000 (X := x_slices_Max_uint64_0) (fun base S0 cs0 hn hf => have hfin : H_slices_Max_uint64 base S0 := ⟨hn, hf⟩; o_slices_Max_uint64_0 hfin) (by intro x; kernel_rfl)
theorem c_slices_Max_uint64_ok : c_slices_Max_uint64.Sound prog Inv gInv 61 := by
 have e : c_slices_Max_uint64 = cb_slices_Max_uint64 := by unfold c_slices_Max_uint64 cb_slices_Max_uint64; rw [slices_Max_uint64_eq]
 rw [e]; exact cb_slices_Max_uint64_ok
noncomputable def m_ranges_Range_empty : Mach prog Inv gInv := mach bas [(73, f73)] ⟨ok73, trivial⟩ [] trivial [] trivial [] trivial
/-! ### (domino/ranges.Range).empty -/
@[reducible] def r_ranges_Range_empty : List Ty := [.bool]
def ks_ranges_Range_empty : List Nat := [73]
noncomputable def b_ranges_Range_empty (a0 : D_ranges_Range) : Option (Bool × Unit) :=
 let b1 : Bool := (decide (a0.2.1 < a0.1))
 some (b1, ())
theorem ex_ranges_Range_empty : ∃ f, f = @b_ranges_Range_empty := ⟨_, rfl⟩
noncomputable def ranges_Range_empty := Classical.choose ex_ranges_Range_empty
theorem ranges_Range_empty_eq : @ranges_Range_empty = @b_ranges_Range_empty := Classical.choose_spec ex_ranges_Range_empty
noncomputable def cb_ranges_Range_empty : Con := ⟨[T_ranges_Range], r_ranges_Range_empty, fun x => b_ranges_Range_empty x.1⟩
noncomputable def c_ranges_Range_empty : Con := ⟨[T_ranges_Range], r_ranges_Range_empty, fun x => ranges_Range_empty x.1⟩
theorem cb_ranges_Range_empty_ok : cb_ranges_Range_empty.Sound prog Inv gInv 73 :=
 con_run (M := m_ranges_Range_empty) inv_g (f := f73) rfl ks_ranges_Range_empty 100000 (X := nowhere) (fun base S0 cs0 hn hf => OSound.nowhere) (by intro x; kernel_rfl)
theorem c_ranges_Range_empty_ok : c_ranges_Range_empty.Sound prog Inv gInv 73 := by
 have e : c_ranges_Range_empty = cb_ranges_Range_empty := by unfold c_ranges_Range_empty cb_ranges_Range_empty; rw [ranges_Range_empty_eq]
 rw [e]; exact cb_ranges_Range_empty_ok
noncomputable def m_ranges_May : Mach prog Inv gInv := mach bas [(62, f62)] ⟨ok62, trivial⟩ [(73, c_ranges_Range_empty)] ⟨⟨c_ranges_Range_empty_ok, FnOk.callable ok73⟩, trivial⟩ [] trivial [] trivial
/-! ### domino/ranges.May -/
@[reducible] def r_ranges_May : List Ty := [.bool]
def ks_ranges_May : List Nat := [62]
abbrev H_ranges_May (base : Base) (S0 : Nat → Prop) := base.n = 0 ∧ FinOk (finR r_ranges_May) base S0 (Post r_ranges_May S0)
abbrev J_ranges_May (base : Base) (S0 : Nat → Prop) (cs0 : List Go.Frame) (p : CPat) (J : denC p → Option (denL r_ranges_May)) := JSound m_ranges_May base S0 cs0 (Post r_ranges_May S0) p J
abbrev O_ranges_May (base : Base) (S0 : Nat → Prop) (cs0 : List Go.Frame) (X : Cfg → Option (Option (denL r_ranges_May))) := OSound m_ranges_May base S0 cs0 (Post r_ranges_May S0) X
@[reducible] noncomputable def p_ranges_May_0 : CPat := ⟨⟨62, [1, 1, 0, 1, 0], none, [.any, .any, .any, .int .u64, .any, .any, .rows T_ranges_Range false, .int .i64, .int .i64], 20⟩, [], [], 0⟩
@[reducible] noncomputable def u_ranges_May_0 (k : Int → (List D_ranges_Range) → Int → Int → Option (Bool × Unit)) : denC p_ranges_May_0 → Option (Bool × Unit) := fun x => k x.1.2.2.2.1 x.1.2.2.2.2.2.2.1 x.1.2.2.2.2.2.2.2.1 x.1.2.2.2.2.2.2.2.2.1
noncomputable def t_ranges_May_0 (k0 : Int → (List D_ranges_Range) → Int → Int → Option (Bool × Unit)) (i10 : Int) (l11 : (List D_ranges_Range)) (i12 : Int) (i13 : Int) : Option (Bool × Unit) :=
 let b14 : Bool := (decide (i13 < i12))
 bif b14 then
  bif (decide (((0 : Int) ≤ i13) ∧ (i13 < (((List.length l11) : Nat) : Int)))) then
   let x15 : D_ranges_Range := (List.getD l11 (Int.toNat i13) (Ty.dflt T_ranges_Range))
   obind (ranges_Range_empty x15) fun y16 =>
   bif y16.1 then
    some (false, ())
   else
    let b17 : Bool := (decide (x15.2.1 ≥ (9223372036854775808 : Int)))
    bif b17 then
     some (false, ())
    else
     let b18 : Bool := (decide (x15.1 < i10))
     bif b18 then
      some (false, ())
     else
      let n19 : Int := (Go.IntKind.wrap Go.IntKind.u64 (x15.2.1 + (2 : Int)))
      let n20 : Int := (Go.IntKind.wrap Go.IntKind.i64 (i13 + (1 : Int)))
      k0 n19 l11 i12 n20
  else none
 else
  some (true, ())
noncomputable def ranges_May_0 : Nat → Int → (List D_ranges_Range) → Int → Int → Option (Bool × Unit)
 | 0 => fun _ _ _ _ => none
 | m + 1 => t_ranges_May_0 (ranges_May_0 m)
noncomputable def b_ranges_May_0' (i10 : Int) (l11 : (List D_ranges_Range)) (i12 : Int) (i13 : Int) : Option (Bool × Unit) := ranges_May_0 (Int.toNat (i12 - i13) + 2) i10 l11 i12 i13
theorem ex_ranges_May_0' : ∃ f, f = @b_ranges_May_0' := ⟨_, rfl⟩
noncomputable def ranges_May_0' := Classical.choose ex_ranges_May_0'
theorem ranges_May_0'_eq : @ranges_May_0' = @b_ranges_May_0' := Classical.choose_spec ex_ranges_May_0'
theorem s_ranges_May_0 {base S0 cs0} (hfin : H_ranges_May base S0) : ∀ m, J_ranges_May base S0 cs0 p_ranges_May_0 (u_ranges_May_0 (ranges_May_0 m)) :=
 JSound.loop' hfin.2 ks_ranges_May 100000 u_ranges_May_0 (fun k0 => cut p_ranges_May_0 (u_ranges_May_0 k0) (nowhere)) (fun k0 h0 => OSound.cut (OSound.nowhere) (Nat.le_of_eq hfin.1) h0) (ranges_May_0) (by intro x; rfl) (by intro m x; kernel_rfl)
theorem s_ranges_May_0' {base S0 cs0} (hfin : H_ranges_May base S0) : J_ranges_May base S0 cs0 p_ranges_May_0 (u_ranges_May_0 (ranges_May_0')) := by
 rw [ranges_May_0'_eq]; exact fun x r hx => s_ranges_May_0 hfin _ x r hx
noncomputable def x_ranges_May_0 : Cfg → Option (Option (Bool × Unit)) := cut p_ranges_May_0 (u_ranges_May_0 (ranges_May_0')) (nowhere)
theorem o_ranges_May_0 {base S0 cs0} (hfin : H_ranges_May base S0) : O_ranges_May base S0 cs0 (x_ranges_May_0) := OSound.cut (OSound.nowhere) (Nat.le_of_eq hfin.1) (s_ranges_May_0' hfin)
noncomputable def b_ranges_May (a0 : (List D_ranges_Range)) : Option (Bool × Unit) :=
 let n1 : Int := (((List.length a0) : Nat) : Int)
 ranges_May_0' (0 : Int) a0 n1 (0 : Int)
theorem ex_ranges_May : ∃ f, f = @b_ranges_May := ⟨_, rfl⟩
noncomputable def ranges_May := Classical.choose ex_ranges_May
theorem ranges_May_eq : @ranges_May = @b_ranges_May := Classical.choose_spec ex_ranges_May
noncomputable def cb_ranges_May : Con := ⟨[(.slice T_ranges_Range)], r_ranges_May, fun x => b_ranges_May x.1⟩
noncomputable def c_ranges_May : Con := ⟨[(.slice T_ranges_Range)], r_ranges_May, fun x => ranges_May x.1⟩
theorem cb_ranges_May_ok : cb_ranges_May.Sound prog Inv gInv 62 :=
 con_run (M := m_ranges_May) inv_g (f := f62) rfl ks_ranges_May 100000 (X := x_ranges_May_0) (fun base S0 cs0 hn hf => have hfin : H_ranges_May base S0 := ⟨hn, hf⟩; o_ranges_May_0 hfin) (by intro x; kernel_rfl)
theorem c_ranges_May_ok : c_ranges_May.Sound prog Inv gInv 62 := by
 have e : c_ranges_May = cb_ranges_May := by unfold c_ranges_May cb_ranges_May; rw [ranges_May_eq]
 rw [e]; exact cb_ranges_May_ok
noncomputable def m_frame_May : Mach prog Inv gInv := mach bas [(51, f51)] ⟨ok51, trivial⟩ [(59, c_frame_Frame_only), (60, c_frame_Same), (61, c_slices_Max_uint64), (62, c_ranges_May)] ⟨⟨c_frame_Frame_only_ok, FnOk.callable ok59⟩, ⟨c_frame_Same_ok, FnOk.callable ok60⟩, ⟨c_slices_Max_uint64_ok, FnOk.callable ok61⟩, ⟨c_ranges_May_ok, FnOk.callable ok62⟩, trivial⟩ [] trivial [] trivial
/-! ### domino/frame.May -/
@[reducible] def r_frame_May : List Ty := [.bool]
def ks_frame_May : List Nat := [51]
abbrev H_frame_May (base : Base) (S0 : Nat → Prop) := base.n = 0 ∧ FinOk (finR r_frame_May) base S0 (Post r_frame_May S0)
abbrev J_frame_May (base : Base) (S0 : Nat → Prop) (cs0 : List Go.Frame) (p : CPat) (J : denC p → Option (denL r_frame_May)) := JSound m_frame_May base S0 cs0 (Post r_frame_May S0) p J
abbrev O_frame_May (base : Base) (S0 : Nat → Prop) (cs0 : List Go.Frame) (X : Cfg → Option (Option (denL r_frame_May))) := OSound m_frame_May base S0 cs0 (Post r_frame_May S0) X
@[reducible] noncomputable def p_frame_May_2 : CPat := ⟨⟨51, [1, 1, 1, 0, 1, 1, 0, 1, 1, 1, 1, 1, 1, 1, 1, 1], none, [.any, .ptr 0 0, .any, .any, .any, .any, .any, .any, .any, .any, .any, .any, .any, .any, .any, .any, .any, .any, .any, .any, .any, .any, .any, .any, .any, .any, .any, .any, .any, .any, .any, .any, .any, .any, .any, .any, .any, .any, .any, .any, .any, .any, .any, .any, .any, .any, .any, .any, .any, .any, .any, .any, .any, .any, .any, .any, .any, .any, .any, .any, .any, .any, .any, .any, .any, .any, .any, .any, .any, .any, .any, .any, .any, .any, .any, .any, .any, .any, .any, .any, .any, .any, .any, .any, .any, .any, .any, .any, .any, .any, .any, .any, .any, .any, .any, .any, .any, .any, .any, .any, .any, .any, .any, .any, .any, .any, .any, .any, .any, .bool], 7⟩, [], [.dat 36 T_frame_Frame], 0⟩
@[reducible] noncomputable def u_frame_May_2 (k : Bool → D_frame_Frame → Option (Bool × Unit)) : denC p_frame_May_2 → Option (Bool × Unit) := fun x => k x.1.2.2.2.2.2.2.2.2.2.2.2.2.2.2.2.2.2.2.2.2.2.2.2.2.2.2.2.2.2.2.2.2.2.2.2.2.2.2.2.2.2.2.2.2.2.2.2.2.2.2.2.2.2.2.2.2.2.2.2.2.2.2.2.2.2.2.2.2.2.2.2.2.2.2.2.2.2.2.2.2.2.2.2.2.2.2.2.2.2.2.2.2.2.2.2.2.2.2.2.2.2.2.2.2.2.2.2.2.2.1 x.2.2.1
noncomputable def b_frame_May_2 (b44 : Bool) (d45 : D_frame_Frame) : Option (Bool × Unit) :=
 bif b44 then
  let b46 : Bool := (decide (d45.2.2.2.1 ≤ (1152921504606846976 : Int)))
  some (b46, ())
 else
  some (true, ())
theorem ex_frame_May_2 : ∃ f, f = @b_frame_May_2 := ⟨_, rfl⟩
noncomputable def frame_May_2 := Classical.choose ex_frame_May_2
theorem frame_May_2_eq : @frame_May_2 = @b_frame_May_2 := Classical.choose_spec ex_frame_May_2
theorem s_frame_May_2 {base S0 cs0} (hfin : H_frame_May base S0) : J_frame_May base S0 cs0 p_frame_May_2 (u_frame_May_2 (frame_May_2)) :=
 JSound.join hfin.2 (OSound.nowhere) ks_frame_May 100000 (by rw [frame_May_2_eq]; intro x; kernel_rfl)
noncomputable def x_frame_May_2 : Cfg → Option (Option (Bool × Unit)) := cut p_frame_May_2 (u_frame_May_2 (frame_May_2)) (nowhere)
theorem o_frame_May_2 {base S0 cs0} (hfin : H_frame_May base S0) : O_frame_May base S0 cs0 (x_frame_May_2) := OSound.cut (OSound.nowhere) (Nat.le_of_eq hfin.1) (s_frame_May_2 hfin)
@[reducible] noncomputable def p_frame_May_1 : CPat := ⟨⟨51, [1, 1, 1, 0, 1, 1, 0, 1, 1, 1, 1, 1, 1, 1], none, [.any, .ptr 0 0, .any, .any, .any, .any, .any, .any, .any, .any, .any, .any, .any, .any, .any, .any, .any, .any, .any, .any, .any, .any, .any, .any, .any, .any, .any, .any, .any, .any, .any, .any, .any, .any, .any, .any, .any, .any, .any, .any, .any, .any, .any, .any, .any, .any, .any, .any, .int .u64, .any, .any, .any, .any, .any, .any, .any, .any, .any, .any, .any, .any, .any, .any, .any, .any, .any, .any, .any, .any, .any, .any, .any, .any, .any, .any, .any, .any, .any, .any, .any, .any, .any, .any, .any, .any, .any, .any, .any, .any, .any, .any, .any, .any, .any, .any, .any, .any, .any, .any, .any, .any, .any, .bool], 14⟩, [], [.dat 36 T_frame_Frame], 0⟩
@[reducible] noncomputable def u_frame_May_1 (k : Int → Bool → D_frame_Frame → Option (Bool × Unit)) : denC p_frame_May_1 → Option (Bool × Unit) := fun x => k x.1.2.2.2.2.2.2.2.2.2.2.2.2.2.2.2.2.2.2.2.2.2.2.2.2.2.2.2.2.2.2.2.2.2.2.2.2.2.2.2.2.2.2.2.2.2.2.2.2.1 x.1.2.2.2.2.2.2.2.2.2.2.2.2.2.2.2.2.2.2.2.2.2.2.2.2.2.2.2.2.2.2.2.2.2.2.2.2.2.2.2.2.2.2.2.2.2.2.2.2.2.2.2.2.2.2.2.2.2.2.2.2.2.2.2.2.2.2.2.2.2.2.2.2.2.2.2.2.2.2.2.2.2.2.2.2.2.2.2.2.2.2.2.2.2.2.2.2.2.2.2.2.2.2.1 x.2.2.1
noncomputable def b_frame_May_1 (i35 : Int) (b36 : Bool) (d37 : D_frame_Frame) : Option (Bool × Unit) :=
 bif b36 then
  let n38 : Int := (((ByteArray.size d37.2.2.2.2.2.2.2.2.2.2.2.1) : Nat) : Int)
  let b39 : Bool := (n38 == (8 : Int))
  some (b39, ())
 else
  let b40 : Bool := (i35 == (18 : Int))
  bif b40 then
   frame_May_2 true d37
  else
   let b41 : Bool := (i35 == (19 : Int))
   bif b41 then
    frame_May_2 true d37
   else
    let b42 : Bool := (i35 == (22 : Int))
    bif b42 then
     frame_May_2 true d37
    else
     let b43 : Bool := (i35 == (23 : Int))
     frame_May_2 b43 d37
theorem ex_frame_May_1 : ∃ f, f = @b_frame_May_1 := ⟨_, rfl⟩
noncomputable def frame_May_1 := Classical.choose ex_frame_May_1
theorem frame_May_1_eq : @frame_May_1 = @b_frame_May_1 := Classical.choose_spec ex_frame_May_1
theorem s_frame_May_1 {base S0 cs0} (hfin : H_frame_May base S0) : J_frame_May base S0 cs0 p_frame_May_1 (u_frame_May_1 (frame_May_1)) :=
 JSound.join hfin.2 (o_frame_May_2 hfin) ks_frame_May 100000 (by rw [frame_May_1_eq]; intro x; kernel_rfl)
noncomputable def x_frame_May_1 : Cfg → Option (Option (Bool × Unit)) := cut p_frame_May_1 (u_frame_May_1 (frame_May_1)) (x_frame_May_2)
theorem o_frame_May_1 {base S0 cs0} (hfin : H_frame_May base S0) : O_frame_May base S0 cs0 (x_frame_May_1) := OSound.cut (o_frame_May_2 hfin) (Nat.le_of_eq hfin.1) (s_frame_May_1 hfin)
@[reducible] noncomputable def p_frame_May_0 : CPat := ⟨⟨51, [1, 1, 1, 0, 1, 1, 0, 1, 1, 1], none, [.any, .ptr 0 0, .any, .any, .any, .any, .any, .any, .any, .any, .any, .any, .any, .any, .any, .any, .any, .any, .any, .any, .any, .any, .any, .any, .any, .any, .any, .any, .any, .any, .any, .any, .any, .any, .any, .any, .any, .any, .any, .any, .any, .any, .any, .any, .any, .any, .any, .any, .int .u64, .any, .any, .any, .any, .any, .any, .any, .any, .any, .any, .any, .any, .any, .any, .any, .any, .any, .any, .any, .any, .any, .any, .any, .bool], 44⟩, [], [.dat 36 T_frame_Frame], 0⟩
@[reducible] noncomputable def u_frame_May_0 (k : Int → Bool → D_frame_Frame → Option (Bool × Unit)) : denC p_frame_May_0 → Option (Bool × Unit) := fun x => k x.1.2.2.2.2.2.2.2.2.2.2.2.2.2.2.2.2.2.2.2.2.2.2.2.2.2.2.2.2.2.2.2.2.2.2.2.2.2.2.2.2.2.2.2.2.2.2.2.2.1 x.1.2.2.2.2.2.2.2.2.2.2.2.2.2.2.2.2.2.2.2.2.2.2.2.2.2.2.2.2.2.2.2.2.2.2.2.2.2.2.2.2.2.2.2.2.2.2.2.2.2.2.2.2.2.2.2.2.2.2.2.2.2.2.2.2.2.2.2.2.2.2.2.2.1 x.2.2.1
noncomputable def b_frame_May_0 (i20 : Int) (b21 : Bool) (d22 : D_frame_Frame) : Option (Bool × Unit) :=
 bif b21 then
  let n23 : Int := (((ByteArray.size d22.2.2.2.2.2.2.2.2.2.1) : Nat) : Int)
  let n24 : Int := (Go.IntKind.wrap Go.IntKind.u64 n23)
  let n25 : Int := (Go.IntKind.wrap Go.IntKind.u64 (d22.2.2.1 + n24))
  let b26 : Bool := (decide (n25 ≤ (4611686018427387903 : Int)))
  some (b26, ())
 else
  let b27 : Bool := (i20 == (24 : Int))
  bif b27 then
   let b28 : Bool := (decide (d22.2.2.2.2.2.2.1 ≤ d22.2.2.2.2.2.1))
   bif b28 then
    let n29 : Int := (((ByteArray.size d22.2.2.2.2.2.2.2.2.2.2.1) : Nat) : Int)
    let b30 : Bool := (n29 == (8 : Int))
    bif b30 then
     let n31 : Int := (((ByteArray.size d22.2.2.2.2.2.2.2.2.2.2.2.1) : Nat) : Int)
     let b32 : Bool := (n31 == (16 : Int))
     some (b32, ())
    else
     some (false, ())
   else
    some (false, ())
  else
   let b33 : Bool := (i20 == (26 : Int))
   bif b33 then
    frame_May_1 i20 true d22
   else
    let b34 : Bool := (i20 == (27 : Int))
    frame_May_1 i20 b34 d22
theorem ex_frame_May_0 : ∃ f, f = @b_frame_May_0 := ⟨_, rfl⟩
noncomputable def frame_May_0 := Classical.choose ex_frame_May_0
theorem frame_May_0_eq : @frame_May_0 = @b_frame_May_0 := Classical.choose_spec ex_frame_May_0
theorem s_frame_May_0 {base S0 cs0} (hfin : H_frame_May base S0) : J_frame_May base S0 cs0 p_frame_May_0 (u_frame_May_0 (frame_May_0)) :=
 JSound.join hfin.2 (o_frame_May_1 hfin) ks_frame_May 100000 (by rw [frame_May_0_eq]; intro x; kernel_rfl)
noncomputable def x_frame_May_0 : Cfg → Option (Option (Bool × Unit)) := cut p_frame_May_0 (u_frame_May_0 (frame_May_0)) (x_frame_May_1)
theorem o_frame_May_0 {base S0 cs0} (hfin : H_frame_May base S0) : O_frame_May base S0 cs0 (x_frame_May_0) := OSound.cut (o_frame_May_1 hfin) (Nat.le_of_eq hfin.1) (s_frame_May_0 hfin)
noncomputable def b_frame_May (a0 : D_frame_Frame) : Option (Bool × Unit) :=
 obind (frame_Frame_only a0) fun y1 =>
 let s2 : ByteArray := (ByteArray.mk (List.toArray ([] : List UInt8)))
 let b3 : Bool := (!y1.2.1)
 bif b3 then
  some (false, ())
 else
  obind (frame_Same a0 y1.1) fun y4 =>
  let b5 : Bool := (!y4.1)
  bif b5 then
   some (false, ())
  else
   obind (slices_Max_uint64 (a0.2.1 :: (a0.2.2.1 :: (a0.2.2.2.1 :: (a0.2.2.2.2.1 :: (a0.2.2.2.2.2.1 :: (a0.2.2.2.2.2.2.1 :: (a0.2.2.2.2.2.2.2.1 :: ([] : List Int))))))))) fun y6 =>
   let b7 : Bool := (decide (y6.1 > (4611686018427387903 : Int)))
   bif b7 then
    some (false, ())
   else
    let n8 : Int := (((ByteArray.size a0.2.2.2.2.2.2.2.2.2.1) : Nat) : Int)
    let b9 : Bool := (decide (n8 > (1200 : Int)))
    bif b9 then
     some (false, ())
    else
     let n10 : Int := (((List.length a0.2.2.2.2.2.2.2.2.2.2.2.2.1) : Nat) : Int)
     let b11 : Bool := (a0.1 == (2 : Int))
     bif b11 then
      obind (ranges_May a0.2.2.2.2.2.2.2.2.2.2.2.2.1) fun y12 =>
      bif y12.1 then
       let b13 : Bool := (decide (n10 > (0 : Int)))
       bif b13 then
        let b14 : Bool := (decide (n10 ≤ (32 : Int)))
        bif b14 then
         let n15 : Int := (Go.IntKind.wrap Go.IntKind.i64 (n10 - (1 : Int)))
         bif (decide (((0 : Int) ≤ n15) ∧ (n15 < (((List.length a0.2.2.2.2.2.2.2.2.2.2.2.2.1) : Nat) : Int)))) then
          let x16 : D_ranges_Range := (List.getD a0.2.2.2.2.2.2.2.2.2.2.2.2.1 (Int.toNat n15) (Ty.dflt T_ranges_Range))
          let b17 : Bool := (decide (x16.2.1 ≤ (4611686018427387903 : Int)))
          some (b17, ())
         else none
        else
         some (false, ())
       else
        some (false, ())
      else
       some (false, ())
     else
      let b18 : Bool := (a0.1 == (6 : Int))
      bif b18 then
       frame_May_0 a0.1 true a0
      else
       let b19 : Bool := (a0.1 == (8 : Int))
       frame_May_0 a0.1 b19 a0
theorem ex_frame_May : ∃ f, f = @b_frame_May := ⟨_, rfl⟩
noncomputable def frame_May := Classical.choose ex_frame_May
theorem frame_May_eq : @frame_May = @b_frame_May := Classical.choose_spec ex_frame_May
noncomputable def cb_frame_May : Con := ⟨[T_frame_Frame], r_frame_May, fun x => b_frame_May x.1⟩
noncomputable def c_frame_May : Con := ⟨[T_frame_Frame], r_frame_May, fun x => frame_May x.1⟩
theorem cb_frame_May_ok : cb_frame_May.Sound prog Inv gInv 51 :=
 con_run (M := m_frame_May) inv_g (f := f51) rfl ks_frame_May 100000 (X := x_frame_May_0) (fun base S0 cs0 hn hf => have hfin : H_frame_May base S0 := ⟨hn, hf⟩; o_frame_May_0 hfin) (by intro x; kernel_rfl)
theorem c_frame_May_ok : c_frame_May.Sound prog Inv gInv 51 := by
 have e : c_frame_May = cb_frame_May := by unfold c_frame_May cb_frame_May; rw [frame_May_eq]
 rw [e]; exact cb_frame_May_ok
end Go.Proofs.YtjlfmolfcgennaaDoor.V
namespace Go.Proofs.YtjlfmolfcgennaaDoor.V
open Go.RowKit
theorem equal_loop : ∀ (s1 s2 p1 p2 : List D_ranges_Range) (m : Nat), s1.length < m → p1.length = p2.length → s1.length = s2.length → (p1 ++ s1).length ≤ 9223372036854775807 →
  slices_Equal_ranges_Range_0 m (p1 ++ s1) (p2 ++ s2) (((p1 ++ s1).length : Nat) : Int) ((p1.length : Nat) : Int) = some (decide (s1 = s2), ()) := by
 intro s1
 induction s1 with
 | nil =>
  intro s2 p1 p2 m hm _ h2 _
  obtain ⟨m, rfl⟩ : ∃ k, m = k + 1 := ⟨m - 1, by omega⟩
  obtain rfl : s2 = [] := List.eq_nil_of_length_eq_zero (by simpa using h2.symm)
  simp only [slices_Equal_ranges_Range_0, t_slices_Equal_ranges_Range_0, mid_end, decide_false, cond_false, decide_true]
 | cons x s1 ih =>
  intro s2 p1 p2 m hm h1 h2 hl
  obtain ⟨m, rfl⟩ : ∃ k, m = k + 1 := ⟨m - 1, by omega⟩
  obtain ⟨y, s2, rfl⟩ : ∃ y t, s2 = y :: t := by
   cases s2 with
   | nil => simp at h2
   | cons y t => exact ⟨y, t, rfl⟩
  have e : ((p1.length : Nat) : Int) = ((p2.length : Nat) : Int) := by rw [h1]
  have g2 : ((p1.length : Nat) : Int) < (((p2 ++ y :: s2).length : Nat) : Int) := by rw [h1]; simp; omega
  have g3 : (p2 ++ y :: s2).getD p1.length (Ty.dflt T_ranges_Range) = y := by rw [h1, getD_mid]
  simp only [slices_Equal_ranges_Range_0, t_slices_Equal_ranges_Range_0, mid_lt, nn, and_true, decide_true, cond_true, toNat_len, getD_mid, g2, g3]
  obtain ⟨a, b, ⟨⟩⟩ := x
  obtain ⟨c, d, ⟨⟩⟩ := y
  by_cases hx : a = c ∧ b = d
  ·
   obtain ⟨rfl, rfl⟩ := hx
   simp only [beq_self_eq_true, Bool.and_self, Bool.not_true, cond_false]
   rw [mid_next' p1 (a, b, ()) (a, b, ()) s1 hl, snoc_app p1, snoc_app p2, ih s2 (p1 ++ [(a, b, ())]) (p2 ++ [(a, b, ())]) m (by simp at hm; omega) (by simp [h1]) (by simpa using h2) (by simpa using hl)]
   simp
  ·
   have : ((a == c) && ((b == d) && true)) = false := by
    simp only [Bool.and_true, Bool.and_eq_false_iff, beq_eq_false_iff_ne]
    by_cases e : a = c
    · exact .inr fun e2 => hx ⟨e, e2⟩
    · exact .inl e
   simp only [this, Bool.not_false, cond_true]
   rw [decide_eq_false]
   intro e
   simp only [List.cons.injEq, Prod.mk.injEq, and_true] at e
   exact hx e.1
theorem equal_is (a b : List D_ranges_Range) (ha : a.length ≤ 9223372036854775807) : slices_Equal_ranges_Range a b = some (decide (a = b), ()) := by
 rw [slices_Equal_ranges_Range_eq, b_slices_Equal_ranges_Range]
 by_cases h : a.length = b.length
 ·
  have : (((a.length : Nat) : Int) != ((b.length : Nat) : Int)) = false := by rw [h]; simp
  simp only [this, cond_false]
  rw [slices_Equal_ranges_Range_0'_eq, b_slices_Equal_ranges_Range_0']
  exact equal_loop a b [] [] _ (by simp) rfl h (by simp; omega)
 ·
  have : (((a.length : Nat) : Int) != ((b.length : Nat) : Int)) = true := by simp; omega
  simp only [this, cond_true]
  rw [decide_eq_false (fun e => h (by rw [e]))]
theorem three (a b c : Bool) : (bif a then bif b then (some (c, ()) : Option (Bool × Unit)) else some (false, ()) else some (false, ())) = some (a && b && c, ()) := by
 cases a <;> cases b <;> rfl
theorem same_is (f g : D_frame_Frame) (hf : f.2.2.2.2.2.2.2.2.2.2.2.2.1.length ≤ 9223372036854775807) : frame_Same f g = some (decide (f = g), ()) := by
 rw [frame_Same_eq, b_frame_Same, equal_is _ _ hf]
 simp only [obind_some, frame_Same_l1_eq, b_frame_Same_l1, toList_beq]
 obtain ⟨a1, a2, a3, a4, a5, a6, a7, a8, a9, a10, a11, a12, a13, ⟨⟩⟩ := f
 obtain ⟨b1, b2, b3, b4, b5, b6, b7, b8, b9, b10, b11, b12, b13, ⟨⟩⟩ := g
 simp only [Prod.mk.injEq, and_true]
 have e : ∀ x y : Int, (x == y) = decide (x = y) := fun x y => by by_cases h : x = y <;> simp [h]
 have e2 : ∀ x y : Bool, (x == y) = decide (x = y) := fun x y => by cases x <;> cases y <;> rfl
 simp only [e, e2, Bool.and_true]
 by_cases h13 : a13 = b13
 ·
  simp only [h13, decide_true, Bool.not_true, cond_false, and_true]
  by_cases h1 : a1 = b1 ∧ a2 = b2 ∧ a3 = b3 ∧ a4 = b4 ∧ a5 = b5 ∧ a6 = b6 ∧ a7 = b7 ∧ a8 = b8
  ·
   obtain ⟨rfl, rfl, rfl, rfl, rfl, rfl, rfl, rfl⟩ := h1
   simp only [decide_true, Bool.and_self, cond_true, true_and]
   by_cases h9 : a9 = b9
   ·
    by_cases h10 : a10 = b10
    ·
     by_cases h11 : a11 = b11
     · simp only [h9, h10, h11, decide_true, cond_true, true_and]
     · simp only [h9, h10, h11, decide_true, decide_false, cond_true, cond_false, true_and, false_and]
    · simp only [h9, h10, decide_true, decide_false, cond_true, cond_false, true_and, false_and]
   · simp only [h9, decide_false, cond_false, false_and]
  ·
   have : (decide (a1 = b1) && (decide (a2 = b2) && (decide (a3 = b3) && (decide (a4 = b4) && (decide (a5 = b5) && (decide (a6 = b6) && (decide (a7 = b7) && decide (a8 = b8)))))))) = false := by
    rw [Bool.eq_false_iff]
    intro h
    simp only [Bool.and_eq_true, decide_eq_true_eq] at h
    exact h1 h
   simp only [this, cond_false]
   rw [eq_comm]
   simp only [Option.some.injEq, Prod.mk.injEq, decide_eq_false_iff_not, and_true]
   exact fun h => h1 ⟨h.1, h.2.1, h.2.2.1, h.2.2.2.1, h.2.2.2.2.1, h.2.2.2.2.2.1, h.2.2.2.2.2.2.1, h.2.2.2.2.2.2.2.1⟩
 · simp only [h13, decide_false, Bool.not_false, cond_true, and_false]
/-! which parts a kind has -/
def kindB (k : Int) : Bool := [0, 1, 2, 4, 5, 6, 8, 16, 17, 18, 19, 20, 21, 22, 23, 24, 25, 26, 27, 28, 29, 30].contains k
def hasId (k : Int) : Bool := [4, 5, 8, 17, 21].contains k
def hasOff (k : Int) : Bool := [6, 8].contains k
def hasMax (k : Int) : Bool := [4, 16, 17, 18, 19, 20, 21, 22, 23].contains k
def hasCode (k : Int) : Bool := [4, 5, 28, 29].contains k
def hasSeq (k : Int) : Bool := [24, 25].contains k
def hasPrior (k : Int) : Bool := [24].contains k
def hasDelay (k : Int) : Bool := [2, 28].contains k
def hasFin (k : Int) : Bool := [8].contains k
def hasData (k : Int) : Bool := [6, 8, 28, 29].contains k
def hasCid (k : Int) : Bool := [24].contains k
def hasToken (k : Int) : Bool := [24, 26, 27].contains k
def hasSet (k : Int) : Bool := [2].contains k
def onlyF (f : D_frame_Frame) : D_frame_Frame :=
 let k := f.1
 (k, bif hasId k then f.2.1 else 0, bif hasOff k then f.2.2.1 else 0, bif hasMax k then f.2.2.2.1 else 0, bif hasCode k then f.2.2.2.2.1 else 0, bif hasSeq k then f.2.2.2.2.2.1 else 0,
  bif hasPrior k then f.2.2.2.2.2.2.1 else 0, bif hasDelay k then f.2.2.2.2.2.2.2.1 else 0, bif hasFin k then f.2.2.2.2.2.2.2.2.1 else false, bif hasData k then f.2.2.2.2.2.2.2.2.2.1 else ⟨#[]⟩,
  bif hasCid k then f.2.2.2.2.2.2.2.2.2.2.1 else ⟨#[]⟩, bif hasToken k then f.2.2.2.2.2.2.2.2.2.2.2.1 else ⟨#[]⟩, bif hasSet k then f.2.2.2.2.2.2.2.2.2.2.2.2.1 else [], ())
theorem kinds {k : Int} (h : kindB k = true) : k = 0 ∨ k = 1 ∨ k = 2 ∨ k = 4 ∨ k = 5 ∨ k = 6 ∨ k = 8 ∨ k = 16 ∨ k = 17 ∨ k = 18 ∨ k = 19 ∨ k = 20 ∨ k = 21 ∨ k = 22 ∨ k = 23 ∨ k = 24 ∨ k = 25 ∨ k = 26 ∨ k = 27 ∨ k = 28 ∨ k = 29 ∨ k = 30 := by
 simpa [kindB] using h
theorem nokind {k : Int} (h : kindB k = false) : k ≠ 0 ∧ k ≠ 1 ∧ k ≠ 2 ∧ k ≠ 4 ∧ k ≠ 5 ∧ k ≠ 6 ∧ k ≠ 8 ∧ k ≠ 16 ∧ k ≠ 17 ∧ k ≠ 18 ∧ k ≠ 19 ∧ k ≠ 20 ∧ k ≠ 21 ∧ k ≠ 22 ∧ k ≠ 23 ∧ k ≠ 24 ∧ k ≠ 25 ∧ k ≠ 26 ∧ k ≠ 27 ∧ k ≠ 28 ∧ k ≠ 29 ∧ k ≠ 30 := by
 simpa [kindB] using h
theorem only_is (f : D_frame_Frame) : frame_Frame_only f = some (bif kindB f.1 then onlyF f else (0, 0, 0, 0, 0, 0, 0, 0, false, ⟨#[]⟩, ⟨#[]⟩, ⟨#[]⟩, [], ()), kindB f.1, ()) := by
 obtain ⟨k, a2, a3, a4, a5, a6, a7, a8, a9, a10, a11, a12, a13, ⟨⟩⟩ := f
 simp only [frame_Frame_only_eq, b_frame_Frame_only, frame_Frame_only_0_eq, b_frame_Frame_only_0, frame_Frame_only_1_eq, b_frame_Frame_only_1, frame_Frame_only_2_eq, b_frame_Frame_only_2, frame_Frame_only_3_eq, b_frame_Frame_only_3]
 cases h : kindB k with
 | true =>
  rcases kinds h with rfl | rfl | rfl | rfl | rfl | rfl | rfl | rfl | rfl | rfl | rfl | rfl | rfl | rfl | rfl | rfl | rfl | rfl | rfl | rfl | rfl | rfl <;> rfl
 | false =>
  obtain ⟨h0, h1, h2, h4, h5, h6, h8, h16, h17, h18, h19, h20, h21, h22, h23, h24, h25, h26, h27, h28, h29, h30⟩ := nokind h
  simp only [beq_false_of_ne h0, beq_false_of_ne h1, beq_false_of_ne h2, beq_false_of_ne h4, beq_false_of_ne h5, beq_false_of_ne h6, beq_false_of_ne h8, beq_false_of_ne h16, beq_false_of_ne h17, beq_false_of_ne h18, beq_false_of_ne h19,
   beq_false_of_ne h20, beq_false_of_ne h21, beq_false_of_ne h22, beq_false_of_ne h23, beq_false_of_ne h24, beq_false_of_ne h25, beq_false_of_ne h26, beq_false_of_ne h27, beq_false_of_ne h28, beq_false_of_ne h29, beq_false_of_ne h30, cond_false]
def mayR : Int → List D_ranges_Range → Bool
 | _, [] => true
 | e, r :: l => decide (r.1 ≤ r.2.1) && decide (r.2.1 < 9223372036854775808) && decide (e ≤ r.1) && mayR (r.2.1 + 2) l
theorem mayR_loop : ∀ (suf pre : List D_ranges_Range) (e : Int) (m : Nat), suf.length < m → (pre ++ suf).length ≤ 9223372036854775807 → (∀ r ∈ suf, 0 ≤ r.2.1) →
  ranges_May_0 m e (pre ++ suf) (((pre ++ suf).length : Nat) : Int) ((pre.length : Nat) : Int) = some (mayR e suf, ()) := by
 intro suf
 induction suf with
 | nil =>
  intro pre e m hm _ _
  obtain ⟨m, rfl⟩ : ∃ k, m = k + 1 := ⟨m - 1, by omega⟩
  simp only [ranges_May_0, t_ranges_May_0, mid_end, decide_false, cond_false, mayR]
 | cons x suf ih =>
  intro pre e m hm hl hr
  obtain ⟨m, rfl⟩ : ∃ k, m = k + 1 := ⟨m - 1, by omega⟩
  have h0 := hr x (by simp)
  simp only [ranges_May_0, t_ranges_May_0, mid_lt, nn, and_true, decide_true, cond_true, toNat_len, getD_mid, ranges_Range_empty_eq, b_ranges_Range_empty, obind_some, mayR]
  by_cases h1 : x.2.1 < x.1
  ·
   have : ¬ x.1 ≤ x.2.1 := by omega
   simp only [h1, this, decide_true, cond_true, decide_false, Bool.false_and]
  ·
   have h1' : x.1 ≤ x.2.1 := by omega
   simp only [h1, h1', decide_false, cond_false, decide_true, Bool.true_and]
   by_cases h2 : x.2.1 < 9223372036854775808
   ·
    have : ¬ x.2.1 ≥ 9223372036854775808 := by omega
    simp only [h2, this, decide_false, cond_false, decide_true, Bool.true_and]
    by_cases h3 : x.1 < e
    ·
     have : ¬ e ≤ x.1 := by omega
     simp only [h3, this, decide_true, cond_true, decide_false, Bool.false_and]
    ·
     have h3' : e ≤ x.1 := by omega
     simp only [h3, h3', decide_false, cond_false, decide_true, Bool.true_and]
     rw [wrap_u64 _ (by omega) (by omega), mid_next' pre x x suf hl, snoc_app, ih (pre ++ [x]) _ m (by simp at hm; omega) (by simpa using hl) (fun r h => hr r (by simp [h]))]
   ·
    have : x.2.1 ≥ 9223372036854775808 := by omega
    simp only [h2, this, decide_true, cond_true, decide_false, Bool.false_and]
theorem mayR_is (l : List D_ranges_Range) (hl : l.length ≤ 9223372036854775807) (hr : ∀ r ∈ l, 0 ≤ r.2.1) : ranges_May l = some (mayR 0 l, ()) := by
 rw [ranges_May_eq, b_ranges_May, ranges_May_0'_eq, b_ranges_May_0']
 exact mayR_loop l [] 0 _ (by simp) (by simp; omega) hr
theorem max_loop : ∀ (suf pre : List Int) (x : Int) (m : Nat), suf.length < m → (pre ++ suf).length ≤ 4294967296 →
  slices_Max_uint64_0 m (pre ++ suf) x ((pre.length : Nat) : Int) = some (suf.foldl (fun a b => if b > a then b else a) x, ()) := by
 intro suf
 induction suf with
 | nil =>
  intro pre x m hm _
  obtain ⟨m, rfl⟩ : ∃ k, m = k + 1 := ⟨m - 1, by omega⟩
  simp only [slices_Max_uint64_0, t_slices_Max_uint64_0, mid_end, decide_false, cond_false, List.foldl_nil]
 | cons y suf ih =>
  intro pre x m hm hl
  obtain ⟨m, rfl⟩ : ∃ k, m = k + 1 := ⟨m - 1, by omega⟩
  simp only [slices_Max_uint64_0, t_slices_Max_uint64_0, mid_lt, nn, and_true, decide_true, cond_true, toNat_len, getD_mid, List.foldl_cons]
  rw [mid_next pre y y suf hl, snoc_app, ih (pre ++ [y]) _ m (by simp at hm; omega) (by simpa using hl)]
theorem foldmax (b : Int) : ∀ (l : List Int) (x : Int), l.foldl (fun a b => if b > a then b else a) x ≤ b ↔ x ≤ b ∧ ∀ y ∈ l, y ≤ b
 | [], x => by simp
 | y :: l, x => by
  rw [List.foldl_cons, foldmax b l]
  simp only [List.mem_cons, forall_eq_or_imp]
  constructor
  · rintro ⟨h1, h2⟩; refine ⟨?_, ?_, h2⟩ <;> split at h1 <;> omega
  · rintro ⟨h1, h2, h3⟩; refine ⟨?_, h3⟩; split <;> omega
theorem max_is (x : Int) (l : List Int) (hl : l.length ≤ 1000) : ∃ y, slices_Max_uint64 (x :: l) = some (y, ()) ∧ ∀ b, y ≤ b ↔ x ≤ b ∧ ∀ z ∈ l, z ≤ b := by
 refine ⟨_, ?_, fun b => foldmax b l x⟩
 rw [slices_Max_uint64_eq, b_slices_Max_uint64]
 have h1 : ¬ ((((x :: l).length : Nat) : Int) < 1) := by simp; omega
 have h2 : (0 : Int) < (((x :: l).length : Nat) : Int) := by simp
 simp only [h1, h2, decide_false, cond_false, Int.le_refl, and_true, decide_true, cond_true, List.getD_cons_zero]
 rw [slices_Max_uint64_0'_eq, b_slices_Max_uint64_0']
 exact max_loop l [x] x _ (by simp) (by simp; omega)
def lastHi (l : List D_ranges_Range) : Int := (l.getD (l.length - 1) (Ty.dflt T_ranges_Range)).2.1
def extraF (f : D_frame_Frame) : Bool :=
 let k := f.1
 bif k == 2 then mayR 0 f.2.2.2.2.2.2.2.2.2.2.2.2.1 && decide (0 < f.2.2.2.2.2.2.2.2.2.2.2.2.1.length) && decide (f.2.2.2.2.2.2.2.2.2.2.2.2.1.length ≤ 32) && decide (lastHi f.2.2.2.2.2.2.2.2.2.2.2.2.1 ≤ 4611686018427387903)
 else bif k == 6 || k == 8 then decide (f.2.2.1 + ((f.2.2.2.2.2.2.2.2.2.1.size : Nat) : Int) ≤ 4611686018427387903)
 else bif k == 24 then decide (f.2.2.2.2.2.2.1 ≤ f.2.2.2.2.2.1) && (((f.2.2.2.2.2.2.2.2.2.2.1.size : Nat) : Int) == 8) && (((f.2.2.2.2.2.2.2.2.2.2.2.1.size : Nat) : Int) == 16)
 else bif k == 26 || k == 27 then (((f.2.2.2.2.2.2.2.2.2.2.2.1.size : Nat) : Int) == 8)
 else bif k == 18 || k == 19 || k == 22 || k == 23 then decide (f.2.2.2.1 ≤ 1152921504606846976)
 else true
def numsOk (f : D_frame_Frame) : Bool := decide (f.2.1 ≤ 4611686018427387903 ∧ f.2.2.1 ≤ 4611686018427387903 ∧ f.2.2.2.1 ≤ 4611686018427387903 ∧ f.2.2.2.2.1 ≤ 4611686018427387903 ∧ f.2.2.2.2.2.1 ≤ 4611686018427387903 ∧ f.2.2.2.2.2.2.1 ≤ 4611686018427387903 ∧ f.2.2.2.2.2.2.2.1 ≤ 4611686018427387903)
def mayFr (f : D_frame_Frame) : Bool := kindB f.1 && decide (f = onlyF f) && numsOk f && decide (f.2.2.2.2.2.2.2.2.2.1.size ≤ 1200) && extraF f
structure FrOk (f : D_frame_Frame) : Prop where
 kind : 0 ≤ f.1 ∧ f.1 < 18446744073709551616
 id : 0 ≤ f.2.1 ∧ f.2.1 < 18446744073709551616
 off : 0 ≤ f.2.2.1 ∧ f.2.2.1 < 18446744073709551616
 max : 0 ≤ f.2.2.2.1 ∧ f.2.2.2.1 < 18446744073709551616
 code : 0 ≤ f.2.2.2.2.1 ∧ f.2.2.2.2.1 < 18446744073709551616
 seq : 0 ≤ f.2.2.2.2.2.1 ∧ f.2.2.2.2.2.1 < 18446744073709551616
 prior : 0 ≤ f.2.2.2.2.2.2.1 ∧ f.2.2.2.2.2.2.1 < 18446744073709551616
 delay : 0 ≤ f.2.2.2.2.2.2.2.1 ∧ f.2.2.2.2.2.2.2.1 < 18446744073709551616
 set : ∀ r ∈ f.2.2.2.2.2.2.2.2.2.2.2.2.1, (0 ≤ r.1 ∧ r.1 < 18446744073709551616) ∧ (0 ≤ r.2.1 ∧ r.2.1 < 18446744073709551616)
 few : f.2.2.2.2.2.2.2.2.2.2.2.2.1.length ≤ 9223372036854775807
theorem may_is_fr (f : D_frame_Frame) (h : FrOk f) : frame_May f = some (mayFr f, ()) := by
 rw [frame_May_eq, b_frame_May, only_is]
 simp only [obind_some, mayFr]
 cases hk : kindB f.1 with
 | false => simp only [Bool.not_false, cond_true, Bool.false_and]
 | true =>
  simp only [Bool.not_true, cond_false, cond_true, Bool.true_and, same_is f _ h.few, obind_some]
  by_cases ho : f = onlyF f
  ·
   simp only [← ho, decide_true, Bool.not_true, cond_false, Bool.true_and]
   obtain ⟨y, ey, hy⟩ := max_is f.2.1 [f.2.2.1, f.2.2.2.1, f.2.2.2.2.1, f.2.2.2.2.2.1, f.2.2.2.2.2.2.1, f.2.2.2.2.2.2.2.1] (by simp)
   simp only [ey, obind_some]
   have hn : numsOk f = decide (y ≤ 4611686018427387903) := by
    unfold numsOk
    rw [decide_eq_decide, hy]
    simp
   rw [hn]
   by_cases h1 : y ≤ 4611686018427387903
   ·
    have : ¬ y > 4611686018427387903 := by omega
    simp only [h1, this, decide_true, decide_false, cond_false, Bool.true_and]
    by_cases h2 : f.2.2.2.2.2.2.2.2.2.1.size ≤ 1200
    ·
     have : ¬ ((f.2.2.2.2.2.2.2.2.2.1.size : Nat) : Int) > 1200 := by omega
     simp only [h2, this, decide_true, decide_false, cond_false, Bool.true_and]
     have hoff := (hy 4611686018427387903).mp h1
     have ho1 : f.2.2.1 ≤ 4611686018427387903 := hoff.2 _ (by simp)
     have w1 : IntKind.wrap .u64 ((f.2.2.2.2.2.2.2.2.2.1.size : Nat) : Int) = ((f.2.2.2.2.2.2.2.2.2.1.size : Nat) : Int) := wrap_u64 _ (by omega) (by omega)
     have w2 : IntKind.wrap .u64 (f.2.2.1 + ((f.2.2.2.2.2.2.2.2.2.1.size : Nat) : Int)) = f.2.2.1 + ((f.2.2.2.2.2.2.2.2.2.1.size : Nat) : Int) := wrap_u64 _ (by have := h.off; omega) (by omega)
     simp only [frame_May_0_eq, b_frame_May_0, frame_May_1_eq, b_frame_May_1, frame_May_2_eq, b_frame_May_2, w1, w2, extraF]
     by_cases e2 : f.1 = 2
     ·
      simp only [e2, beq_self_eq_true, cond_true]
      rw [mayR_is _ h.few (fun r hr => (h.set r hr).2.1)]
      simp only [obind_some]
      cases mayR 0 f.2.2.2.2.2.2.2.2.2.2.2.2.1 with
      | false => simp only [cond_false, Bool.false_and]
      | true =>
       simp only [cond_true, Bool.true_and]
       have hfew := h.few
       unfold lastHi
       generalize f.2.2.2.2.2.2.2.2.2.2.2.2.1 = l at *
       by_cases l0 : 0 < l.length
       ·
        by_cases l1 : l.length ≤ 32
        ·
         have c0 : ((l.length : Nat) : Int) > 0 := by omega
         have c1 : ((l.length : Nat) : Int) ≤ 32 := by omega
         have c2 : IntKind.wrap .i64 (((l.length : Nat) : Int) - 1) = ((l.length - 1 : Nat) : Int) := by rw [wrap_i64 _ (by omega) (by omega)]; omega
         have c3 : (0 : Int) ≤ ((l.length - 1 : Nat) : Int) ∧ ((l.length - 1 : Nat) : Int) < ((l.length : Nat) : Int) := by omega
         simp only [c0, c1, c2, c3, and_self, l0, l1, decide_true, cond_true, Bool.true_and, Int.toNat_natCast]
        ·
         have c0 : ((l.length : Nat) : Int) > 0 := by omega
         have c1 : ¬ ((l.length : Nat) : Int) ≤ 32 := by omega
         simp only [c0, c1, l0, l1, decide_true, decide_false, cond_true, cond_false, Bool.true_and, Bool.false_and]
       ·
        have c0 : ¬ ((l.length : Nat) : Int) > 0 := by omega
        simp only [c0, l0, decide_false, cond_false, Bool.false_and]
     ·
      have b2 := beq_false_of_ne e2
      simp only [b2, cond_false]
      rcases kinds hk with e | e | e | e | e | e | e | e | e | e | e | e | e | e | e | e | e | e | e | e | e | e <;> rw [e] <;> (try rfl)
      exact three _ _ _
    ·
     have : ((f.2.2.2.2.2.2.2.2.2.1.size : Nat) : Int) > 1200 := by omega
     simp only [h2, this, decide_true, decide_false, cond_true, Bool.false_and]
   ·
    have : y > 4611686018427387903 := by omega
    simp only [h1, this, decide_true, decide_false, cond_true, Bool.false_and]
  · simp only [ho, decide_false, Bool.not_false, cond_true, Bool.false_and]
end Go.Proofs.YtjlfmolfcgennaaDoor.V
namespace Go.Proofs.YtjlfmolfcgennaaDoor.V
open Go.RowKit Go.Proofs.Tryd
set_option maxRecDepth 100000
set_option linter.unusedVariables false
noncomputable def m_slices_Clone_ranges_Range : Mach prog Inv gInv := mach bas [(65, f65)] ⟨ok65, trivial⟩ [] trivial [] trivial [] trivial
/-! ### slices.Clone: a row of the caller's own -/
@[reducible] def t_slices_Clone_ranges_Range : Ty := T_ranges_Range
def slices_Clone_ranges_Range (l : List t_slices_Clone_ranges_Range.den) : Option (List t_slices_Clone_ranges_Range.den) := bif decide (l.length ≤ 4294967296) then some l else none
noncomputable def c_slices_Clone_ranges_Range : OCon := ⟨[.slice t_slices_Clone_ranges_Range], t_slices_Clone_ranges_Range, fun x => slices_Clone_ranges_Range x.1⟩
@[reducible] noncomputable def p_slices_Clone_ranges_Range : CPat := ⟨⟨65, [1, 0, 0], some 1, [.rows t_slices_Clone_ranges_Range false, .any, .nilSlice, .rows t_slices_Clone_ranges_Range false], 4⟩, [], [], 0⟩
def j_slices_Clone_ranges_Range (a b : List t_slices_Clone_ranges_Range.den) : Option (List t_slices_Clone_ranges_Range.den) := match b with
 | [] => match a with
  | [] => some []
  | _ :: _ => none
 | _ :: _ => slices_Clone_ranges_Range a
theorem y_slices_Clone_ranges_Range (x : denC p_slices_Clone_ranges_Range) : runB m_slices_Clone_ranges_Range (finO t_slices_Clone_ranges_Range) [65] nowhere 1000 (adv (instC p_slices_Clone_ranges_Range x) 1 (some 4) (.val (.bool true)) (instC p_slices_Clone_ranges_Range x).H ⟨[], [], []⟩) = some [] := by kernel_rfl
theorem n_slices_Clone_ranges_Range (x : denC p_slices_Clone_ranges_Range) : runB m_slices_Clone_ranges_Range (finO t_slices_Clone_ranges_Range) [65] nowhere 1000 (adv (instC p_slices_Clone_ranges_Range x) 1 (some 4) (.val (.bool false)) (instC p_slices_Clone_ranges_Range x).H ⟨[], [], []⟩) = bif decide (0 + x.1.1.length ≤ 4294967296) then some x.1.1 else none := by kernel_rfl
theorem s_slices_Clone_ranges_Range {base S0 cs0} (hfin : FinOk (finO t_slices_Clone_ranges_Range) base S0 (OPost t_slices_Clone_ranges_Range base S0)) : JSound m_slices_Clone_ranges_Range base S0 cs0 (OPost t_slices_Clone_ranges_Range base S0) p_slices_Clone_ranges_Range (fun x => j_slices_Clone_ranges_Range x.1.1 x.1.2.2.2.1) := by
 intro x r h
 change j_slices_Clone_ranges_Range x.1.1 x.1.2.2.2.1 = some r at h
 have yes : x.1.2.2.2.1 = [] → j_slices_Clone_ranges_Range x.1.1 x.1.2.2.2.1 = some r → runB m_slices_Clone_ranges_Range (finO t_slices_Clone_ranges_Range) [65] nowhere 1000 (adv (instC p_slices_Clone_ranges_Range x) 1 (some 4) (.val (.bool true)) (instC p_slices_Clone_ranges_Range x).H ⟨[], [], []⟩) = some r := by
  intro hb hj
  rw [hb] at hj
  have e := y_slices_Clone_ranges_Range x
  rw [e]
  generalize x.1.1 = a at hj
  cases a with
  | nil => exact hj
  | cons _ _ => cases hj
 have no : runB m_slices_Clone_ranges_Range (finO t_slices_Clone_ranges_Range) [65] nowhere 1000 (adv (instC p_slices_Clone_ranges_Range x) 1 (some 4) (.val (.bool false)) (instC p_slices_Clone_ranges_Range x).H ⟨[], [], []⟩) = some r := by
  have e := n_slices_Clone_ranges_Range x
  rw [e, Nat.zero_add]
  show slices_Clone_ranges_Range x.1.1 = some r
  generalize x.1.1 = a at *
  generalize x.1.2.2.2.1 = b at *
  cases b with
  | nil => cases a with
   | nil => rw [← h]; rfl
   | cons _ _ => cases h
  | cons _ _ => exact h
 exact nil_sound (M := m_slices_Clone_ranges_Range) (f := f65) (T := 34) (e := 76) (x := .tmp 3) (t := t_slices_Clone_ranges_Range) (l := x.1.2.2.2.1) (cl := false) rfl rfl rfl rfl rfl rfl rfl rfl underlying34 rfl
  (fun hb => run_sound hfin OSound.nowhere (yes hb h)) (run_sound hfin OSound.nowhere no)
theorem c_slices_Clone_ranges_Range_ok : c_slices_Clone_ranges_Range.Sound prog Inv gInv 65 := by
 refine ocon_sound (M := m_slices_Clone_ranges_Range) inv_g (f := f65) rfl fun x y h base S0 cs0 hn => ?_
 have hfin := finO_ok t_slices_Clone_ranges_Range base S0
 refine run_sound hfin (X := cut p_slices_Clone_ranges_Range (fun x => j_slices_Clone_ranges_Range x.1.1 x.1.2.2.2.1) nowhere) (OSound.cut OSound.nowhere (Nat.le_of_eq hn) (s_slices_Clone_ranges_Range hfin)) (Ks := [65]) (n := 1000) ?_
 have e : runB m_slices_Clone_ranges_Range (finO t_slices_Clone_ranges_Range) [65] (cut p_slices_Clone_ranges_Range (fun x => j_slices_Clone_ranges_Range x.1.1 x.1.2.2.2.1) nowhere) 1000 (startP 65 f65.ntmps (pvsOf c_slices_Clone_ranges_Range.params x)) = j_slices_Clone_ranges_Range x.1 x.1 := by kernel_rfl
 refine e.trans (Eq.trans ?_ h)
 show j_slices_Clone_ranges_Range x.1 x.1 = slices_Clone_ranges_Range x.1
 generalize x.1 = l
 cases l with
 | nil => rfl
 | cons _ _ => rfl
noncomputable def m_strings_Builder_copyCheck_h4 : Mach prog Inv gInv := mach bas [(58, f58)] ⟨ok58, trivial⟩ [] trivial [] trivial [] trivial
@[reducible] noncomputable def pa_strings_Builder_copyCheck_h4 : List Pat := [.ptr 0 0]
@[reducible] noncomputable def pH_strings_Builder_copyCheck_h4 : List HPat := [.cells 108 [.nilPtr, .nilSlice]]
/-! ### (*strings.Builder).copyCheck -/
abbrev R_strings_Builder_copyCheck_h4 : Type := Unit
@[reducible] noncomputable def qa_strings_Builder_copyCheck_h4 : List Pat := []
@[reducible] noncomputable def qH_strings_Builder_copyCheck_h4 : List HPat := [.cells 108 [.ptr 0 0, .nilSlice]]
def ks_strings_Builder_copyCheck_h4 : List Nat := [58]
noncomputable def b_strings_Builder_copyCheck_h4 : Option R_strings_Builder_copyCheck_h4 :=
 some ()
theorem ex_strings_Builder_copyCheck_h4 : ∃ f, f = @b_strings_Builder_copyCheck_h4 := ⟨_, rfl⟩
noncomputable def strings_Builder_copyCheck_h4 := Classical.choose ex_strings_Builder_copyCheck_h4
theorem strings_Builder_copyCheck_h4_eq : @strings_Builder_copyCheck_h4 = @b_strings_Builder_copyCheck_h4 := Classical.choose_spec ex_strings_Builder_copyCheck_h4
noncomputable def hb_strings_Builder_copyCheck_h4 : HCon := HCon.mk0 pa_strings_Builder_copyCheck_h4 pH_strings_Builder_copyCheck_h4 qa_strings_Builder_copyCheck_h4 qH_strings_Builder_copyCheck_h4 R_strings_Builder_copyCheck_h4 (fun x => b_strings_Builder_copyCheck_h4) (fun r => ((), (((), ((), ())), ()))) (fun y => (())) (fun _ => rfl)
noncomputable def h_strings_Builder_copyCheck_h4 : HCon := HCon.mk0 pa_strings_Builder_copyCheck_h4 pH_strings_Builder_copyCheck_h4 qa_strings_Builder_copyCheck_h4 qH_strings_Builder_copyCheck_h4 R_strings_Builder_copyCheck_h4 (fun x => strings_Builder_copyCheck_h4) (fun r => ((), (((), ((), ())), ()))) (fun y => (())) (fun _ => rfl)
theorem hb_strings_Builder_copyCheck_h4_ok : hb_strings_Builder_copyCheck_h4.Sound prog Inv gInv 58 :=
 hcon_run (M := m_strings_Builder_copyCheck_h4) (f := f58) rfl ks_strings_Builder_copyCheck_h4 100000 (X := nowhere) (fun base S0 cs0 hn hf => OSound.nowhere) (by intro x; kernel_rfl)
theorem h_strings_Builder_copyCheck_h4_ok : h_strings_Builder_copyCheck_h4.Sound prog Inv gInv 58 := by
 have e : h_strings_Builder_copyCheck_h4 = hb_strings_Builder_copyCheck_h4 := by unfold h_strings_Builder_copyCheck_h4 hb_strings_Builder_copyCheck_h4; rw [strings_Builder_copyCheck_h4_eq]
 rw [e]; exact hb_strings_Builder_copyCheck_h4_ok
noncomputable def m_frame_writer_numbers_h0 : Mach prog Inv gInv := mach bas [(53, f53), (47, f47), (58, f58)] ⟨ok53, ok47, ok58, trivial⟩ [(64, c_varint_Puts)] ⟨⟨c_varint_Puts_ok, FnOk.callable ok64⟩, trivial⟩ [] trivial [(58, h_strings_Builder_copyCheck_h0), (47, h_strings_Builder_WriteString_h0), (58, h_strings_Builder_copyCheck_h1), (47, h_strings_Builder_WriteString_h1), (58, h_strings_Builder_copyCheck_h2), (58, h_strings_Builder_copyCheck_h3), (58, h_strings_Builder_copyCheck_h4)] ⟨⟨h_strings_Builder_copyCheck_h0_ok, FnOk.callable ok58⟩, ⟨h_strings_Builder_WriteString_h0_ok, FnOk.callable ok47⟩, ⟨h_strings_Builder_copyCheck_h1_ok, FnOk.callable ok58⟩, ⟨h_strings_Builder_WriteString_h1_ok, FnOk.callable ok47⟩, ⟨h_strings_Builder_copyCheck_h2_ok, FnOk.callable ok58⟩, ⟨h_strings_Builder_copyCheck_h3_ok, FnOk.callable ok58⟩, ⟨h_strings_Builder_copyCheck_h4_ok, FnOk.callable ok58⟩, trivial⟩
@[reducible] noncomputable def pa_frame_writer_numbers_h0 : List Pat := [.ptr 0 0, .all 1]
@[reducible] noncomputable def pH_frame_writer_numbers_h0 : List HPat := [.cells 108 [.nilPtr, .nilSlice], .row (.int .u64)]
/-! ### (*domino/frame.writer).numbers -/
abbrev R_frame_writer_numbers_h0 : Type := (List Int) × (List Int) × Unit
@[reducible] noncomputable def qa_frame_writer_numbers_h0 : List Pat := []
@[reducible] noncomputable def qH_frame_writer_numbers_h0 : List HPat := [.cells 108 [.ptr 0 0, .all 2], .fro (.int .u64), .row (.byt 5)]
def ks_frame_writer_numbers_h0 : List Nat := [53, 47, 58]
noncomputable def b_frame_writer_numbers_h0 (l0 : (List Int)) : Option R_frame_writer_numbers_h0 :=
 obind (varint_Puts l0) fun y1 =>
 obind strings_Builder_copyCheck_h4 fun y2 =>
 bif (decide ((List.length (strBytes y1.1)) ≤ 4294967296)) then
  let l3 : (List Int) := (strBytes y1.1)
  let n4 : Int := (((ByteArray.size y1.1) : Nat) : Int)
  some (l0, (l3, ()))
 else none
theorem ex_frame_writer_numbers_h0 : ∃ f, f = @b_frame_writer_numbers_h0 := ⟨_, rfl⟩
noncomputable def frame_writer_numbers_h0 := Classical.choose ex_frame_writer_numbers_h0
theorem frame_writer_numbers_h0_eq : @frame_writer_numbers_h0 = @b_frame_writer_numbers_h0 := Classical.choose_spec ex_frame_writer_numbers_h0
noncomputable def hb_frame_writer_numbers_h0 : HCon := HCon.mk0 pa_frame_writer_numbers_h0 pH_frame_writer_numbers_h0 qa_frame_writer_numbers_h0 qH_frame_writer_numbers_h0 R_frame_writer_numbers_h0 (fun x => b_frame_writer_numbers_h0 x.2.2.1) (fun r => ((), (((), ((), ())), (r.1, (r.2.1, ()))))) (fun y => (y.2.2.1, y.2.2.2.1, ())) (fun _ => rfl)
noncomputable def h_frame_writer_numbers_h0 : HCon := HCon.mk0 pa_frame_writer_numbers_h0 pH_frame_writer_numbers_h0 qa_frame_writer_numbers_h0 qH_frame_writer_numbers_h0 R_frame_writer_numbers_h0 (fun x => frame_writer_numbers_h0 x.2.2.1) (fun r => ((), (((), ((), ())), (r.1, (r.2.1, ()))))) (fun y => (y.2.2.1, y.2.2.2.1, ())) (fun _ => rfl)
theorem hb_frame_writer_numbers_h0_ok : hb_frame_writer_numbers_h0.Sound prog Inv gInv 53 :=
 hcon_run (M := m_frame_writer_numbers_h0) (f := f53) rfl ks_frame_writer_numbers_h0 100000 (X := nowhere) (fun base S0 cs0 hn hf => OSound.nowhere) (by intro x; kernel_rfl)
theorem h_frame_writer_numbers_h0_ok : h_frame_writer_numbers_h0.Sound prog Inv gInv 53 := by
 have e : h_frame_writer_numbers_h0 = hb_frame_writer_numbers_h0 := by unfold h_frame_writer_numbers_h0 hb_frame_writer_numbers_h0; rw [frame_writer_numbers_h0_eq]
 rw [e]; exact hb_frame_writer_numbers_h0_ok
noncomputable def m_strings_Builder_copyCheck_h5 : Mach prog Inv gInv := mach bas [(58, f58)] ⟨ok58, trivial⟩ [] trivial [] trivial [] trivial
@[reducible] noncomputable def pa_strings_Builder_copyCheck_h5 : List Pat := [.ptr 0 0]
@[reducible] noncomputable def pH_strings_Builder_copyCheck_h5 : List HPat := [.cells 108 [.ptr 0 0, .all 1], .row (.byt 5)]
/-! ### (*strings.Builder).copyCheck -/
abbrev R_strings_Builder_copyCheck_h5 : Type := (List Int) × Unit
@[reducible] noncomputable def qa_strings_Builder_copyCheck_h5 : List Pat := []
@[reducible] noncomputable def qH_strings_Builder_copyCheck_h5 : List HPat := [.cells 108 [.ptr 0 0, .all 1], .row (.byt 5)]
def ks_strings_Builder_copyCheck_h5 : List Nat := [58]
noncomputable def b_strings_Builder_copyCheck_h5 (l0 : (List Int)) : Option R_strings_Builder_copyCheck_h5 :=
 some (l0, ())
theorem ex_strings_Builder_copyCheck_h5 : ∃ f, f = @b_strings_Builder_copyCheck_h5 := ⟨_, rfl⟩
noncomputable def strings_Builder_copyCheck_h5 := Classical.choose ex_strings_Builder_copyCheck_h5
theorem strings_Builder_copyCheck_h5_eq : @strings_Builder_copyCheck_h5 = @b_strings_Builder_copyCheck_h5 := Classical.choose_spec ex_strings_Builder_copyCheck_h5
noncomputable def hb_strings_Builder_copyCheck_h5 : HCon := HCon.mk0 pa_strings_Builder_copyCheck_h5 pH_strings_Builder_copyCheck_h5 qa_strings_Builder_copyCheck_h5 qH_strings_Builder_copyCheck_h5 R_strings_Builder_copyCheck_h5 (fun x => b_strings_Builder_copyCheck_h5 x.2.2.1) (fun r => ((), (((), ((), ())), (r.1, ())))) (fun y => (y.2.2.1, ())) (fun _ => rfl)
noncomputable def h_strings_Builder_copyCheck_h5 : HCon := HCon.mk0 pa_strings_Builder_copyCheck_h5 pH_strings_Builder_copyCheck_h5 qa_strings_Builder_copyCheck_h5 qH_strings_Builder_copyCheck_h5 R_strings_Builder_copyCheck_h5 (fun x => strings_Builder_copyCheck_h5 x.2.2.1) (fun r => ((), (((), ((), ())), (r.1, ())))) (fun y => (y.2.2.1, ())) (fun _ => rfl)
theorem hb_strings_Builder_copyCheck_h5_ok : hb_strings_Builder_copyCheck_h5.Sound prog Inv gInv 58 :=
 hcon_run (M := m_strings_Builder_copyCheck_h5) (f := f58) rfl ks_strings_Builder_copyCheck_h5 100000 (X := nowhere) (fun base S0 cs0 hn hf => OSound.nowhere) (by intro x; kernel_rfl)
theorem h_strings_Builder_copyCheck_h5_ok : h_strings_Builder_copyCheck_h5.Sound prog Inv gInv 58 := by
 have e : h_strings_Builder_copyCheck_h5 = hb_strings_Builder_copyCheck_h5 := by unfold h_strings_Builder_copyCheck_h5 hb_strings_Builder_copyCheck_h5; rw [strings_Builder_copyCheck_h5_eq]
 rw [e]; exact hb_strings_Builder_copyCheck_h5_ok
noncomputable def m_frame_writer_numbers_h1 : Mach prog Inv gInv := mach bas [(53, f53), (47, f47), (58, f58)] ⟨ok53, ok47, ok58, trivial⟩ [(64, c_varint_Puts)] ⟨⟨c_varint_Puts_ok, FnOk.callable ok64⟩, trivial⟩ [] trivial [(58, h_strings_Builder_copyCheck_h0), (47, h_strings_Builder_WriteString_h0), (58, h_strings_Builder_copyCheck_h1), (47, h_strings_Builder_WriteString_h1), (58, h_strings_Builder_copyCheck_h2), (58, h_strings_Builder_copyCheck_h3), (58, h_strings_Builder_copyCheck_h4), (58, h_strings_Builder_copyCheck_h5)] ⟨⟨h_strings_Builder_copyCheck_h0_ok, FnOk.callable ok58⟩, ⟨h_strings_Builder_WriteString_h0_ok, FnOk.callable ok47⟩, ⟨h_strings_Builder_copyCheck_h1_ok, FnOk.callable ok58⟩, ⟨h_strings_Builder_WriteString_h1_ok, FnOk.callable ok47⟩, ⟨h_strings_Builder_copyCheck_h2_ok, FnOk.callable ok58⟩, ⟨h_strings_Builder_copyCheck_h3_ok, FnOk.callable ok58⟩, ⟨h_strings_Builder_copyCheck_h4_ok, FnOk.callable ok58⟩, ⟨h_strings_Builder_copyCheck_h5_ok, FnOk.callable ok58⟩, trivial⟩
@[reducible] noncomputable def pa_frame_writer_numbers_h1 : List Pat := [.ptr 0 0, .all 1]
@[reducible] noncomputable def pH_frame_writer_numbers_h1 : List HPat := [.cells 108 [.ptr 0 0, .all 2], .row (.int .u64), .row (.byt 5)]
/-! ### (*domino/frame.writer).numbers -/
abbrev R_frame_writer_numbers_h1 : Type := (List Int) × (List Int) × Unit
@[reducible] noncomputable def qa_frame_writer_numbers_h1 : List Pat := []
@[reducible] noncomputable def qH_frame_writer_numbers_h1 : List HPat := [.cells 108 [.ptr 0 0, .all 3], .fro (.int .u64), .dead, .row (.byt 5)]
def ks_frame_writer_numbers_h1 : List Nat := [53, 47, 58]
noncomputable def b_frame_writer_numbers_h1 (l0 : (List Int)) (l1 : (List Int)) : Option R_frame_writer_numbers_h1 :=
 obind (varint_Puts l0) fun y2 =>
 obind (strings_Builder_copyCheck_h5 l1) fun y3 =>
 bif (decide (((List.length y3.1) + (List.length (strBytes y2.1))) ≤ 4294967296)) then
  let l4 : (List Int) := (y3.1 ++ (strBytes y2.1))
  let n5 : Int := (((ByteArray.size y2.1) : Nat) : Int)
  some (l0, (l4, ()))
 else none
theorem ex_frame_writer_numbers_h1 : ∃ f, f = @b_frame_writer_numbers_h1 := ⟨_, rfl⟩
noncomputable def frame_writer_numbers_h1 := Classical.choose ex_frame_writer_numbers_h1
theorem frame_writer_numbers_h1_eq : @frame_writer_numbers_h1 = @b_frame_writer_numbers_h1 := Classical.choose_spec ex_frame_writer_numbers_h1
noncomputable def hb_frame_writer_numbers_h1 : HCon := HCon.mk0 pa_frame_writer_numbers_h1 pH_frame_writer_numbers_h1 qa_frame_writer_numbers_h1 qH_frame_writer_numbers_h1 R_frame_writer_numbers_h1 (fun x => b_frame_writer_numbers_h1 x.2.2.1 x.2.2.2.1) (fun r => ((), (((), ((), ())), (r.1, ((), (r.2.1, ())))))) (fun y => (y.2.2.1, y.2.2.2.2.1, ())) (fun _ => rfl)
noncomputable def h_frame_writer_numbers_h1 : HCon := HCon.mk0 pa_frame_writer_numbers_h1 pH_frame_writer_numbers_h1 qa_frame_writer_numbers_h1 qH_frame_writer_numbers_h1 R_frame_writer_numbers_h1 (fun x => frame_writer_numbers_h1 x.2.2.1 x.2.2.2.1) (fun r => ((), (((), ((), ())), (r.1, ((), (r.2.1, ())))))) (fun y => (y.2.2.1, y.2.2.2.2.1, ())) (fun _ => rfl)
theorem hb_frame_writer_numbers_h1_ok : hb_frame_writer_numbers_h1.Sound prog Inv gInv 53 :=
 hcon_run (M := m_frame_writer_numbers_h1) (f := f53) rfl ks_frame_writer_numbers_h1 100000 (X := nowhere) (fun base S0 cs0 hn hf => OSound.nowhere) (by intro x; kernel_rfl)
theorem h_frame_writer_numbers_h1_ok : h_frame_writer_numbers_h1.Sound prog Inv gInv 53 := by
 have e : h_frame_writer_numbers_h1 = hb_frame_writer_numbers_h1 := by unfold h_frame_writer_numbers_h1 hb_frame_writer_numbers_h1; rw [frame_writer_numbers_h1_eq]
 rw [e]; exact hb_frame_writer_numbers_h1_ok
noncomputable def m_frame_writer_long_h0 : Mach prog Inv gInv := mach bas [(63, f63), (47, f47), (53, f53), (58, f58)] ⟨ok63, ok47, ok53, ok58, trivial⟩ [(64, c_varint_Puts)] ⟨⟨c_varint_Puts_ok, FnOk.callable ok64⟩, trivial⟩ [] trivial [(58, h_strings_Builder_copyCheck_h0), (47, h_strings_Builder_WriteString_h0), (58, h_strings_Builder_copyCheck_h1), (47, h_strings_Builder_WriteString_h1), (58, h_strings_Builder_copyCheck_h2), (58, h_strings_Builder_copyCheck_h3), (58, h_strings_Builder_copyCheck_h4), (53, h_frame_writer_numbers_h0), (58, h_strings_Builder_copyCheck_h5), (53, h_frame_writer_numbers_h1)] ⟨⟨h_strings_Builder_copyCheck_h0_ok, FnOk.callable ok58⟩, ⟨h_strings_Builder_WriteString_h0_ok, FnOk.callable ok47⟩, ⟨h_strings_Builder_copyCheck_h1_ok, FnOk.callable ok58⟩, ⟨h_strings_Builder_WriteString_h1_ok, FnOk.callable ok47⟩, ⟨h_strings_Builder_copyCheck_h2_ok, FnOk.callable ok58⟩, ⟨h_strings_Builder_copyCheck_h3_ok, FnOk.callable ok58⟩, ⟨h_strings_Builder_copyCheck_h4_ok, FnOk.callable ok58⟩, ⟨h_frame_writer_numbers_h0_ok, FnOk.callable ok53⟩, ⟨h_strings_Builder_copyCheck_h5_ok, FnOk.callable ok58⟩, ⟨h_frame_writer_numbers_h1_ok, FnOk.callable ok53⟩, trivial⟩
@[reducible] noncomputable def pa_frame_writer_long_h0 : List Pat := [.ptr 0 0, .str]
@[reducible] noncomputable def pH_frame_writer_long_h0 : List HPat := [.cells 108 [.ptr 0 0, .all 1], .row (.byt 5)]
/-! ### (*domino/frame.writer).long -/
abbrev R_frame_writer_long_h0 : Type := (List Int) × Unit
@[reducible] noncomputable def qa_frame_writer_long_h0 : List Pat := []
@[reducible] noncomputable def qH_frame_writer_long_h0 : List HPat := [.cells 108 [.ptr 0 0, .all 2], .dead, .row (.byt 5)]
def ks_frame_writer_long_h0 : List Nat := [63, 47, 53, 58]
noncomputable def b_frame_writer_long_h0 (s0 : ByteArray) (l1 : (List Int)) : Option R_frame_writer_long_h0 :=
 let n2 : Int := (((ByteArray.size s0) : Nat) : Int)
 let n3 : Int := (Go.IntKind.wrap Go.IntKind.u64 n2)
 obind (frame_writer_numbers_h1 (n3 :: ([] : List Int)) l1) fun y4 =>
 obind (strings_Builder_copyCheck_h5 y4.2.1) fun y5 =>
 bif (decide (((List.length y5.1) + (List.length (strBytes s0))) ≤ 4294967296)) then
  let l6 : (List Int) := (y5.1 ++ (strBytes s0))
  let n7 : Int := (((ByteArray.size s0) : Nat) : Int)
  some (l6, ())
 else none
theorem ex_frame_writer_long_h0 : ∃ f, f = @b_frame_writer_long_h0 := ⟨_, rfl⟩
noncomputable def frame_writer_long_h0 := Classical.choose ex_frame_writer_long_h0
theorem frame_writer_long_h0_eq : @frame_writer_long_h0 = @b_frame_writer_long_h0 := Classical.choose_spec ex_frame_writer_long_h0
noncomputable def hb_frame_writer_long_h0 : HCon := HCon.mk0 pa_frame_writer_long_h0 pH_frame_writer_long_h0 qa_frame_writer_long_h0 qH_frame_writer_long_h0 R_frame_writer_long_h0 (fun x => b_frame_writer_long_h0 x.1.2.1 x.2.2.1) (fun r => ((), (((), ((), ())), ((), (r.1, ()))))) (fun y => (y.2.2.2.1, ())) (fun _ => rfl)
noncomputable def h_frame_writer_long_h0 : HCon := HCon.mk0 pa_frame_writer_long_h0 pH_frame_writer_long_h0 qa_frame_writer_long_h0 qH_frame_writer_long_h0 R_frame_writer_long_h0 (fun x => frame_writer_long_h0 x.1.2.1 x.2.2.1) (fun r => ((), (((), ((), ())), ((), (r.1, ()))))) (fun y => (y.2.2.2.1, ())) (fun _ => rfl)
theorem hb_frame_writer_long_h0_ok : hb_frame_writer_long_h0.Sound prog Inv gInv 63 :=
 hcon_run (M := m_frame_writer_long_h0) (f := f63) rfl ks_frame_writer_long_h0 100000 (X := nowhere) (fun base S0 cs0 hn hf => OSound.nowhere) (by intro x; kernel_rfl)
theorem h_frame_writer_long_h0_ok : h_frame_writer_long_h0.Sound prog Inv gInv 63 := by
 have e : h_frame_writer_long_h0 = hb_frame_writer_long_h0 := by unfold h_frame_writer_long_h0 hb_frame_writer_long_h0; rw [frame_writer_long_h0_eq]
 rw [e]; exact hb_frame_writer_long_h0_ok
noncomputable def m_frame_writer_stream_h0 : Mach prog Inv gInv := mach bas [(52, f52), (47, f47), (53, f53), (58, f58), (63, f63)] ⟨ok52, ok47, ok53, ok58, ok63, trivial⟩ [(64, c_varint_Puts)] ⟨⟨c_varint_Puts_ok, FnOk.callable ok64⟩, trivial⟩ [] trivial [(58, h_strings_Builder_copyCheck_h0), (47, h_strings_Builder_WriteString_h0), (58, h_strings_Builder_copyCheck_h1), (47, h_strings_Builder_WriteString_h1), (58, h_strings_Builder_copyCheck_h2), (58, h_strings_Builder_copyCheck_h3), (58, h_strings_Builder_copyCheck_h4), (53, h_frame_writer_numbers_h0), (58, h_strings_Builder_copyCheck_h5), (53, h_frame_writer_numbers_h1), (63, h_frame_writer_long_h0)] ⟨⟨h_strings_Builder_copyCheck_h0_ok, FnOk.callable ok58⟩, ⟨h_strings_Builder_WriteString_h0_ok, FnOk.callable ok47⟩, ⟨h_strings_Builder_copyCheck_h1_ok, FnOk.callable ok58⟩, ⟨h_strings_Builder_WriteString_h1_ok, FnOk.callable ok47⟩, ⟨h_strings_Builder_copyCheck_h2_ok, FnOk.callable ok58⟩, ⟨h_strings_Builder_copyCheck_h3_ok, FnOk.callable ok58⟩, ⟨h_strings_Builder_copyCheck_h4_ok, FnOk.callable ok58⟩, ⟨h_frame_writer_numbers_h0_ok, FnOk.callable ok53⟩, ⟨h_strings_Builder_copyCheck_h5_ok, FnOk.callable ok58⟩, ⟨h_frame_writer_numbers_h1_ok, FnOk.callable ok53⟩, ⟨h_frame_writer_long_h0_ok, FnOk.callable ok63⟩, trivial⟩
@[reducible] noncomputable def pa_frame_writer_stream_h0 : List Pat := [.ptr 0 0, .dat T_frame_Frame]
@[reducible] noncomputable def pH_frame_writer_stream_h0 : List HPat := [.cells 108 [.nilPtr, .nilSlice]]
/-! ### (*domino/frame.writer).stream -/
abbrev R_frame_writer_stream_h0 : Type := (List Int) × Unit
@[reducible] noncomputable def qa_frame_writer_stream_h0 : List Pat := []
@[reducible] noncomputable def qH_frame_writer_stream_h0 : List HPat := [.cells 108 [.ptr 0 0, .all 1], .row (.byt 5)]
noncomputable def g_frame_writer_stream_h0 : HCon := HCon.mk0 pa_frame_writer_stream_h0 pH_frame_writer_stream_h0 qa_frame_writer_stream_h0 qH_frame_writer_stream_h0 R_frame_writer_stream_h0 (fun _ => none) (fun r => ((), (((), ((), ())), (r.1, ())))) (fun y => (y.2.2.1, ())) (fun _ => rfl)
def ks_frame_writer_stream_h0 : List Nat := [52, 47, 53, 58, 63]
abbrev H_frame_writer_stream_h0 (base : Base) (S0 : Nat → Prop) := base.n = 1 ∧ FinOk (finH g_frame_writer_stream_h0) base S0 (HPost g_frame_writer_stream_h0 base S0)
abbrev J_frame_writer_stream_h0 (base : Base) (S0 : Nat → Prop) (cs0 : List Go.Frame) (p : CPat) (J : denC p → Option R_frame_writer_stream_h0) := JSound m_frame_writer_stream_h0 base S0 cs0 (HPost g_frame_writer_stream_h0 base S0) p J
abbrev O_frame_writer_stream_h0 (base : Base) (S0 : Nat → Prop) (cs0 : List Go.Frame) (X : Cfg → Option (Option R_frame_writer_stream_h0)) := OSound m_frame_writer_stream_h0 base S0 cs0 (HPost g_frame_writer_stream_h0 base S0) X
@[reducible] noncomputable def p_frame_writer_stream_h0_2 : CPat := ⟨⟨52, [1, 1, 1, 1, 1, 1], none, [.ptr 0 0, .any, .any, .ptr 1 0], 28⟩, [], [.cells 108 [.ptr 0 0, .all 2], .dat 36 T_frame_Frame, .row (.byt 5)], 1⟩
@[reducible] noncomputable def u_frame_writer_stream_h0_2 (k : D_frame_Frame → (List Int) → Option R_frame_writer_stream_h0) : denC p_frame_writer_stream_h0_2 → Option R_frame_writer_stream_h0 := fun x => k x.2.2.2.1 x.2.2.2.2.1
noncomputable def b_frame_writer_stream_h0_2 (d14 : D_frame_Frame) (l15 : (List Int)) : Option R_frame_writer_stream_h0 :=
 obind (frame_writer_long_h0 d14.2.2.2.2.2.2.2.2.2.1 l15) fun y16 =>
 some (y16.1, ())
theorem ex_frame_writer_stream_h0_2 : ∃ f, f = @b_frame_writer_stream_h0_2 := ⟨_, rfl⟩
noncomputable def frame_writer_stream_h0_2 := Classical.choose ex_frame_writer_stream_h0_2
theorem frame_writer_stream_h0_2_eq : @frame_writer_stream_h0_2 = @b_frame_writer_stream_h0_2 := Classical.choose_spec ex_frame_writer_stream_h0_2
theorem s_frame_writer_stream_h0_2 {base S0 cs0} (hfin : H_frame_writer_stream_h0 base S0) : J_frame_writer_stream_h0 base S0 cs0 p_frame_writer_stream_h0_2 (u_frame_writer_stream_h0_2 (frame_writer_stream_h0_2)) :=
 JSound.join hfin.2 (OSound.nowhere) ks_frame_writer_stream_h0 100000 (by rw [frame_writer_stream_h0_2_eq]; intro x; kernel_rfl)
noncomputable def x_frame_writer_stream_h0_2 : Cfg → Option (Option R_frame_writer_stream_h0) := cut p_frame_writer_stream_h0_2 (u_frame_writer_stream_h0_2 (frame_writer_stream_h0_2)) (nowhere)
theorem o_frame_writer_stream_h0_2 {base S0 cs0} (hfin : H_frame_writer_stream_h0 base S0) : O_frame_writer_stream_h0 base S0 cs0 (x_frame_writer_stream_h0_2) := OSound.cut (OSound.nowhere) (Nat.le_of_eq hfin.1) (s_frame_writer_stream_h0_2 hfin)
@[reducible] noncomputable def p_frame_writer_stream_h0_1 : CPat := ⟨⟨52, [1, 1, 1, 1], none, [.ptr 0 0, .any, .any, .ptr 1 0, .int .u64], 27⟩, [], [.cells 108 [.nilPtr, .nilSlice], .dat 36 T_frame_Frame], 1⟩
@[reducible] noncomputable def u_frame_writer_stream_h0_1 (k : Int → D_frame_Frame → Option R_frame_writer_stream_h0) : denC p_frame_writer_stream_h0_1 → Option R_frame_writer_stream_h0 := fun x => k x.1.2.2.2.2.1 x.2.2.2.1
noncomputable def b_frame_writer_stream_h0_1 (i8 : Int) (d9 : D_frame_Frame) : Option R_frame_writer_stream_h0 :=
 obind (frame_writer_numbers_h0 (i8 :: (d9.2.1 :: ([] : List Int)))) fun y10 =>
 let b11 : Bool := (d9.2.2.1 != (0 : Int))
 bif b11 then
  obind (frame_writer_numbers_h1 (d9.2.2.1 :: ([] : List Int)) y10.2.1) fun y12 =>
  frame_writer_stream_h0_2 d9 y12.2.1
 else
  frame_writer_stream_h0_2 d9 y10.2.1
theorem ex_frame_writer_stream_h0_1 : ∃ f, f = @b_frame_writer_stream_h0_1 := ⟨_, rfl⟩
noncomputable def frame_writer_stream_h0_1 := Classical.choose ex_frame_writer_stream_h0_1
theorem frame_writer_stream_h0_1_eq : @frame_writer_stream_h0_1 = @b_frame_writer_stream_h0_1 := Classical.choose_spec ex_frame_writer_stream_h0_1
theorem s_frame_writer_stream_h0_1 {base S0 cs0} (hfin : H_frame_writer_stream_h0 base S0) : J_frame_writer_stream_h0 base S0 cs0 p_frame_writer_stream_h0_1 (u_frame_writer_stream_h0_1 (frame_writer_stream_h0_1)) :=
 JSound.join hfin.2 (o_frame_writer_stream_h0_2 hfin) ks_frame_writer_stream_h0 100000 (by rw [frame_writer_stream_h0_1_eq]; intro x; kernel_rfl)
noncomputable def x_frame_writer_stream_h0_1 : Cfg → Option (Option R_frame_writer_stream_h0) := cut p_frame_writer_stream_h0_1 (u_frame_writer_stream_h0_1 (frame_writer_stream_h0_1)) (x_frame_writer_stream_h0_2)
theorem o_frame_writer_stream_h0_1 {base S0 cs0} (hfin : H_frame_writer_stream_h0 base S0) : O_frame_writer_stream_h0 base S0 cs0 (x_frame_writer_stream_h0_1) := OSound.cut (o_frame_writer_stream_h0_2 hfin) (Nat.le_of_eq hfin.1) (s_frame_writer_stream_h0_1 hfin)
@[reducible] noncomputable def p_frame_writer_stream_h0_0 : CPat := ⟨⟨52, [1, 1, 1], none, [.ptr 0 0, .any, .any, .ptr 1 0, .int .u64], 27⟩, [], [.cells 108 [.nilPtr, .nilSlice], .dat 36 T_frame_Frame], 1⟩
@[reducible] noncomputable def u_frame_writer_stream_h0_0 (k : Int → D_frame_Frame → Option R_frame_writer_stream_h0) : denC p_frame_writer_stream_h0_0 → Option R_frame_writer_stream_h0 := fun x => k x.1.2.2.2.2.1 x.2.2.2.1
noncomputable def b_frame_writer_stream_h0_0 (i3 : Int) (d4 : D_frame_Frame) : Option R_frame_writer_stream_h0 :=
 bif d4.2.2.2.2.2.2.2.2.1 then
  let n5 : Int := (bits Go.BinOp.or Go.IntKind.u64 i3 (1 : Int))
  frame_writer_stream_h0_1 n5 d4
 else
  frame_writer_stream_h0_1 i3 d4
theorem ex_frame_writer_stream_h0_0 : ∃ f, f = @b_frame_writer_stream_h0_0 := ⟨_, rfl⟩
noncomputable def frame_writer_stream_h0_0 := Classical.choose ex_frame_writer_stream_h0_0
theorem frame_writer_stream_h0_0_eq : @frame_writer_stream_h0_0 = @b_frame_writer_stream_h0_0 := Classical.choose_spec ex_frame_writer_stream_h0_0
theorem s_frame_writer_stream_h0_0 {base S0 cs0} (hfin : H_frame_writer_stream_h0 base S0) : J_frame_writer_stream_h0 base S0 cs0 p_frame_writer_stream_h0_0 (u_frame_writer_stream_h0_0 (frame_writer_stream_h0_0)) :=
 JSound.join hfin.2 (o_frame_writer_stream_h0_1 hfin) ks_frame_writer_stream_h0 100000 (by rw [frame_writer_stream_h0_0_eq]; intro x; kernel_rfl)
noncomputable def x_frame_writer_stream_h0_0 : Cfg → Option (Option R_frame_writer_stream_h0) := cut p_frame_writer_stream_h0_0 (u_frame_writer_stream_h0_0 (frame_writer_stream_h0_0)) (x_frame_writer_stream_h0_1)
theorem o_frame_writer_stream_h0_0 {base S0 cs0} (hfin : H_frame_writer_stream_h0 base S0) : O_frame_writer_stream_h0 base S0 cs0 (x_frame_writer_stream_h0_0) := OSound.cut (o_frame_writer_stream_h0_1 hfin) (Nat.le_of_eq hfin.1) (s_frame_writer_stream_h0_0 hfin)
noncomputable def b_frame_writer_stream_h0 (d0 : D_frame_Frame) : Option R_frame_writer_stream_h0 :=
 let b1 : Bool := (d0.2.2.1 != (0 : Int))
 bif b1 then
  let n2 : Int := (bits Go.BinOp.or Go.IntKind.u64 (10 : Int) (4 : Int))
  frame_writer_stream_h0_0 n2 d0
 else
  frame_writer_stream_h0_0 (10 : Int) d0
theorem ex_frame_writer_stream_h0 : ∃ f, f = @b_frame_writer_stream_h0 := ⟨_, rfl⟩
noncomputable def frame_writer_stream_h0 := Classical.choose ex_frame_writer_stream_h0
theorem frame_writer_stream_h0_eq : @frame_writer_stream_h0 = @b_frame_writer_stream_h0 := Classical.choose_spec ex_frame_writer_stream_h0
noncomputable def hb_frame_writer_stream_h0 : HCon := HCon.mk0 pa_frame_writer_stream_h0 pH_frame_writer_stream_h0 qa_frame_writer_stream_h0 qH_frame_writer_stream_h0 R_frame_writer_stream_h0 (fun x => b_frame_writer_stream_h0 x.1.2.1) (fun r => ((), (((), ((), ())), (r.1, ())))) (fun y => (y.2.2.1, ())) (fun _ => rfl)
noncomputable def h_frame_writer_stream_h0 : HCon := HCon.mk0 pa_frame_writer_stream_h0 pH_frame_writer_stream_h0 qa_frame_writer_stream_h0 qH_frame_writer_stream_h0 R_frame_writer_stream_h0 (fun x => frame_writer_stream_h0 x.1.2.1) (fun r => ((), (((), ((), ())), (r.1, ())))) (fun y => (y.2.2.1, ())) (fun _ => rfl)
theorem hb_frame_writer_stream_h0_ok : hb_frame_writer_stream_h0.Sound prog Inv gInv 52 :=
 hcon_run (M := m_frame_writer_stream_h0) (f := f52) rfl ks_frame_writer_stream_h0 100000 (X := x_frame_writer_stream_h0_0) (fun base S0 cs0 hn hf => have hfin : H_frame_writer_stream_h0 base S0 := ⟨hn, hf⟩; o_frame_writer_stream_h0_0 hfin) (by intro x; kernel_rfl)
theorem h_frame_writer_stream_h0_ok : h_frame_writer_stream_h0.Sound prog Inv gInv 52 := by
 have e : h_frame_writer_stream_h0 = hb_frame_writer_stream_h0 := by unfold h_frame_writer_stream_h0 hb_frame_writer_stream_h0; rw [frame_writer_stream_h0_eq]
 rw [e]; exact hb_frame_writer_stream_h0_ok
noncomputable def m_strings_Builder_WriteString_h2 : Mach prog Inv gInv := mach bas [(47, f47), (58, f58)] ⟨ok47, ok58, trivial⟩ [] trivial [] trivial [(58, h_strings_Builder_copyCheck_h0), (58, h_strings_Builder_copyCheck_h1), (58, h_strings_Builder_copyCheck_h2), (58, h_strings_Builder_copyCheck_h3), (58, h_strings_Builder_copyCheck_h4), (58, h_strings_Builder_copyCheck_h5)] ⟨⟨h_strings_Builder_copyCheck_h0_ok, FnOk.callable ok58⟩, ⟨h_strings_Builder_copyCheck_h1_ok, FnOk.callable ok58⟩, ⟨h_strings_Builder_copyCheck_h2_ok, FnOk.callable ok58⟩, ⟨h_strings_Builder_copyCheck_h3_ok, FnOk.callable ok58⟩, ⟨h_strings_Builder_copyCheck_h4_ok, FnOk.callable ok58⟩, ⟨h_strings_Builder_copyCheck_h5_ok, FnOk.callable ok58⟩, trivial⟩
@[reducible] noncomputable def pa_strings_Builder_WriteString_h2 : List Pat := [.ptr 0 0, .str]
@[reducible] noncomputable def pH_strings_Builder_WriteString_h2 : List HPat := [.cells 108 [.ptr 0 0, .all 1], .row (.byt 5)]
/-! ### (*strings.Builder).WriteString -/
abbrev R_strings_Builder_WriteString_h2 : Type := Int × (List Int) × Unit
@[reducible] noncomputable def qa_strings_Builder_WriteString_h2 : List Pat := [.int .i64, .nilIface]
@[reducible] noncomputable def qH_strings_Builder_WriteString_h2 : List HPat := [.cells 108 [.ptr 0 0, .all 2], .dead, .row (.byt 5)]
def ks_strings_Builder_WriteString_h2 : List Nat := [47, 58]
noncomputable def b_strings_Builder_WriteString_h2 (s0 : ByteArray) (l1 : (List Int)) : Option R_strings_Builder_WriteString_h2 :=
 obind (strings_Builder_copyCheck_h5 l1) fun y2 =>
 bif (decide (((List.length y2.1) + (List.length (strBytes s0))) ≤ 4294967296)) then
  let l3 : (List Int) := (y2.1 ++ (strBytes s0))
  let n4 : Int := (((ByteArray.size s0) : Nat) : Int)
  some (n4, (l3, ()))
 else none
theorem ex_strings_Builder_WriteString_h2 : ∃ f, f = @b_strings_Builder_WriteString_h2 := ⟨_, rfl⟩
noncomputable def strings_Builder_WriteString_h2 := Classical.choose ex_strings_Builder_WriteString_h2
theorem strings_Builder_WriteString_h2_eq : @strings_Builder_WriteString_h2 = @b_strings_Builder_WriteString_h2 := Classical.choose_spec ex_strings_Builder_WriteString_h2
noncomputable def hb_strings_Builder_WriteString_h2 : HCon := HCon.mk0 pa_strings_Builder_WriteString_h2 pH_strings_Builder_WriteString_h2 qa_strings_Builder_WriteString_h2 qH_strings_Builder_WriteString_h2 R_strings_Builder_WriteString_h2 (fun x => b_strings_Builder_WriteString_h2 x.1.2.1 x.2.2.1) (fun r => ((r.1, ((), ())), (((), ((), ())), ((), (r.2.1, ()))))) (fun y => (y.1.1, y.2.2.2.1, ())) (fun _ => rfl)
noncomputable def h_strings_Builder_WriteString_h2 : HCon := HCon.mk0 pa_strings_Builder_WriteString_h2 pH_strings_Builder_WriteString_h2 qa_strings_Builder_WriteString_h2 qH_strings_Builder_WriteString_h2 R_strings_Builder_WriteString_h2 (fun x => strings_Builder_WriteString_h2 x.1.2.1 x.2.2.1) (fun r => ((r.1, ((), ())), (((), ((), ())), ((), (r.2.1, ()))))) (fun y => (y.1.1, y.2.2.2.1, ())) (fun _ => rfl)
theorem hb_strings_Builder_WriteString_h2_ok : hb_strings_Builder_WriteString_h2.Sound prog Inv gInv 47 :=
 hcon_run (M := m_strings_Builder_WriteString_h2) (f := f47) rfl ks_strings_Builder_WriteString_h2 100000 (X := nowhere) (fun base S0 cs0 hn hf => OSound.nowhere) (by intro x; kernel_rfl)
theorem h_strings_Builder_WriteString_h2_ok : h_strings_Builder_WriteString_h2.Sound prog Inv gInv 47 := by
 have e : h_strings_Builder_WriteString_h2 = hb_strings_Builder_WriteString_h2 := by unfold h_strings_Builder_WriteString_h2 hb_strings_Builder_WriteString_h2; rw [strings_Builder_WriteString_h2_eq]
 rw [e]; exact hb_strings_Builder_WriteString_h2_ok
noncomputable def m_strings_Builder_WriteByte_h0 : Mach prog Inv gInv := mach bas [(67, f67), (58, f58)] ⟨ok67, ok58, trivial⟩ [] trivial [] trivial [(58, h_strings_Builder_copyCheck_h0), (58, h_strings_Builder_copyCheck_h1), (58, h_strings_Builder_copyCheck_h2), (58, h_strings_Builder_copyCheck_h3), (58, h_strings_Builder_copyCheck_h4), (58, h_strings_Builder_copyCheck_h5)] ⟨⟨h_strings_Builder_copyCheck_h0_ok, FnOk.callable ok58⟩, ⟨h_strings_Builder_copyCheck_h1_ok, FnOk.callable ok58⟩, ⟨h_strings_Builder_copyCheck_h2_ok, FnOk.callable ok58⟩, ⟨h_strings_Builder_copyCheck_h3_ok, FnOk.callable ok58⟩, ⟨h_strings_Builder_copyCheck_h4_ok, FnOk.callable ok58⟩, ⟨h_strings_Builder_copyCheck_h5_ok, FnOk.callable ok58⟩, trivial⟩
@[reducible] noncomputable def pa_strings_Builder_WriteByte_h0 : List Pat := [.ptr 0 0, .int .u8]
@[reducible] noncomputable def pH_strings_Builder_WriteByte_h0 : List HPat := [.cells 108 [.ptr 0 0, .all 1], .row (.byt 5)]
/-! ### (*strings.Builder).WriteByte -/
abbrev R_strings_Builder_WriteByte_h0 : Type := (List Int) × Unit
@[reducible] noncomputable def qa_strings_Builder_WriteByte_h0 : List Pat := [.nilIface]
@[reducible] noncomputable def qH_strings_Builder_WriteByte_h0 : List HPat := [.cells 108 [.ptr 0 0, .all 2], .dead, .row (.byt 5)]
def ks_strings_Builder_WriteByte_h0 : List Nat := [67, 58]
noncomputable def b_strings_Builder_WriteByte_h0 (i0 : Int) (l1 : (List Int)) : Option R_strings_Builder_WriteByte_h0 :=
 obind (strings_Builder_copyCheck_h5 l1) fun y2 =>
 bif (decide (((List.length y2.1) + (List.length (i0 :: ([] : List Int)))) ≤ 4294967296)) then
  let l3 : (List Int) := (y2.1 ++ (i0 :: ([] : List Int)))
  some (l3, ())
 else none
theorem ex_strings_Builder_WriteByte_h0 : ∃ f, f = @b_strings_Builder_WriteByte_h0 := ⟨_, rfl⟩
noncomputable def strings_Builder_WriteByte_h0 := Classical.choose ex_strings_Builder_WriteByte_h0
theorem strings_Builder_WriteByte_h0_eq : @strings_Builder_WriteByte_h0 = @b_strings_Builder_WriteByte_h0 := Classical.choose_spec ex_strings_Builder_WriteByte_h0
noncomputable def hb_strings_Builder_WriteByte_h0 : HCon := HCon.mk0 pa_strings_Builder_WriteByte_h0 pH_strings_Builder_WriteByte_h0 qa_strings_Builder_WriteByte_h0 qH_strings_Builder_WriteByte_h0 R_strings_Builder_WriteByte_h0 (fun x => b_strings_Builder_WriteByte_h0 x.1.2.1 x.2.2.1) (fun r => (((), ()), (((), ((), ())), ((), (r.1, ()))))) (fun y => (y.2.2.2.1, ())) (fun _ => rfl)
noncomputable def h_strings_Builder_WriteByte_h0 : HCon := HCon.mk0 pa_strings_Builder_WriteByte_h0 pH_strings_Builder_WriteByte_h0 qa_strings_Builder_WriteByte_h0 qH_strings_Builder_WriteByte_h0 R_strings_Builder_WriteByte_h0 (fun x => strings_Builder_WriteByte_h0 x.1.2.1 x.2.2.1) (fun r => (((), ()), (((), ((), ())), ((), (r.1, ()))))) (fun y => (y.2.2.2.1, ())) (fun _ => rfl)
theorem hb_strings_Builder_WriteByte_h0_ok : hb_strings_Builder_WriteByte_h0.Sound prog Inv gInv 67 :=
 hcon_run (M := m_strings_Builder_WriteByte_h0) (f := f67) rfl ks_strings_Builder_WriteByte_h0 100000 (X := nowhere) (fun base S0 cs0 hn hf => OSound.nowhere) (by intro x; kernel_rfl)
theorem h_strings_Builder_WriteByte_h0_ok : h_strings_Builder_WriteByte_h0.Sound prog Inv gInv 67 := by
 have e : h_strings_Builder_WriteByte_h0 = hb_strings_Builder_WriteByte_h0 := by unfold h_strings_Builder_WriteByte_h0 hb_strings_Builder_WriteByte_h0; rw [strings_Builder_WriteByte_h0_eq]
 rw [e]; exact hb_strings_Builder_WriteByte_h0_ok
noncomputable def m_frame_writer_parts_h0 : Mach prog Inv gInv := mach bas [(54, f54), (47, f47), (53, f53), (58, f58), (63, f63), (66, f66), (67, f67)] ⟨ok54, ok47, ok53, ok58, ok63, ok66, ok67, trivial⟩ [(64, c_varint_Puts)] ⟨⟨c_varint_Puts_ok, FnOk.callable ok64⟩, trivial⟩ [(65, c_slices_Clone_ranges_Range)] ⟨⟨c_slices_Clone_ranges_Range_ok, FnOk.callable ok65⟩, trivial⟩ [(58, h_strings_Builder_copyCheck_h0), (47, h_strings_Builder_WriteString_h0), (58, h_strings_Builder_copyCheck_h1), (47, h_strings_Builder_WriteString_h1), (58, h_strings_Builder_copyCheck_h2), (58, h_strings_Builder_copyCheck_h3), (58, h_strings_Builder_copyCheck_h4), (53, h_frame_writer_numbers_h0), (58, h_strings_Builder_copyCheck_h5), (53, h_frame_writer_numbers_h1), (63, h_frame_writer_long_h0), (47, h_strings_Builder_WriteString_h2), (67, h_strings_Builder_WriteByte_h0)] ⟨⟨h_strings_Builder_copyCheck_h0_ok, FnOk.callable ok58⟩, ⟨h_strings_Builder_WriteString_h0_ok, FnOk.callable ok47⟩, ⟨h_strings_Builder_copyCheck_h1_ok, FnOk.callable ok58⟩, ⟨h_strings_Builder_WriteString_h1_ok, FnOk.callable ok47⟩, ⟨h_strings_Builder_copyCheck_h2_ok, FnOk.callable ok58⟩, ⟨h_strings_Builder_copyCheck_h3_ok, FnOk.callable ok58⟩, ⟨h_strings_Builder_copyCheck_h4_ok, FnOk.callable ok58⟩, ⟨h_frame_writer_numbers_h0_ok, FnOk.callable ok53⟩, ⟨h_strings_Builder_copyCheck_h5_ok, FnOk.callable ok58⟩, ⟨h_frame_writer_numbers_h1_ok, FnOk.callable ok53⟩, ⟨h_frame_writer_long_h0_ok, FnOk.callable ok63⟩, ⟨h_strings_Builder_WriteString_h2_ok, FnOk.callable ok47⟩, ⟨h_strings_Builder_WriteByte_h0_ok, FnOk.callable ok67⟩, trivial⟩
@[reducible] noncomputable def pa_frame_writer_parts_h0 : List Pat := [.ptr 0 0, .dat T_frame_Frame]
@[reducible] noncomputable def pH_frame_writer_parts_h0 : List HPat := [.cells 108 [.ptr 0 0, .all 1], .row (.byt 5)]
/-! ### (*domino/frame.writer).parts -/
abbrev R_frame_writer_parts_h0 : Type := (List Int) × Unit
@[reducible] noncomputable def qa_frame_writer_parts_h0 : List Pat := []
@[reducible] noncomputable def qH_frame_writer_parts_h0 : List HPat := [.cells 108 [.ptr 0 0, .all 2], .dead, .row (.byt 5)]
noncomputable def g_frame_writer_parts_h0 : HCon := HCon.mk0 pa_frame_writer_parts_h0 pH_frame_writer_parts_h0 qa_frame_writer_parts_h0 qH_frame_writer_parts_h0 R_frame_writer_parts_h0 (fun _ => none) (fun r => ((), (((), ((), ())), ((), (r.1, ()))))) (fun y => (y.2.2.2.1, ())) (fun _ => rfl)
def ks_frame_writer_parts_h0 : List Nat := [54, 47, 53, 58, 63, 66, 67]
abbrev H_frame_writer_parts_h0 (base : Base) (S0 : Nat → Prop) := base.n = 2 ∧ FinOk (finH g_frame_writer_parts_h0) base S0 (HPost g_frame_writer_parts_h0 base S0)
abbrev J_frame_writer_parts_h0 (base : Base) (S0 : Nat → Prop) (cs0 : List Go.Frame) (p : CPat) (J : denC p → Option R_frame_writer_parts_h0) := JSound m_frame_writer_parts_h0 base S0 cs0 (HPost g_frame_writer_parts_h0 base S0) p J
abbrev O_frame_writer_parts_h0 (base : Base) (S0 : Nat → Prop) (cs0 : List Go.Frame) (X : Cfg → Option (Option R_frame_writer_parts_h0)) := OSound m_frame_writer_parts_h0 base S0 cs0 (HPost g_frame_writer_parts_h0 base S0) X
@[reducible] noncomputable def p_frame_writer_parts_h0_4 : CPat := ⟨⟨54, [1, 1, 0, 1, 1, 1, 1, 1, 1, 1, 1, 1, 1, 1, 1, 1, 1, 1, 1, 1], none, [.ptr 0 0, .any, .any, .ptr 2 0, .any, .any, .any, .any, .int .u64, .any, .any, .any, .any, .any, .any, .any, .any, .any, .any, .any, .any, .any, .any, .any, .any, .any, .any, .any, .any, .any, .any, .any, .any, .any, .any, .any, .any, .any, .any, .any, .any, .any, .any, .any, .any, .any, .any, .any, .any, .any, .any, .any, .any, .any, .any, .any, .any, .any, .any, .any, .any, .any, .any, .any, .any, .any, .any, .any, .any, .any, .any, .any, .any, .any, .any, .any, .any, .any, .any, .any, .any, .any, .any, .any, .any, .any, .any, .any, .any, .any, .any, .any, .any, .any, .any, .any, .any, .any, .any, .any, .any, .any, .any, .any, .any, .any, .any, .any, .any, .any, .any, .any, .any, .any, .any, .any, .any, .any, .any, .any, .any, .any, .any, .any, .any, .any, .any, .any, .any, .any, .any, .any, .any, .any, .any, .any, .any, .any, .any, .any, .any, .any, .any, .any, .any, .any, .any, .any, .any, .any, .bool], 32⟩, [], [.cells 108 [.ptr 0 0, .all 1], .row (.byt 5), .dat 36 T_frame_Frame], 2⟩
@[reducible] noncomputable def u_frame_writer_parts_h0_4 (k : Int → Bool → (List Int) → D_frame_Frame → Option R_frame_writer_parts_h0) : denC p_frame_writer_parts_h0_4 → Option R_frame_writer_parts_h0 := fun x => k x.1.2.2.2.2.2.2.2.2.1 x.1.2.2.2.2.2.2.2.2.2.2.2.2.2.2.2.2.2.2.2.2.2.2.2.2.2.2.2.2.2.2.2.2.2.2.2.2.2.2.2.2.2.2.2.2.2.2.2.2.2.2.2.2.2.2.2.2.2.2.2.2.2.2.2.2.2.2.2.2.2.2.2.2.2.2.2.2.2.2.2.2.2.2.2.2.2.2.2.2.2.2.2.2.2.2.2.2.2.2.2.2.2.2.2.2.2.2.2.2.2.2.2.2.2.2.2.2.2.2.2.2.2.2.2.2.2.2.2.2.2.2.2.2.2.2.2.2.2.2.2.2.2.2.2.2.2.2.2.2.2.2.1 x.2.2.2.1 x.2.2.2.2.1
noncomputable def b_frame_writer_parts_h0_4 (i125 : Int) (b126 : Bool) (l127 : (List Int)) (d128 : D_frame_Frame) : Option R_frame_writer_parts_h0 :=
 bif b126 then
  obind (strings_Builder_WriteString_h2 d128.2.2.2.2.2.2.2.2.2.2.2.1 l127) fun y129 =>
  some (y129.2.1, ())
 else
  let b130 : Bool := (i125 == (28 : Int))
  bif b130 then
   obind (frame_writer_numbers_h1 (d128.2.2.2.2.1 :: (d128.2.2.2.2.2.2.2.1 :: ([] : List Int))) l127) fun y131 =>
   obind (frame_writer_long_h0 d128.2.2.2.2.2.2.2.2.2.1 y131.2.1) fun y132 =>
   some (y132.1, ())
  else
   let b133 : Bool := (i125 == (29 : Int))
   bif b133 then
    obind (frame_writer_numbers_h1 (d128.2.2.2.2.1 :: ([] : List Int)) l127) fun y134 =>
    obind (frame_writer_long_h0 d128.2.2.2.2.2.2.2.2.2.1 y134.2.1) fun y135 =>
    some (y135.1, ())
   else
    some (l127, ())
theorem ex_frame_writer_parts_h0_4 : ∃ f, f = @b_frame_writer_parts_h0_4 := ⟨_, rfl⟩
noncomputable def frame_writer_parts_h0_4 := Classical.choose ex_frame_writer_parts_h0_4
theorem frame_writer_parts_h0_4_eq : @frame_writer_parts_h0_4 = @b_frame_writer_parts_h0_4 := Classical.choose_spec ex_frame_writer_parts_h0_4
theorem s_frame_writer_parts_h0_4 {base S0 cs0} (hfin : H_frame_writer_parts_h0 base S0) : J_frame_writer_parts_h0 base S0 cs0 p_frame_writer_parts_h0_4 (u_frame_writer_parts_h0_4 (frame_writer_parts_h0_4)) :=
 JSound.join hfin.2 (OSound.nowhere) ks_frame_writer_parts_h0 100000 (by rw [frame_writer_parts_h0_4_eq]; intro x; kernel_rfl)
noncomputable def x_frame_writer_parts_h0_4 : Cfg → Option (Option R_frame_writer_parts_h0) := cut p_frame_writer_parts_h0_4 (u_frame_writer_parts_h0_4 (frame_writer_parts_h0_4)) (nowhere)
theorem o_frame_writer_parts_h0_4 {base S0 cs0} (hfin : H_frame_writer_parts_h0 base S0) : O_frame_writer_parts_h0 base S0 cs0 (x_frame_writer_parts_h0_4) := OSound.cut (OSound.nowhere) (Nat.le_of_eq hfin.1) (s_frame_writer_parts_h0_4 hfin)
@[reducible] noncomputable def p_frame_writer_parts_h0_3 : CPat := ⟨⟨54, [1, 1, 0, 1, 1, 1, 1, 1, 1, 1, 1, 1, 1, 1], none, [.ptr 0 0, .any, .any, .ptr 2 0, .any, .any, .any, .any, .int .u64, .any, .any, .any, .any, .any, .any, .any, .any, .any, .any, .any, .any, .any, .any, .any, .any, .any, .any, .any, .any, .any, .any, .any, .any, .any, .any, .any, .any, .any, .any, .any, .any, .any, .any, .any, .any, .any, .any, .any, .any, .any, .any, .any, .any, .any, .any, .any, .any, .any, .any, .any, .any, .any, .any, .any, .any, .any, .any, .any, .any, .any, .any, .any, .any, .any, .any, .any, .any, .any, .any, .any, .any, .any, .any, .any, .any, .any, .any, .any, .any, .any, .any, .any, .any, .any, .any, .any, .any, .any, .any, .any, .any, .any, .any, .any, .any, .any, .any, .bool], 75⟩, [], [.cells 108 [.ptr 0 0, .all 1], .row (.byt 5), .dat 36 T_frame_Frame], 2⟩
@[reducible] noncomputable def u_frame_writer_parts_h0_3 (k : Int → Bool → (List Int) → D_frame_Frame → Option R_frame_writer_parts_h0) : denC p_frame_writer_parts_h0_3 → Option R_frame_writer_parts_h0 := fun x => k x.1.2.2.2.2.2.2.2.2.1 x.1.2.2.2.2.2.2.2.2.2.2.2.2.2.2.2.2.2.2.2.2.2.2.2.2.2.2.2.2.2.2.2.2.2.2.2.2.2.2.2.2.2.2.2.2.2.2.2.2.2.2.2.2.2.2.2.2.2.2.2.2.2.2.2.2.2.2.2.2.2.2.2.2.2.2.2.2.2.2.2.2.2.2.2.2.2.2.2.2.2.2.2.2.2.2.2.2.2.2.2.2.2.2.2.2.2.2.2.1 x.2.2.2.1 x.2.2.2.2.1
noncomputable def b_frame_writer_parts_h0_3 (i109 : Int) (b110 : Bool) (l111 : (List Int)) (d112 : D_frame_Frame) : Option R_frame_writer_parts_h0 :=
 bif b110 then
  obind (frame_writer_numbers_h1 (d112.2.1 :: (d112.2.2.2.1 :: ([] : List Int))) l111) fun y113 =>
  some (y113.2.1, ())
 else
  let b114 : Bool := (i109 == (24 : Int))
  bif b114 then
   obind (frame_writer_numbers_h1 (d112.2.2.2.2.2.1 :: (d112.2.2.2.2.2.2.1 :: ([] : List Int))) l111) fun y115 =>
   let n116 : Int := (((ByteArray.size d112.2.2.2.2.2.2.2.2.2.2.1) : Nat) : Int)
   let n117 : Int := (Go.IntKind.wrap Go.IntKind.u8 n116)
   obind (strings_Builder_WriteByte_h0 n117 y115.2.1) fun y118 =>
   bif (decide (((ByteArray.size d112.2.2.2.2.2.2.2.2.2.2.1) + (ByteArray.size d112.2.2.2.2.2.2.2.2.2.2.2.1)) ≤ 9223372036854775807)) then
    let s119 : ByteArray := (d112.2.2.2.2.2.2.2.2.2.2.1 ++ d112.2.2.2.2.2.2.2.2.2.2.2.1)
    obind (strings_Builder_WriteString_h2 s119 y118.1) fun y120 =>
    some (y120.2.1, ())
   else none
  else
   let b121 : Bool := (i109 == (25 : Int))
   bif b121 then
    obind (frame_writer_numbers_h1 (d112.2.2.2.2.2.1 :: ([] : List Int)) l111) fun y122 =>
    some (y122.2.1, ())
   else
    let b123 : Bool := (i109 == (26 : Int))
    bif b123 then
     frame_writer_parts_h0_4 i109 true l111 d112
    else
     let b124 : Bool := (i109 == (27 : Int))
     frame_writer_parts_h0_4 i109 b124 l111 d112
theorem ex_frame_writer_parts_h0_3 : ∃ f, f = @b_frame_writer_parts_h0_3 := ⟨_, rfl⟩
noncomputable def frame_writer_parts_h0_3 := Classical.choose ex_frame_writer_parts_h0_3
theorem frame_writer_parts_h0_3_eq : @frame_writer_parts_h0_3 = @b_frame_writer_parts_h0_3 := Classical.choose_spec ex_frame_writer_parts_h0_3
theorem s_frame_writer_parts_h0_3 {base S0 cs0} (hfin : H_frame_writer_parts_h0 base S0) : J_frame_writer_parts_h0 base S0 cs0 p_frame_writer_parts_h0_3 (u_frame_writer_parts_h0_3 (frame_writer_parts_h0_3)) :=
 JSound.join hfin.2 (o_frame_writer_parts_h0_4 hfin) ks_frame_writer_parts_h0 100000 (by rw [frame_writer_parts_h0_3_eq]; intro x; kernel_rfl)
noncomputable def x_frame_writer_parts_h0_3 : Cfg → Option (Option R_frame_writer_parts_h0) := cut p_frame_writer_parts_h0_3 (u_frame_writer_parts_h0_3 (frame_writer_parts_h0_3)) (x_frame_writer_parts_h0_4)
theorem o_frame_writer_parts_h0_3 {base S0 cs0} (hfin : H_frame_writer_parts_h0 base S0) : O_frame_writer_parts_h0 base S0 cs0 (x_frame_writer_parts_h0_3) := OSound.cut (o_frame_writer_parts_h0_4 hfin) (Nat.le_of_eq hfin.1) (s_frame_writer_parts_h0_3 hfin)
@[reducible] noncomputable def p_frame_writer_parts_h0_2 : CPat := ⟨⟨54, [1, 1, 0, 1, 1, 1, 1, 1, 1, 1, 1, 1], none, [.ptr 0 0, .any, .any, .ptr 2 0, .any, .any, .any, .any, .int .u64, .any, .any, .any, .any, .any, .any, .any, .any, .any, .any, .any, .any, .any, .any, .any, .any, .any, .any, .any, .any, .any, .any, .any, .any, .any, .any, .any, .any, .any, .any, .any, .any, .any, .any, .any, .any, .any, .any, .any, .any, .any, .any, .any, .any, .any, .any, .any, .any, .any, .any, .any, .any, .any, .any, .any, .any, .any, .any, .any, .any, .any, .any, .any, .any, .any, .any, .any, .any, .any, .any, .any, .any, .any, .any, .any, .any, .any, .any, .any, .any, .any, .any, .any, .any, .any, .any, .bool], 87⟩, [], [.cells 108 [.ptr 0 0, .all 1], .row (.byt 5), .dat 36 T_frame_Frame], 2⟩
@[reducible] noncomputable def u_frame_writer_parts_h0_2 (k : Int → Bool → (List Int) → D_frame_Frame → Option R_frame_writer_parts_h0) : denC p_frame_writer_parts_h0_2 → Option R_frame_writer_parts_h0 := fun x => k x.1.2.2.2.2.2.2.2.2.1 x.1.2.2.2.2.2.2.2.2.2.2.2.2.2.2.2.2.2.2.2.2.2.2.2.2.2.2.2.2.2.2.2.2.2.2.2.2.2.2.2.2.2.2.2.2.2.2.2.2.2.2.2.2.2.2.2.2.2.2.2.2.2.2.2.2.2.2.2.2.2.2.2.2.2.2.2.2.2.2.2.2.2.2.2.2.2.2.2.2.2.2.2.2.2.2.2.1 x.2.2.2.1 x.2.2.2.2.1
noncomputable def b_frame_writer_parts_h0_2 (i102 : Int) (b103 : Bool) (l104 : (List Int)) (d105 : D_frame_Frame) : Option R_frame_writer_parts_h0 :=
 bif b103 then
  obind (frame_writer_numbers_h1 (d105.2.2.2.1 :: ([] : List Int)) l104) fun y106 =>
  some (y106.2.1, ())
 else
  let b107 : Bool := (i102 == (17 : Int))
  bif b107 then
   frame_writer_parts_h0_3 i102 true l104 d105
  else
   let b108 : Bool := (i102 == (21 : Int))
   frame_writer_parts_h0_3 i102 b108 l104 d105
theorem ex_frame_writer_parts_h0_2 : ∃ f, f = @b_frame_writer_parts_h0_2 := ⟨_, rfl⟩
noncomputable def frame_writer_parts_h0_2 := Classical.choose ex_frame_writer_parts_h0_2
theorem frame_writer_parts_h0_2_eq : @frame_writer_parts_h0_2 = @b_frame_writer_parts_h0_2 := Classical.choose_spec ex_frame_writer_parts_h0_2
theorem s_frame_writer_parts_h0_2 {base S0 cs0} (hfin : H_frame_writer_parts_h0 base S0) : J_frame_writer_parts_h0 base S0 cs0 p_frame_writer_parts_h0_2 (u_frame_writer_parts_h0_2 (frame_writer_parts_h0_2)) :=
 JSound.join hfin.2 (o_frame_writer_parts_h0_3 hfin) ks_frame_writer_parts_h0 100000 (by rw [frame_writer_parts_h0_2_eq]; intro x; kernel_rfl)
noncomputable def x_frame_writer_parts_h0_2 : Cfg → Option (Option R_frame_writer_parts_h0) := cut p_frame_writer_parts_h0_2 (u_frame_writer_parts_h0_2 (frame_writer_parts_h0_2)) (x_frame_writer_parts_h0_3)
theorem o_frame_writer_parts_h0_2 {base S0 cs0} (hfin : H_frame_writer_parts_h0 base S0) : O_frame_writer_parts_h0 base S0 cs0 (x_frame_writer_parts_h0_2) := OSound.cut (o_frame_writer_parts_h0_3 hfin) (Nat.le_of_eq hfin.1) (s_frame_writer_parts_h0_2 hfin)
@[reducible] noncomputable def p_frame_writer_parts_h0_1 : CPat := ⟨⟨54, [1, 1, 0, 1, 0, 1, 1, 1, 1, 0], none, [.ptr 0 0, .any, .any, .any, .all 2, .any, .any, .any, .any, .any, .any, .any, .any, .any, .any, .any, .any, .any, .any, .any, .any, .any, .any, .any, .any, .any, .any, .any, .any, .any, .any, .any, .any, .any, .any, .any, .any, .any, .any, .sl 2, .int .i64, .int .i64], 141⟩, [], [.cells 108 [.ptr 0 0, .all 3], .dead, .row T_ranges_Range, .row (.byt 5)], 2⟩
@[reducible] noncomputable def u_frame_writer_parts_h0_1 (k : Nat → Nat → Int → Int → (List D_ranges_Range) → (List Int) → Option R_frame_writer_parts_h0) : denC p_frame_writer_parts_h0_1 → Option R_frame_writer_parts_h0 := fun x => k x.1.2.2.2.2.2.2.2.2.2.2.2.2.2.2.2.2.2.2.2.2.2.2.2.2.2.2.2.2.2.2.2.2.2.2.2.2.2.2.2.1.1 x.1.2.2.2.2.2.2.2.2.2.2.2.2.2.2.2.2.2.2.2.2.2.2.2.2.2.2.2.2.2.2.2.2.2.2.2.2.2.2.2.1.2 x.1.2.2.2.2.2.2.2.2.2.2.2.2.2.2.2.2.2.2.2.2.2.2.2.2.2.2.2.2.2.2.2.2.2.2.2.2.2.2.2.2.1 x.1.2.2.2.2.2.2.2.2.2.2.2.2.2.2.2.2.2.2.2.2.2.2.2.2.2.2.2.2.2.2.2.2.2.2.2.2.2.2.2.2.2.1 x.2.2.2.2.1 x.2.2.2.2.2.1
noncomputable def t_frame_writer_parts_h0_1 (k1 : Nat → Nat → Int → Int → (List D_ranges_Range) → (List Int) → Option R_frame_writer_parts_h0) (o72 : Nat) (k73 : Nat) (i74 : Int) (i75 : Int) (l76 : (List D_ranges_Range)) (l77 : (List Int)) : Option R_frame_writer_parts_h0 :=
 let b78 : Bool := (decide (i75 < i74))
 bif b78 then
  bif (decide (((0 : Int) ≤ i75) ∧ (i75 < ((k73 : Nat) : Int)))) then
   let i79 : Nat := (o72 + (Int.toNat i75))
   let n80 : Int := (List.getD l76 i79 (Ty.dflt T_ranges_Range)).1
   let n81 : Int := (List.getD l76 i79 (Ty.dflt T_ranges_Range)).2.1
   bif (decide (((0 : Int) ≤ i75) ∧ (i75 < (((List.length l76) : Nat) : Int)))) then
    let i82 : Nat := (Int.toNat i75)
    let n83 : Int := (List.getD l76 i82 (Ty.dflt T_ranges_Range)).1
    let n84 : Int := (Go.IntKind.wrap Go.IntKind.u64 (n83 - n81))
    let n85 : Int := (Go.IntKind.wrap Go.IntKind.u64 (n84 - (2 : Int)))
    let n86 : Int := (Go.IntKind.wrap Go.IntKind.u64 (n81 - n80))
    obind (frame_writer_numbers_h1 (n85 :: (n86 :: ([] : List Int))) l77) fun y87 =>
    let n88 : Int := (Go.IntKind.wrap Go.IntKind.i64 (i75 + (1 : Int)))
    k1 o72 k73 i74 n88 l76 y87.2.1
   else none
  else none
 else
  some (l77, ())
noncomputable def frame_writer_parts_h0_1 : Nat → Nat → Nat → Int → Int → (List D_ranges_Range) → (List Int) → Option R_frame_writer_parts_h0
 | 0 => fun _ _ _ _ _ _ => none
 | m + 1 => t_frame_writer_parts_h0_1 (frame_writer_parts_h0_1 m)
noncomputable def b_frame_writer_parts_h0_1' (o72 : Nat) (k73 : Nat) (i74 : Int) (i75 : Int) (l76 : (List D_ranges_Range)) (l77 : (List Int)) : Option R_frame_writer_parts_h0 := frame_writer_parts_h0_1 (Int.toNat (i74 - i75) + 2) o72 k73 i74 i75 l76 l77
theorem ex_frame_writer_parts_h0_1' : ∃ f, f = @b_frame_writer_parts_h0_1' := ⟨_, rfl⟩
noncomputable def frame_writer_parts_h0_1' := Classical.choose ex_frame_writer_parts_h0_1'
theorem frame_writer_parts_h0_1'_eq : @frame_writer_parts_h0_1' = @b_frame_writer_parts_h0_1' := Classical.choose_spec ex_frame_writer_parts_h0_1'
theorem s_frame_writer_parts_h0_1 {base S0 cs0} (hfin : H_frame_writer_parts_h0 base S0) : ∀ m, J_frame_writer_parts_h0 base S0 cs0 p_frame_writer_parts_h0_1 (u_frame_writer_parts_h0_1 (frame_writer_parts_h0_1 m)) :=
 JSound.loop' hfin.2 ks_frame_writer_parts_h0 100000 u_frame_writer_parts_h0_1 (fun k1 => cut p_frame_writer_parts_h0_1 (u_frame_writer_parts_h0_1 k1) (x_frame_writer_parts_h0_2)) (fun k1 h1 => OSound.cut (o_frame_writer_parts_h0_2 hfin) (Nat.le_of_eq hfin.1) h1) (frame_writer_parts_h0_1) (by intro x; rfl) (by intro m x; kernel_rfl)
theorem s_frame_writer_parts_h0_1' {base S0 cs0} (hfin : H_frame_writer_parts_h0 base S0) : J_frame_writer_parts_h0 base S0 cs0 p_frame_writer_parts_h0_1 (u_frame_writer_parts_h0_1 (frame_writer_parts_h0_1')) := by
 rw [frame_writer_parts_h0_1'_eq]; exact fun x r hx => s_frame_writer_parts_h0_1 hfin _ x r hx
noncomputable def x_frame_writer_parts_h0_1 : Cfg → Option (Option R_frame_writer_parts_h0) := cut p_frame_writer_parts_h0_1 (u_frame_writer_parts_h0_1 (frame_writer_parts_h0_1')) (x_frame_writer_parts_h0_2)
theorem o_frame_writer_parts_h0_1 {base S0 cs0} (hfin : H_frame_writer_parts_h0 base S0) : O_frame_writer_parts_h0 base S0 cs0 (x_frame_writer_parts_h0_1) := OSound.cut (o_frame_writer_parts_h0_2 hfin) (Nat.le_of_eq hfin.1) (s_frame_writer_parts_h0_1' hfin)
@[reducible] noncomputable def p_frame_writer_parts_h0_0 : CPat := ⟨⟨66, [1, 0], none, [.all 2, .any, .int .i64, .int .i64], 24⟩, [⟨54, [1, 1, 0, 1, 0, 1, 0], (some 1), [.ptr 0 0, .any, .any, .ptr 3 0, .all 2], 178⟩], [.cells 108 [.ptr 0 0, .all 1], .row (.byt 5), .row T_ranges_Range, .dat 36 T_frame_Frame], 2⟩
@[reducible] noncomputable def u_frame_writer_parts_h0_0 (k : Int → Int → (List Int) → (List D_ranges_Range) → D_frame_Frame → Option R_frame_writer_parts_h0) : denC p_frame_writer_parts_h0_0 → Option R_frame_writer_parts_h0 := fun x => k x.1.2.2.1 x.1.2.2.2.1 x.2.2.2.1 x.2.2.2.2.1 x.2.2.2.2.2.1
noncomputable def t_frame_writer_parts_h0_0 (k0 : Int → Int → (List Int) → (List D_ranges_Range) → D_frame_Frame → Option R_frame_writer_parts_h0) (i30 : Int) (i31 : Int) (l32 : (List Int)) (l33 : (List D_ranges_Range)) (d34 : D_frame_Frame) : Option R_frame_writer_parts_h0 :=
 let b35 : Bool := (decide (i30 < i31))
 bif b35 then
  bif (decide (((0 : Int) ≤ i31) ∧ (i31 < (((List.length l33) : Nat) : Int)))) then
   let i36 : Nat := (Int.toNat i31)
   let n37 : Int := (List.getD l33 i36 (Ty.dflt T_ranges_Range)).1
   let n38 : Int := (List.getD l33 i36 (Ty.dflt T_ranges_Range)).2.1
   bif (decide (((0 : Int) ≤ i30) ∧ (i30 < (((List.length l33) : Nat) : Int)))) then
    let i39 : Nat := (Int.toNat i30)
    let n40 : Int := (List.getD l33 i39 (Ty.dflt T_ranges_Range)).1
    let n41 : Int := (List.getD l33 i39 (Ty.dflt T_ranges_Range)).2.1
    bif (decide (((0 : Int) ≤ i30) ∧ (i30 < (((List.length l33) : Nat) : Int)))) then
     let i42 : Nat := (Int.toNat i30)
     let l43 : (List D_ranges_Range) := (List.set l33 i42 (n37, (n38, ())))
     bif (decide (((0 : Int) ≤ i31) ∧ (i31 < (((List.length l43) : Nat) : Int)))) then
      let i44 : Nat := (Int.toNat i31)
      let l45 : (List D_ranges_Range) := (List.set l43 i44 (n40, (n41, ())))
      let n46 : Int := (Go.IntKind.wrap Go.IntKind.i64 (i30 + (1 : Int)))
      let n47 : Int := (Go.IntKind.wrap Go.IntKind.i64 (i31 - (1 : Int)))
      k0 n46 n47 l32 l45 d34
     else none
    else none
   else none
  else none
 else
  bif (decide (((0 : Int) ≤ (0 : Int)) ∧ ((0 : Int) < (((List.length l33) : Nat) : Int)))) then
   let n48 : Int := (List.getD l33 0 (Ty.dflt T_ranges_Range)).2.1
   let n49 : Int := (((List.length l33) : Nat) : Int)
   let n50 : Int := (Go.IntKind.wrap Go.IntKind.i64 (n49 - (1 : Int)))
   let n51 : Int := (Go.IntKind.wrap Go.IntKind.u64 n50)
   bif (decide (((0 : Int) ≤ (0 : Int)) ∧ ((0 : Int) < (((List.length l33) : Nat) : Int)))) then
    let n52 : Int := (List.getD l33 0 (Ty.dflt T_ranges_Range)).2.1
    bif (decide (((0 : Int) ≤ (0 : Int)) ∧ ((0 : Int) < (((List.length l33) : Nat) : Int)))) then
     let n53 : Int := (List.getD l33 0 (Ty.dflt T_ranges_Range)).1
     let n54 : Int := (Go.IntKind.wrap Go.IntKind.u64 (n52 - n53))
     obind (frame_writer_numbers_h1 (n48 :: (d34.2.2.2.2.2.2.2.1 :: (n51 :: (n54 :: ([] : List Int))))) l32) fun y55 =>
     bif (decide (((0 : Int) ≤ (1 : Int)) ∧ (((1 : Int) ≤ (((List.length l33) : Nat) : Int)) ∧ ((((List.length l33) : Nat) : Int) ≤ (((List.length l33) : Nat) : Int))))) then
      let k56 : Nat := ((Int.toNat (((List.length l33) : Nat) : Int)) - 1)
      let n57 : Int := ((k56 : Nat) : Int)
      frame_writer_parts_h0_1' 1 k56 n57 (0 : Int) l33 y55.2.1
     else none
    else none
   else none
  else none
noncomputable def frame_writer_parts_h0_0 : Nat → Int → Int → (List Int) → (List D_ranges_Range) → D_frame_Frame → Option R_frame_writer_parts_h0
 | 0 => fun _ _ _ _ _ => none
 | m + 1 => t_frame_writer_parts_h0_0 (frame_writer_parts_h0_0 m)
noncomputable def b_frame_writer_parts_h0_0' (i30 : Int) (i31 : Int) (l32 : (List Int)) (l33 : (List D_ranges_Range)) (d34 : D_frame_Frame) : Option R_frame_writer_parts_h0 := frame_writer_parts_h0_0 (Int.toNat (i31 - i30) + 2) i30 i31 l32 l33 d34
theorem ex_frame_writer_parts_h0_0' : ∃ f, f = @b_frame_writer_parts_h0_0' := ⟨_, rfl⟩
noncomputable def frame_writer_parts_h0_0' := Classical.choose ex_frame_writer_parts_h0_0'
theorem frame_writer_parts_h0_0'_eq : @frame_writer_parts_h0_0' = @b_frame_writer_parts_h0_0' := Classical.choose_spec ex_frame_writer_parts_h0_0'
theorem s_frame_writer_parts_h0_0 {base S0 cs0} (hfin : H_frame_writer_parts_h0 base S0) : ∀ m, J_frame_writer_parts_h0 base S0 cs0 p_frame_writer_parts_h0_0 (u_frame_writer_parts_h0_0 (frame_writer_parts_h0_0 m)) :=
 JSound.loop' hfin.2 ks_frame_writer_parts_h0 100000 u_frame_writer_parts_h0_0 (fun k0 => cut p_frame_writer_parts_h0_0 (u_frame_writer_parts_h0_0 k0) (x_frame_writer_parts_h0_1)) (fun k0 h0 => OSound.cut (o_frame_writer_parts_h0_1 hfin) (Nat.le_of_eq hfin.1) h0) (frame_writer_parts_h0_0) (by intro x; rfl) (by intro m x; kernel_rfl)
theorem s_frame_writer_parts_h0_0' {base S0 cs0} (hfin : H_frame_writer_parts_h0 base S0) : J_frame_writer_parts_h0 base S0 cs0 p_frame_writer_parts_h0_0 (u_frame_writer_parts_h0_0 (frame_writer_parts_h0_0')) := by
 rw [frame_writer_parts_h0_0'_eq]; exact fun x r hx => s_frame_writer_parts_h0_0 hfin _ x r hx
noncomputable def x_frame_writer_parts_h0_0 : Cfg → Option (Option R_frame_writer_parts_h0) := cut p_frame_writer_parts_h0_0 (u_frame_writer_parts_h0_0 (frame_writer_parts_h0_0')) (x_frame_writer_parts_h0_1)
theorem o_frame_writer_parts_h0_0 {base S0 cs0} (hfin : H_frame_writer_parts_h0 base S0) : O_frame_writer_parts_h0 base S0 cs0 (x_frame_writer_parts_h0_0) := OSound.cut (o_frame_writer_parts_h0_1 hfin) (Nat.le_of_eq hfin.1) (s_frame_writer_parts_h0_0' hfin)
noncomputable def b_frame_writer_parts_h0 (d0 : D_frame_Frame) (l1 : (List Int)) : Option R_frame_writer_parts_h0 :=
 let b2 : Bool := (d0.1 == (2 : Int))
 bif b2 then
  obind (slices_Clone_ranges_Range d0.2.2.2.2.2.2.2.2.2.2.2.2.1) fun y3 =>
  let n4 : Int := (((List.length y3) : Nat) : Int)
  let n5 : Int := (Go.IntKind.wrap Go.IntKind.i64 (n4 - (1 : Int)))
  frame_writer_parts_h0_0' (0 : Int) n5 l1 y3 d0
 else
  let b89 : Bool := (d0.1 == (4 : Int))
  bif b89 then
   obind (frame_writer_numbers_h1 (d0.2.1 :: (d0.2.2.2.2.1 :: (d0.2.2.2.1 :: ([] : List Int)))) l1) fun y90 =>
   some (y90.2.1, ())
  else
   let b91 : Bool := (d0.1 == (5 : Int))
   bif b91 then
    obind (frame_writer_numbers_h1 (d0.2.1 :: (d0.2.2.2.2.1 :: ([] : List Int))) l1) fun y92 =>
    some (y92.2.1, ())
   else
    let b93 : Bool := (d0.1 == (6 : Int))
    bif b93 then
     obind (frame_writer_numbers_h1 (d0.2.2.1 :: ([] : List Int)) l1) fun y94 =>
     obind (frame_writer_long_h0 d0.2.2.2.2.2.2.2.2.2.1 y94.2.1) fun y95 =>
     some (y95.1, ())
    else
     let b96 : Bool := (d0.1 == (16 : Int))
     bif b96 then
      frame_writer_parts_h0_2 d0.1 true l1 d0
     else
      let b97 : Bool := (d0.1 == (18 : Int))
      bif b97 then
       frame_writer_parts_h0_2 d0.1 true l1 d0
      else
       let b98 : Bool := (d0.1 == (19 : Int))
       bif b98 then
        frame_writer_parts_h0_2 d0.1 true l1 d0
       else
        let b99 : Bool := (d0.1 == (20 : Int))
        bif b99 then
         frame_writer_parts_h0_2 d0.1 true l1 d0
        else
         let b100 : Bool := (d0.1 == (22 : Int))
         bif b100 then
          frame_writer_parts_h0_2 d0.1 true l1 d0
         else
          let b101 : Bool := (d0.1 == (23 : Int))
          frame_writer_parts_h0_2 d0.1 b101 l1 d0
theorem ex_frame_writer_parts_h0 : ∃ f, f = @b_frame_writer_parts_h0 := ⟨_, rfl⟩
noncomputable def frame_writer_parts_h0 := Classical.choose ex_frame_writer_parts_h0
theorem frame_writer_parts_h0_eq : @frame_writer_parts_h0 = @b_frame_writer_parts_h0 := Classical.choose_spec ex_frame_writer_parts_h0
noncomputable def hb_frame_writer_parts_h0 : HCon := HCon.mk0 pa_frame_writer_parts_h0 pH_frame_writer_parts_h0 qa_frame_writer_parts_h0 qH_frame_writer_parts_h0 R_frame_writer_parts_h0 (fun x => b_frame_writer_parts_h0 x.1.2.1 x.2.2.1) (fun r => ((), (((), ((), ())), ((), (r.1, ()))))) (fun y => (y.2.2.2.1, ())) (fun _ => rfl)
noncomputable def h_frame_writer_parts_h0 : HCon := HCon.mk0 pa_frame_writer_parts_h0 pH_frame_writer_parts_h0 qa_frame_writer_parts_h0 qH_frame_writer_parts_h0 R_frame_writer_parts_h0 (fun x => frame_writer_parts_h0 x.1.2.1 x.2.2.1) (fun r => ((), (((), ((), ())), ((), (r.1, ()))))) (fun y => (y.2.2.2.1, ())) (fun _ => rfl)
theorem hb_frame_writer_parts_h0_ok : hb_frame_writer_parts_h0.Sound prog Inv gInv 54 :=
 hcon_run (M := m_frame_writer_parts_h0) (f := f54) rfl ks_frame_writer_parts_h0 100000 (X := x_frame_writer_parts_h0_0) (fun base S0 cs0 hn hf => have hfin : H_frame_writer_parts_h0 base S0 := ⟨hn, hf⟩; o_frame_writer_parts_h0_0 hfin) (by intro x; kernel_rfl)
theorem h_frame_writer_parts_h0_ok : h_frame_writer_parts_h0.Sound prog Inv gInv 54 := by
 have e : h_frame_writer_parts_h0 = hb_frame_writer_parts_h0 := by unfold h_frame_writer_parts_h0 hb_frame_writer_parts_h0; rw [frame_writer_parts_h0_eq]
 rw [e]; exact hb_frame_writer_parts_h0_ok
noncomputable def m_frame_Put : Mach prog Inv gInv := mach bas [(39, f39), (47, f47), (49, f49), (52, f52), (53, f53), (54, f54), (58, f58), (63, f63), (66, f66), (67, f67)] ⟨ok39, ok47, ok49, ok52, ok53, ok54, ok58, ok63, ok66, ok67, trivial⟩ [(51, c_frame_May), (64, c_varint_Puts)] ⟨⟨c_frame_May_ok, FnOk.callable ok51⟩, ⟨c_varint_Puts_ok, FnOk.callable ok64⟩, trivial⟩ [(65, c_slices_Clone_ranges_Range)] ⟨⟨c_slices_Clone_ranges_Range_ok, FnOk.callable ok65⟩, trivial⟩ [(58, h_strings_Builder_copyCheck_h0), (47, h_strings_Builder_WriteString_h0), (58, h_strings_Builder_copyCheck_h1), (47, h_strings_Builder_WriteString_h1), (58, h_strings_Builder_copyCheck_h2), (58, h_strings_Builder_copyCheck_h3), (58, h_strings_Builder_copyCheck_h4), (53, h_frame_writer_numbers_h0), (58, h_strings_Builder_copyCheck_h5), (53, h_frame_writer_numbers_h1), (63, h_frame_writer_long_h0), (52, h_frame_writer_stream_h0), (47, h_strings_Builder_WriteString_h2), (67, h_strings_Builder_WriteByte_h0), (54, h_frame_writer_parts_h0)] ⟨⟨h_strings_Builder_copyCheck_h0_ok, FnOk.callable ok58⟩, ⟨h_strings_Builder_WriteString_h0_ok, FnOk.callable ok47⟩, ⟨h_strings_Builder_copyCheck_h1_ok, FnOk.callable ok58⟩, ⟨h_strings_Builder_WriteString_h1_ok, FnOk.callable ok47⟩, ⟨h_strings_Builder_copyCheck_h2_ok, FnOk.callable ok58⟩, ⟨h_strings_Builder_copyCheck_h3_ok, FnOk.callable ok58⟩, ⟨h_strings_Builder_copyCheck_h4_ok, FnOk.callable ok58⟩, ⟨h_frame_writer_numbers_h0_ok, FnOk.callable ok53⟩, ⟨h_strings_Builder_copyCheck_h5_ok, FnOk.callable ok58⟩, ⟨h_frame_writer_numbers_h1_ok, FnOk.callable ok53⟩, ⟨h_frame_writer_long_h0_ok, FnOk.callable ok63⟩, ⟨h_frame_writer_stream_h0_ok, FnOk.callable ok52⟩, ⟨h_strings_Builder_WriteString_h2_ok, FnOk.callable ok47⟩, ⟨h_strings_Builder_WriteByte_h0_ok, FnOk.callable ok67⟩, ⟨h_frame_writer_parts_h0_ok, FnOk.callable ok54⟩, trivial⟩
/-! ### domino/frame.Put -/
@[reducible] def r_frame_Put : List Ty := [.str, (.int .i64)]
def ks_frame_Put : List Nat := [39, 47, 49, 52, 53, 54, 58, 63, 66, 67]
noncomputable def b_frame_Put (a0 : D_frame_Frame) : Option (ByteArray × Int × Unit) :=
 let s1 : ByteArray := (ByteArray.mk (List.toArray ([] : List UInt8)))
 obind (frame_May a0) fun y2 =>
 let b3 : Bool := (!y2.1)
 bif b3 then
  let s4 : ByteArray := (ByteArray.mk (List.toArray ([] : List UInt8)))
  some (s4, ((1 : Int), ()))
 else
  let b5 : Bool := (a0.1 == (8 : Int))
  bif b5 then
   obind (frame_writer_stream_h0 a0) fun y6 =>
   let s15 : ByteArray := (ByteArray.mk (List.toArray ([] : List UInt8)))
   let n16 : Int := (((List.length y6.1) : Nat) : Int)
   bif (decide ((n16 = (((List.length y6.1) : Nat) : Int)) ∧ (n16 ≤ (4294967296 : Int)))) then
    let s17 : ByteArray := (bytesStr y6.1)
    some (s17, ((0 : Int), ()))
   else none
  else
   obind (frame_writer_numbers_h0 (a0.1 :: ([] : List Int))) fun y7 =>
   obind (frame_writer_parts_h0 a0 y7.2.1) fun y8 =>
   let s12 : ByteArray := (ByteArray.mk (List.toArray ([] : List UInt8)))
   let n13 : Int := (((List.length y8.1) : Nat) : Int)
   bif (decide ((n13 = (((List.length y8.1) : Nat) : Int)) ∧ (n13 ≤ (4294967296 : Int)))) then
    let s14 : ByteArray := (bytesStr y8.1)
    some (s14, ((0 : Int), ()))
   else none
theorem ex_frame_Put : ∃ f, f = @b_frame_Put := ⟨_, rfl⟩
noncomputable def frame_Put := Classical.choose ex_frame_Put
theorem frame_Put_eq : @frame_Put = @b_frame_Put := Classical.choose_spec ex_frame_Put
noncomputable def cb_frame_Put : Con := ⟨[T_frame_Frame], r_frame_Put, fun x => b_frame_Put x.1⟩
noncomputable def c_frame_Put : Con := ⟨[T_frame_Frame], r_frame_Put, fun x => frame_Put x.1⟩
theorem cb_frame_Put_ok : cb_frame_Put.Sound prog Inv gInv 39 :=
 con_run (M := m_frame_Put) inv_g (f := f39) rfl ks_frame_Put 100000 (X := nowhere) (fun base S0 cs0 hn hf => OSound.nowhere) (by intro x; kernel_rfl)
theorem c_frame_Put_ok : c_frame_Put.Sound prog Inv gInv 39 := by
 have e : c_frame_Put = cb_frame_Put := by unfold c_frame_Put cb_frame_Put; rw [frame_Put_eq]
 rw [e]; exact cb_frame_Put_ok
end Go.Proofs.YtjlfmolfcgennaaDoor.V
namespace Go.Proofs.YtjlfmolfcgennaaDoor.V
open Go.RowKit
def In62 (n : Int) : Prop := 0 ≤ n ∧ n < 4611686018427387904
theorem num0_is (l : List Int) (hl : l.length ≤ 1000) (h : ∀ n ∈ l, In62 n) : frame_writer_numbers_h0 l = some (l, vbs l, ()) := by
 rw [frame_writer_numbers_h0_eq, b_frame_writer_numbers_h0, puts_is l (by omega) h]
 simp only [obind_some, strings_Builder_copyCheck_h4_eq, b_strings_Builder_copyCheck_h4, strBytes_bytesStr (vbs_range l h)]
 have := vbs_len l
 have : (vbs l).length ≤ 4294967296 := by omega
 simp only [this, decide_true, cond_true]
theorem num1_is (l acc : List Int) (hl : l.length ≤ 1000) (ha : acc.length ≤ 1000000) (h : ∀ n ∈ l, In62 n) : frame_writer_numbers_h1 l acc = some (l, acc ++ vbs l, ()) := by
 rw [frame_writer_numbers_h1_eq, b_frame_writer_numbers_h1, puts_is l (by omega) h]
 simp only [obind_some, strings_Builder_copyCheck_h5_eq, b_strings_Builder_copyCheck_h5, strBytes_bytesStr (vbs_range l h)]
 have := vbs_len l
 have : acc.length + (vbs l).length ≤ 4294967296 := by omega
 simp only [this, decide_true, cond_true]
def textL (s : ByteArray) : List Int := vb ((s.size : Nat) : Int) ++ strBytes s
theorem long_is (s : ByteArray) (acc : List Int) (hs : s.size ≤ 100000) (ha : acc.length ≤ 900000) : frame_writer_long_h0 s acc = some (acc ++ textL s, ()) := by
 rw [frame_writer_long_h0_eq, b_frame_writer_long_h0]
 rw [wrap_u64 _ (by omega) (by omega), num1_is _ _ (by simp) (by omega) (by intro n hn; simp at hn; subst hn; unfold In62; omega)]
 simp only [obind_some, strings_Builder_copyCheck_h5_eq, b_strings_Builder_copyCheck_h5]
 have h1 := vbs_len [((s.size : Nat) : Int)]
 have h2 := strBytes_len s
 simp only [List.length_cons, List.length_nil] at h1
 have : (acc ++ vbs [((s.size : Nat) : Int)]).length + (strBytes s).length ≤ 4294967296 := by rw [List.length_append]; omega
 simp only [this, decide_true, cond_true]
 simp only [textL, vbs, List.flatMap_cons, List.flatMap_nil, List.append_nil, List.append_assoc]
theorem wstr_is (s : ByteArray) (acc : List Int) (hs : s.size ≤ 100000) (ha : acc.length ≤ 1000000) : strings_Builder_WriteString_h2 s acc = some (((s.size : Nat) : Int), acc ++ strBytes s, ()) := by
 rw [strings_Builder_WriteString_h2_eq, b_strings_Builder_WriteString_h2]
 simp only [obind_some, strings_Builder_copyCheck_h5_eq, b_strings_Builder_copyCheck_h5]
 have h2 := strBytes_len s
 have : acc.length + (strBytes s).length ≤ 4294967296 := by omega
 simp only [this, decide_true, cond_true]
theorem wbyte_is (n : Int) (acc : List Int) (ha : acc.length ≤ 1000000) : strings_Builder_WriteByte_h0 n acc = some (acc ++ [n], ()) := by
 rw [strings_Builder_WriteByte_h0_eq, b_strings_Builder_WriteByte_h0]
 simp only [obind_some, strings_Builder_copyCheck_h5_eq, b_strings_Builder_copyCheck_h5]
 have : acc.length + [n].length ≤ 4294967296 := by simp; omega
 simp only [this, decide_true, cond_true]
/-! ### an Ack's ranges -/
def descR : Int → List D_ranges_Range → Prop
 | _, [] => True
 | lo, r :: l => 0 ≤ r.1 ∧ r.1 ≤ r.2.1 ∧ r.2.1 + 2 ≤ lo ∧ descR r.1 l
theorem descR.mono {a b : Int} (h : a ≤ b) : ∀ {l : List D_ranges_Range}, descR a l → descR b l
 | [], _ => trivial
 | r :: l, k => ⟨k.1, k.2.1, by have := k.2.2.1; omega, k.2.2.2⟩
def endR : Int → List D_ranges_Range → Int
 | e, [] => e
 | _, r :: l => endR (r.2.1 + 2) l
theorem desc_rev : ∀ (l acc : List D_ranges_Range) (e : Int), mayR e l = true → 0 ≤ e → (∀ r ∈ l, 0 ≤ r.1) → descR e acc → descR (endR e l) (l.reverse ++ acc)
 | [], acc, e, _, _, _, h => h
 | r :: l, acc, e, hm, he, h0, h => by
  simp only [mayR, Bool.and_eq_true, decide_eq_true_eq] at hm
  obtain ⟨⟨⟨m1, m2⟩, m3⟩, m4⟩ := hm
  have hr := h0 r (by simp)
  have := desc_rev l (r :: acc) (r.2.1 + 2) m4 (by omega) (fun x hx => h0 x (by simp [hx])) ⟨hr, m1, by omega, h.mono m3⟩
  simpa [endR] using this
theorem endR_last : ∀ (l : List D_ranges_Range) (e : Int), l ≠ [] → endR e l = lastHi l + 2
 | [], _, h => absurd rfl h
 | [r], _, _ => by simp [endR, lastHi]
 | r :: s :: l, e, _ => by
  have := endR_last (s :: l) (r.2.1 + 2) (by simp)
  simp only [endR] at this ⊢
  rw [this]
  simp [lastHi]
def ackGaps : Int → List D_ranges_Range → List Int
 | _, [] => []
 | lo, r :: l => vb (lo - r.2.1 - 2) ++ vb (r.2.1 - r.1) ++ ackGaps r.1 l
theorem ackGaps_len : ∀ (l : List D_ranges_Range) (lo : Int), (ackGaps lo l).length ≤ 16 * l.length
 | [], _ => by simp [ackGaps]
 | r :: l, lo => by
  have := ackGaps_len l r.1
  have := vb_len (lo - r.2.1 - 2)
  have := vb_len (r.2.1 - r.1)
  simp only [ackGaps, List.length_append, List.length_cons]
  omega
def ackL (delay : Int) : List D_ranges_Range → List Int
 | [] => []
 | r :: l => vb r.2.1 ++ vb delay ++ vb ((l.length : Nat) : Int) ++ vb (r.2.1 - r.1) ++ ackGaps r.1 l
theorem getD_mid1 {α : Type} (pre : List α) (x y : α) (suf : List α) (d : α) : (pre ++ x :: y :: suf).getD (1 + pre.length) d = y := by
 rw [show pre ++ x :: y :: suf = (pre ++ [x]) ++ y :: suf by simp, show 1 + pre.length = (pre ++ [x]).length by simp; omega, getD_mid]
theorem gaps_loop : ∀ (suf pre : List D_ranges_Range) (a : D_ranges_Range) (acc : List Int) (m k : Nat), suf.length < m → (pre ++ a :: suf).length ≤ 1000 → acc.length + 16 * suf.length ≤ 100000 → descR a.1 suf → a.1 < 4611686018427387904 → k = pre.length + suf.length →
  frame_writer_parts_h0_1 m 1 k ((k : Nat) : Int) ((pre.length : Nat) : Int) (pre ++ a :: suf) acc = some (acc ++ ackGaps a.1 suf, ()) := by
 intro suf
 induction suf with
 | nil =>
  intro pre a acc m k hm _ _ _ _ hk
  obtain ⟨m, rfl⟩ : ∃ k, m = k + 1 := ⟨m - 1, by omega⟩
  have : ¬ ((pre.length : Nat) : Int) < ((k : Nat) : Int) := by subst hk; simp
  simp only [frame_writer_parts_h0_1, t_frame_writer_parts_h0_1, this, decide_false, cond_false, ackGaps, List.append_nil]
 | cons r suf ih =>
  intro pre a acc m k hm hl ha hd hlt hk
  obtain ⟨m, rfl⟩ : ∃ k, m = k + 1 := ⟨m - 1, by omega⟩
  obtain ⟨d1, d2, d3, d4⟩ := hd
  have c1 : ((pre.length : Nat) : Int) < ((k : Nat) : Int) := by subst hk; simp; omega
  simp only [frame_writer_parts_h0_1, t_frame_writer_parts_h0_1, c1, nn, and_true, mid_lt, decide_true, cond_true, toNat_len, getD_mid, getD_mid1]
  rw [wrap_u64 (a.1 - r.2.1) (by omega) (by omega), wrap_u64 (a.1 - r.2.1 - 2) (by omega) (by omega), wrap_u64 (r.2.1 - r.1) (by omega) (by omega)]
  rw [num1_is _ _ (by simp) (by omega) (by intro n hn; simp at hn; unfold In62; omega)]
  simp only [obind_some]
  have hv := vbs_len [a.1 - r.2.1 - 2, r.2.1 - r.1]
  simp only [List.length_cons, List.length_nil] at hv
  rw [mid_next pre a a (r :: suf) (by omega), snoc_app pre a (r :: suf), ih (pre ++ [a]) r _ m k (by simp at hm; omega) (by simpa using hl) (by simp at ha ⊢; omega) d4 (by omega) (by subst hk; simp; omega)]
  simp [ackGaps, vbs]
theorem set_mid2 {α : Type} (pre m : List α) (x y z : α) (suf : List α) : (pre ++ x :: (m ++ y :: suf)).set (pre.length + 1 + m.length) z = pre ++ x :: (m ++ z :: suf) := by
 rw [show pre ++ x :: (m ++ y :: suf) = (pre ++ x :: m) ++ y :: suf by simp, show pre.length + 1 + m.length = (pre ++ x :: m).length by simp; omega, set_mid]; simp
theorem getD_mid2 {α : Type} (pre m : List α) (x y : α) (suf : List α) (d : α) : (pre ++ x :: (m ++ y :: suf)).getD (pre.length + 1 + m.length) d = y := by
 rw [show pre ++ x :: (m ++ y :: suf) = (pre ++ x :: m) ++ y :: suf by simp, show pre.length + 1 + m.length = (pre ++ x :: m).length by simp; omega, getD_mid]
theorem rev_loop (acc : List Int) (f : D_frame_Frame) : ∀ (n : Nat) (mid pre suf : List D_ranges_Range) (m : Nat), mid.length ≤ n → n < m → (pre ++ (mid ++ suf)).length ≤ 1000 →
  frame_writer_parts_h0_0 m ((pre.length : Nat) : Int) (((pre.length : Nat) : Int) + ((mid.length : Nat) : Int) - 1) acc (pre ++ (mid ++ suf)) f = frame_writer_parts_h0_0 1 0 0 acc (pre ++ (mid.reverse ++ suf)) f := by
 intro n
 induction n using Nat.strongRecOn with
 | _ n ih =>
  intro mid pre suf m hn hm hl
  obtain ⟨m, rfl⟩ : ∃ k, m = k + 1 := ⟨m - 1, by omega⟩
  have done : mid.length ≤ 1 → mid.reverse = mid := by
   intro h
   match mid, h with
   | [], _ => rfl
   | [x], _ => rfl
  by_cases h1 : mid.length ≤ 1
  ·
   have c : ¬ ((pre.length : Nat) : Int) < ((pre.length : Nat) : Int) + ((mid.length : Nat) : Int) - 1 := by omega
   rw [done h1]
   simp only [frame_writer_parts_h0_0, t_frame_writer_parts_h0_0, c, decide_false, cond_false, Int.lt_irrefl]
  ·
   obtain ⟨x, r, rfl⟩ : ∃ x r, mid = x :: r := by
    cases mid with
    | nil => simp at h1
    | cons x r => exact ⟨x, r, rfl⟩
   obtain ⟨md, y, rfl⟩ : ∃ md y, r = md ++ [y] := by
    rcases List.eq_nil_or_concat r with e | ⟨md, y, e⟩
    · subst e; simp at h1
    · exact ⟨md, y, by simpa using e⟩
   have ej : ((pre.length : Nat) : Int) + (((x :: (md ++ [y])).length : Nat) : Int) - 1 = ((pre.length + 1 + md.length : Nat) : Int) := by simp; omega
   have eL : pre ++ ((x :: (md ++ [y])) ++ suf) = pre ++ x :: (md ++ y :: suf) := by simp
   rw [ej, eL]
   have c : ((pre.length : Nat) : Int) < ((pre.length + 1 + md.length : Nat) : Int) := by omega
   have c1 : ((pre.length + 1 + md.length : Nat) : Int) < (((pre ++ x :: (md ++ y :: suf)).length : Nat) : Int) := by simp; omega
   have c2 : ((pre.length + 1 + md.length : Nat) : Int) < (((pre ++ y :: (md ++ y :: suf)).length : Nat) : Int) := by simp; omega
   have ey : ((y.1, (y.2.1, ())) : D_ranges_Range) = y := rfl
   have ex : ((x.1, (x.2.1, ())) : D_ranges_Range) = x := rfl
   rw [frame_writer_parts_h0_0]
   simp only [t_frame_writer_parts_h0_0, c, c1, c2, mid_lt, nn, and_self, decide_true, cond_true, Int.toNat_natCast, getD_mid, getD_mid2, set_mid, set_mid2, ey, ex]
   have w1 : IntKind.wrap .i64 (((pre.length : Nat) : Int) + 1) = (((pre ++ [y]).length : Nat) : Int) := by rw [wrap_i64 _ (by simp at hl; omega) (by simp at hl; omega)]; simp
   have w2 : IntKind.wrap .i64 (((pre.length + 1 + md.length : Nat) : Int) - 1) = (((pre ++ [y]).length : Nat) : Int) + ((md.length : Nat) : Int) - 1 := by rw [wrap_i64 _ (by simp at hl; omega) (by simp at hl; omega)]; simp
   rw [w1, w2, show pre ++ y :: (md ++ x :: suf) = (pre ++ [y]) ++ (md ++ (x :: suf)) by simp]
   simp at hn
   rw [ih (n - 2) (by omega) md (pre ++ [y]) (x :: suf) m (by omega) (by omega) (by simp at hl ⊢; omega)]
   simp
/-! ### the parts of a frame -/
def partsL (f : D_frame_Frame) : List Int :=
 let k := f.1
 bif k == 2 then ackL f.2.2.2.2.2.2.2.1 f.2.2.2.2.2.2.2.2.2.2.2.2.1.reverse
 else bif k == 4 then vbs [f.2.1, f.2.2.2.2.1, f.2.2.2.1]
 else bif k == 5 then vbs [f.2.1, f.2.2.2.2.1]
 else bif k == 6 then vbs [f.2.2.1] ++ textL f.2.2.2.2.2.2.2.2.2.1
 else bif k == 16 || k == 18 || k == 19 || k == 20 || k == 22 || k == 23 then vbs [f.2.2.2.1]
 else bif k == 17 || k == 21 then vbs [f.2.1, f.2.2.2.1]
 else bif k == 24 then vbs [f.2.2.2.2.2.1, f.2.2.2.2.2.2.1] ++ [8] ++ (strBytes f.2.2.2.2.2.2.2.2.2.2.1 ++ strBytes f.2.2.2.2.2.2.2.2.2.2.2.1)
 else bif k == 25 then vbs [f.2.2.2.2.2.1]
 else bif k == 26 || k == 27 then strBytes f.2.2.2.2.2.2.2.2.2.2.2.1
 else bif k == 28 then vbs [f.2.2.2.2.1, f.2.2.2.2.2.2.2.1] ++ textL f.2.2.2.2.2.2.2.2.2.1
 else bif k == 29 then vbs [f.2.2.2.2.1] ++ textL f.2.2.2.2.2.2.2.2.2.1
 else []
def streamK (f : D_frame_Frame) : Int := 10 + (bif f.2.2.1 == 0 then 0 else 4) + (bif f.2.2.2.2.2.2.2.2.1 then 1 else 0)
def putL (f : D_frame_Frame) : List Int :=
 bif f.1 == 8 then vbs [streamK f, f.2.1] ++ (bif f.2.2.1 == 0 then [] else vbs [f.2.2.1]) ++ textL f.2.2.2.2.2.2.2.2.2.1
 else vbs [f.1] ++ partsL f
theorem nums62 {f : D_frame_Frame} (h : FrOk f) (hn : numsOk f = true) : In62 f.2.1 ∧ In62 f.2.2.1 ∧ In62 f.2.2.2.1 ∧ In62 f.2.2.2.2.1 ∧ In62 f.2.2.2.2.2.1 ∧ In62 f.2.2.2.2.2.2.1 ∧ In62 f.2.2.2.2.2.2.2.1 := by
 simp only [numsOk, decide_eq_true_eq] at hn
 obtain ⟨n1, n2, n3, n4, n5, n6, n7⟩ := hn
 have a1 := h.id; have a2 := h.off; have a3 := h.max; have a4 := h.code; have a5 := h.seq; have a6 := h.prior; have a7 := h.delay
 unfold In62
 refine ⟨?_, ?_, ?_, ?_, ?_, ?_, ?_⟩ <;> omega
theorem mayFr_parts {f : D_frame_Frame} (h : mayFr f = true) : kindB f.1 = true ∧ f = onlyF f ∧ numsOk f = true ∧ f.2.2.2.2.2.2.2.2.2.1.size ≤ 1200 ∧ extraF f = true := by
 simp only [mayFr, Bool.and_eq_true, decide_eq_true_eq] at h
 exact ⟨h.1.1.1.1, h.1.1.1.2, h.1.1.2, h.1.2, h.2⟩
theorem parts_is (f : D_frame_Frame) (acc : List Int) (h : FrOk f) (hm : mayFr f = true) (h8 : f.1 ≠ 8) (ha : acc.length ≤ 8) : frame_writer_parts_h0 f acc = some (acc ++ partsL f, ()) := by
 obtain ⟨hk, ho, hn, hd, he⟩ := mayFr_parts hm
 obtain ⟨n1, n2, n3, n4, n5, n6, n7⟩ := nums62 h hn
 have hset := h.set
 obtain ⟨k, id, off, mx, code, seq, prior, delay, fin, data, cid, tok, set, ⟨⟩⟩ := f
 simp only at *
 have L1 : ∀ a, In62 a → frame_writer_numbers_h1 [a] acc = some ([a], acc ++ vbs [a], ()) := fun a h => num1_is _ _ (by simp) (by omega) (by intro n hn; simp at hn; subst hn; exact h)
 have L2 : ∀ a b, In62 a → In62 b → frame_writer_numbers_h1 [a, b] acc = some ([a, b], acc ++ vbs [a, b], ()) := fun a b h k => num1_is _ _ (by simp) (by omega) (by intro n hn; simp at hn; rcases hn with rfl | rfl <;> assumption)
 have L3 : ∀ a b c, In62 a → In62 b → In62 c → frame_writer_numbers_h1 [a, b, c] acc = some ([a, b, c], acc ++ vbs [a, b, c], ()) := fun a b c h k l => num1_is _ _ (by simp) (by omega) (by intro n hn; simp at hn; rcases hn with rfl | rfl | rfl <;> assumption)
 have V1 : ∀ a, (acc ++ vbs [a]).length ≤ 100 := fun a => by have := vbs_len [a]; simp at this ⊢; omega
 have V2 : ∀ a b, (acc ++ vbs [a, b]).length ≤ 100 := fun a b => by have := vbs_len [a, b]; simp at this ⊢; omega
 have T1 : ∀ a, frame_writer_long_h0 data (acc ++ vbs [a]) = some ((acc ++ vbs [a]) ++ textL data, ()) := fun a => long_is _ _ (by omega) (by have := V1 a; omega)
 have T2 : ∀ a b, frame_writer_long_h0 data (acc ++ vbs [a, b]) = some ((acc ++ vbs [a, b]) ++ textL data, ()) := fun a b => long_is _ _ (by omega) (by have := V2 a b; omega)
 rw [frame_writer_parts_h0_eq, b_frame_writer_parts_h0]
 simp only [frame_writer_parts_h0_2_eq, b_frame_writer_parts_h0_2, frame_writer_parts_h0_3_eq, b_frame_writer_parts_h0_3, frame_writer_parts_h0_4_eq, b_frame_writer_parts_h0_4]
 rcases kinds hk with rfl | rfl | rfl | rfl | rfl | rfl | rfl | rfl | rfl | rfl | rfl | rfl | rfl | rfl | rfl | rfl | rfl | rfl | rfl | rfl | rfl | rfl
 case inr.inr.inl =>
  simp only [extraF, beq_self_eq_true, cond_true, Bool.and_eq_true, decide_eq_true_eq] at he
  obtain ⟨⟨⟨e1, e2⟩, e3⟩, e4⟩ := he
  have hne : set ≠ [] := by rintro rfl; simp at e2
  have hdesc := desc_rev set [] 0 e1 (by omega) (fun r hr => (hset r hr).1.1) trivial
  rw [endR_last set 0 hne, List.append_nil] at hdesc
  have hrl : set.reverse.length = set.length := by simp
  have clone : slices_Clone_ranges_Range set = some set := by unfold slices_Clone_ranges_Range; rw [decide_eq_true (by omega)]; rfl
  simp only [beq_self_eq_true, cond_true, clone, obind_some, partsL]
  rw [frame_writer_parts_h0_0'_eq, b_frame_writer_parts_h0_0', wrap_i64 _ (by omega) (by omega)]
  have hrev := rev_loop acc (2, id, off, mx, code, seq, prior, delay, fin, data, cid, tok, set, ()) set.length set [] [] (Int.toNat (((set.length : Nat) : Int) - 1 - 0) + 2) (by omega) (by omega) (by simp; omega)
  simp only [List.nil_append, List.append_nil, List.length_nil] at hrev
  rw [show ((0 : Nat) : Int) + ((set.length : Nat) : Int) - 1 = ((set.length : Nat) : Int) - 1 by omega, show ((0 : Nat) : Int) = 0 from rfl] at hrev
  rw [hrev]
  generalize set.reverse = L at *
  cases L with
  | nil => simp at hrl; omega
  | cons r l =>
   obtain ⟨d1, d2, d3, d4⟩ := hdesc
   simp only [List.length_cons] at hrl
   have c0 : (0 : Int) < (((r :: l).length : Nat) : Int) := by simp
   have c1 : (1 : Int) ≤ (((r :: l).length : Nat) : Int) := by simp; omega
   have w1 : IntKind.wrap .i64 ((((r :: l).length : Nat) : Int) - 1) = ((l.length : Nat) : Int) := by rw [wrap_i64 _ (by simp only [List.length_cons]; omega) (by simp only [List.length_cons]; omega)]; simp
   have w2 : IntKind.wrap .u64 ((l.length : Nat) : Int) = ((l.length : Nat) : Int) := wrap_u64 _ (by omega) (by omega)
   have w3 : IntKind.wrap .u64 (r.2.1 - r.1) = r.2.1 - r.1 := wrap_u64 _ (by omega) (by omega)
   have c2 : (0 : Int) ≤ 1 := by omega
   rw [frame_writer_parts_h0_0]
   simp only [t_frame_writer_parts_h0_0, Int.lt_irrefl, decide_false, cond_false, c0, c1, c2, Int.le_refl, and_self, decide_true, cond_true, List.getD_cons_zero, w1, w2, w3]
   rw [num1_is _ _ (by simp) (by omega) (by intro n hn; simp at hn; unfold In62 at *; omega)]
   simp only [obind_some]
   rw [frame_writer_parts_h0_1'_eq, b_frame_writer_parts_h0_1']
   have hv := vbs_len [r.2.1, delay, ((l.length : Nat) : Int), r.2.1 - r.1]
   simp only [List.length_cons, List.length_nil] at hv
   have hk1 : Int.toNat (((r :: l).length : Nat) : Int) - 1 = l.length := by simp
   rw [hk1]
   have := gaps_loop l [] r (acc ++ vbs [r.2.1, delay, ((l.length : Nat) : Int), r.2.1 - r.1]) (Int.toNat (((l.length : Nat) : Int) - 0) + 2) l.length (by omega) (by simp; omega) (by simp at hv ⊢; omega) d4 (by omega) (by simp)
   simp only [List.nil_append, List.length_nil] at this
   rw [show ((0 : Nat) : Int) = 0 from rfl] at this
   rw [this]
   simp [ackL, vbs]
 case inr.inr.inr.inr.inr.inr.inl => exact absurd rfl h8
 case inr.inr.inr.inr.inr.inr.inr.inr.inr.inr.inr.inr.inr.inr.inr.inl =>
  simp only [extraF] at he
  have hc : cid.size = 8 ∧ tok.size = 16 := by
   simp [show ((24 : Int) == 2) = false from rfl] at he
   omega
  have w1 : IntKind.wrap .u8 ((cid.size : Nat) : Int) = 8 := by rw [hc.1, wrap_u8]; rfl
  have c1 : cid.size + tok.size ≤ 9223372036854775807 := by omega
  have e1 : frame_writer_numbers_h1 [seq, prior] acc = some ([seq, prior], acc ++ vbs [seq, prior], ()) := L2 _ _ n5 n6
  have hV := V2 seq prior
  have e2 : strings_Builder_WriteByte_h0 8 (acc ++ vbs [seq, prior]) = some ((acc ++ vbs [seq, prior]) ++ [8], ()) := wbyte_is _ _ (by omega)
  have hs : (cid ++ tok).size ≤ 100000 := by rw [ByteArray.size_append]; omega
  have e3 : strings_Builder_WriteString_h2 (cid ++ tok) ((acc ++ vbs [seq, prior]) ++ [8]) = some ((((cid ++ tok).size : Nat) : Int), ((acc ++ vbs [seq, prior]) ++ [8]) ++ strBytes (cid ++ tok), ()) := wstr_is _ _ hs (by simp at hV ⊢; omega)
  simp only [List.append_assoc] at e2 e3
  simp [e1, e2, e3, w1, c1, partsL, strBytes_app]
 case inr.inr.inr.inr.inr.inr.inr.inr.inr.inr.inr.inr.inr.inr.inr.inr.inr.inl =>
  simp only [extraF] at he
  have hc : tok.size = 8 := by
   simp at he
   omega
  have e3 : strings_Builder_WriteString_h2 tok acc = some (((tok.size : Nat) : Int), acc ++ strBytes tok, ()) := wstr_is _ _ (by omega) (by omega)
  simp [e3, partsL]
 case inr.inr.inr.inr.inr.inr.inr.inr.inr.inr.inr.inr.inr.inr.inr.inr.inr.inr.inl =>
  simp only [extraF] at he
  have hc : tok.size = 8 := by
   simp at he
   omega
  have e3 : strings_Builder_WriteString_h2 tok acc = some (((tok.size : Nat) : Int), acc ++ strBytes tok, ()) := wstr_is _ _ (by omega) (by omega)
  simp [e3, partsL]
 all_goals simp [partsL, L1, L2, L3, T1, T2, n1, n2, n3, n4, n5, n6, n7]
theorem stream_is (f : D_frame_Frame) (h : FrOk f) (hm : mayFr f = true) (h8 : f.1 = 8) : frame_writer_stream_h0 f = some (putL f, ()) := by
 obtain ⟨hk, ho, hn, hd, he⟩ := mayFr_parts hm
 obtain ⟨n1, n2, n3, n4, n5, n6, n7⟩ := nums62 h hn
 have b14 : bits .or .u64 10 4 = 14 := by rw [bits_or_u64 _ _ (by omega) (by omega)]; decide
 have b15 : bits .or .u64 14 1 = 15 := by rw [bits_or_u64 _ _ (by omega) (by omega)]; decide
 have b11 : bits .or .u64 10 1 = 11 := by rw [bits_or_u64 _ _ (by omega) (by omega)]; decide
 obtain ⟨k, id, off, mx, code, seq, prior, delay, fin, data, cid, tok, set, ⟨⟩⟩ := f
 simp only at *
 subst h8
 have L2 : ∀ a b, In62 a → In62 b → frame_writer_numbers_h0 [a, b] = some ([a, b], vbs [a, b], ()) := fun a b h k => num0_is _ (by simp) (by intro n hn; simp at hn; rcases hn with rfl | rfl <;> assumption)
 have V2 : ∀ a b, (vbs [a, b]).length ≤ 100 := fun a b => by have := vbs_len [a, b]; simp at this ⊢; omega
 have V3 : ∀ a b c, (vbs [a, b] ++ vbs [c]).length ≤ 100 := fun a b c => by have := vbs_len [a, b]; have := vbs_len [c]; simp at *; omega
 have L1 : ∀ a b c, In62 c → frame_writer_numbers_h1 [c] (vbs [a, b]) = some ([c], vbs [a, b] ++ vbs [c], ()) := fun a b c h => num1_is _ _ (by simp) (by have := V2 a b; omega) (by intro n hn; simp at hn; subst hn; exact h)
 have T2 : ∀ a b, frame_writer_long_h0 data (vbs [a, b]) = some (vbs [a, b] ++ textL data, ()) := fun a b => long_is _ _ (by omega) (by have := V2 a b; omega)
 have T3 : ∀ a b c, frame_writer_long_h0 data (vbs [a, b] ++ vbs [c]) = some ((vbs [a, b] ++ vbs [c]) ++ textL data, ()) := fun a b c => long_is _ _ (by omega) (by have := V3 a b c; omega)
 have i1 : In62 10 := by unfold In62; omega
 have i2 : In62 11 := by unfold In62; omega
 have i3 : In62 14 := by unfold In62; omega
 have i4 : In62 15 := by unfold In62; omega
 rw [frame_writer_stream_h0_eq, b_frame_writer_stream_h0]
 simp only [frame_writer_stream_h0_0_eq, b_frame_writer_stream_h0_0, frame_writer_stream_h0_1_eq, b_frame_writer_stream_h0_1, frame_writer_stream_h0_2_eq, b_frame_writer_stream_h0_2, putL, streamK]
 by_cases h0 : off = 0
 ·
  subst h0
  cases fin <;> simp [b11, L2, T2, n1, i1, i2]
 ·
  have : (off == 0) = false := beq_false_of_ne h0
  cases fin <;> simp [bne, this, b14, b15, L2, L1, T3, n1, n2, i3, i4]
theorem size62 {s : ByteArray} (h : s.size ≤ 100000) : In62 ((s.size : Nat) : Int) := by unfold In62; omega
theorem textL_range {s : ByteArray} (h : s.size ≤ 100000) : ∀ x ∈ textL s, 0 ≤ x ∧ x ≤ 255 := by
 intro x hx
 rcases List.mem_append.mp hx with hx | hx
 · exact vb_range _ (size62 h).1 (size62 h).2 x hx
 · exact strBytes_range s x hx
theorem vbs1_range {a : Int} (h : In62 a) : ∀ x ∈ vbs [a], 0 ≤ x ∧ x ≤ 255 := vbs_range _ (by intro n hn; simp at hn; subst hn; exact h)
theorem ackGaps_range : ∀ (l : List D_ranges_Range) (lo : Int), descR lo l → lo < 4611686018427387904 → ∀ x ∈ ackGaps lo l, 0 ≤ x ∧ x ≤ 255
 | [], _, _, _ => by simp [ackGaps]
 | r :: l, lo, ⟨d1, d2, d3, d4⟩, hlo => by
  intro x hx
  simp only [ackGaps, List.mem_append] at hx
  rcases hx with (hx | hx) | hx
  · exact vb_range _ (by omega) (by omega) x hx
  · exact vb_range _ (by omega) (by omega) x hx
  · exact ackGaps_range l r.1 d4 (by omega) x hx
theorem app_range {a b : List Int} (h : ∀ x ∈ a, 0 ≤ x ∧ x ≤ 255) (k : ∀ x ∈ b, 0 ≤ x ∧ x ≤ 255) : ∀ x ∈ a ++ b, 0 ≤ x ∧ x ≤ 255 := by
 intro x hx
 rcases List.mem_append.mp hx with hx | hx
 · exact h x hx
 · exact k x hx
theorem ack_desc {set : List D_ranges_Range} (hs : ∀ r ∈ set, 0 ≤ r.1) (e1 : mayR 0 set = true) (e2 : 0 < set.length) (e4 : lastHi set ≤ 4611686018427387903) :
  ∃ r l, set.reverse = r :: l ∧ l.length + 1 = set.length ∧ 0 ≤ r.1 ∧ r.1 ≤ r.2.1 ∧ r.2.1 ≤ 4611686018427387903 ∧ descR r.1 l := by
 have hne : set ≠ [] := by rintro rfl; simp at e2
 have hdesc := desc_rev set [] 0 e1 (by omega) hs trivial
 rw [endR_last set 0 hne, List.append_nil] at hdesc
 have hrl : set.reverse.length = set.length := by simp
 generalize set.reverse = L at *
 cases L with
 | nil => simp at hrl; omega
 | cons r l =>
  obtain ⟨d1, d2, d3, d4⟩ := hdesc
  exact ⟨r, l, rfl, by simpa using hrl, d1, d2, by omega, d4⟩
theorem put_ok (f : D_frame_Frame) (h : FrOk f) (hm : mayFr f = true) : (∀ x ∈ putL f, 0 ≤ x ∧ x ≤ 255) ∧ (putL f).length ≤ 5000 ∧ 1 ≤ (putL f).length := by
 obtain ⟨hk, ho, hn, hd, he⟩ := mayFr_parts hm
 obtain ⟨n1, n2, n3, n4, n5, n6, n7⟩ := nums62 h hn
 have hset := h.set
 obtain ⟨k, id, off, mx, code, seq, prior, delay, fin, data, cid, tok, set, u⟩ := f
 simp only at *
 have R1 : ∀ a, In62 a → ∀ x ∈ vbs [a], 0 ≤ x ∧ x ≤ 255 := fun a h => vbs1_range h
 have R2 : ∀ a b, In62 a → In62 b → ∀ x ∈ vbs [a, b], 0 ≤ x ∧ x ≤ 255 := fun a b h k => vbs_range _ (by intro n hn; simp at hn; rcases hn with rfl | rfl <;> assumption)
 have R3 : ∀ a b c, In62 a → In62 b → In62 c → ∀ x ∈ vbs [a, b, c], 0 ≤ x ∧ x ≤ 255 := fun a b c h k l => vbs_range _ (by intro n hn; simp at hn; rcases hn with rfl | rfl | rfl <;> assumption)
 have RT : ∀ x ∈ textL data, 0 ≤ x ∧ x ≤ 255 := textL_range (by omega)
 have V1 : ∀ a, 1 ≤ (vbs [a]).length ∧ (vbs [a]).length ≤ 8 := fun a => by simp only [vbs, List.flatMap_cons, List.flatMap_nil, List.append_nil]; exact vb_len a
 have V2 : ∀ a b, 1 ≤ (vbs [a, b]).length ∧ (vbs [a, b]).length ≤ 16 := fun a b => by have := vb_len a; have := vb_len b; simp only [vbs, List.flatMap_cons, List.flatMap_nil, List.append_nil, List.length_append]; omega
 have V3 : ∀ a b c, (vbs [a, b, c]).length ≤ 24 := fun a b c => by have := vbs_len [a, b, c]; simpa using this
 have LT : (textL data).length ≤ 1208 := by have := vb_len ((data.size : Nat) : Int); have := strBytes_len data; simp only [textL, List.length_append]; omega
 have K : In62 k := by rcases kinds hk with rfl | rfl | rfl | rfl | rfl | rfl | rfl | rfl | rfl | rfl | rfl | rfl | rfl | rfl | rfl | rfl | rfl | rfl | rfl | rfl | rfl | rfl <;> (unfold In62; omega)
 by_cases h8 : k = 8
 ·
  subst h8
  have hs : In62 (streamK (8, id, off, mx, code, seq, prior, delay, fin, data, cid, tok, set, u)) := by
   unfold streamK In62
   cases fin <;> cases (off == 0) <;> simp
  simp only [putL, beq_self_eq_true, cond_true]
  have v1 := V1 off
  have v2 := V2 (streamK (8, id, off, mx, code, seq, prior, delay, fin, data, cid, tok, set, u)) id
  refine ⟨app_range (app_range (R2 _ _ hs n1) ?_) RT, ?_, ?_⟩
  ·
   cases (off == 0)
   · exact R1 _ n2
   · simp
  · cases (off == 0) <;> simp only [cond_true, cond_false, List.length_append, List.length_nil] <;> omega
  · cases (off == 0) <;> simp only [cond_true, cond_false, List.length_append, List.length_nil] <;> omega
 ·
  have hb : (k == 8) = false := beq_false_of_ne h8
  simp only [putL, hb, cond_false]
  have v1 := V1 k
  suffices hp : (∀ x ∈ partsL (k, id, off, mx, code, seq, prior, delay, fin, data, cid, tok, set, u), 0 ≤ x ∧ x ≤ 255) ∧ (partsL (k, id, off, mx, code, seq, prior, delay, fin, data, cid, tok, set, u)).length ≤ 4000 by
   refine ⟨app_range (R1 _ K) hp.1, ?_, ?_⟩ <;> rw [List.length_append] <;> omega
  by_cases h2 : k = 2
  ·
   subst h2
   simp only [extraF, beq_self_eq_true, cond_true, Bool.and_eq_true, decide_eq_true_eq] at he
   obtain ⟨⟨⟨e1, e2⟩, e3⟩, e4⟩ := he
   obtain ⟨r, l, er, el, d1, d2, d3, d4⟩ := ack_desc (fun r hr => (hset r hr).1.1) e1 e2 e4
   simp only [partsL, beq_self_eq_true, cond_true, er, ackL]
   have g1 := vb_len r.2.1
   have g2 := vb_len delay
   have g3 := vb_len ((l.length : Nat) : Int)
   have g4 := vb_len (r.2.1 - r.1)
   have g5 := ackGaps_len l r.1
   constructor
   · refine app_range (app_range (app_range (app_range (vb_range _ (by omega) (by omega)) (vb_range _ n7.1 n7.2)) (vb_range _ (by omega) (by omega))) (vb_range _ (by omega) (by omega))) (ackGaps_range l r.1 d4 (by omega))
   · simp only [List.length_append]; omega
  ·
   by_cases h24 : k = 24
   ·
    subst h24
    have hc : cid.size = 8 ∧ tok.size = 16 := by
     simp [extraF] at he
     omega
    have e : partsL (24, id, off, mx, code, seq, prior, delay, fin, data, cid, tok, set, u) = vbs [seq, prior] ++ [8] ++ (strBytes cid ++ strBytes tok) := rfl
    rw [e]
    have l1 := strBytes_len cid
    have l2 := strBytes_len tok
    have v2 := V2 seq prior
    refine ⟨app_range (app_range (R2 _ _ n5 n6) (by simp)) (app_range (strBytes_range cid) (strBytes_range tok)), ?_⟩
    simp only [List.length_append, List.length_cons, List.length_nil]; omega
   ·
    have htok : ∀ (h : k = 26 ∨ k = 27), tok.size = 8 := by
     rintro (rfl | rfl) <;> simp [extraF] at he <;> omega
    have l2 := strBytes_len tok
    have W1 : ∀ a, (vbs [a]).length ≤ 4000 := fun a => by have := V1 a; omega
    have W2 : ∀ a b, (vbs [a, b]).length ≤ 4000 := fun a b => by have := V2 a b; omega
    have W3 : ∀ a b c, (vbs [a, b, c]).length ≤ 4000 := fun a b c => by have := V3 a b c; omega
    have T1 : ∀ a, In62 a → (∀ x ∈ vbs [a] ++ textL data, 0 ≤ x ∧ x ≤ 255) ∧ (vbs [a] ++ textL data).length ≤ 4000 := fun a h => ⟨app_range (R1 _ h) RT, by have := V1 a; rw [List.length_append]; omega⟩
    have T2 : ∀ a b, In62 a → In62 b → (∀ x ∈ vbs [a, b] ++ textL data, 0 ≤ x ∧ x ≤ 255) ∧ (vbs [a, b] ++ textL data).length ≤ 4000 := fun a b h k => ⟨app_range (R2 _ _ h k) RT, by have := V2 a b; rw [List.length_append]; omega⟩
    rcases kinds hk with rfl | rfl | rfl | rfl | rfl | rfl | rfl | rfl | rfl | rfl | rfl | rfl | rfl | rfl | rfl | rfl | rfl | rfl | rfl | rfl | rfl | rfl
    · exact ⟨by simp [partsL], by simp [partsL]⟩
    · exact ⟨by simp [partsL], by simp [partsL]⟩
    · exact absurd rfl h2
    · exact ⟨R3 _ _ _ n1 n4 n3, W3 _ _ _⟩
    · exact ⟨R2 _ _ n1 n4, W2 _ _⟩
    · exact T1 _ n2
    · exact absurd rfl h8
    · exact ⟨R1 _ n3, W1 _⟩
    · exact ⟨R2 _ _ n1 n3, W2 _ _⟩
    · exact ⟨R1 _ n3, W1 _⟩
    · exact ⟨R1 _ n3, W1 _⟩
    · exact ⟨R1 _ n3, W1 _⟩
    · exact ⟨R2 _ _ n1 n3, W2 _ _⟩
    · exact ⟨R1 _ n3, W1 _⟩
    · exact ⟨R1 _ n3, W1 _⟩
    · exact absurd rfl h24
    · exact ⟨R1 _ n5, W1 _⟩
    ·
     have := htok (.inl rfl)
     exact ⟨strBytes_range tok, by show (strBytes tok).length ≤ 4000; omega⟩
    ·
     have := htok (.inr rfl)
     exact ⟨strBytes_range tok, by show (strBytes tok).length ≤ 4000; omega⟩
    · exact T2 _ _ n4 n7
    · exact T1 _ n4
    · exact ⟨by simp [partsL], by simp [partsL]⟩
theorem put_is (f : D_frame_Frame) (h : FrOk f) : frame_Put f = some (if mayFr f = true then (bytesStr (putL f), 0, ()) else (⟨#[]⟩, 1, ())) := by
 rw [frame_Put_eq, b_frame_Put, may_is_fr f h]
 simp only [obind_some]
 by_cases hm : mayFr f = true
 ·
  obtain ⟨o1, o2, o3⟩ := put_ok f h hm
  have c : (((putL f).length : Nat) : Int) ≤ 4294967296 := by omega
  simp only [hm, Bool.not_true, cond_false, if_true]
  by_cases h8 : f.1 = 8
  · simp only [beq_of h8, cond_true, stream_is f h hm h8, obind_some, c, and_self, decide_true]
  ·
   have hb : (f.1 == 8) = false := beq_false_of_ne h8
   have e1 : frame_writer_numbers_h0 [f.1] = some ([f.1], vbs [f.1], ()) := num0_is _ (by simp) (by
    intro n hn; simp at hn; subst hn
    rcases kinds (mayFr_parts hm).1 with e | e | e | e | e | e | e | e | e | e | e | e | e | e | e | e | e | e | e | e | e | e <;> (rw [e]; unfold In62; omega))
   have l1 : (vbs [f.1]).length ≤ 8 := by have := vbs_len [f.1]; simpa using this
   have e2 : putL f = vbs [f.1] ++ partsL f := by simp only [putL, hb, cond_false]
   simp only [hb, cond_false, e1, obind_some, parts_is f _ h hm h8 l1]
   rw [← e2]
   simp only [c, and_self, decide_true, cond_true]
 ·
  have : mayFr f = false := by simpa using hm
  simp only [this, Bool.not_false, cond_true, Bool.false_eq_true, if_false]
end Go.Proofs.YtjlfmolfcgennaaDoor.V
namespace Go.Proofs.YtjlfmolfcgennaaDoor.V
open Go.RowKit Go.Proofs.Tryd
set_option maxRecDepth 100000
set_option linter.unusedVariables false
noncomputable def m_ids_First : Mach prog Inv gInv := mach bas [(14, f14)] ⟨ok14, trivial⟩ [(30, c_ideal_Id)] ⟨⟨c_ideal_Id_ok, FnOk.callable ok30⟩, trivial⟩ [] trivial [] trivial
/-! ### domino/ids.First -/
@[reducible] def r_ids_First : List Ty := [.str]
def ks_ids_First : List Nat := [14]
noncomputable def b_ids_First (a0 : Int) (a1 : Int) : Option (ByteArray × Unit) :=
 let s2 : ByteArray := (ByteArray.mk (List.toArray ([] : List UInt8)))
 let n3 : Int := (Go.IntKind.wrap Go.IntKind.u64 a1)
 let n4 : Int := (Go.IntKind.wrap Go.IntKind.u64 (n3 * (4294967296 : Int)))
 obind (ideal_Id a0 n4) fun y5 =>
 some y5
theorem ex_ids_First : ∃ f, f = @b_ids_First := ⟨_, rfl⟩
noncomputable def ids_First := Classical.choose ex_ids_First
theorem ids_First_eq : @ids_First = @b_ids_First := Classical.choose_spec ex_ids_First
noncomputable def cb_ids_First : Con := ⟨[(.int .u64), (.int .i64)], r_ids_First, fun x => b_ids_First x.1 x.2.1⟩
noncomputable def c_ids_First : Con := ⟨[(.int .u64), (.int .i64)], r_ids_First, fun x => ids_First x.1 x.2.1⟩
theorem cb_ids_First_ok : cb_ids_First.Sound prog Inv gInv 14 :=
 con_run (M := m_ids_First) inv_g (f := f14) rfl ks_ids_First 100000 (X := nowhere) (fun base S0 cs0 hn hf => OSound.nowhere) (by intro x; kernel_rfl)
theorem c_ids_First_ok : c_ids_First.Sound prog Inv gInv 14 := by
 have e : c_ids_First = cb_ids_First := by unfold c_ids_First cb_ids_First; rw [ids_First_eq]
 rw [e]; exact cb_ids_First_ok
noncomputable def m_ids_New : Mach prog Inv gInv := mach bas [(6, f6)] ⟨ok6, trivial⟩ [(14, c_ids_First)] ⟨⟨c_ids_First_ok, FnOk.callable ok14⟩, trivial⟩ [] trivial [] trivial
/-! ### domino/ids.New -/
@[reducible] def r_ids_New : List Ty := [T_ids_State]
def ks_ids_New : List Nat := [6]
noncomputable def b_ids_New (a0 : Int) (a1 : Int) : Option (D_ids_State × Unit) :=
 obind (ids_First a0 a1) fun y2 =>
 let s3 : ByteArray := (ByteArray.mk (List.toArray ([] : List UInt8)))
 let e4 : (Int × (ByteArray × (ByteArray × (Bool × (Bool × Unit))))) := ((0 : Int), (y2.1, (s3, (false, (false, ())))))
 let n5 : Int := (Go.IntKind.wrap Go.IntKind.i64 ((1 : Int) - a1))
 obind (ids_First a0 n5) fun y6 =>
 let s7 : ByteArray := (ByteArray.mk (List.toArray ([] : List UInt8)))
 let e8 : (Int × (ByteArray × (ByteArray × (Bool × (Bool × (Bool × Unit)))))) := ((0 : Int), (y6.1, (s7, (true, (false, (false, ()))))))
 some ((a0, (a1, ((2 : Int), ((e4 :: ([] : List D_ids_Own)), ((e8 :: ([] : List D_ids_Given)), ((0 : Int), ((0 : Int), ()))))))), ())
theorem ex_ids_New : ∃ f, f = @b_ids_New := ⟨_, rfl⟩
noncomputable def ids_New := Classical.choose ex_ids_New
theorem ids_New_eq : @ids_New = @b_ids_New := Classical.choose_spec ex_ids_New
noncomputable def cb_ids_New : Con := ⟨[(.int .u64), (.int .i64)], r_ids_New, fun x => b_ids_New x.1 x.2.1⟩
noncomputable def c_ids_New : Con := ⟨[(.int .u64), (.int .i64)], r_ids_New, fun x => ids_New x.1 x.2.1⟩
theorem cb_ids_New_ok : cb_ids_New.Sound prog Inv gInv 6 :=
 con_run (M := m_ids_New) inv_g (f := f6) rfl ks_ids_New 100000 (X := nowhere) (fun base S0 cs0 hn hf => OSound.nowhere) (by intro x; kernel_rfl)
theorem c_ids_New_ok : c_ids_New.Sound prog Inv gInv 6 := by
 have e : c_ids_New = cb_ids_New := by unfold c_ids_New cb_ids_New; rw [ids_New_eq]
 rw [e]; exact cb_ids_New_ok
noncomputable def m_ids_Cid : Mach prog Inv gInv := mach bas [(7, f7), (16, f16), (21, f21), (33, f33), (38, f38)] ⟨ok7, ok16, ok21, ok33, ok38, trivial⟩ [] trivial [] trivial [] trivial
/-! ### domino/ids.Cid -/
@[reducible] def r_ids_Cid : List Ty := [.str]
def ks_ids_Cid : List Nat := [7, 16, 21, 33, 38]
abbrev H_ids_Cid (base : Base) (S0 : Nat → Prop) := base.n = 0 ∧ FinOk (finR r_ids_Cid) base S0 (Post r_ids_Cid S0)
abbrev J_ids_Cid (base : Base) (S0 : Nat → Prop) (cs0 : List Go.Frame) (p : CPat) (J : denC p → Option (denL r_ids_Cid)) := JSound m_ids_Cid base S0 cs0 (Post r_ids_Cid S0) p J
abbrev O_ids_Cid (base : Base) (S0 : Nat → Prop) (cs0 : List Go.Frame) (X : Cfg → Option (Option (denL r_ids_Cid))) := OSound m_ids_Cid base S0 cs0 (Post r_ids_Cid S0) X
@[reducible] noncomputable def p_ids_Cid_1 : CPat := ⟨⟨21, [1, 0], (some 3), [.any, .any, .any, .any, .any, .any, .any, .any, .any, .int .i64], 3⟩, [⟨16, [1, 0], (some 5), [], 12⟩, ⟨7, [1, 0], (some 0), [.any, .ptr 0 0], 15⟩], [.dat 29 T_ids_State], 0⟩
@[reducible] noncomputable def u_ids_Cid_1 (k : Int → D_ids_State → Option (ByteArray × Unit)) : denC p_ids_Cid_1 → Option (ByteArray × Unit) := fun x => k x.1.2.2.2.2.2.2.2.2.2.1 x.2.2.1
noncomputable def b_ids_Cid_1 (i19 : Int) (d20 : D_ids_State) : Option (ByteArray × Unit) :=
 let b21 : Bool := (decide (i19 ≥ (0 : Int)))
 let b22 : Bool := (!b21)
 bif b22 then
  let s23 : ByteArray := (ByteArray.mk (List.toArray ([] : List UInt8)))
  some (s23, ())
 else
  bif (decide (((0 : Int) ≤ i19) ∧ (i19 < (((List.length d20.2.2.2.2.1) : Nat) : Int)))) then
   let x24 : D_ids_Given := (List.getD d20.2.2.2.2.1 (Int.toNat i19) (Ty.dflt T_ids_Given))
   some (x24.2.1, ())
  else none
theorem ex_ids_Cid_1 : ∃ f, f = @b_ids_Cid_1 := ⟨_, rfl⟩
noncomputable def ids_Cid_1 := Classical.choose ex_ids_Cid_1
theorem ids_Cid_1_eq : @ids_Cid_1 = @b_ids_Cid_1 := Classical.choose_spec ex_ids_Cid_1
theorem s_ids_Cid_1 {base S0 cs0} (hfin : H_ids_Cid base S0) : J_ids_Cid base S0 cs0 p_ids_Cid_1 (u_ids_Cid_1 (ids_Cid_1)) :=
 JSound.join hfin.2 (OSound.nowhere) ks_ids_Cid 100000 (by rw [ids_Cid_1_eq]; intro x; kernel_rfl)
noncomputable def x_ids_Cid_1 : Cfg → Option (Option (ByteArray × Unit)) := cut p_ids_Cid_1 (u_ids_Cid_1 (ids_Cid_1)) (nowhere)
theorem o_ids_Cid_1 {base S0 cs0} (hfin : H_ids_Cid base S0) : O_ids_Cid base S0 cs0 (x_ids_Cid_1) := OSound.cut (OSound.nowhere) (Nat.le_of_eq hfin.1) (s_ids_Cid_1 hfin)
@[reducible] noncomputable def p_ids_Cid_0 : CPat := ⟨⟨38, [1, 0, 1, 0], none, [.rows T_ids_Given false, .func 33 [] [.ptr 0 0], .any, .any, .any, .any, .any, .int .i64, .int .i64], 10⟩, [⟨21, [1, 0], (some 2), [], 13⟩, ⟨16, [1, 0], (some 5), [], 12⟩, ⟨7, [1, 0], (some 0), [.any, .ptr 1 0], 15⟩], [.cells 61 [.ptr 1 0], .dat 29 T_ids_State], 0⟩
@[reducible] noncomputable def u_ids_Cid_0 (k : (List D_ids_Given) → Int → Int → D_ids_State → Option (ByteArray × Unit)) : denC p_ids_Cid_0 → Option (ByteArray × Unit) := fun x => k x.1.1 x.1.2.2.2.2.2.2.2.1 x.1.2.2.2.2.2.2.2.2.1 x.2.2.2.1
noncomputable def t_ids_Cid_0 (k0 : (List D_ids_Given) → Int → Int → D_ids_State → Option (ByteArray × Unit)) (l9 : (List D_ids_Given)) (i10 : Int) (i11 : Int) (d12 : D_ids_State) : Option (ByteArray × Unit) :=
 let b13 : Bool := (decide (i11 < i10))
 bif b13 then
  bif (decide (((0 : Int) ≤ i11) ∧ (i11 < (((List.length l9) : Nat) : Int)))) then
   let x14 : D_ids_Given := (List.getD l9 (Int.toNat i11) (Ty.dflt T_ids_Given))
   let b15 : Bool := (x14.1 == d12.2.2.2.2.2.2.1)
   bif b15 then
    ids_Cid_1 i11 d12
   else
    let n16 : Int := (Go.IntKind.wrap Go.IntKind.i64 (i11 + (1 : Int)))
    k0 l9 i10 n16 d12
  else none
 else
  ids_Cid_1 (-1 : Int) d12
noncomputable def ids_Cid_0 : Nat → (List D_ids_Given) → Int → Int → D_ids_State → Option (ByteArray × Unit)
 | 0 => fun _ _ _ _ => none
 | m + 1 => t_ids_Cid_0 (ids_Cid_0 m)
noncomputable def b_ids_Cid_0' (l9 : (List D_ids_Given)) (i10 : Int) (i11 : Int) (d12 : D_ids_State) : Option (ByteArray × Unit) := ids_Cid_0 (Int.toNat (i10 - i11) + 2) l9 i10 i11 d12
theorem ex_ids_Cid_0' : ∃ f, f = @b_ids_Cid_0' := ⟨_, rfl⟩
noncomputable def ids_Cid_0' := Classical.choose ex_ids_Cid_0'
theorem ids_Cid_0'_eq : @ids_Cid_0' = @b_ids_Cid_0' := Classical.choose_spec ex_ids_Cid_0'
theorem s_ids_Cid_0 {base S0 cs0} (hfin : H_ids_Cid base S0) : ∀ m, J_ids_Cid base S0 cs0 p_ids_Cid_0 (u_ids_Cid_0 (ids_Cid_0 m)) :=
 JSound.loop' hfin.2 ks_ids_Cid 100000 u_ids_Cid_0 (fun k0 => cut p_ids_Cid_0 (u_ids_Cid_0 k0) (x_ids_Cid_1)) (fun k0 h0 => OSound.cut (o_ids_Cid_1 hfin) (Nat.le_of_eq hfin.1) h0) (ids_Cid_0) (by intro x; rfl) (by intro m x; kernel_rfl)
theorem s_ids_Cid_0' {base S0 cs0} (hfin : H_ids_Cid base S0) : J_ids_Cid base S0 cs0 p_ids_Cid_0 (u_ids_Cid_0 (ids_Cid_0')) := by
 rw [ids_Cid_0'_eq]; exact fun x r hx => s_ids_Cid_0 hfin _ x r hx
noncomputable def x_ids_Cid_0 : Cfg → Option (Option (ByteArray × Unit)) := cut p_ids_Cid_0 (u_ids_Cid_0 (ids_Cid_0')) (x_ids_Cid_1)
theorem o_ids_Cid_0 {base S0 cs0} (hfin : H_ids_Cid base S0) : O_ids_Cid base S0 cs0 (x_ids_Cid_0) := OSound.cut (o_ids_Cid_1 hfin) (Nat.le_of_eq hfin.1) (s_ids_Cid_0' hfin)
noncomputable def b_ids_Cid (a0 : D_ids_State) : Option (ByteArray × Unit) :=
 let s1 : ByteArray := (ByteArray.mk (List.toArray ([] : List UInt8)))
 let n2 : Int := (((List.length a0.2.2.2.2.1) : Nat) : Int)
 ids_Cid_0' a0.2.2.2.2.1 n2 (0 : Int) a0
theorem ex_ids_Cid : ∃ f, f = @b_ids_Cid := ⟨_, rfl⟩
noncomputable def ids_Cid := Classical.choose ex_ids_Cid
theorem ids_Cid_eq : @ids_Cid = @b_ids_Cid := Classical.choose_spec ex_ids_Cid
noncomputable def cb_ids_Cid : Con := ⟨[T_ids_State], r_ids_Cid, fun x => b_ids_Cid x.1⟩
noncomputable def c_ids_Cid : Con := ⟨[T_ids_State], r_ids_Cid, fun x => ids_Cid x.1⟩
theorem cb_ids_Cid_ok : cb_ids_Cid.Sound prog Inv gInv 7 :=
 con_run (M := m_ids_Cid) inv_g (f := f7) rfl ks_ids_Cid 100000 (X := x_ids_Cid_0) (fun base S0 cs0 hn hf => have hfin : H_ids_Cid base S0 := ⟨hn, hf⟩; o_ids_Cid_0 hfin) (by intro x; kernel_rfl)
theorem c_ids_Cid_ok : c_ids_Cid.Sound prog Inv gInv 7 := by
 have e : c_ids_Cid = cb_ids_Cid := by unfold c_ids_Cid cb_ids_Cid; rw [ids_Cid_eq]
 rw [e]; exact cb_ids_Cid_ok
noncomputable def m_ids_Is : Mach prog Inv gInv := mach bas [(15, f15), (31, f31), (32, f32), (40, f40)] ⟨ok15, ok31, ok32, ok40, trivial⟩ [] trivial [] trivial [] trivial
/-! ### domino/ids.Is -/
@[reducible] def r_ids_Is : List Ty := [.bool]
def ks_ids_Is : List Nat := [15, 31, 32, 40]
abbrev H_ids_Is (base : Base) (S0 : Nat → Prop) := base.n = 0 ∧ FinOk (finR r_ids_Is) base S0 (Post r_ids_Is S0)
abbrev J_ids_Is (base : Base) (S0 : Nat → Prop) (cs0 : List Go.Frame) (p : CPat) (J : denC p → Option (denL r_ids_Is)) := JSound m_ids_Is base S0 cs0 (Post r_ids_Is S0) p J
abbrev O_ids_Is (base : Base) (S0 : Nat → Prop) (cs0 : List Go.Frame) (X : Cfg → Option (Option (denL r_ids_Is))) := OSound m_ids_Is base S0 cs0 (Post r_ids_Is S0) X
@[reducible] noncomputable def p_ids_Is_0 : CPat := ⟨⟨40, [1, 0, 1, 0], none, [.rows T_ids_Own false, .func 32 [] [.ptr 0 0], .any, .any, .any, .any, .any, .int .i64, .int .i64], 10⟩, [⟨31, [1, 0], (some 2), [], 9⟩, ⟨15, [1, 0], (some 3), [], 9⟩], [.cells 9 [.str]], 0⟩
@[reducible] noncomputable def u_ids_Is_0 (k : (List D_ids_Own) → Int → Int → ByteArray → Option (Bool × Unit)) : denC p_ids_Is_0 → Option (Bool × Unit) := fun x => k x.1.1 x.1.2.2.2.2.2.2.2.1 x.1.2.2.2.2.2.2.2.2.1 x.2.2.1.1
@[reducible] noncomputable def p_ids_Is_2 : CPat := ⟨⟨40, [1, 0, 1, 0, 0, 1, 1, 0, 0, 1, 1, 1], none, [.rows T_ids_Own false, .func 32 [] [.ptr 0 0], .any, .any, .any, .any, .any, .int .i64, .int .i64], 10⟩, [⟨31, [1, 0], (some 2), [], 9⟩, ⟨15, [1, 0], (some 3), [], 9⟩], [.cells 9 [.str]], 0⟩
@[reducible] noncomputable def u_ids_Is_2 (k : (List D_ids_Own) → Int → Int → ByteArray → Option (Bool × Unit)) : denC p_ids_Is_2 → Option (Bool × Unit) := fun x => k x.1.1 x.1.2.2.2.2.2.2.2.1 x.1.2.2.2.2.2.2.2.2.1 x.2.2.1.1
noncomputable def b_ids_Is_2 (k0 : (List D_ids_Own) → Int → Int → ByteArray → Option (Bool × Unit)) (l22 : (List D_ids_Own)) (i23 : Int) (i24 : Int) (s25 : ByteArray) : Option (Bool × Unit) :=
 let n26 : Int := (Go.IntKind.wrap Go.IntKind.i64 (i24 + (1 : Int)))
 k0 l22 i23 n26 s25
theorem ex_ids_Is_2 : ∃ f, f = @b_ids_Is_2 := ⟨_, rfl⟩
noncomputable def ids_Is_2 := Classical.choose ex_ids_Is_2
theorem ids_Is_2_eq : @ids_Is_2 = @b_ids_Is_2 := Classical.choose_spec ex_ids_Is_2
theorem s_ids_Is_2 {base S0 cs0} (hfin : H_ids_Is base S0) (k0) (h0 : J_ids_Is base S0 cs0 p_ids_Is_0 (u_ids_Is_0 k0)) : J_ids_Is base S0 cs0 p_ids_Is_2 (u_ids_Is_2 (ids_Is_2 k0)) :=
 JSound.join hfin.2 (OSound.cut (OSound.nowhere) (Nat.le_of_eq hfin.1) h0) ks_ids_Is 100000 (by rw [ids_Is_2_eq]; intro x; kernel_rfl)
noncomputable def x_ids_Is_2 (k0 : (List D_ids_Own) → Int → Int → ByteArray → Option (Bool × Unit)) : Cfg → Option (Option (Bool × Unit)) := cut p_ids_Is_2 (u_ids_Is_2 (ids_Is_2 k0)) (cut p_ids_Is_0 (u_ids_Is_0 k0) (nowhere))
theorem o_ids_Is_2 {base S0 cs0} (hfin : H_ids_Is base S0) (k0) (h0 : J_ids_Is base S0 cs0 p_ids_Is_0 (u_ids_Is_0 k0)) : O_ids_Is base S0 cs0 (x_ids_Is_2 k0) := OSound.cut (OSound.cut (OSound.nowhere) (Nat.le_of_eq hfin.1) h0) (Nat.le_of_eq hfin.1) (s_ids_Is_2 hfin k0 h0)
noncomputable def t_ids_Is_0 (k0 : (List D_ids_Own) → Int → Int → ByteArray → Option (Bool × Unit)) (l13 : (List D_ids_Own)) (i14 : Int) (i15 : Int) (s16 : ByteArray) : Option (Bool × Unit) :=
 let b17 : Bool := (decide (i15 < i14))
 bif b17 then
  bif (decide (((0 : Int) ≤ i15) ∧ (i15 < (((List.length l13) : Nat) : Int)))) then
   let x18 : D_ids_Own := (List.getD l13 (Int.toNat i15) (Ty.dflt T_ids_Own))
   let b19 : Bool := ((ByteArray.toList x18.2.1) == (ByteArray.toList s16))
   bif b19 then
    let b20 : Bool := (!x18.2.2.2.2.1)
    bif b20 then
     let b28 : Bool := (decide (i15 ≥ (0 : Int)))
     some (b28, ())
    else
     ids_Is_2 k0 l13 i14 i15 s16
   else
    ids_Is_2 k0 l13 i14 i15 s16
  else none
 else
  some (false, ())
noncomputable def ids_Is_0 : Nat → (List D_ids_Own) → Int → Int → ByteArray → Option (Bool × Unit)
 | 0 => fun _ _ _ _ => none
 | m + 1 => t_ids_Is_0 (ids_Is_0 m)
noncomputable def b_ids_Is_0' (l13 : (List D_ids_Own)) (i14 : Int) (i15 : Int) (s16 : ByteArray) : Option (Bool × Unit) := ids_Is_0 (Int.toNat (i14 - i15) + 2) l13 i14 i15 s16
theorem ex_ids_Is_0' : ∃ f, f = @b_ids_Is_0' := ⟨_, rfl⟩
noncomputable def ids_Is_0' := Classical.choose ex_ids_Is_0'
theorem ids_Is_0'_eq : @ids_Is_0' = @b_ids_Is_0' := Classical.choose_spec ex_ids_Is_0'
theorem s_ids_Is_0 {base S0 cs0} (hfin : H_ids_Is base S0) : ∀ m, J_ids_Is base S0 cs0 p_ids_Is_0 (u_ids_Is_0 (ids_Is_0 m)) :=
 JSound.loop' hfin.2 ks_ids_Is 100000 u_ids_Is_0 (fun k0 => x_ids_Is_2 k0) (fun k0 h0 => o_ids_Is_2 hfin k0 h0) (ids_Is_0) (by intro x; rfl) (by intro m x; kernel_rfl)
theorem s_ids_Is_0' {base S0 cs0} (hfin : H_ids_Is base S0) : J_ids_Is base S0 cs0 p_ids_Is_0 (u_ids_Is_0 (ids_Is_0')) := by
 rw [ids_Is_0'_eq]; exact fun x r hx => s_ids_Is_0 hfin _ x r hx
noncomputable def x_ids_Is_0 : Cfg → Option (Option (Bool × Unit)) := cut p_ids_Is_0 (u_ids_Is_0 (ids_Is_0')) (nowhere)
theorem o_ids_Is_0 {base S0 cs0} (hfin : H_ids_Is base S0) : O_ids_Is base S0 cs0 (x_ids_Is_0) := OSound.cut (OSound.nowhere) (Nat.le_of_eq hfin.1) (s_ids_Is_0' hfin)
noncomputable def b_ids_Is (a0 : D_ids_State) (a1 : ByteArray) : Option (Bool × Unit) :=
 let n2 : Int := (((List.length a0.2.2.2.1) : Nat) : Int)
 ids_Is_0' a0.2.2.2.1 n2 (0 : Int) a1
theorem ex_ids_Is : ∃ f, f = @b_ids_Is := ⟨_, rfl⟩
noncomputable def ids_Is := Classical.choose ex_ids_Is
theorem ids_Is_eq : @ids_Is = @b_ids_Is := Classical.choose_spec ex_ids_Is
noncomputable def cb_ids_Is : Con := ⟨[T_ids_State, .str], r_ids_Is, fun x => b_ids_Is x.1 x.2.1⟩
noncomputable def c_ids_Is : Con := ⟨[T_ids_State, .str], r_ids_Is, fun x => ids_Is x.1 x.2.1⟩
theorem cb_ids_Is_ok : cb_ids_Is.Sound prog Inv gInv 15 :=
 con_run (M := m_ids_Is) inv_g (f := f15) rfl ks_ids_Is 100000 (X := x_ids_Is_0) (fun base S0 cs0 hn hf => have hfin : H_ids_Is base S0 := ⟨hn, hf⟩; o_ids_Is_0 hfin) (by intro x; kernel_rfl)
theorem c_ids_Is_ok : c_ids_Is.Sound prog Inv gInv 15 := by
 have e : c_ids_Is = cb_ids_Is := by unfold c_ids_Is cb_ids_Is; rw [ids_Is_eq]
 rw [e]; exact cb_ids_Is_ok
noncomputable def m_slices_Clone_ids_Own : Mach prog Inv gInv := mach bas [(34, f34)] ⟨ok34, trivial⟩ [] trivial [] trivial [] trivial
/-! ### slices.Clone: a row of the caller's own -/
@[reducible] def t_slices_Clone_ids_Own : Ty := T_ids_Own
def slices_Clone_ids_Own (l : List t_slices_Clone_ids_Own.den) : Option (List t_slices_Clone_ids_Own.den) := bif decide (l.length ≤ 4294967296) then some l else none
noncomputable def c_slices_Clone_ids_Own : OCon := ⟨[.slice t_slices_Clone_ids_Own], t_slices_Clone_ids_Own, fun x => slices_Clone_ids_Own x.1⟩
@[reducible] noncomputable def p_slices_Clone_ids_Own : CPat := ⟨⟨34, [1, 0, 0], some 1, [.rows t_slices_Clone_ids_Own false, .any, .nilSlice, .rows t_slices_Clone_ids_Own false], 4⟩, [], [], 0⟩
def j_slices_Clone_ids_Own (a b : List t_slices_Clone_ids_Own.den) : Option (List t_slices_Clone_ids_Own.den) := match b with
 | [] => match a with
  | [] => some []
  | _ :: _ => none
 | _ :: _ => slices_Clone_ids_Own a
theorem y_slices_Clone_ids_Own (x : denC p_slices_Clone_ids_Own) : runB m_slices_Clone_ids_Own (finO t_slices_Clone_ids_Own) [34] nowhere 1000 (adv (instC p_slices_Clone_ids_Own x) 1 (some 4) (.val (.bool true)) (instC p_slices_Clone_ids_Own x).H ⟨[], [], []⟩) = some [] := by kernel_rfl
theorem n_slices_Clone_ids_Own (x : denC p_slices_Clone_ids_Own) : runB m_slices_Clone_ids_Own (finO t_slices_Clone_ids_Own) [34] nowhere 1000 (adv (instC p_slices_Clone_ids_Own x) 1 (some 4) (.val (.bool false)) (instC p_slices_Clone_ids_Own x).H ⟨[], [], []⟩) = bif decide (0 + x.1.1.length ≤ 4294967296) then some x.1.1 else none := by kernel_rfl
theorem s_slices_Clone_ids_Own {base S0 cs0} (hfin : FinOk (finO t_slices_Clone_ids_Own) base S0 (OPost t_slices_Clone_ids_Own base S0)) : JSound m_slices_Clone_ids_Own base S0 cs0 (OPost t_slices_Clone_ids_Own base S0) p_slices_Clone_ids_Own (fun x => j_slices_Clone_ids_Own x.1.1 x.1.2.2.2.1) := by
 intro x r h
 change j_slices_Clone_ids_Own x.1.1 x.1.2.2.2.1 = some r at h
 have yes : x.1.2.2.2.1 = [] → j_slices_Clone_ids_Own x.1.1 x.1.2.2.2.1 = some r → runB m_slices_Clone_ids_Own (finO t_slices_Clone_ids_Own) [34] nowhere 1000 (adv (instC p_slices_Clone_ids_Own x) 1 (some 4) (.val (.bool true)) (instC p_slices_Clone_ids_Own x).H ⟨[], [], []⟩) = some r := by
  intro hb hj
  rw [hb] at hj
  have e := y_slices_Clone_ids_Own x
  rw [e]
  generalize x.1.1 = a at hj
  cases a with
  | nil => exact hj
  | cons _ _ => cases hj
 have no : runB m_slices_Clone_ids_Own (finO t_slices_Clone_ids_Own) [34] nowhere 1000 (adv (instC p_slices_Clone_ids_Own x) 1 (some 4) (.val (.bool false)) (instC p_slices_Clone_ids_Own x).H ⟨[], [], []⟩) = some r := by
  have e := n_slices_Clone_ids_Own x
  rw [e, Nat.zero_add]
  show slices_Clone_ids_Own x.1.1 = some r
  generalize x.1.1 = a at *
  generalize x.1.2.2.2.1 = b at *
  cases b with
  | nil => cases a with
   | nil => rw [← h]; rfl
   | cons _ _ => cases h
  | cons _ _ => exact h
 exact nil_sound (M := m_slices_Clone_ids_Own) (f := f34) (T := 26) (e := 55) (x := .tmp 3) (t := t_slices_Clone_ids_Own) (l := x.1.2.2.2.1) (cl := false) rfl rfl rfl rfl rfl rfl rfl rfl underlying26 rfl
  (fun hb => run_sound hfin OSound.nowhere (yes hb h)) (run_sound hfin OSound.nowhere no)
theorem c_slices_Clone_ids_Own_ok : c_slices_Clone_ids_Own.Sound prog Inv gInv 34 := by
 refine ocon_sound (M := m_slices_Clone_ids_Own) inv_g (f := f34) rfl fun x y h base S0 cs0 hn => ?_
 have hfin := finO_ok t_slices_Clone_ids_Own base S0
 refine run_sound hfin (X := cut p_slices_Clone_ids_Own (fun x => j_slices_Clone_ids_Own x.1.1 x.1.2.2.2.1) nowhere) (OSound.cut OSound.nowhere (Nat.le_of_eq hn) (s_slices_Clone_ids_Own hfin)) (Ks := [34]) (n := 1000) ?_
 have e : runB m_slices_Clone_ids_Own (finO t_slices_Clone_ids_Own) [34] (cut p_slices_Clone_ids_Own (fun x => j_slices_Clone_ids_Own x.1.1 x.1.2.2.2.1) nowhere) 1000 (startP 34 f34.ntmps (pvsOf c_slices_Clone_ids_Own.params x)) = j_slices_Clone_ids_Own x.1 x.1 := by kernel_rfl
 refine e.trans (Eq.trans ?_ h)
 show j_slices_Clone_ids_Own x.1 x.1 = slices_Clone_ids_Own x.1
 generalize x.1 = l
 cases l with
 | nil => rfl
 | cons _ _ => rfl
noncomputable def m_slices_Clone_ids_Given : Mach prog Inv gInv := mach bas [(35, f35)] ⟨ok35, trivial⟩ [] trivial [] trivial [] trivial
/-! ### slices.Clone: a row of the caller's own -/
@[reducible] def t_slices_Clone_ids_Given : Ty := T_ids_Given
def slices_Clone_ids_Given (l : List t_slices_Clone_ids_Given.den) : Option (List t_slices_Clone_ids_Given.den) := bif decide (l.length ≤ 4294967296) then some l else none
noncomputable def c_slices_Clone_ids_Given : OCon := ⟨[.slice t_slices_Clone_ids_Given], t_slices_Clone_ids_Given, fun x => slices_Clone_ids_Given x.1⟩
@[reducible] noncomputable def p_slices_Clone_ids_Given : CPat := ⟨⟨35, [1, 0, 0], some 1, [.rows t_slices_Clone_ids_Given false, .any, .nilSlice, .rows t_slices_Clone_ids_Given false], 4⟩, [], [], 0⟩
def j_slices_Clone_ids_Given (a b : List t_slices_Clone_ids_Given.den) : Option (List t_slices_Clone_ids_Given.den) := match b with
 | [] => match a with
  | [] => some []
  | _ :: _ => none
 | _ :: _ => slices_Clone_ids_Given a
theorem y_slices_Clone_ids_Given (x : denC p_slices_Clone_ids_Given) : runB m_slices_Clone_ids_Given (finO t_slices_Clone_ids_Given) [35] nowhere 1000 (adv (instC p_slices_Clone_ids_Given x) 1 (some 4) (.val (.bool true)) (instC p_slices_Clone_ids_Given x).H ⟨[], [], []⟩) = some [] := by kernel_rfl
theorem n_slices_Clone_ids_Given (x : denC p_slices_Clone_ids_Given) : runB m_slices_Clone_ids_Given (finO t_slices_Clone_ids_Given) [35] nowhere 1000 (adv (instC p_slices_Clone_ids_Given x) 1 (some 4) (.val (.bool false)) (instC p_slices_Clone_ids_Given x).H ⟨[], [], []⟩) = bif decide (0 + x.1.1.length ≤ 4294967296) then some x.1.1 else none := by kernel_rfl
theorem s_slices_Clone_ids_Given {base S0 cs0} (hfin : FinOk (finO t_slices_Clone_ids_Given) base S0 (OPost t_slices_Clone_ids_Given base S0)) : JSound m_slices_Clone_ids_Given base S0 cs0 (OPost t_slices_Clone_ids_Given base S0) p_slices_Clone_ids_Given (fun x => j_slices_Clone_ids_Given x.1.1 x.1.2.2.2.1) := by
 intro x r h
 change j_slices_Clone_ids_Given x.1.1 x.1.2.2.2.1 = some r at h
 have yes : x.1.2.2.2.1 = [] → j_slices_Clone_ids_Given x.1.1 x.1.2.2.2.1 = some r → runB m_slices_Clone_ids_Given (finO t_slices_Clone_ids_Given) [35] nowhere 1000 (adv (instC p_slices_Clone_ids_Given x) 1 (some 4) (.val (.bool true)) (instC p_slices_Clone_ids_Given x).H ⟨[], [], []⟩) = some r := by
  intro hb hj
  rw [hb] at hj
  have e := y_slices_Clone_ids_Given x
  rw [e]
  generalize x.1.1 = a at hj
  cases a with
  | nil => exact hj
  | cons _ _ => cases hj
 have no : runB m_slices_Clone_ids_Given (finO t_slices_Clone_ids_Given) [35] nowhere 1000 (adv (instC p_slices_Clone_ids_Given x) 1 (some 4) (.val (.bool false)) (instC p_slices_Clone_ids_Given x).H ⟨[], [], []⟩) = some r := by
  have e := n_slices_Clone_ids_Given x
  rw [e, Nat.zero_add]
  show slices_Clone_ids_Given x.1.1 = some r
  generalize x.1.1 = a at *
  generalize x.1.2.2.2.1 = b at *
  cases b with
  | nil => cases a with
   | nil => rw [← h]; rfl
   | cons _ _ => cases h
  | cons _ _ => exact h
 exact nil_sound (M := m_slices_Clone_ids_Given) (f := f35) (T := 27) (e := 53) (x := .tmp 3) (t := t_slices_Clone_ids_Given) (l := x.1.2.2.2.1) (cl := false) rfl rfl rfl rfl rfl rfl rfl rfl underlying27 rfl
  (fun hb => run_sound hfin OSound.nowhere (yes hb h)) (run_sound hfin OSound.nowhere no)
theorem c_slices_Clone_ids_Given_ok : c_slices_Clone_ids_Given.Sound prog Inv gInv 35 := by
 refine ocon_sound (M := m_slices_Clone_ids_Given) inv_g (f := f35) rfl fun x y h base S0 cs0 hn => ?_
 have hfin := finO_ok t_slices_Clone_ids_Given base S0
 refine run_sound hfin (X := cut p_slices_Clone_ids_Given (fun x => j_slices_Clone_ids_Given x.1.1 x.1.2.2.2.1) nowhere) (OSound.cut OSound.nowhere (Nat.le_of_eq hn) (s_slices_Clone_ids_Given hfin)) (Ks := [35]) (n := 1000) ?_
 have e : runB m_slices_Clone_ids_Given (finO t_slices_Clone_ids_Given) [35] (cut p_slices_Clone_ids_Given (fun x => j_slices_Clone_ids_Given x.1.1 x.1.2.2.2.1) nowhere) 1000 (startP 35 f35.ntmps (pvsOf c_slices_Clone_ids_Given.params x)) = j_slices_Clone_ids_Given x.1 x.1 := by kernel_rfl
 refine e.trans (Eq.trans ?_ h)
 show j_slices_Clone_ids_Given x.1 x.1 = slices_Clone_ids_Given x.1
 generalize x.1 = l
 cases l with
 | nil => rfl
 | cons _ _ => rfl
noncomputable def m_ids_State_drawn_h0 : Mach prog Inv gInv := mach bas [(18, f18)] ⟨ok18, trivial⟩ [(30, c_ideal_Id), (36, c_ideal_Draw)] ⟨⟨c_ideal_Id_ok, FnOk.callable ok30⟩, ⟨c_ideal_Draw_ok, FnOk.callable ok36⟩, trivial⟩ [] trivial [] trivial
@[reducible] noncomputable def pa_ids_State_drawn_h0 : List Pat := [.pin T_ids_State 0, .int .u64]
@[reducible] noncomputable def pH_ids_State_drawn_h0 : List HPat := []
/-! ### (*domino/ids.State).drawn -/
abbrev R_ids_State_drawn_h0 : Type := D_ids_Own × Unit
@[reducible] noncomputable def qa_ids_State_drawn_h0 : List Pat := [.dat T_ids_Own]
@[reducible] noncomputable def qH_ids_State_drawn_h0 : List HPat := []
def ks_ids_State_drawn_h0 : List Nat := [18]
noncomputable def b_ids_State_drawn_h0 (x0 : D_ids_State) (i1 : Int) : Option R_ids_State_drawn_h0 :=
 let s2 : ByteArray := (ByteArray.mk (List.toArray ([] : List UInt8)))
 let n3 : Int := (Go.IntKind.wrap Go.IntKind.u64 x0.2.1)
 let n4 : Int := (Go.IntKind.wrap Go.IntKind.u64 (n3 * (4294967296 : Int)))
 let n5 : Int := (Go.IntKind.wrap Go.IntKind.u64 (n4 + i1))
 obind (ideal_Id x0.1 n5) fun y6 =>
 let n7 : Int := (Go.IntKind.wrap Go.IntKind.u64 (n5 + (1099511627776 : Int)))
 obind (ideal_Draw x0.1 n7 (16 : Int)) fun y8 =>
 some ((i1, (y6.1, (y8.1, (true, (false, ()))))), ())
theorem ex_ids_State_drawn_h0 : ∃ f, f = @b_ids_State_drawn_h0 := ⟨_, rfl⟩
noncomputable def ids_State_drawn_h0 := Classical.choose ex_ids_State_drawn_h0
theorem ids_State_drawn_h0_eq : @ids_State_drawn_h0 = @b_ids_State_drawn_h0 := Classical.choose_spec ex_ids_State_drawn_h0
noncomputable def hb_ids_State_drawn_h0 : HCon := HCon.mk0 pa_ids_State_drawn_h0 pH_ids_State_drawn_h0 qa_ids_State_drawn_h0 qH_ids_State_drawn_h0 R_ids_State_drawn_h0 (fun x => b_ids_State_drawn_h0 x.1.1 x.1.2.1) (fun r => ((r.1, ()), ())) (fun y => (y.1.1, ())) (fun _ => rfl)
noncomputable def h_ids_State_drawn_h0 : HCon := HCon.mk0 pa_ids_State_drawn_h0 pH_ids_State_drawn_h0 qa_ids_State_drawn_h0 qH_ids_State_drawn_h0 R_ids_State_drawn_h0 (fun x => ids_State_drawn_h0 x.1.1 x.1.2.1) (fun r => ((r.1, ()), ())) (fun y => (y.1.1, ())) (fun _ => rfl)
theorem hb_ids_State_drawn_h0_ok : hb_ids_State_drawn_h0.Sound prog Inv gInv 18 :=
 hcon_run (M := m_ids_State_drawn_h0) (f := f18) rfl ks_ids_State_drawn_h0 100000 (X := nowhere) (fun base S0 cs0 hn hf => OSound.nowhere) (by intro x; kernel_rfl)
theorem h_ids_State_drawn_h0_ok : h_ids_State_drawn_h0.Sound prog Inv gInv 18 := by
 have e : h_ids_State_drawn_h0 = hb_ids_State_drawn_h0 := by unfold h_ids_State_drawn_h0 hb_ids_State_drawn_h0; rw [ids_State_drawn_h0_eq]
 rw [e]; exact hb_ids_State_drawn_h0_ok
noncomputable def m_ids_Fill : Mach prog Inv gInv := mach bas [(8, f8), (17, f17), (18, f18)] ⟨ok8, ok17, ok18, trivial⟩ [(30, c_ideal_Id), (36, c_ideal_Draw)] ⟨⟨c_ideal_Id_ok, FnOk.callable ok30⟩, ⟨c_ideal_Draw_ok, FnOk.callable ok36⟩, trivial⟩ [(34, c_slices_Clone_ids_Own), (35, c_slices_Clone_ids_Given)] ⟨⟨c_slices_Clone_ids_Own_ok, FnOk.callable ok34⟩, ⟨c_slices_Clone_ids_Given_ok, FnOk.callable ok35⟩, trivial⟩ [(18, h_ids_State_drawn_h0)] ⟨⟨h_ids_State_drawn_h0_ok, FnOk.callable ok18⟩, trivial⟩
/-! ### domino/ids.Fill -/
@[reducible] def r_ids_Fill : List Ty := [T_ids_State]
def ks_ids_Fill : List Nat := [8, 17, 18]
abbrev H_ids_Fill (base : Base) (S0 : Nat → Prop) := base.n = 0 ∧ FinOk (finR r_ids_Fill) base S0 (Post r_ids_Fill S0)
abbrev J_ids_Fill (base : Base) (S0 : Nat → Prop) (cs0 : List Go.Frame) (p : CPat) (J : denC p → Option (denL r_ids_Fill)) := JSound m_ids_Fill base S0 cs0 (Post r_ids_Fill S0) p J
abbrev O_ids_Fill (base : Base) (S0 : Nat → Prop) (cs0 : List Go.Frame) (X : Cfg → Option (Option (denL r_ids_Fill))) := OSound m_ids_Fill base S0 cs0 (Post r_ids_Fill S0) X
@[reducible] noncomputable def p_ids_Fill_3 : CPat := ⟨⟨8, [1, 1, 1, 1, 1, 0, 0], none, [.any, .any, .any, .any, .ptr 0 0, .ptr 1 0, .int .i64], 53⟩, [], [.dat 29 T_ids_State, .cells 29 [.int .u64, .int .i64, .int .i64, .all 2, .all 3, .int .u64, .int .u64], .row T_ids_Own, .row T_ids_Given], 0⟩
@[reducible] noncomputable def u_ids_Fill_3 (k : Int → D_ids_State → Int → Int → Int → Int → Int → (List D_ids_Own) → (List D_ids_Given) → Option (D_ids_State × Unit)) : denC p_ids_Fill_3 → Option (D_ids_State × Unit) := fun x => k x.1.2.2.2.2.2.2.1 x.2.2.1 x.2.2.2.1.1 x.2.2.2.1.2.1 x.2.2.2.1.2.2.1 x.2.2.2.1.2.2.2.2.2.1 x.2.2.2.1.2.2.2.2.2.2.1 x.2.2.2.2.1 x.2.2.2.2.2.1
noncomputable def t_ids_Fill_3 (k3 : Int → D_ids_State → Int → Int → Int → Int → Int → (List D_ids_Own) → (List D_ids_Given) → Option (D_ids_State × Unit)) (i68 : Int) (d69 : D_ids_State) (i70 : Int) (i71 : Int) (i72 : Int) (i73 : Int) (i74 : Int) (l75 : (List D_ids_Own)) (l76 : (List D_ids_Given)) : Option (D_ids_State × Unit) :=
 let b77 : Bool := (decide (i68 < i72))
 bif b77 then
  let n78 : Int := (((List.length l75) : Nat) : Int)
  let n79 : Int := (Go.IntKind.wrap Go.IntKind.u64 n78)
  obind (ids_State_drawn_h0 (i70, (i71, (i72, (l75, (l76, (i73, (i74, ()))))))) n79) fun y80 =>
  let e81 : (Int × (ByteArray × (ByteArray × (Bool × (Bool × Unit))))) := (y80.1.1, (y80.1.2.1, (y80.1.2.2.1, (y80.1.2.2.2.1, (y80.1.2.2.2.2.1, ())))))
  bif (decide (((List.length l75) + (List.length (e81 :: ([] : List D_ids_Own)))) ≤ 4294967296)) then
   let l82 : (List D_ids_Own) := (l75 ++ (e81 :: ([] : List D_ids_Own)))
   let n83 : Int := (Go.IntKind.wrap Go.IntKind.i64 (i68 + (1 : Int)))
   k3 n83 d69 i70 i71 i72 i73 i74 l82 l76
  else none
 else
  some ((i70, (i71, (i72, (l75, (l76, (i73, (i74, ()))))))), ())
noncomputable def ids_Fill_3 : Nat → Int → D_ids_State → Int → Int → Int → Int → Int → (List D_ids_Own) → (List D_ids_Given) → Option (D_ids_State × Unit)
 | 0 => fun _ _ _ _ _ _ _ _ _ => none
 | m + 1 => t_ids_Fill_3 (ids_Fill_3 m)
noncomputable def b_ids_Fill_3' (i68 : Int) (d69 : D_ids_State) (i70 : Int) (i71 : Int) (i72 : Int) (i73 : Int) (i74 : Int) (l75 : (List D_ids_Own)) (l76 : (List D_ids_Given)) : Option (D_ids_State × Unit) := ids_Fill_3 (Int.toNat (i72 - i68) + 2) i68 d69 i70 i71 i72 i73 i74 l75 l76
theorem ex_ids_Fill_3' : ∃ f, f = @b_ids_Fill_3' := ⟨_, rfl⟩
noncomputable def ids_Fill_3' := Classical.choose ex_ids_Fill_3'
theorem ids_Fill_3'_eq : @ids_Fill_3' = @b_ids_Fill_3' := Classical.choose_spec ex_ids_Fill_3'
theorem s_ids_Fill_3 {base S0 cs0} (hfin : H_ids_Fill base S0) : ∀ m, J_ids_Fill base S0 cs0 p_ids_Fill_3 (u_ids_Fill_3 (ids_Fill_3 m)) :=
 JSound.loop' hfin.2 ks_ids_Fill 100000 u_ids_Fill_3 (fun k3 => cut p_ids_Fill_3 (u_ids_Fill_3 k3) (nowhere)) (fun k3 h3 => OSound.cut (OSound.nowhere) (Nat.le_of_eq hfin.1) h3) (ids_Fill_3) (by intro x; rfl) (by intro m x; kernel_rfl)
theorem s_ids_Fill_3' {base S0 cs0} (hfin : H_ids_Fill base S0) : J_ids_Fill base S0 cs0 p_ids_Fill_3 (u_ids_Fill_3 (ids_Fill_3')) := by
 rw [ids_Fill_3'_eq]; exact fun x r hx => s_ids_Fill_3 hfin _ x r hx
noncomputable def x_ids_Fill_3 : Cfg → Option (Option (D_ids_State × Unit)) := cut p_ids_Fill_3 (u_ids_Fill_3 (ids_Fill_3')) (nowhere)
theorem o_ids_Fill_3 {base S0 cs0} (hfin : H_ids_Fill base S0) : O_ids_Fill base S0 cs0 (x_ids_Fill_3) := OSound.cut (OSound.nowhere) (Nat.le_of_eq hfin.1) (s_ids_Fill_3' hfin)
@[reducible] noncomputable def p_ids_Fill_0 : CPat := ⟨⟨8, [1, 1, 1, 1, 0, 1, 0], none, [.any, .any, .any, .any, .ptr 0 0, .ptr 1 0, .int .i64, .any, .any, .any, .any, .any, .any, .any, .any, .any, .any, .any, .any, .any, .all 2, .int .i64, .int .i64], 37⟩, [], [.dat 29 T_ids_State, .cells 29 [.int .u64, .int .i64, .int .i64, .all 2, .all 3, .int .u64, .int .u64], .row T_ids_Own, .row T_ids_Given], 0⟩
@[reducible] noncomputable def u_ids_Fill_0 (k : Int → Int → Int → D_ids_State → Int → Int → Int → Int → Int → (List D_ids_Own) → (List D_ids_Given) → Option (D_ids_State × Unit)) : denC p_ids_Fill_0 → Option (D_ids_State × Unit) := fun x => k x.1.2.2.2.2.2.2.1 x.1.2.2.2.2.2.2.2.2.2.2.2.2.2.2.2.2.2.2.2.2.2.1 x.1.2.2.2.2.2.2.2.2.2.2.2.2.2.2.2.2.2.2.2.2.2.2.1 x.2.2.1 x.2.2.2.1.1 x.2.2.2.1.2.1 x.2.2.2.1.2.2.1 x.2.2.2.1.2.2.2.2.2.1 x.2.2.2.1.2.2.2.2.2.2.1 x.2.2.2.2.1 x.2.2.2.2.2.1
@[reducible] noncomputable def p_ids_Fill_2 : CPat := ⟨⟨8, [1, 1, 1, 1, 0, 1, 0, 0, 1, 1, 1], none, [.any, .any, .any, .any, .ptr 0 0, .ptr 1 0, .int .i64, .any, .any, .any, .any, .any, .any, .any, .any, .any, .any, .any, .any, .any, .all 2, .int .i64, .int .i64], 37⟩, [], [.dat 29 T_ids_State, .cells 29 [.int .u64, .int .i64, .int .i64, .all 2, .all 3, .int .u64, .int .u64], .row T_ids_Own, .row T_ids_Given], 0⟩
@[reducible] noncomputable def u_ids_Fill_2 (k : Int → Int → Int → D_ids_State → Int → Int → Int → Int → Int → (List D_ids_Own) → (List D_ids_Given) → Option (D_ids_State × Unit)) : denC p_ids_Fill_2 → Option (D_ids_State × Unit) := fun x => k x.1.2.2.2.2.2.2.1 x.1.2.2.2.2.2.2.2.2.2.2.2.2.2.2.2.2.2.2.2.2.2.1 x.1.2.2.2.2.2.2.2.2.2.2.2.2.2.2.2.2.2.2.2.2.2.2.1 x.2.2.1 x.2.2.2.1.1 x.2.2.2.1.2.1 x.2.2.2.1.2.2.1 x.2.2.2.1.2.2.2.2.2.1 x.2.2.2.1.2.2.2.2.2.2.1 x.2.2.2.2.1 x.2.2.2.2.2.1
noncomputable def b_ids_Fill_2 (k0 : Int → Int → Int → D_ids_State → Int → Int → Int → Int → Int → (List D_ids_Own) → (List D_ids_Given) → Option (D_ids_State × Unit)) (i56 : Int) (i57 : Int) (i58 : Int) (d59 : D_ids_State) (i60 : Int) (i61 : Int) (i62 : Int) (i63 : Int) (i64 : Int) (l65 : (List D_ids_Own)) (l66 : (List D_ids_Given)) : Option (D_ids_State × Unit) :=
 let n67 : Int := (Go.IntKind.wrap Go.IntKind.i64 (i58 + (1 : Int)))
 k0 i56 i57 n67 d59 i60 i61 i62 i63 i64 l65 l66
theorem ex_ids_Fill_2 : ∃ f, f = @b_ids_Fill_2 := ⟨_, rfl⟩
noncomputable def ids_Fill_2 := Classical.choose ex_ids_Fill_2
theorem ids_Fill_2_eq : @ids_Fill_2 = @b_ids_Fill_2 := Classical.choose_spec ex_ids_Fill_2
theorem s_ids_Fill_2 {base S0 cs0} (hfin : H_ids_Fill base S0) (k0) (h0 : J_ids_Fill base S0 cs0 p_ids_Fill_0 (u_ids_Fill_0 k0)) : J_ids_Fill base S0 cs0 p_ids_Fill_2 (u_ids_Fill_2 (ids_Fill_2 k0)) :=
 JSound.join hfin.2 (OSound.cut (o_ids_Fill_3 hfin) (Nat.le_of_eq hfin.1) h0) ks_ids_Fill 100000 (by rw [ids_Fill_2_eq]; intro x; kernel_rfl)
noncomputable def x_ids_Fill_2 (k0 : Int → Int → Int → D_ids_State → Int → Int → Int → Int → Int → (List D_ids_Own) → (List D_ids_Given) → Option (D_ids_State × Unit)) : Cfg → Option (Option (D_ids_State × Unit)) := cut p_ids_Fill_2 (u_ids_Fill_2 (ids_Fill_2 k0)) (cut p_ids_Fill_0 (u_ids_Fill_0 k0) (x_ids_Fill_3))
theorem o_ids_Fill_2 {base S0 cs0} (hfin : H_ids_Fill base S0) (k0) (h0 : J_ids_Fill base S0 cs0 p_ids_Fill_0 (u_ids_Fill_0 k0)) : O_ids_Fill base S0 cs0 (x_ids_Fill_2 k0) := OSound.cut (OSound.cut (o_ids_Fill_3 hfin) (Nat.le_of_eq hfin.1) h0) (Nat.le_of_eq hfin.1) (s_ids_Fill_2 hfin k0 h0)
noncomputable def t_ids_Fill_0 (k0 : Int → Int → Int → D_ids_State → Int → Int → Int → Int → Int → (List D_ids_Own) → (List D_ids_Given) → Option (D_ids_State × Unit)) (i34 : Int) (i35 : Int) (i36 : Int) (d37 : D_ids_State) (i38 : Int) (i39 : Int) (i40 : Int) (i41 : Int) (i42 : Int) (l43 : (List D_ids_Own)) (l44 : (List D_ids_Given)) : Option (D_ids_State × Unit) :=
 let b45 : Bool := (decide (i36 < i35))
 bif b45 then
  bif (decide (((0 : Int) ≤ i36) ∧ (i36 < (((List.length l43) : Nat) : Int)))) then
   let i46 : Nat := (Int.toNat i36)
   let n47 : Int := (List.getD l43 i46 (Ty.dflt T_ids_Own)).1
   let s48 : ByteArray := (List.getD l43 i46 (Ty.dflt T_ids_Own)).2.1
   let s49 : ByteArray := (List.getD l43 i46 (Ty.dflt T_ids_Own)).2.2.1
   let b50 : Bool := (List.getD l43 i46 (Ty.dflt T_ids_Own)).2.2.2.1
   let b51 : Bool := (List.getD l43 i46 (Ty.dflt T_ids_Own)).2.2.2.2.1
   let s52 : ByteArray := (ByteArray.mk (List.toArray ([] : List UInt8)))
   let b53 : Bool := (!b51)
   bif b53 then
    let n54 : Int := (Go.IntKind.wrap Go.IntKind.i64 (i34 + (1 : Int)))
    ids_Fill_2 k0 n54 i35 i36 d37 i38 i39 i40 i41 i42 l43 l44
   else
    ids_Fill_2 k0 i34 i35 i36 d37 i38 i39 i40 i41 i42 l43 l44
  else none
 else
  ids_Fill_3' i34 d37 i38 i39 i40 i41 i42 l43 l44
noncomputable def ids_Fill_0 : Nat → Int → Int → Int → D_ids_State → Int → Int → Int → Int → Int → (List D_ids_Own) → (List D_ids_Given) → Option (D_ids_State × Unit)
 | 0 => fun _ _ _ _ _ _ _ _ _ _ _ => none
 | m + 1 => t_ids_Fill_0 (ids_Fill_0 m)
noncomputable def b_ids_Fill_0' (i34 : Int) (i35 : Int) (i36 : Int) (d37 : D_ids_State) (i38 : Int) (i39 : Int) (i40 : Int) (i41 : Int) (i42 : Int) (l43 : (List D_ids_Own)) (l44 : (List D_ids_Given)) : Option (D_ids_State × Unit) := ids_Fill_0 (Int.toNat (i35 - i36) + 2) i34 i35 i36 d37 i38 i39 i40 i41 i42 l43 l44
theorem ex_ids_Fill_0' : ∃ f, f = @b_ids_Fill_0' := ⟨_, rfl⟩
noncomputable def ids_Fill_0' := Classical.choose ex_ids_Fill_0'
theorem ids_Fill_0'_eq : @ids_Fill_0' = @b_ids_Fill_0' := Classical.choose_spec ex_ids_Fill_0'
theorem s_ids_Fill_0 {base S0 cs0} (hfin : H_ids_Fill base S0) : ∀ m, J_ids_Fill base S0 cs0 p_ids_Fill_0 (u_ids_Fill_0 (ids_Fill_0 m)) :=
 JSound.loop' hfin.2 ks_ids_Fill 100000 u_ids_Fill_0 (fun k0 => x_ids_Fill_2 k0) (fun k0 h0 => o_ids_Fill_2 hfin k0 h0) (ids_Fill_0) (by intro x; rfl) (by intro m x; kernel_rfl)
theorem s_ids_Fill_0' {base S0 cs0} (hfin : H_ids_Fill base S0) : J_ids_Fill base S0 cs0 p_ids_Fill_0 (u_ids_Fill_0 (ids_Fill_0')) := by
 rw [ids_Fill_0'_eq]; exact fun x r hx => s_ids_Fill_0 hfin _ x r hx
noncomputable def x_ids_Fill_0 : Cfg → Option (Option (D_ids_State × Unit)) := cut p_ids_Fill_0 (u_ids_Fill_0 (ids_Fill_0')) (x_ids_Fill_3)
theorem o_ids_Fill_0 {base S0 cs0} (hfin : H_ids_Fill base S0) : O_ids_Fill base S0 cs0 (x_ids_Fill_0) := OSound.cut (o_ids_Fill_3 hfin) (Nat.le_of_eq hfin.1) (s_ids_Fill_0' hfin)
noncomputable def b_ids_Fill (a0 : D_ids_State) (a1 : Int) : Option (D_ids_State × Unit) :=
 obind (slices_Clone_ids_Own a0.2.2.2.1) fun y2 =>
 obind (slices_Clone_ids_Given a0.2.2.2.2.1) fun y3 =>
 let n4 : Int := (if ((4 : Int) < a1) then (4 : Int) else a1)
 let n5 : Int := (if (n4 > (2 : Int)) then n4 else (2 : Int))
 let n6 : Int := (((List.length y2) : Nat) : Int)
 ids_Fill_0' (0 : Int) n6 (0 : Int) ((0 : Int), ((0 : Int), ((0 : Int), (([] : List D_ids_Own), (([] : List D_ids_Given), ((0 : Int), ((0 : Int), ()))))))) a0.1 a0.2.1 n5 a0.2.2.2.2.2.1 a0.2.2.2.2.2.2.1 y2 y3
theorem ex_ids_Fill : ∃ f, f = @b_ids_Fill := ⟨_, rfl⟩
noncomputable def ids_Fill := Classical.choose ex_ids_Fill
theorem ids_Fill_eq : @ids_Fill = @b_ids_Fill := Classical.choose_spec ex_ids_Fill
noncomputable def cb_ids_Fill : Con := ⟨[T_ids_State, (.int .i64)], r_ids_Fill, fun x => b_ids_Fill x.1 x.2.1⟩
noncomputable def c_ids_Fill : Con := ⟨[T_ids_State, (.int .i64)], r_ids_Fill, fun x => ids_Fill x.1 x.2.1⟩
theorem cb_ids_Fill_ok : cb_ids_Fill.Sound prog Inv gInv 8 :=
 con_run (M := m_ids_Fill) inv_g (f := f8) rfl ks_ids_Fill 100000 (X := x_ids_Fill_0) (fun base S0 cs0 hn hf => have hfin : H_ids_Fill base S0 := ⟨hn, hf⟩; o_ids_Fill_0 hfin) (by intro x; kernel_rfl)
theorem c_ids_Fill_ok : c_ids_Fill.Sound prog Inv gInv 8 := by
 have e : c_ids_Fill = cb_ids_Fill := by unfold c_ids_Fill cb_ids_Fill; rw [ids_Fill_eq]
 rw [e]; exact cb_ids_Fill_ok
noncomputable def m_ids_State_fresh_l1 : Mach prog Inv gInv := mach bas [(50, f50)] ⟨ok50, trivial⟩ [] trivial [] trivial [] trivial
/-! ### (*domino/ids.State).fresh$1 -/
@[reducible] def r_ids_State_fresh_l1 : List Ty := [.bool]
def ks_ids_State_fresh_l1 : List Nat := [50]
noncomputable def b_ids_State_fresh_l1 (a0 : D_ids_Given) : Option (Bool × Unit) :=
 let b1 : Bool := (!a0.2.2.2.1)
 bif b1 then
  let b2 : Bool := (!a0.2.2.2.2.1)
  some (b2, ())
 else
  some (false, ())
theorem ex_ids_State_fresh_l1 : ∃ f, f = @b_ids_State_fresh_l1 := ⟨_, rfl⟩
noncomputable def ids_State_fresh_l1 := Classical.choose ex_ids_State_fresh_l1
theorem ids_State_fresh_l1_eq : @ids_State_fresh_l1 = @b_ids_State_fresh_l1 := Classical.choose_spec ex_ids_State_fresh_l1
noncomputable def cb_ids_State_fresh_l1 : Con := ⟨[T_ids_Given], r_ids_State_fresh_l1, fun x => b_ids_State_fresh_l1 x.1⟩
noncomputable def c_ids_State_fresh_l1 : Con := ⟨[T_ids_Given], r_ids_State_fresh_l1, fun x => ids_State_fresh_l1 x.1⟩
theorem cb_ids_State_fresh_l1_ok : cb_ids_State_fresh_l1.Sound prog Inv gInv 50 :=
 con_run (M := m_ids_State_fresh_l1) inv_g (f := f50) rfl ks_ids_State_fresh_l1 100000 (X := nowhere) (fun base S0 cs0 hn hf => OSound.nowhere) (by intro x; kernel_rfl)
theorem c_ids_State_fresh_l1_ok : c_ids_State_fresh_l1.Sound prog Inv gInv 50 := by
 have e : c_ids_State_fresh_l1 = cb_ids_State_fresh_l1 := by unfold c_ids_State_fresh_l1 cb_ids_State_fresh_l1; rw [ids_State_fresh_l1_eq]
 rw [e]; exact cb_ids_State_fresh_l1_ok
end Go.Proofs.YtjlfmolfcgennaaDoor.V
