/- The law FramePuts, part 6 of 6: what is proved: for every input that can be read the call of FramePuts returns true and leaves its arguments alone. No conditions but the listed tables of the card. -/
import Derived.OpenShut
import Derived.LaidHandle
import Derived.LaidMore
import Derived.Stop.Joined
import Derived.Test.YtjdjlijjolibkaaDoorRows
import Derived.Test.YtjdjlijjolibkaaDoorCards
import Derived.Test.YtjdjlijjolibkaaDoorTie
import Derived.SevenTiedAt
import Derived.Test.YtjdjlijjolibkaaDoorZ5
/- The document's numbers as bytes, in plain Lean. -/
namespace Go.Proofs.YtjdjlijjolibkaaDoor.V
open Go.RowKit
set_option linter.unusedVariables false
theorem power_loop (k : Nat) (hk : k < 64) : ∀ (j i m : Nat), j < m → i + j = k → ref01_power_0 m ((k : Nat) : Int) (2 ^ i) ((i : Nat) : Int) = some (2 ^ k, ()) := by
  intro j
  induction j with
  | zero =>
    intro i m hm e
    obtain ⟨m, rfl⟩ : ∃ k, m = k + 1 := ⟨m - 1, by omega⟩
    obtain rfl : i = k := by omega
    simp only [ref01_power_0, t_ref01_power_0, Int.lt_irrefl, decide_false, cond_false]
  | succ j ih =>
    intro i m hm e
    obtain ⟨m, rfl⟩ : ∃ k, m = k + 1 := ⟨m - 1, by omega⟩
    have c : ((i : Nat) : Int) < ((k : Nat) : Int) := by omega
    have w1 : IntKind.wrap .u64 (2 ^ i * 2) = 2 ^ (i + 1) := by
      have h : ∀ i : _root_.Fin 63, IntKind.wrap .u64 ((2 : Int) ^ i.val * 2) = 2 ^ (i.val + 1) := by decide
      exact h ⟨i, by omega⟩
    have w2 : IntKind.wrap .i64 (((i : Nat) : Int) + 1) = ((i + 1 : Nat) : Int) := by rw [wrap_i64 _ (by omega) (by omega)]; omega
    simp only [ref01_power_0, t_ref01_power_0, c, decide_true, cond_true, w1, w2]
    exact ih (i + 1) m (by omega) (by omega)
theorem power_is (k : Nat) (hk : k < 64) : ref01_power ((k : Nat) : Int) = some (2 ^ k, ()) := by
  rw [ref01_power_eq, b_ref01_power, ref01_power_0'_eq, b_ref01_power_0']
  exact power_loop k hk k 0 _ (by omega) (by omega)
/-- Bytes, the greatest first. -/
def beL : Nat → Int → List Int
  | 0, _ => []
  | j + 1, x => (x / 2 ^ (8 * j) % 256) :: beL j x
theorem beL_len : ∀ (j : Nat) (x : Int), (beL j x).length = j
  | 0, _ => rfl
  | j + 1, x => by simp [beL, beL_len j x]
theorem fixed_loop (x : Int) (h0 : 0 ≤ x) (h1 : x < 18446744073709551616) : ∀ (j m : Nat) (acc : List Int), j < m → j ≤ 8 → acc.length + j ≤ 100 → ref01_Fixed_0 m x (((j : Nat) : Int) - 1) acc = some (bytesStr (acc ++ beL j x), ()) := by
  intro j
  induction j with
  | zero =>
    intro m acc hm _ _
    obtain ⟨m, rfl⟩ : ∃ k, m = k + 1 := ⟨m - 1, by omega⟩
    have c : ¬ (((0 : Nat) : Int) - 1 ≥ 0) := by omega
    simp only [ref01_Fixed_0, t_ref01_Fixed_0, c, decide_false, cond_false, beL, List.append_nil]
  | succ j ih =>
    intro m acc hm hj ha
    obtain ⟨m, rfl⟩ : ∃ k, m = k + 1 := ⟨m - 1, by omega⟩
    have e1 : ((j + 1 : Nat) : Int) - 1 = ((j : Nat) : Int) := by omega
    have c : ((j : Nat) : Int) ≥ 0 := by omega
    have w1 : IntKind.wrap .i64 (8 * ((j : Nat) : Int)) = ((8 * j : Nat) : Int) := by rw [wrap_i64 _ (by omega) (by omega)]; omega
    have hp : (0 : Int) < 2 ^ (8 * j) := Int.pow_pos (by omega)
    have c2 : (2 : Int) ^ (8 * j) ≠ 0 := by omega
    have hd : Int.tdiv x (2 ^ (8 * j)) = x / 2 ^ (8 * j) := Int.tdiv_eq_ediv_of_nonneg h0
    have hd0 : 0 ≤ x / 2 ^ (8 * j) := Int.ediv_nonneg h0 (Int.le_of_lt hp)
    have hd1 : x / 2 ^ (8 * j) ≤ x := Int.ediv_le_self _ h0
    have w2 : IntKind.wrap .u64 (x / 2 ^ (8 * j)) = x / 2 ^ (8 * j) := wrap_u64 _ hd0 (by omega)
    have hm2 : Int.tmod (x / 2 ^ (8 * j)) 256 = x / 2 ^ (8 * j) % 256 := Int.tmod_eq_emod_of_nonneg hd0
    have w3 : IntKind.wrap .u8 (x / 2 ^ (8 * j) % 256) = x / 2 ^ (8 * j) % 256 := by rw [wrap_u8]; omega
    have w4 : IntKind.wrap .i64 (((j : Nat) : Int) - 1) = ((j : Nat) : Int) - 1 := wrap_i64 _ (by omega) (by omega)
    have c3 : acc.length + [x / 2 ^ (8 * j) % 256].length ≤ 4294967296 := by simp; omega
    simp only [ref01_Fixed_0, t_ref01_Fixed_0, e1, c, decide_true, cond_true, w1, power_is (8 * j) (by omega), obind_some, c2, ne_eq, not_false_eq_true, hd, w2, hm2, w3, c3, w4]
    rw [ih m _ (by omega) (by omega) (by simp; omega)]
    simp [beL]
theorem fixed_is (x : Int) (h0 : 0 ≤ x) (h1 : x < 18446744073709551616) (n : Nat) (hn : n ≤ 8) : ref01_Fixed x ((n : Nat) : Int) = some (bytesStr (beL n x), ()) := by
  rw [ref01_Fixed_eq, b_ref01_Fixed]
  have e1 : (if (8 : Int) < ((n : Nat) : Int) then (8 : Int) else ((n : Nat) : Int)) = ((n : Nat) : Int) := if_neg (by omega)
  have e2 : (if (0 : Int) > ((n : Nat) : Int) then (0 : Int) else ((n : Nat) : Int)) = ((n : Nat) : Int) := if_neg (by omega)
  have w : IntKind.wrap .i64 (((n : Nat) : Int) - 1) = ((n : Nat) : Int) - 1 := wrap_i64 _ (by omega) (by omega)
  simp only [e1, e2, w, ref01_Fixed_0'_eq, b_ref01_Fixed_0']
  exact fixed_loop x h0 h1 n _ [] (by omega) hn (by simp; omega)
theorem size6_is (x : Int) : ref01_Size x = some (if x < 64 then 1 else if x < 16384 then 2 else if x < 1073741824 then 4 else if x < 4611686018427387904 then 8 else 0, ()) := by
  rw [ref01_Size_eq, b_ref01_Size]
  have p1 : ref01_power 6 = some (64, ()) := power_is 6 (by omega)
  have p2 : ref01_power 14 = some (16384, ()) := power_is 14 (by omega)
  have p3 : ref01_power 30 = some (1073741824, ()) := power_is 30 (by omega)
  have p4 : ref01_power 62 = some (4611686018427387904, ()) := power_is 62 (by omega)
  rw [p1, p2, p3, p4]
  simp only [obind_some]
  by_cases c1 : x < 64
  · simp only [c1, decide_true, cond_true, if_true]
  · by_cases c2 : x < 16384
    · simp only [c1, c2, decide_true, decide_false, cond_true, cond_false, if_true, if_false]
    · by_cases c3 : x < 1073741824
      · simp only [c1, c2, c3, decide_true, decide_false, cond_true, cond_false, if_true, if_false]
      · by_cases c4 : x < 4611686018427387904
        · simp only [c1, c2, c3, c4, decide_true, decide_false, cond_true, cond_false, if_true, if_false]
        · simp only [c1, c2, c3, c4, decide_false, cond_false, if_false]
theorem v_is (n : Int) (h : In62 n) : ref06_v n = some (bytesStr (vb n), ()) := by
  obtain ⟨h0, h1⟩ := h
  rw [ref06_v_eq, b_ref06_v, ref01_Put_eq, b_ref01_Put, size6_is]
  have p2 : ref01_power 14 = some (16384, ()) := power_is 14 (by omega)
  have p3 : ref01_power 30 = some (1073741824, ()) := power_is 30 (by omega)
  have p4 : ref01_power 62 = some (4611686018427387904, ()) := power_is 62 (by omega)
  have F : ∀ (x : Int) (k : Nat), 0 ≤ x → x < 18446744073709551616 → k ≤ 8 → ref01_Fixed x ((k : Nat) : Int) = some (bytesStr (beL k x), ()) := fun x k a b c => fixed_is x a b k c
  have F1 := fun x a b => F x 1 a b (by omega)
  have F2 := fun x a b => F x 2 a b (by omega)
  have F4 := fun x a b => F x 4 a b (by omega)
  have F8 := fun x a b => F x 8 a b (by omega)
  simp only [show ((1 : Nat) : Int) = 1 from rfl, show ((2 : Nat) : Int) = 2 from rfl, show ((4 : Nat) : Int) = 4 from rfl, show ((8 : Nat) : Int) = 8 from rfl] at F1 F2 F4 F8
  simp only [obind_some, vb]
  by_cases c1 : n < 64
  · simp only [c1, if_true, beq_self_eq_true, cond_true, F1 n h0 (by omega), obind_some, beL]
    have e : n / 2 ^ (8 * 0) % 256 = n := by simp; omega
    rw [e]
  · by_cases c2 : n < 16384
    · have b1 : ((2 : Int) == 1) = false := rfl
      have w : IntKind.wrap .u64 (n + 16384) = n + 16384 := wrap_u64 _ (by omega) (by omega)
      simp only [c1, c2, if_true, if_false, b1, cond_false, beq_self_eq_true, cond_true, p2, obind_some, w, F2 (n + 16384) (by omega) (by omega), beL, Nat.mul_zero, Nat.mul_one, Int.reducePow, Int.pow_zero]
      have e1 : (n + 16384) / 256 % 256 = 64 + n / 256 := by omega
      have e2 : (n + 16384) / 1 % 256 = n % 256 := by omega
      rw [e1, e2]
    · by_cases c3 : n < 1073741824
      · have b1 : ((4 : Int) == 1) = false := rfl
        have b2 : ((4 : Int) == 2) = false := rfl
        have w : IntKind.wrap .u64 (2 * 1073741824) = 2147483648 := by decide
        have w2 : IntKind.wrap .u64 (n + 2147483648) = n + 2147483648 := wrap_u64 _ (by omega) (by omega)
        simp only [c1, c2, c3, if_true, if_false, b1, b2, cond_false, beq_self_eq_true, cond_true, p3, obind_some, w, w2, F4 (n + 2147483648) (by omega) (by omega), beL, Nat.reduceMul, Int.reducePow, Int.pow_zero]
        have e1 : (n + 2147483648) / 16777216 % 256 = 128 + n / 16777216 := by omega
        have e2 : (n + 2147483648) / 65536 % 256 = n / 65536 % 256 := by omega
        have e3 : (n + 2147483648) / 256 % 256 = n / 256 % 256 := by omega
        have e4 : (n + 2147483648) / 1 % 256 = n % 256 := by omega
        rw [e1, e2, e3, e4]
      · have b1 : ((8 : Int) == 1) = false := rfl
        have b2 : ((8 : Int) == 2) = false := rfl
        have b4 : ((8 : Int) == 4) = false := rfl
        have w : IntKind.wrap .u64 (3 * 4611686018427387904) = 13835058055282163712 := by decide
        have w2 : IntKind.wrap .u64 (n + 13835058055282163712) = n + 13835058055282163712 := wrap_u64 _ (by omega) (by omega)
        simp only [c1, c2, c3, h1, if_true, if_false, b1, b2, b4, cond_false, beq_self_eq_true, cond_true, p4, obind_some, w, w2, F8 (n + 13835058055282163712) (by omega) (by omega), beL, Nat.reduceMul, Int.reducePow, Int.pow_zero]
        have e1 : (n + 13835058055282163712) / 72057594037927936 % 256 = 192 + n / 72057594037927936 := by omega
        have e2 : (n + 13835058055282163712) / 281474976710656 % 256 = n / 281474976710656 % 256 := by omega
        have e3 : (n + 13835058055282163712) / 1099511627776 % 256 = n / 1099511627776 % 256 := by omega
        have e4 : (n + 13835058055282163712) / 4294967296 % 256 = n / 4294967296 % 256 := by omega
        have e5 : (n + 13835058055282163712) / 16777216 % 256 = n / 16777216 % 256 := by omega
        have e6 : (n + 13835058055282163712) / 65536 % 256 = n / 65536 % 256 := by omega
        have e7 : (n + 13835058055282163712) / 256 % 256 = n / 256 % 256 := by omega
        have e8 : (n + 13835058055282163712) / 1 % 256 = n % 256 := by omega
        rw [e1, e2, e3, e4, e5, e6, e7, e8]
theorem text6_is (s : ByteArray) (h : s.size ≤ 100000) : ref06_text s = some (bytesStr (textL s), ()) := by
  rw [ref06_text_eq, b_ref06_text]
  have i := size62 h
  have l := vb_len ((s.size : Nat) : Int)
  have c : (bytesStr (vb ((s.size : Nat) : Int))).size + s.size ≤ 9223372036854775807 := by rw [bytesStr_size]; omega
  rw [wrap_u64 _ (by omega) (by omega), v_is _ i]
  simp only [obind_some, c, decide_true, cond_true, textL, bytesStr_app, bytesStr_strBytes]
end Go.Proofs.YtjdjlijjolibkaaDoor.V
/- The document's Ack, in plain Lean. -/
namespace Go.Proofs.YtjdjlijjolibkaaDoor.V
open Go.RowKit
set_option linter.unusedVariables false
theorem ack6_loop (f : D_frame_Frame) : ∀ (n : Nat) (pre post : List D_ranges_Range) (a : D_ranges_Range) (acc : List Int) (m : Nat), pre.length = n → n < m → f.2.2.2.2.2.2.2.2.2.2.2.2.1 = pre ++ a :: post → (pre ++ a :: post).length ≤ 1000 → acc.length + 16 * n ≤ 100000 → descR a.1 pre.reverse → a.1 < 4611686018427387904 →
    ref06_ack_0 m (bytesStr acc) (((n : Nat) : Int) - 1) f = some (bytesStr (acc ++ ackGaps a.1 pre.reverse), ()) := by
  intro n
  induction n with
  | zero =>
    intro pre post a acc m hn hm _ _ _ _ _
    obtain ⟨m, rfl⟩ : ∃ k, m = k + 1 := ⟨m - 1, by omega⟩
    obtain rfl : pre = [] := List.eq_nil_of_length_eq_zero hn
    have c : ¬ (((0 : Nat) : Int) - 1 ≥ 0) := by omega
    simp only [ref06_ack_0, t_ref06_ack_0, c, decide_false, cond_false, List.reverse_nil, ackGaps, List.append_nil]
  | succ n ih =>
    intro pre post a acc m hn hm hs hl ha hd hlt
    obtain ⟨m, rfl⟩ : ∃ k, m = k + 1 := ⟨m - 1, by omega⟩
    obtain ⟨pre', r, rfl⟩ : ∃ p r, pre = p ++ [r] := by
      rcases List.eq_nil_or_concat pre with e | ⟨md, y, e⟩
      · subst e; simp at hn
      · exact ⟨md, y, by simpa using e⟩
    have hn' : pre'.length = n := by simpa using hn
    rw [List.reverse_append, List.reverse_singleton, List.singleton_append] at hd ⊢
    obtain ⟨d1, d2, d3, d4⟩ := hd
    have hs2 : f.2.2.2.2.2.2.2.2.2.2.2.2.1 = pre' ++ r :: (a :: post) := by rw [hs]; simp
    have hlen : (pre' ++ r :: (a :: post)).length = n + 2 + post.length := by simp; omega
    have hl2 : n + 2 + post.length ≤ 1000 := by simp at hl; omega
    have e1 : ((n + 1 : Nat) : Int) - 1 = ((n : Nat) : Int) := by omega
    have c : ((n : Nat) : Int) ≥ 0 := by omega
    have w : IntKind.wrap .i64 (((n : Nat) : Int) + 1) = ((n + 1 : Nat) : Int) := by rw [wrap_i64 _ (by omega) (by omega)]; omega
    have c1 : ((n : Nat) : Int) < (((pre' ++ r :: (a :: post)).length : Nat) : Int) := by rw [hlen]; omega
    have c2 : ((n + 1 : Nat) : Int) < (((pre' ++ r :: (a :: post)).length : Nat) : Int) := by rw [hlen]; omega
    have g1 : (pre' ++ r :: (a :: post)).getD n (Ty.dflt T_ranges_Range) = r := by rw [← hn', getD_mid]
    have g2 : (pre' ++ r :: (a :: post)).getD (n + 1) (Ty.dflt T_ranges_Range) = a := by rw [← hn', Nat.add_comm, getD_mid1]
    have w4 : IntKind.wrap .i64 (((n : Nat) : Int) - 1) = ((n : Nat) : Int) - 1 := wrap_i64 _ (by omega) (by omega)
    have v1 := vb_len (a.1 - r.2.1 - 2)
    have v2 := vb_len (r.2.1 - r.1)
    have w5 : IntKind.wrap .u64 (a.1 - r.2.1) = a.1 - r.2.1 := wrap_u64 _ (by omega) (by omega)
    have w6 : IntKind.wrap .u64 (a.1 - r.2.1 - 2) = a.1 - r.2.1 - 2 := wrap_u64 _ (by omega) (by omega)
    have w7 : IntKind.wrap .u64 (r.2.1 - r.1) = r.2.1 - r.1 := wrap_u64 _ (by omega) (by omega)
    have s1 : (bytesStr acc).size + (bytesStr (vb (a.1 - r.2.1 - 2))).size ≤ 9223372036854775807 := by simp only [bytesStr_size]; omega
    have s2 : (bytesStr (acc ++ vb (a.1 - r.2.1 - 2))).size + (bytesStr (vb (r.2.1 - r.1))).size ≤ 9223372036854775807 := by simp only [bytesStr_size, List.length_append]; omega
    simp only [ref06_ack_0, t_ref06_ack_0, e1, c, decide_true, cond_true, w, hs2, nn, c1, c2, and_self, Int.toNat_natCast, g1, g2, w5, w6, w7, v_is _ (show In62 (a.1 - r.2.1 - 2) from ⟨by omega, by omega⟩), v_is _ (show In62 (r.2.1 - r.1) from ⟨by omega, by omega⟩), obind_some, s1, ← bytesStr_app, s2, w4]
    rw [ih pre' (a :: post) r _ m hn' (by omega) hs2 (by rw [hlen]; exact hl2) (by simp only [List.length_append]; omega) d4 (by omega)]
    simp [ackGaps]
theorem ack6_is (f : D_frame_Frame) (hd : In62 f.2.2.2.2.2.2.2.1) (hs : ∀ r ∈ f.2.2.2.2.2.2.2.2.2.2.2.2.1, 0 ≤ r.1) (e1 : mayR 0 f.2.2.2.2.2.2.2.2.2.2.2.2.1 = true) (e2 : 0 < f.2.2.2.2.2.2.2.2.2.2.2.2.1.length) (e3 : f.2.2.2.2.2.2.2.2.2.2.2.2.1.length ≤ 32) (e4 : lastHi f.2.2.2.2.2.2.2.2.2.2.2.2.1 ≤ 4611686018427387903) :
    ref06_ack f = some (bytesStr (ackL f.2.2.2.2.2.2.2.1 f.2.2.2.2.2.2.2.2.2.2.2.2.1.reverse), ()) := by
  obtain ⟨r, l, er, el, d1, d2, d3, d4⟩ := ack_desc hs e1 e2 e4
  have hset : f.2.2.2.2.2.2.2.2.2.2.2.2.1 = l.reverse ++ r :: [] := by
    have := congrArg List.reverse er
    simpa using this
  have hl := el
  rw [ref06_ack_eq, b_ref06_ack, er]
  have hlen : f.2.2.2.2.2.2.2.2.2.2.2.2.1.length = l.length + 1 := by omega
  have w : IntKind.wrap .i64 (((f.2.2.2.2.2.2.2.2.2.2.2.2.1.length : Nat) : Int) - 1) = ((l.length : Nat) : Int) := by rw [hlen, wrap_i64 _ (by omega) (by omega)]; omega
  have c1 : ((l.length : Nat) : Int) < ((f.2.2.2.2.2.2.2.2.2.2.2.2.1.length : Nat) : Int) := by omega
  have g : f.2.2.2.2.2.2.2.2.2.2.2.2.1.getD l.length (Ty.dflt T_ranges_Range) = r := by
    rw [hset]
    have := getD_mid l.reverse r [] (Ty.dflt T_ranges_Range)
    rw [List.length_reverse] at this
    exact this
  have w2 : IntKind.wrap .u64 ((l.length : Nat) : Int) = ((l.length : Nat) : Int) := wrap_u64 _ (by omega) (by omega)
  have w3 : IntKind.wrap .u64 (r.2.1 - r.1) = r.2.1 - r.1 := wrap_u64 _ (by omega) (by omega)
  have w4 : IntKind.wrap .i64 (((l.length : Nat) : Int) - 1) = ((l.length : Nat) : Int) - 1 := wrap_i64 _ (by omega) (by omega)
  have v1 := vb_len r.2.1
  have v2 := vb_len f.2.2.2.2.2.2.2.1
  have v3 := vb_len ((l.length : Nat) : Int)
  have v4 := vb_len (r.2.1 - r.1)
  have s1 : (bytesStr (vb r.2.1)).size + (bytesStr (vb f.2.2.2.2.2.2.2.1)).size ≤ 9223372036854775807 := by simp only [bytesStr_size]; omega
  have s2 : (bytesStr (vb r.2.1 ++ vb f.2.2.2.2.2.2.2.1)).size + (bytesStr (vb ((l.length : Nat) : Int))).size ≤ 9223372036854775807 := by simp only [bytesStr_size, List.length_append]; omega
  have s3 : (bytesStr (vb r.2.1 ++ vb f.2.2.2.2.2.2.2.1 ++ vb ((l.length : Nat) : Int))).size + (bytesStr (vb (r.2.1 - r.1))).size ≤ 9223372036854775807 := by simp only [bytesStr_size, List.length_append]; omega
  simp only [w, nn, c1, and_self, decide_true, cond_true, Int.toNat_natCast, g, v_is _ (show In62 r.2.1 from ⟨by omega, by omega⟩), v_is _ hd, obind_some, s1, ← bytesStr_app, w2, v_is _ (show In62 ((l.length : Nat) : Int) from ⟨by omega, by omega⟩), s2, w3, v_is _ (show In62 (r.2.1 - r.1) from ⟨by omega, by omega⟩), s3, w4, ref06_ack_0'_eq, b_ref06_ack_0']
  rw [ack6_loop f l.length l.reverse [] r _ _ (by simp) (by omega) hset (by simp; omega) (by simp only [List.length_append]; omega) (by rw [List.reverse_reverse]; exact d4) (by omega)]
  rw [List.reverse_reverse]
  rfl
end Go.Proofs.YtjdjlijjolibkaaDoor.V
/- Which frames may be, by the document, in plain Lean. -/
namespace Go.Proofs.YtjdjlijjolibkaaDoor.V
open Go.RowKit
set_option linter.unusedVariables false
noncomputable def endM (s : ByteArray) (d : D_frame_Frame) : Option (Bool × Unit) := t_ref06_May_0 (fun _ _ _ _ => none) s 0 d []
/-- What is asked behind the numbers. -/
def okM (l : List Int) (d : D_frame_Frame) : Bool :=
  !decide (l = []) && (!d.2.2.2.2.2.2.2.2.1 || decide ((102 : Int) ∈ l)) && (decide (d.2.2.2.2.2.2.2.2.2.1 = eB) || decide ((100 : Int) ∈ l)) && (decide (d.2.2.2.2.2.2.2.2.2.2.1 = eB) || decide ((110 : Int) ∈ l)) &&
  (decide (d.2.2.2.2.2.2.2.2.2.2.2.1 = eB) || decide ((116 : Int) ∈ l)) && (decide (d.2.2.2.2.2.2.2.2.2.2.2.2.1.length = 0) || decide ((115 : Int) ∈ l))
theorem endM_is (l : List Int) (hB : Byt l) (hl : l.length ≤ 100) (d : D_frame_Frame) : endM (bytesStr l) d = bif okM l d then ref06_May_3 d else some (false, ()) := by
  have e0 : ByteArray.mk (List.toArray ([] : List UInt8)) = eB := rfl
  have I : ∀ x, ref06_in (bytesStr l) x = some (decide (x ∈ l), ()) := fun x => by rw [in_is _ _ (by rw [bytesStr_size]; omega), strBytes_bs hB]
  have s0 : decide (bytesStr l = eB) = decide (l = []) := decide_eq_decide.mpr ⟨fun e => by
    have := congrArg ByteArray.size e
    rw [bytesStr_size] at this
    exact List.eq_nil_of_length_eq_zero this, fun e => by subst e; rfl⟩
  have n0 : decide ((((d.2.2.2.2.2.2.2.2.2.2.2.2.1.length : Nat) : Int)) > 0) = !decide (d.2.2.2.2.2.2.2.2.2.2.2.2.1.length = 0) := by
    by_cases h : d.2.2.2.2.2.2.2.2.2.2.2.2.1.length = 0
    · simp [h]
    · have : (((d.2.2.2.2.2.2.2.2.2.2.2.2.1.length : Nat) : Int)) > 0 := by omega
      simp only [h, this, decide_true, decide_false, Bool.not_false]
  unfold endM okM
  simp only [t_ref06_May_0, List.length_nil, e0, toList_beq, s0, I, obind_some, n0]
  rw [show decide ((0 : Int) < ((0 : Nat) : Int)) = false from rfl]
  simp only [cond_false]
  generalize decide (l = []) = b0
  generalize d.2.2.2.2.2.2.2.2.1 = f1
  generalize decide (d.2.2.2.2.2.2.2.2.2.1 = eB) = f2
  generalize decide (d.2.2.2.2.2.2.2.2.2.2.1 = eB) = f3
  generalize decide (d.2.2.2.2.2.2.2.2.2.2.2.1 = eB) = f4
  generalize decide (d.2.2.2.2.2.2.2.2.2.2.2.2.1.length = 0) = f5
  generalize decide ((102 : Int) ∈ l) = t1
  generalize decide ((100 : Int) ∈ l) = t2
  generalize decide ((110 : Int) ∈ l) = t3
  generalize decide ((116 : Int) ∈ l) = t4
  generalize decide ((115 : Int) ∈ l) = t5
  generalize ref06_May_3 d = R
  cases b0
  · cases f1 <;> cases t1 <;> (try rfl) <;> cases f2 <;> cases t2 <;> (try rfl) <;> cases f3 <;> cases t3 <;> (try rfl) <;> cases f4 <;> cases t4 <;> (try rfl) <;> cases f5 <;> cases t5 <;> rfl
  · rfl
def letL : List Int := [105, 111, 109, 99, 113, 112, 101]
theorem let_is : strBytes (ByteArray.mk (List.toArray ((105 : UInt8) :: ((111 : UInt8) :: ((109 : UInt8) :: ((99 : UInt8) :: ((113 : UInt8) :: ((112 : UInt8) :: ((101 : UInt8) :: ([] : List UInt8)))))))))) = letL := rfl
def okNs (l : List Int) : Nat → List Int → Bool
  | _, [] => true
  | i, x :: r => decide (x ≤ 4611686018427387903) && (x == 0 || decide (letL.getD i 0 ∈ l)) && okNs l (i + 1) r
theorem num6_loop (l : List Int) (hB : Byt l) (hl : l.length ≤ 100) (d : D_frame_Frame) : ∀ (suf pre : List Int) (m : Nat), suf.length < m → (pre ++ suf).length = 7 →
    ref06_May_0 m (bytesStr l) ((pre.length : Nat) : Int) d (pre ++ suf) = bif okNs l pre.length suf then endM (bytesStr l) d else some (false, ()) := by
  have I : ∀ x, ref06_in (bytesStr l) x = some (decide (x ∈ l), ()) := fun x => by rw [in_is _ _ (by rw [bytesStr_size]; omega), strBytes_bs hB]
  intro suf
  induction suf with
  | nil =>
    intro pre m hm h7
    obtain ⟨m, rfl⟩ : ∃ k, m = k + 1 := ⟨m - 1, by omega⟩
    unfold endM
    rw [ref06_May_0]
    simp only [t_ref06_May_0, mid_end, decide_false, cond_false, okNs, cond_true, List.length_nil]
    rw [show decide ((0 : Int) < ((0 : Nat) : Int)) = false from rfl]
    simp only [cond_false]
  | cons x suf ih =>
    intro pre m hm h7
    obtain ⟨m, rfl⟩ : ∃ k, m = k + 1 := ⟨m - 1, by omega⟩
    have c7 : ((pre.length : Nat) : Int) < 7 := by simp at h7; omega
    have hn : (pre ++ x :: suf).length ≤ 4294967296 := by omega
    have e : byteAt (ByteArray.mk (List.toArray ((105 : UInt8) :: ((111 : UInt8) :: ((109 : UInt8) :: ((99 : UInt8) :: ((113 : UInt8) :: ((112 : UInt8) :: ((101 : UInt8) :: ([] : List UInt8)))))))))) ((pre.length : Nat) : Int) = letL.getD pre.length 0 := by
      rw [byteAt_is, let_is, Int.toNat_natCast]
    rw [ref06_May_0]
    unfold t_ref06_May_0
    simp only [mid_lt, nn, and_true, decide_true, cond_true, toNat_len, getD_mid, okNs]
    have next : ref06_May_2 (ref06_May_0 m) (bytesStr l) ((pre.length : Nat) : Int) d (pre ++ x :: suf) = bif okNs l (pre.length + 1) suf then endM (bytesStr l) d else some (false, ()) := by
      rw [ref06_May_2_eq, b_ref06_May_2]
      rw [mid_next pre x x suf hn, snoc_app pre x suf, ih (pre ++ [x]) m (by simp at hm; omega) (by simpa using h7)]
      simp
    by_cases c1 : x ≤ 4611686018427387903
    · have c2 : ¬ x > 4611686018427387903 := by omega
      simp only [c1, c2, decide_true, decide_false, cond_false, Bool.true_and]
      by_cases c3 : x = 0
      · subst c3
        simp only [bne_self_eq_false, cond_false, beq_self_eq_true, Bool.true_or, Bool.true_and]
        exact next
      · have c4 : (x != 0) = true := by simpa using c3
        simp only [c4, cond_true, beq_false_of_ne c3, Bool.false_or, c7, decide_true, e, I, obind_some]
        cases decide (letL.getD pre.length 0 ∈ l) with
        | false => rfl
        | true => simp only [Bool.not_true, cond_false, Bool.true_and]; exact next
    · have c2 : x > 4611686018427387903 := by omega
      simp only [c1, c2, decide_true, decide_false, cond_true, Bool.false_and, cond_false]
/-- What else is asked, by kind. -/
def m3 (f : D_frame_Frame) : Bool :=
  let k := f.1
  bif k == 2 then mayR 0 f.2.2.2.2.2.2.2.2.2.2.2.2.1 && decide (1 ≤ f.2.2.2.2.2.2.2.2.2.2.2.2.1.length) && decide (f.2.2.2.2.2.2.2.2.2.2.2.2.1.length ≤ 32) && decide (lastHi f.2.2.2.2.2.2.2.2.2.2.2.2.1 ≤ 4611686018427387903)
  else bif k == 6 || k == 8 then decide (f.2.2.2.2.2.2.2.2.2.1.size ≤ 1200) && decide (f.2.2.1 + ((f.2.2.2.2.2.2.2.2.2.1.size : Nat) : Int) ≤ 4611686018427387903)
  else bif k == 28 || k == 29 then decide (f.2.2.2.2.2.2.2.2.2.1.size ≤ 1200)
  else bif k == 24 then decide (f.2.2.2.2.2.2.1 ≤ f.2.2.2.2.2.1) && (((f.2.2.2.2.2.2.2.2.2.2.1.size : Nat) : Int) == 8) && (((f.2.2.2.2.2.2.2.2.2.2.2.1.size : Nat) : Int) == 16)
  else bif k == 26 || k == 27 then (((f.2.2.2.2.2.2.2.2.2.2.2.1.size : Nat) : Int) == 8)
  else bif k == 18 || k == 19 || k == 22 || k == 23 then decide (f.2.2.2.1 ≤ 1152921504606846976)
  else true
theorem sums_is (f : D_frame_Frame) (hk : kindB f.1 = true) : (okNs (shapeL f.1) 0 [f.2.1, f.2.2.1, f.2.2.2.1, f.2.2.2.2.1, f.2.2.2.2.2.1, f.2.2.2.2.2.2.1, f.2.2.2.2.2.2.2.1] && (okM (shapeL f.1) f && m3 f)) = mayFr f := by
  obtain ⟨k, id, off, mx, code, seq, prior, delay, fin, data, cid, tok, set, ⟨⟩⟩ := f
  simp only at hk ⊢
  have hd : data = ⟨#[]⟩ → data.size = 0 := by rintro rfl; rfl
  have hc : cid = ⟨#[]⟩ → cid.size = 0 := by rintro rfl; rfl
  have ht : tok = ⟨#[]⟩ → tok.size = 0 := by rintro rfl; rfl
  rcases kinds hk with rfl | rfl | rfl | rfl | rfl | rfl | rfl | rfl | rfl | rfl | rfl | rfl | rfl | rfl | rfl | rfl | rfl | rfl | rfl | rfl | rfl | rfl
  all_goals
    rw [Bool.eq_iff_iff]
    simp [okNs, okM, shapeL, letL, m3, mayFr, kindB, onlyF, hasId, hasOff, hasMax, hasCode, hasSeq, hasPrior, hasDelay, hasFin, hasData, hasCid, hasToken, hasSet, numsOk, extraF]
    try grind
theorem shapeL_none {k : Int} (h : kindB k = false) : shapeL k = [] := by
  obtain ⟨h0, h1, h2, h4, h5, h6, h8, h16, h17, h18, h19, h20, h21, h22, h23, h24, h25, h26, h27, h28, h29, h30⟩ := nokind h
  simp only [shapeL, h0, h1, h2, h4, h5, h6, h8, h16, h17, h18, h19, h20, h21, h22, h23, h24, h25, h26, h27, h28, h29, h30, or_self, if_false]
theorem shapeL_byt (k : Int) : Byt (shapeL k) ∧ (shapeL k).length ≤ 100 := by
  cases h : kindB k with
  | true =>
    unfold Byt
    rcases kinds h with rfl | rfl | rfl | rfl | rfl | rfl | rfl | rfl | rfl | rfl | rfl | rfl | rfl | rfl | rfl | rfl | rfl | rfl | rfl | rfl | rfl | rfl <;> decide
  | false => rw [shapeL_none h]; exact ⟨Byt.nil, by simp⟩
end Go.Proofs.YtjdjlijjolibkaaDoor.V
/- Which frames may be, by the document: joined. -/
namespace Go.Proofs.YtjdjlijjolibkaaDoor.V
open Go.RowKit
set_option linter.unusedVariables false
theorem may3_loop : ∀ (suf pre : List D_ranges_Range) (e : Int) (m : Nat), suf.length < m → (pre ++ suf).length ≤ 9223372036854775807 → (∀ r ∈ suf, 0 ≤ r.1 ∧ 0 ≤ r.2.1) →
    ((pre = [] ∧ e = 0) ∨ ∃ p y, pre = p ++ [y] ∧ e = y.2.1 + 2 ∧ 0 ≤ y.2.1 ∧ y.2.1 < 9223372036854775808) →
    ref03_May_0 m (pre ++ suf) ((pre.length : Nat) : Int) = some (mayR e suf, ()) := by
  intro suf
  induction suf with
  | nil =>
    intro pre e m hm _ _ _
    obtain ⟨m, rfl⟩ : ∃ k, m = k + 1 := ⟨m - 1, by omega⟩
    simp only [ref03_May_0, t_ref03_May_0, mid_end, decide_false, cond_false, mayR]
  | cons x suf ih =>
    intro pre e m hm hl hr he
    obtain ⟨m, rfl⟩ : ∃ k, m = k + 1 := ⟨m - 1, by omega⟩
    have hx := hr x (by simp)
    simp only [ref03_May_0, t_ref03_May_0, mid_lt, nn, and_true, decide_true, cond_true, toNat_len, getD_mid, mayR]
    have next : x.2.1 < 9223372036854775808 → ref03_May_1 (ref03_May_0 m) (pre ++ x :: suf) ((pre.length : Nat) : Int) = some (mayR (x.2.1 + 2) suf, ()) := by
      intro h2
      rw [ref03_May_1_eq, b_ref03_May_1]
      rw [mid_next' pre x x suf hl, snoc_app pre x suf, ih (pre ++ [x]) (x.2.1 + 2) m (by simp at hm; omega) (by simpa using hl) (fun r h => hr r (by simp [h])) (.inr ⟨pre, x, rfl, rfl, hx.2, h2⟩)]
    by_cases h1 : x.2.1 < x.1
    · have : ¬ x.1 ≤ x.2.1 := by omega
      simp only [h1, this, decide_true, cond_true, decide_false, Bool.false_and]
    · have h1' : x.1 ≤ x.2.1 := by omega
      simp only [h1, h1', decide_false, cond_false, decide_true, Bool.true_and]
      by_cases h2 : x.2.1 < 9223372036854775808
      · have : ¬ x.2.1 ≥ 9223372036854775808 := by omega
        simp only [h2, this, decide_false, cond_false, decide_true, Bool.true_and]
        rcases he with ⟨rfl, rfl⟩ | ⟨p, y, rfl, rfl, y0, y1⟩
        · have c : ¬ ((([] : List D_ranges_Range).length : Nat) : Int) > 0 := by simp
          simp only [c, decide_false, cond_false, next h2, hx.1, decide_true, Bool.true_and]
        · have c : (((p ++ [y]).length : Nat) : Int) > 0 := by simp <;> omega
          have w : IntKind.wrap .i64 ((((p ++ [y]).length : Nat) : Int) - 1) = ((p.length : Nat) : Int) := by
            simp at hl; rw [wrap_i64 _ (by simp <;> omega) (by simp <;> omega)]; simp
          have c2 : ((p.length : Nat) : Int) < ((((p ++ [y]) ++ x :: suf).length : Nat) : Int) := by simp; omega
          have g : ((p ++ [y]) ++ x :: suf).getD p.length (Ty.dflt T_ranges_Range) = y := by rw [← snoc_app, getD_mid]
          have w2 : IntKind.wrap .u64 (y.2.1 + 2) = y.2.1 + 2 := wrap_u64 _ (by omega) (by omega)
          simp only [c, decide_true, cond_true, w, nn, c2, and_self, Int.toNat_natCast, g, w2]
          by_cases h3 : x.1 < y.2.1 + 2
          · have : ¬ y.2.1 + 2 ≤ x.1 := by omega
            simp only [h3, this, decide_true, decide_false, cond_true, Bool.false_and]
          · have h3' : y.2.1 + 2 ≤ x.1 := by omega
            simp only [h3, h3', decide_true, decide_false, cond_false, Bool.true_and, next h2]
      · have : x.2.1 ≥ 9223372036854775808 := by omega
        simp only [h2, this, decide_true, cond_true, decide_false, Bool.false_and]
theorem may3_is (l : List D_ranges_Range) (hl : l.length ≤ 9223372036854775807) (hr : ∀ r ∈ l, 0 ≤ r.1 ∧ 0 ≤ r.2.1) : ref03_May l = some (mayR 0 l, ()) := by
  rw [ref03_May_eq, b_ref03_May, ref03_May_0'_eq, b_ref03_May_0']
  exact may3_loop l [] 0 _ (by simp) (by simpa using hl) hr (.inl ⟨rfl, rfl⟩)
theorem pick3 (b6 b8 b28 b29 b24 b26 b27 b18 b19 b22 b23 q1 q2 q3 q4 q5 q6 q7 : Bool) :
    (bif b6 then (some (q1, ()) : Option (Bool × Unit)) else bif b8 then some (q1, ()) else bif b28 then some (q2, ()) else bif b29 then some (q2, ()) else bif b24 then bif q3 then bif q4 then some (q5, ()) else some (false, ()) else some (false, ()) else
      bif b26 then some (q6, ()) else bif b27 then some (q6, ()) else bif b18 then some (q7, ()) else bif b19 then some (q7, ()) else bif b22 then some (q7, ()) else bif b23 then some (q7, ()) else some (true, ())) =
    some (bif b6 || b8 then q1 else bif b28 || b29 then q2 else bif b24 then q3 && q4 && q5 else bif b26 || b27 then q6 else bif b18 || b19 || b22 || b23 then q7 else true, ()) := by
  cases b6
  · cases b8
    · cases b28
      · cases b29
        · cases b24
          · cases b26
            · cases b27
              · cases b18
                · cases b19
                  · cases b22
                    · cases b23 <;> rfl
                    · rfl
                  · rfl
                · rfl
              · rfl
            · rfl
          · exact three _ _ _
        · rfl
      · rfl
    · rfl
  · rfl
theorem m3_is (f : D_frame_Frame) (h : FrOk f) (ho : f.2.2.1 ≤ 4611686018427387903) : ref06_May_3 f = some (m3 f, ()) := by
  have hfew := h.few
  have hoff := h.off
  rw [ref06_May_3_eq, b_ref06_May_3, may3_is _ hfew (fun r hr => ⟨(h.set r hr).1.1, (h.set r hr).2.1⟩)]
  simp only [ref06_May_4_eq, b_ref06_May_4, ref06_May_5_eq, b_ref06_May_5, ref06_May_6_eq, b_ref06_May_6, ref06_May_7_eq, b_ref06_May_7, obind_some, m3]
  have dsz : decide (((f.2.2.2.2.2.2.2.2.2.1.size : Nat) : Int) ≤ 1200) = decide (f.2.2.2.2.2.2.2.2.2.1.size ≤ 1200) := decide_eq_decide.mpr (by omega)
  by_cases e2 : f.1 = 2
  · simp only [e2, beq_self_eq_true, cond_true]
    cases mayR 0 f.2.2.2.2.2.2.2.2.2.2.2.2.1 with
    | false => simp only [cond_false, Bool.false_and]
    | true =>
      simp only [cond_true, Bool.true_and]
      unfold lastHi
      generalize f.2.2.2.2.2.2.2.2.2.2.2.2.1 = l at *
      by_cases l0 : 1 ≤ l.length
      · by_cases l1 : l.length ≤ 32
        · have c0 : ((l.length : Nat) : Int) ≥ 1 := by omega
          have c1 : ((l.length : Nat) : Int) ≤ 32 := by omega
          have c2 : IntKind.wrap .i64 (((l.length : Nat) : Int) - 1) = ((l.length - 1 : Nat) : Int) := by rw [wrap_i64 _ (by omega) (by omega)]; omega
          have c3 : (0 : Int) ≤ ((l.length - 1 : Nat) : Int) ∧ ((l.length - 1 : Nat) : Int) < ((l.length : Nat) : Int) := by omega
          simp only [c0, c1, c2, c3, and_self, l0, l1, decide_true, cond_true, Bool.true_and, Int.toNat_natCast]
        · have c0 : ((l.length : Nat) : Int) ≥ 1 := by omega
          have c1 : ¬ ((l.length : Nat) : Int) ≤ 32 := by omega
          simp only [c0, c1, l0, l1, decide_true, decide_false, cond_true, cond_false, Bool.true_and, Bool.false_and]
      · have c0 : ¬ ((l.length : Nat) : Int) ≥ 1 := by omega
        simp only [c0, l0, decide_false, cond_false, Bool.false_and]
  · simp only [beq_false_of_ne e2, cond_false, dsz]
    by_cases d : f.2.2.2.2.2.2.2.2.2.1.size ≤ 1200
    · have w1 : IntKind.wrap .u64 ((f.2.2.2.2.2.2.2.2.2.1.size : Nat) : Int) = ((f.2.2.2.2.2.2.2.2.2.1.size : Nat) : Int) := wrap_u64 _ (by omega) (by omega)
      have w2 : IntKind.wrap .u64 (f.2.2.1 + ((f.2.2.2.2.2.2.2.2.2.1.size : Nat) : Int)) = f.2.2.1 + ((f.2.2.2.2.2.2.2.2.2.1.size : Nat) : Int) := wrap_u64 _ (by omega) (by omega)
      simp only [d, decide_true, cond_true, w1, w2, Bool.true_and]
      exact pick3 _ _ _ _ _ _ _ _ _ _ _ _ _ _ _ _ _ _
    · simp only [d, decide_false, cond_false, Bool.false_and]
      exact pick3 _ _ _ _ _ _ _ _ _ _ _ _ _ _ _ _ _ _
theorem may6_is (f : D_frame_Frame) (h : FrOk f) : ref06_May f = some (mayFr f, ()) := by
  obtain ⟨hB, hl⟩ := shapeL_byt f.1
  rw [ref06_May_eq, b_ref06_May, shape_is]
  simp only [obind_some]
  rw [ref06_May_0'_eq, b_ref06_May_0']
  have e := num6_loop (shapeL f.1) hB hl f [f.2.1, f.2.2.1, f.2.2.2.1, f.2.2.2.2.1, f.2.2.2.2.2.1, f.2.2.2.2.2.2.1, f.2.2.2.2.2.2.2.1] [] (Int.toNat ((([f.2.1, f.2.2.1, f.2.2.2.1, f.2.2.2.2.1, f.2.2.2.2.2.1, f.2.2.2.2.2.2.1, f.2.2.2.2.2.2.2.1].length : Nat) : Int) - 0) + 2) (by simp) rfl
  rw [List.nil_append] at e
  rw [show ((([] : List Int).length : Nat) : Int) = 0 from rfl] at e
  rw [e, endM_is _ hB hl]
  have hlen : ([] : List Int).length = 0 := rfl
  rw [hlen]
  cases hk : kindB f.1 with
  | false =>
    have e1 : okM (shapeL f.1) f = false := by simp [okM, shapeL_none hk]
    have e2 : mayFr f = false := by simp [mayFr, hk]
    rw [e1, e2]
    simp only [cond_false]
    cases okNs (shapeL f.1) 0 [f.2.1, f.2.2.1, f.2.2.2.1, f.2.2.2.2.1, f.2.2.2.2.2.1, f.2.2.2.2.2.2.1, f.2.2.2.2.2.2.2.1] <;> rfl
  | true =>
    rw [← sums_is f hk]
    cases hn : okNs (shapeL f.1) 0 [f.2.1, f.2.2.1, f.2.2.2.1, f.2.2.2.2.1, f.2.2.2.2.2.1, f.2.2.2.2.2.2.1, f.2.2.2.2.2.2.2.1] with
    | false => simp only [cond_false, Bool.false_and]
    | true =>
      have ho : f.2.2.1 ≤ 4611686018427387903 := by
        simp only [okNs, Bool.and_eq_true, decide_eq_true_eq] at hn
        exact hn.2.1.1
      simp only [cond_true, m3_is f h ho, Bool.true_and]
      cases okM (shapeL f.1) f <;> rfl
end Go.Proofs.YtjdjlijjolibkaaDoor.V
namespace Go.Proofs.YtjdjlijjolibkaaDoor.V
open Go.RowKit Go.Proofs.Tryd
set_option maxRecDepth 100000
set_option linter.unusedVariables false
noncomputable def m_ref06_Elicits : Mach prog Inv gInv := mach bas [(37, f37)] ⟨ok37, trivial⟩ [] trivial [] trivial [] trivial
/-! ### domino/dominoref06.Elicits -/
@[reducible] def r_ref06_Elicits : List Ty := [.bool]
def ks_ref06_Elicits : List Nat := [37]
noncomputable def b_ref06_Elicits (a0 : D_frame_Frame) : Option (Bool × Unit) :=
  let b1 : Bool := (a0.1 != (0 : Int))
  bif b1 then
    let b2 : Bool := (a0.1 != (2 : Int))
    bif b2 then
      let b3 : Bool := (a0.1 != (28 : Int))
      bif b3 then
        let b4 : Bool := (a0.1 != (29 : Int))
        some (b4, ())
      else
        some (false, ())
    else
      some (false, ())
  else
    some (false, ())
theorem ex_ref06_Elicits : ∃ f, f = @b_ref06_Elicits := ⟨_, rfl⟩
noncomputable def ref06_Elicits := Classical.choose ex_ref06_Elicits
theorem ref06_Elicits_eq : @ref06_Elicits = @b_ref06_Elicits := Classical.choose_spec ex_ref06_Elicits
noncomputable def cb_ref06_Elicits : Con := ⟨[T_frame_Frame], r_ref06_Elicits, fun x => b_ref06_Elicits x.1⟩
noncomputable def c_ref06_Elicits : Con := ⟨[T_frame_Frame], r_ref06_Elicits, fun x => ref06_Elicits x.1⟩
theorem cb_ref06_Elicits_ok : cb_ref06_Elicits.Sound prog Inv gInv 37 :=
  con_run (M := m_ref06_Elicits) inv_g (f := f37) rfl ks_ref06_Elicits 100000 (X := nowhere) (fun base S0 cs0 hn hf => OSound.nowhere) (by intro x; kernel_rfl)
theorem c_ref06_Elicits_ok : c_ref06_Elicits.Sound prog Inv gInv 37 := by
  have e : c_ref06_Elicits = cb_ref06_Elicits := by unfold c_ref06_Elicits cb_ref06_Elicits; rw [ref06_Elicits_eq]
  rw [e]; exact cb_ref06_Elicits_ok
end Go.Proofs.YtjdjlijjolibkaaDoor.V
/- The bytes of a frame, by the document. -/
namespace Go.Proofs.YtjdjlijjolibkaaDoor.V
open Go.RowKit
set_option linter.unusedVariables false
theorem catL {a b : Nat} {α : Type} {x : Option α} (ha : a ≤ 100000) (hb : b ≤ 100000) : (bif decide (a + b ≤ 9223372036854775807) then x else none) = x := by
  simp [show a + b ≤ 9223372036854775807 by omega]
theorem elic6_is (f : D_frame_Frame) : ref06_Elicits f = some (!decide (f.1 ∈ ([0, 2, 28, 29] : List Int)), ()) := by
  rw [ref06_Elicits_eq, b_ref06_Elicits]
  by_cases h0 : f.1 = 0
  · simp [h0]
  · by_cases h2 : f.1 = 2
    · simp [h2]
    · by_cases h28 : f.1 = 28
      · simp [h28]
      · by_cases h29 : f.1 = 29
        · simp [h29]
        · have b0 : (f.1 != 0) = true := by simpa using h0
          have b2 : (f.1 != 2) = true := by simpa using h2
          have b3 : (f.1 != 28) = true := by simpa using h28
          have b4 : (f.1 != 29) = true := by simpa using h29
          simp only [b0, b2, b3, b4, cond_true]
          simp [h0, h2, h28, h29]
set_option maxHeartbeats 2000000 in
theorem put6_is (f : D_frame_Frame) (h : FrOk f) : ref06_Put f = some (if mayFr f = true then (bytesStr (putL f), 0, ()) else (⟨#[]⟩, 1, ())) := by
  rw [ref06_Put_eq, b_ref06_Put, may6_is f h]
  simp only [obind_some]
  by_cases hm : mayFr f = true
  · obtain ⟨hk, ho, hn, hd, he⟩ := mayFr_parts hm
    obtain ⟨n1, n2, n3, n4, n5, n6, n7⟩ := nums62 h hn
    have hset := h.set
    simp only [hm, Bool.not_true, cond_false, if_true]
    obtain ⟨k, id, off, mx, code, seq, prior, delay, fin, data, cid, tok, set, ⟨⟩⟩ := f
    simp only at hk hd n1 n2 n3 n4 n5 n6 n7 hset ⊢
    have V : ∀ {n}, In62 n → ref06_v n = some (bytesStr (vb n), ()) := fun h => v_is _ h
    have T : ref06_text data = some (bytesStr (textL data), ()) := text6_is data (by omega)
    have lT : (textL data).length ≤ 1300 := by
      have := vb_len ((data.size : Nat) : Int)
      simp only [textL, List.length_append, strBytes_len]; omega
    have L : ∀ n, (vb n).length ≤ 8 := fun n => (vb_len n).2
    have l1 := L id; have l2 := L off; have l3 := L mx; have l4 := L code; have l5 := L seq; have l6 := L prior; have l7 := L delay
    have lk := L k
    have hV : ref06_v k = some (bytesStr (vb k), ()) := V (by
      rcases kinds hk with e | e | e | e | e | e | e | e | e | e | e | e | e | e | e | e | e | e | e | e | e | e <;> (rw [e]; unfold In62; omega))
    have e0 : ByteArray.mk (List.toArray ([] : List UInt8)) = bytesStr [] := rfl
    have e8 : ByteArray.mk (List.toArray ((8 : UInt8) :: ([] : List UInt8))) = bytesStr [8] := rfl
    by_cases h8 : k = 8
    · subst h8
      have S : ∀ (b : Int), In62 b → ∀ (o : List Int), o.length ≤ 8 → ref06_Put_1 b (bytesStr o) (8, id, off, mx, code, seq, prior, delay, fin, data, cid, tok, set, ()) = some (bytesStr (vb b ++ vb id ++ o ++ textL data), 0, ()) := by
        intro b hb o hol
        have lb := L b
        rw [ref06_Put_1_eq, b_ref06_Put_1]
        simp (disch := ((try simp only [List.length_append]); omega)) only [V hb, V n1, T, obind_some, bytesStr_size, catL, ← bytesStr_app]
      have S0 : ∀ (b : Int), b = 10 ∨ b = 14 → ∀ (o : List Int), o.length ≤ 8 → ref06_Put_0 b (bytesStr o) (8, id, off, mx, code, seq, prior, delay, fin, data, cid, tok, set, ()) = some (bytesStr (vb (b + bif fin then 1 else 0) ++ vb id ++ o ++ textL data), 0, ()) := by
        intro b hb o hol
        rw [ref06_Put_0_eq, b_ref06_Put_0]
        cases fin with
        | true =>
          simp only [cond_true]
          rw [wrap_u64 _ (by omega) (by omega), S (b + 1) (by unfold In62; omega) o hol]
        | false => simp only [cond_false, Int.add_zero]; exact S b (by unfold In62; omega) o hol
      simp only [hV, obind_some, Int.reduceBEq, cond_false, cond_true, putL, streamK, beq_self_eq_true]
      by_cases hoff : off = 0
      · subst hoff
        simp only [bne_self_eq_false, cond_false, e0, beq_self_eq_true, cond_true]
        rw [S0 10 (.inl rfl) [] (by simp)]
        cases fin <;> simp [vbs]
      · have hb : (off != 0) = true := by simpa using hoff
        have hb2 : (off == 0) = false := beq_false_of_ne hoff
        simp only [hb, hb2, cond_true, cond_false, V n2, obind_some]
        rw [S0 14 (.inr rfl) (vb off) l2]
        cases fin <;> simp [vbs]
    · have hb8 : (k == 8) = false := beq_false_of_ne h8
      simp only [putL, hb8, cond_false, hV, obind_some]
      have ft : (k = 24 → cid.size = 8 ∧ tok.size = 16) ∧ (k = 26 ∨ k = 27 → tok.size = 8) := by
        simp only [extraF] at he
        constructor
        · rintro rfl; simp at he; omega
        · rintro (rfl | rfl) <;> (simp at he; omega)
      by_cases h2 : k = 2
      · subst h2
        simp only [extraF, beq_self_eq_true, cond_true, Bool.and_eq_true, decide_eq_true_eq] at he
        obtain ⟨⟨⟨e1, e2⟩, e3⟩, e4⟩ := he
        have hA := ack6_is (2, id, off, mx, code, seq, prior, delay, fin, data, cid, tok, set, ()) n7 (fun r hr => (hset r hr).1.1) e1 e2 e3 e4
        simp only at hA
        have lA : (ackL delay set.reverse).length ≤ 5000 := by
          have := (put_ok (2, id, off, mx, code, seq, prior, delay, fin, data, cid, tok, set, ()) h hm).2.1
          simp only [putL, partsL, List.length_append, Int.reduceBEq, cond_false, beq_self_eq_true, cond_true] at this
          omega
        simp (disch := ((try simp only [List.length_append]); omega)) only [beq_self_eq_true, cond_true, hA, obind_some, bytesStr_size, catL, ← bytesStr_app, partsL, vbs, List.flatMap_cons, List.flatMap_nil, List.append_nil]
      · have lcid : cid.size ≤ 100000 ∨ k ≠ 24 := by by_cases e : k = 24; exact .inl (by have := ft.1 e; omega); exact .inr e
        rcases kinds hk with rfl | rfl | rfl | rfl | rfl | rfl | rfl | rfl | rfl | rfl | rfl | rfl | rfl | rfl | rfl | rfl | rfl | rfl | rfl | rfl | rfl | rfl
        all_goals first | exact absurd rfl h2 | exact absurd rfl h8 | skip
        all_goals
          simp (disch := ((try simp only [List.length_append, List.length_cons, List.length_nil]); omega)) only [ref06_Put_2_eq, b_ref06_Put_2, ref06_Put_3_eq, b_ref06_Put_3, ref06_Put_4_eq, b_ref06_Put_4, Int.reduceBEq, cond_false, cond_true, V n1, V n2, V n3, V n4, V n5, V n6, V n7, T, obind_some, bytesStr_size, catL, ← bytesStr_app, partsL, vbs, List.flatMap_cons, List.flatMap_nil, List.append_nil, List.append_assoc, beq_self_eq_true, Bool.or_true, Bool.true_or, Bool.or_self, Bool.or_false, Bool.false_or]
        · have c24 := ft.1 rfl
          have s8 : (ByteArray.mk #[8]).size = 1 := rfl
          have sz : (bytesStr (vb 24 ++ (vb seq ++ vb prior)) ++ ByteArray.mk #[8]).size ≤ 100 := by
            rw [size_app, bytesStr_size, s8]; simp only [List.length_append]; omega
          rw [catL (by omega) (by omega), catL (by rw [size_app]; omega) (by omega)]
          simp only [bytesStr_app, bytesStr_strBytes, ByteArray.append_assoc]
          rfl
        · rw [bytesStr_app, bytesStr_strBytes]
        · rw [bytesStr_app, bytesStr_strBytes]
  · have : mayFr f = false := by simpa using hm
    have e0 : ByteArray.mk (List.toArray ([] : List UInt8)) = (⟨#[]⟩ : ByteArray) := rfl
    simp only [this, Bool.not_false, cond_true, Bool.false_eq_true, if_false, e0]
end Go.Proofs.YtjdjlijjolibkaaDoor.V
namespace Go.Proofs.YtjdjlijjolibkaaDoor.V
open Go.RowKit Go.Proofs.Tryd
set_option maxRecDepth 100000
set_option linter.unusedVariables false
noncomputable def m_law06_FramePuts : Mach prog Inv gInv := mach bas [(6, f6)] ⟨ok6, trivial⟩ [(29, c_law06_bounded), (30, c_law06_shown), (31, c_frame_Put), (32, c_ref06_Put), (33, c_law06_its), (34, c_frame_May), (35, c_ref06_May), (36, c_frame_Elicits), (37, c_ref06_Elicits)] ⟨⟨c_law06_bounded_ok, FnOk.callable ok29⟩, ⟨c_law06_shown_ok, FnOk.callable ok30⟩, ⟨c_frame_Put_ok, FnOk.callable ok31⟩, ⟨c_ref06_Put_ok, FnOk.callable ok32⟩, ⟨c_law06_its_ok, FnOk.callable ok33⟩, ⟨c_frame_May_ok, FnOk.callable ok34⟩, ⟨c_ref06_May_ok, FnOk.callable ok35⟩, ⟨c_frame_Elicits_ok, FnOk.callable ok36⟩, ⟨c_ref06_Elicits_ok, FnOk.callable ok37⟩, trivial⟩ [] trivial [] trivial
/-! ### domino/dominolaw06.FramePuts -/
@[reducible] def r_law06_FramePuts : List Ty := [.bool]
def ks_law06_FramePuts : List Nat := [6]
abbrev H_law06_FramePuts (base : Base) (S0 : Nat → Prop) := base.n = 0 ∧ FinOk (finR r_law06_FramePuts) base S0 (Post r_law06_FramePuts S0)
abbrev J_law06_FramePuts (base : Base) (S0 : Nat → Prop) (cs0 : List Go.Frame) (p : CPat) (J : denC p → Option (denL r_law06_FramePuts)) := JSound m_law06_FramePuts base S0 cs0 (Post r_law06_FramePuts S0) p J
abbrev O_law06_FramePuts (base : Base) (S0 : Nat → Prop) (cs0 : List Go.Frame) (X : Cfg → Option (Option (denL r_law06_FramePuts))) := OSound m_law06_FramePuts base S0 cs0 (Post r_law06_FramePuts S0) X
@[reducible] noncomputable def p_law06_FramePuts_0 : CPat := ⟨⟨6, [1, 0, 1, 0], none, [], 50⟩, [], [], 0⟩
@[reducible] noncomputable def u_law06_FramePuts_0 (k : Option (Bool × Unit)) : denC p_law06_FramePuts_0 → Option (Bool × Unit) := fun x => k
noncomputable def b_law06_FramePuts_0 : Option (Bool × Unit) :=
  obind law06_shown fun y6 =>
  some y6
theorem ex_law06_FramePuts_0 : ∃ f, f = @b_law06_FramePuts_0 := ⟨_, rfl⟩
noncomputable def law06_FramePuts_0 := Classical.choose ex_law06_FramePuts_0
theorem law06_FramePuts_0_eq : @law06_FramePuts_0 = @b_law06_FramePuts_0 := Classical.choose_spec ex_law06_FramePuts_0
theorem s_law06_FramePuts_0 {base S0 cs0} (hfin : H_law06_FramePuts base S0) : J_law06_FramePuts base S0 cs0 p_law06_FramePuts_0 (u_law06_FramePuts_0 (law06_FramePuts_0)) :=
  JSound.join hfin.2 (OSound.nowhere) ks_law06_FramePuts 100000 (by rw [law06_FramePuts_0_eq]; intro x; kernel_rfl)
noncomputable def x_law06_FramePuts_0 : Cfg → Option (Option (Bool × Unit)) := cut p_law06_FramePuts_0 (u_law06_FramePuts_0 (law06_FramePuts_0)) (nowhere)
theorem o_law06_FramePuts_0 {base S0 cs0} (hfin : H_law06_FramePuts base S0) : O_law06_FramePuts base S0 cs0 (x_law06_FramePuts_0) := OSound.cut (OSound.nowhere) (Nat.le_of_eq hfin.1) (s_law06_FramePuts_0 hfin)
noncomputable def b_law06_FramePuts (a0 : D_frame_Frame) : Option (Bool × Unit) :=
  obind (law06_bounded a0) fun y1 =>
  let b2 : Bool := (!y1.1)
  bif b2 then
    law06_FramePuts_0
  else
    obind law06_shown fun y3 =>
    let b4 : Bool := (!y3.1)
    bif b4 then
      law06_FramePuts_0
    else
      obind (frame_Put a0) fun y7 =>
      obind (law06_its a0) fun y8 =>
      obind (ref06_Put y8.1) fun y9 =>
      let b10 : Bool := ((ByteArray.toList y7.1) == (ByteArray.toList y9.1))
      bif b10 then
        let b11 : Bool := (y7.2.1 == y9.2.1)
        bif b11 then
          obind (frame_May a0) fun y12 =>
          obind (law06_its a0) fun y13 =>
          obind (ref06_May y13.1) fun y14 =>
          let b15 : Bool := (y12.1 == y14.1)
          bif b15 then
            obind (frame_Elicits a0) fun y16 =>
            obind (law06_its a0) fun y17 =>
            obind (ref06_Elicits y17.1) fun y18 =>
            let b19 : Bool := (y16.1 == y18.1)
            some (b19, ())
          else
            some (false, ())
        else
          some (false, ())
      else
        some (false, ())
theorem ex_law06_FramePuts : ∃ f, f = @b_law06_FramePuts := ⟨_, rfl⟩
noncomputable def law06_FramePuts := Classical.choose ex_law06_FramePuts
theorem law06_FramePuts_eq : @law06_FramePuts = @b_law06_FramePuts := Classical.choose_spec ex_law06_FramePuts
noncomputable def cb_law06_FramePuts : Con := ⟨[T_frame_Frame], r_law06_FramePuts, fun x => b_law06_FramePuts x.1⟩
noncomputable def c_law06_FramePuts : Con := ⟨[T_frame_Frame], r_law06_FramePuts, fun x => law06_FramePuts x.1⟩
theorem cb_law06_FramePuts_ok : cb_law06_FramePuts.Sound prog Inv gInv 6 :=
  con_run (M := m_law06_FramePuts) inv_g (f := f6) rfl ks_law06_FramePuts 100000 (X := x_law06_FramePuts_0) (fun base S0 cs0 hn hf => have hfin : H_law06_FramePuts base S0 := ⟨hn, hf⟩; o_law06_FramePuts_0 hfin) (by intro x; kernel_rfl)
theorem c_law06_FramePuts_ok : c_law06_FramePuts.Sound prog Inv gInv 6 := by
  have e : c_law06_FramePuts = cb_law06_FramePuts := by unfold c_law06_FramePuts cb_law06_FramePuts; rw [law06_FramePuts_eq]
  rw [e]; exact cb_law06_FramePuts_ok
end Go.Proofs.YtjdjlijjolibkaaDoor.V
/- law06.FramePuts, in plain Lean. -/
namespace Go.Proofs.YtjdjlijjolibkaaDoor.V
open Go.RowKit
theorem lawFramePuts (x : denL c_law06_FramePuts.params) (h : Wfs c_law06_FramePuts.params x) : c_law06_FramePuts.F x = some (true, ()) := by
  obtain ⟨f, u⟩ := x
  obtain ⟨h1, _⟩ := h
  have hf := frok_of_wf h1
  show law06_FramePuts f = _
  rw [law06_FramePuts_eq, b_law06_FramePuts, law06_FramePuts_0_eq, b_law06_FramePuts_0]
  simp only [bounded_is, shown_is, obind_some, Bool.not_true, cond_false]
  cases hb : boundF f with
  | false => simp only [Bool.not_false, cond_true]
  | true =>
    have b1 := bound_set hb
    simp only [Bool.not_true, cond_false, its_is f (by omega), put_is f hf, put6_is f hf, may_is_fr f hf, may6_is f hf, elicits_is, elic6_is, obind_some, beq_self_eq_true, cond_true]
end Go.Proofs.YtjdjlijjolibkaaDoor.V
/- Tables that are laid: from the condition of a row to what the machine asks for. -/
namespace Go.Proofs.YtjdjlijjolibkaaDoor.V
open Go.RowKit Go.ChangeShapes
section
variable {H : Type} {enc : TypeId × Value → H} {P : Program} {w : World} {sp : Nat → Bool} {held : Bool} {fuel : Nat}
theorem tab_cells {k : IntKind} {N : Nat} {e t : TypeId} {cs : List Value} {l : List Int} {p : List MemPlace} (hu : P.underlying t = some (.array N e)) (he : P.underlying e = some (.int k)) (hc : P.cellsOf e = 1) (ht : P.cellsOf t = l.length) (hN : N = l.length)
    (hd : DataW.trod enc P w 0 sp held fuel t cs = some (.agg (l.map fun n => .lit (.int k n)), p)) : cs = l.map (Value.int k) := by
  obtain ⟨xs, m, rfl, hx, hlen, hn, hel⟩ := DataW.trod_array hu hd
  simp only [Prod.mk.injEq, DataW.agg.injEq] at hx
  have hm := hx.1
  rw [ht] at hlen
  refine List.ext_getElem (by rw [hlen, List.length_map]) fun i h1 h2 => ?_
  have hi : i < l.length := by rw [List.length_map] at h2; exact h2
  have hix : i < xs.length := by omega
  have h3 := hel i (by omega)
  rw [hc, Nat.mul_one, List.getElem?_eq_getElem hix] at h3
  obtain ⟨n, e1, e2, _⟩ := DataW.trod_int he h3
  have e3 : (cs.drop i).take 1 = [cs[i]] := by
    rw [List.drop_eq_getElem_cons h1, List.take_succ_cons, List.take_zero]
  rw [e3] at e1
  have e4 : (l.map fun n => (DataW.lit (.int k n) : DataW H))[i]? = (xs.map (·.1))[i]? := by rw [hm]
  rw [List.getElem?_map, List.getElem?_map, List.getElem?_eq_getElem hi, List.getElem?_eq_getElem hix, e2] at e4
  simp only [Option.map_some, Option.some.injEq, DataW.lit.injEq, Lit.int.injEq, true_and] at e4
  simp only [List.cons.injEq, and_true] at e1
  rw [e1, List.getElem_map, ← e4]
theorem tab_in {k : IntKind} {N : Nat} {e t g : TypeId} {n : String} {cs : Array Value} {l : List Int} {p : List MemPlace} (hg : P.globalNamed n = some g) (hv : w.var? P n = some cs) (hu : P.underlying t = some (.array N e)) (he : P.underlying e = some (.int k)) (hc : P.cellsOf e = 1) (ht : P.cellsOf t = l.length) (hN : N = l.length)
    (hd : DataW.trod enc P w 0 sp held fuel t cs.toList = some (.agg (l.map fun n => .lit (.int k n)), p)) {r : List (Nat × (Σ t : Ty, List t.den))} (hr : TabsIn w r) : TabsIn w ((g, ⟨.int k, l⟩) :: r) ∧ g < w.heap.size := by
  have hcs := tab_cells hu he hc ht hN hd
  simp only [World.var?, hg, Option.bind_some] at hv
  cases hh : w.heap[g]? with
  | none => rw [hh] at hv; cases hv
  | some o =>
    rw [hh] at hv
    cases o with
    | cells arr e' fz =>
      simp only [Option.some.injEq] at hv
      subst hv
      refine ⟨⟨⟨arr, e', fz, hh, fun i hi => ⟨[.int k (l.getD i 0)], ?_, ?_⟩⟩, hr⟩, lt_of_heap hh⟩
      · simp only [Rep]
        have : l.getD i 0 = l[i] := by simp [List.getD, hi]
        rw [this]
      · intro j hj
        simp at hj
        subst hj
        show arr[i * 1 + 0]? = _
        rw [Nat.mul_one, Nat.add_zero, ← Array.getElem?_toList, hcs, List.getElem?_map, List.getElem?_eq_getElem hi]
        simp [List.getD, hi]
    | _ => cases hv
end
end Go.Proofs.YtjdjlijjolibkaaDoor.V
/- The law FramePuts: for every input that can be read the call returns true and leaves its arguments alone: the row, and the tied card. No conditions but that the listed tables are laid (which the card ties to the program's text). -/
namespace Go.Proofs.YtjdjlijjolibkaaDoor.V.RowFramePuts
open Go.ChangeShapes Go.WideShapes Go.ChangeAt Go.RowKit Go.Proofs
set_option linter.unusedVariables false
set_option maxRecDepth 100000
theorem own : ownKnob Tryd.prog.godebug = none := by kernel_rfl
theorem laidOut : laidOutB Tryd.prog = true := by kernel_rfl
theorem door_met (os : Os) (args : Array Value) : laidMetH Tryd.prog [("math/bits.deBruijn32tab", Rows.laid_math_bits_deBruijn32tab), ("math/bits.deBruijn64tab", Rows.laid_math_bits_deBruijn64tab)] ((World.doorLaid Tryd.prog 400 os).forCall (fun _ _ => 0) ⟨#[], args, []⟩).memory :=
  laidMetH_of_parts3 (fuel := 8) (laidMet_of_run' 8 (by kernel_rfl) (by kernel_rfl)) (by kernel_rfl) (by kernel_rfl)
theorem inv_of {W : World} (h : laidMetH Tryd.prog [("math/bits.deBruijn32tab", Rows.laid_math_bits_deBruijn32tab), ("math/bits.deBruijn64tab", Rows.laid_math_bits_deBruijn64tab)] W) : Inv W := by
  rw [MakeChecks.laidMetH_plain _ _ _ (by kernel_rfl)] at h
  obtain ⟨ps, ⟨g0, t0, cs0, f0, p0, q0, hg0, ht0, hv0, hd0, ⟨g1, t1, cs1, f1, p1, q1, hg1, ht1, hv1, hd1, _, _⟩, _⟩, _, _⟩ := h
  obtain ⟨gg0, tt0⟩ : Tryd.prog.globalNamed "math/bits.deBruijn32tab" = some 0 ∧ (Tryd.prog.globals[0]?).map (·.type) = some 246 := ⟨by kernel_rfl, by kernel_rfl⟩
  obtain rfl := Option.some.inj (gg0.symm.trans hg0)
  obtain rfl := Option.some.inj (tt0.symm.trans ht0)
  obtain ⟨gg1, tt1⟩ : Tryd.prog.globalNamed "math/bits.deBruijn64tab" = some 1 ∧ (Tryd.prog.globals[1]?).map (·.type) = some 247 := ⟨by kernel_rfl, by kernel_rfl⟩
  obtain rfl := Option.some.inj (gg1.symm.trans hg1)
  obtain rfl := Option.some.inj (tt1.symm.trans ht1)
  have i1 := tab_in (k := .u8) (l := [0, 1, 56, 2, 57, 49, 28, 3, 61, 58, 42, 50, 38, 29, 17, 4, 62, 47, 59, 36, 45, 43, 51, 22, 53, 39, 33, 30, 24, 18, 12, 5, 63, 55, 48, 27, 60, 41, 37, 16, 46, 35, 44, 21, 52, 32, 23, 11, 54, 26, 40, 15, 34, 20, 31, 10, 25, 14, 19, 9, 13, 8, 7, 6]) hg1 hv1 Tryd.underlying247 (by kernel_rfl) (by kernel_rfl) (by kernel_rfl) (by kernel_rfl) hd1 (r := []) trivial
  have i0 := tab_in (k := .u8) (l := [0, 1, 28, 2, 29, 14, 24, 3, 30, 22, 20, 15, 25, 17, 4, 8, 31, 27, 13, 23, 21, 19, 16, 7, 26, 12, 18, 6, 11, 5, 10, 9]) hg0 hv0 Tryd.underlying246 (by kernel_rfl) (by kernel_rfl) (by kernel_rfl) (by kernel_rfl) hd0 i1.1
  exact ⟨i1.2, i0.1⟩
theorem lifted (os : Os) (started : os.Started) (H : Type) (enc : TypeId × Value → H) :
    ReturnsInHanded {} Tryd.checked os 6 .any (fun w args => (Rows.framePutsSpec.pre enc Tryd.prog Tryd.f6 [] false w args ∧ laidMetH Tryd.prog [("math/bits.deBruijn32tab", Rows.laid_math_bits_deBruijn32tab), ("math/bits.deBruijn64tab", Rows.laid_math_bits_deBruijn64tab)] w) ∧ sizedMet enc Tryd.prog Tryd.f6 (OpenSpec.ofChange Rows.framePutsSpec) false w args) (Rows.framePutsSpec.post enc Tryd.prog Tryd.f6 false true false false) := by
  refine returnsInHanded_of_change_and (C := Tryd.checked) (X := fun w _ => laidMetH Tryd.prog [("math/bits.deBruijn32tab", Rows.laid_math_bits_deBruijn32tab), ("math/bits.deBruijn64tab", Rows.laid_math_bits_deBruijn64tab)] w) (fun _ _ _ hh h => h.of_heap hh) own started (by kernel_rfl) Tryd.func6
    (ChangeSpec.witness_shaped (enc := enc) (C := Tryd.checked) (os := os) (X := fun w _ => laidMetH Tryd.prog [("math/bits.deBruijn32tab", Rows.laid_math_bits_deBruijn32tab), ("math/bits.deBruijn64tab", Rows.laid_math_bits_deBruijn64tab)] w) false (World.doorLaid Tryd.prog 400 os) (c_law06_FramePuts.params.map zeroV).toArray 8 rfl (World.shaped_of_RefB (by kernel_rfl) (by kernel_rfl)) (by kernel_rfl) (by kernel_rfl) (by kernel_rfl) (door_met os _)) ?_
  intro W base args ds gs before hval hW hcnd hsz hL _
  have hI := inv_of hL
  have hW' := hW
  obtain ⟨p, q, hA, hV, rfl, hfz, hnd⟩ := hW
  obtain ⟨x, hx, hwf⟩ := args_rep (n := 20) (ts := c_law06_FramePuts.params) (by kernel_rfl) hA (fun j T v h1 h2 => hval j T v (by simpa using h1) (by simpa using h2))
  have hlen : ds.length = 1 := (trodAll_length hA).trans (by kernel_rfl)
  obtain ⟨d1, rfl⟩ : ∃ d1, ds = [d1] := by match ds, hlen with | [d1], _ => exact ⟨d1, rfl⟩
  obtain ⟨rfl, rfl⟩ := trodVars_none hV
  refine (law_calls (K := 6) c_law06_FramePuts_ok hI hx (lawFramePuts x hwf)).mono fun e W' ⟨he, bel⟩ => ?_
  subst he
  exact ⟨_, rfl, _, _, _, [], _, [], hW', trodAll_mk1 (shut_bool Tryd.underlying4 _), trodAll_below laidOut bel (by kernel_rfl) hA, rfl, bel.frame _, fun h => by cases h⟩
theorem proved : Rows.FramePutsSaid :=
  OpenClaim.holds_of_wide 6 Tryd.f6 rfl rfl rfl rfl rfl rfl rfl ⟨rfl, rfl, rfl, rfl, rfl⟩ rfl rfl rfl rfl rfl (by kernel_rfl) Tryd.func6 (by kernel_rfl)
    (of_decide_eq_true (by kernel_rfl)) (by unfold Func.isWrapper; first | (rw [if_pos (by decide +kernel)]; kernel_rfl) | (rw [if_neg (by decide +kernel)]; exact ⟨rfl, rfl⟩))
    (fun os started H enc _ => lifted os started H enc)
theorem card : Rows.FramePutsCardSaid :=
  Claim7.holds_tied_plain_at .later [] [.data, .data] true (true, "1021a36958bef67feb8e8930050b74075fa45ed83853cf8c22c3fa63b7773168") true
    proved (fun _ h => by cases h) (by kernel_rfl) (fun _ h => by cases h) framePuts_row_tie rfl ⟨rfl, rfl⟩ (by kernel_rfl) rfl
    (fun f fn hf hfn => by
      obtain rfl : f = 6 := Option.some.inj ((show Tryd.prog.funcNamed "domino/dominolaw06.FramePuts" = some 6 by kernel_rfl).symm.trans hf) |>.symm
      obtain rfl : fn = Tryd.f6 := (Option.some.inj (Tryd.func6.symm.trans hfn)).symm
      exact ⟨by kernel_rfl, fun j t ht => by
        have all : ∀ t ∈ [34], Tryd.prog.wantsStandIn t = false := by
          intro t h
          simp only [List.mem_cons, List.not_mem_nil, or_false] at h
          rcases h with rfl <;> kernel_rfl
        have hp : Tryd.f6.params = #[34] := rfl
        rw [hp] at ht
        exact all t (by
          have := List.mem_of_getElem? (l := [34]) (i := j) (a := t) (by simpa using ht)
          exact this)⟩)
    (by kernel_rfl)
end Go.Proofs.YtjdjlijjolibkaaDoor.V.RowFramePuts
namespace Go.Proofs.YtjdjlijjolibkaaDoor
/-- The statement, under a short name, for the claim. -/
theorem framePuts_card : Rows.FramePutsCardSaid := V.RowFramePuts.card
end Go.Proofs.YtjdjlijjolibkaaDoor
