/- The law RttPto in plain Lean: each probe doubles what is waited, up to ten; more that is allowed is waited more. -/
import Derived.Test.YtecjkkofoafhaaaF6
import Derived.Test.YtecjkkofoafhaaaWa
namespace Go.Proofs.Ytecjkkofoafhaaa.V
open Go.RowKit

def clampT (a : Int) : Int := if 0 < (if 1099511627776 < a then 1099511627776 else a) then (if 1099511627776 < a then 1099511627776 else a) else 0
theorem clampT_in (a : Int) : 0 ≤ clampT a ∧ clampT a ≤ 1099511627776 := by unfold clampT; split <;> split <;> omega
theorem F17_eq (a : Int) : F17 a = some (clampT a, ()) := rfl

abbrev RState := Bool × Int × Int × Int × Int × Unit
def RGood (d : RState) : Prop := 0 ≤ d.2.1 ∧ d.2.1 ≤ 1099511627776 ∧ 0 ≤ d.2.2.1 ∧ d.2.2.1 ≤ 1099511627776 ∧ 0 ≤ d.2.2.2.1 ∧ d.2.2.2.1 ≤ 1099511627776 ∧ 0 ≤ d.2.2.2.2.1 ∧ d.2.2.2.2.1 ≤ 1099511627776

theorem F19_in (a d m : Int) (h0 : 0 ≤ d) (h1 : d ≤ 1099511627776) (m0 : 0 ≤ m) : ∃ y, F19 (a, (d, ())) m = some (y, ()) ∧ 0 ≤ y ∧ y ≤ 1099511627776 := by
  have hc := clampT_in a
  unfold F19
  simp only [F17_eq, obind_some]
  rw [wrap_i64 _ (by omega) (by omega)]
  by_cases h : clampT a - d ≥ m
  · simp only [h, decide_true, cond_true]
    exact ⟨_, rfl, by omega, by omega⟩
  · simp only [h, decide_false, cond_false]
    exact ⟨_, rfl, by omega, by omega⟩

theorem fdiv_2 (n : Int) : Int.fdiv n 2 = n / 2 := by rw [Int.fdiv_eq_ediv_of_nonneg _ (by omega)]
theorem fdiv_4 (n : Int) : Int.fdiv n 4 = n / 4 := by rw [Int.fdiv_eq_ediv_of_nonneg _ (by omega)]
theorem fdiv_8 (n : Int) : Int.fdiv n 8 = n / 8 := by rw [Int.fdiv_eq_ediv_of_nonneg _ (by omega)]

theorem F15_good (s : RState) (hs : RGood s) (a1 a2 a3 : Int) : ∃ d, F15 s a1 a2 a3 = some (d, ()) ∧ RGood d := by
  obtain ⟨any, l, sm, v, m, u⟩ := s
  obtain ⟨l0, l1, s0, s1, v0, v1, m0, m1⟩ := hs
  simp only at l0 l1 s0 s1 v0 v1 m0 m1
  have c1 := clampT_in a1
  have c2 := clampT_in a2
  have c3 := clampT_in a3
  unfold F15
  simp only [F17_eq, obind_some]
  cases any with
  | false =>
    simp only [Bool.not_false, cond_true]
    refine ⟨_, rfl, ?_⟩
    simp only [RGood, fdiv_2]
    omega
  | true =>
    simp only [Bool.not_true, cond_false]
    have hd : 0 ≤ (if clampT a3 < clampT a2 then clampT a3 else clampT a2) ∧ (if clampT a3 < clampT a2 then clampT a3 else clampT a2) ≤ 1099511627776 := by split <;> omega
    have hm : 0 ≤ (if clampT a1 < m then clampT a1 else m) ∧ (if clampT a1 < m then clampT a1 else m) ≤ 1099511627776 := by split <;> omega
    generalize (if clampT a3 < clampT a2 then clampT a3 else clampT a2) = dd at *
    generalize (if clampT a1 < m then clampT a1 else m) = mm at *
    obtain ⟨y, hy, y0, y1⟩ := F19_in a1 dd mm hd.1 hd.2 hm.1
    rw [hy]
    simp only [obind_some, fdiv_4, fdiv_8]
    rw [wrap_i64 (sm - y) (by omega) (by omega), wrap_i64 (7 * sm) (by omega) (by omega), wrap_i64 (7 * sm + y) (by omega) (by omega), wrap_i64 (3 * v) (by omega) (by omega)]
    by_cases h : sm - y < 0
    · simp only [h, decide_true, cond_true]
      rw [wrap_i64 (0 - (sm - y)) (by omega) (by omega), wrap_i64 (3 * v + (0 - (sm - y))) (by omega) (by omega)]
      refine ⟨_, rfl, ?_⟩
      simp only [RGood]
      omega
    · simp only [h, decide_false, cond_false]
      rw [wrap_i64 (3 * v + (sm - y)) (by omega) (by omega)]
      refine ⟨_, rfl, ?_⟩
      simp only [RGood]
      omega

/-- What is waited but for the doubling. -/
def rbase (s : RState) (most : Int) : Int := s.2.2.1 + (if s.2.2.2.1 * 4 > 1 then s.2.2.2.1 * 4 else 1) + clampT most
theorem rbase_in (s : RState) (hs : RGood s) (most : Int) : s.2.2.1 < rbase s most ∧ rbase s most ≤ 6597069766657 := by
  obtain ⟨l0, l1, s0, s1, v0, v1, m0, m1⟩ := hs
  have := clampT_in most
  unfold rbase
  split <;> omega

def exp10 (p : Int) : Nat := Int.toNat (if (if 10 < p then 10 else p) > 0 then (if 10 < p then 10 else p) else 0)
theorem exp10_le (p : Int) : exp10 p ≤ 10 := by unfold exp10; split <;> split <;> omega

theorem exp10_low {p : Int} (h0 : 0 ≤ p) (h1 : p ≤ 10) : exp10 p = p.toNat := by unfold exp10; split <;> split <;> omega
theorem exp10_high {p : Int} (h1 : 10 ≤ p) : exp10 p = 10 := by unfold exp10; split <;> split <;> omega

theorem F11_eq (s : RState) (hs : RGood s) (most p : Int) : F11 s most p = some (rbase s most * 2 ^ exp10 p, ()) := by
  have hb := rbase_in s hs most
  have he := exp10_le p
  have hp : 1 ≤ (2 : Int) ^ exp10 p ∧ (2 : Int) ^ exp10 p ≤ 1024 := by
    have : ∀ k : Nat, k ≤ 10 → 1 ≤ (2 : Int) ^ k ∧ (2 : Int) ^ k ≤ 1024 := by decide
    exact this _ he
  obtain ⟨l0, l1, s0, s1, v0, v1, m0, m1⟩ := hs
  have c1 := clampT_in most
  unfold F11
  simp only [F17_eq, obind_some]
  rw [wrap_i64 (s.2.2.2.1 * 4) (by omega) (by omega)]
  have hx : 1 ≤ (if s.2.2.2.1 * 4 > 1 then s.2.2.2.1 * 4 else 1) ∧ (if s.2.2.2.1 * 4 > 1 then s.2.2.2.1 * 4 else 1) ≤ 4398046511104 := by split <;> omega
  rw [wrap_i64 (s.2.2.1 + _) (by omega) (by omega), wrap_i64 (s.2.2.1 + _ + clampT most) (by omega) (by omega)]
  have e0 : (0 : Int) ≤ (if (if 10 < p then 10 else p) > 0 then (if 10 < p then 10 else p) else 0) := by split <;> split <;> omega
  simp only [e0, decide_true, cond_true]
  have e1 : min (Int.toNat (if (if 10 < p then 10 else p) > 0 then (if 10 < p then 10 else p) else 0)) 64 = exp10 p := by
    show min (exp10 p) 64 = exp10 p
    omega
  rw [e1]
  have : (0:Int) ≤ rbase s most * 2 ^ exp10 p ∧ rbase s most * 2 ^ exp10 p ≤ 6597069766657 * 1024 := by
    have h0 : (0:Int) ≤ rbase s most := by omega
    exact ⟨Int.mul_nonneg h0 (by omega), Int.mul_le_mul hb.2 hp.2 (by omega) (by omega)⟩
  show some (IntKind.wrap .i64 (rbase s most * 2 ^ exp10 p), ()) = _
  rw [wrap_i64 _ (by omega) (by omega)]

theorem F9_good : ∃ d, F9 = some (d, ()) ∧ RGood d := ⟨_, rfl, by simp [RGood]⟩
theorem F8_eq : F8 = some (true, ()) := by decide +kernel

theorem F6_2_eq (most : Int) (h0 : 0 ≤ most) (h1 : most ≤ 65535) (d : RState) (hd : RGood d) : F6_2 most d = some (true, ()) := by
  unfold F6_2
  rw [wrap_i64 most (by omega) (by omega)]
  dsimp only
  rw [wrap_i64 (most + 1) (by omega) (by omega)]
  simp only [F11_eq d hd, obind_some]
  have e0 : exp10 0 = 0 := rfl
  have hm := rbase_in d hd most
  have hm1 := rbase_in d hd (most + 1)
  have hz := rbase_in d hd 0
  have hs := hd.2.2.1
  have e : rbase d (most + 1) = rbase d most + 1 := by
    unfold rbase clampT
    split <;> split <;> split <;> split <;> omega
  rw [e0]
  simp only [Int.pow_zero, Int.mul_one]
  rw [wrap_i64 (rbase d most + 1) (by omega) (by omega), e]
  simp only [BEq.rfl, cond_true]
  have : rbase d 0 > d.2.2.1 := by omega
  simp only [this, decide_true]

theorem F6_1_eq (l : List (Int × Int × Unit)) (most p : Int) (h0 : 0 ≤ most) (h1 : most ≤ 65535) (p0 : 0 ≤ p) (p1 : p ≤ 255) (hl : l.length ≤ 100) :
    ∀ (m : Nat) (i : Int) (d : RState), RGood d → 0 ≤ i → i ≤ l.length → (l.length - i : Int) < m → F6_1 m l most p i d = some (true, ()) := by
  intro m
  induction m with
  | zero => intro i d _ _ _ h; omega
  | succ m ih =>
    intro i d hd hi0 hi1 hm
    simp only [F6_1]
    unfold tF6_1
    by_cases hlt : i < (l.length : Int)
    · simp only [hlt, hi0, and_self, decide_true, cond_true]
      obtain ⟨d', e, hd'⟩ := F15_good d hd (l.getD i.toNat (Ty.dflt (.pair (.int .i64) (.pair (.int .i64) .unit)))).1 (l.getD i.toNat (Ty.dflt (.pair (.int .i64) (.pair (.int .i64) .unit)))).2.1 5
      rw [e]
      simp only [obind_some]
      rw [wrap_i64 (i + 1) (by omega) (by omega)]
      exact ih (i + 1) d' hd' (by omega) (by omega) (by omega)
    · simp only [hlt, decide_false, cond_false]
      rw [wrap_i64 p (by omega) (by omega), wrap_i64 most (by omega) (by omega)]
      have hn : 0 ≤ Int.tmod p 20 ∧ Int.tmod p 20 < 20 := by
        rw [Int.tmod_eq_emod_of_nonneg p0]; omega
      generalize Int.tmod p 20 = n at *
      rw [wrap_i64 (n + 1) (by omega) (by omega)]
      simp only [F11_eq d hd, obind_some]
      have hb := rbase_in d hd most
      have hs := hd.2.2.1
      have hx : (n < 10 → rbase d most * 2 ^ exp10 (n + 1) = 2 * (rbase d most * 2 ^ exp10 n)) ∧ (n ≥ 10 → rbase d most * 2 ^ exp10 (n + 1) = rbase d most * 2 ^ exp10 n) := by
        constructor
        · intro h
          have : exp10 (n + 1) = exp10 n + 1 := by rw [exp10_low (by omega) (by omega), exp10_low (by omega) (by omega)]; omega
          rw [this, Int.pow_succ, Int.mul_comm 2, Int.mul_assoc]
        · intro h
          have : exp10 (n + 1) = exp10 n := by rw [exp10_high (by omega), exp10_high (by omega)]
          rw [this]
      have hp : 1 ≤ (2 : Int) ^ exp10 n ∧ (2 : Int) ^ exp10 n ≤ 1024 := by
        have : ∀ k : Nat, k ≤ 10 → 1 ≤ (2 : Int) ^ k ∧ (2 : Int) ^ k ≤ 1024 := by decide
        exact this _ (exp10_le n)
      have hw : (0:Int) ≤ rbase d most * 2 ^ exp10 n ∧ rbase d most * 2 ^ exp10 n ≤ 6597069766657 * 1024 :=
        ⟨Int.mul_nonneg (by omega) (by omega), Int.mul_le_mul hb.2 hp.2 (by omega) (by omega)⟩
      rw [wrap_i64 (2 * _) (by omega) (by omega)]
      by_cases h10 : n < 10
      · have : ¬ (n ≥ 10) := by omega
        simp only [h10, this, decide_true, decide_false, cond_true, cond_false, hx.1 h10, bne_self_eq_false]
        exact F6_2_eq most h0 h1 d hd
      · have : n ≥ 10 := by omega
        simp only [h10, this, decide_true, decide_false, cond_true, cond_false, hx.2 this, bne_self_eq_false]
        exact F6_2_eq most h0 h1 d hd

theorem law6 (x : denL con6.params) (h : Wfs con6.params x) : con6.F x = some (true, ()) := by
  obtain ⟨l, most, p, u⟩ := x
  obtain ⟨⟨hl, _⟩, hm, hp, _⟩ := h
  have h16 := wf_u16 hm
  have h8 := wf_u8 hp
  show F6 l most p = _
  unfold F6
  by_cases hlen : (l.length : Int) > 100
  · simp only [hlen, decide_true, cond_true]
    unfold F6_0
    rw [F8_eq]; rfl
  · simp only [hlen, decide_false, cond_false]
    rw [F8_eq]
    obtain ⟨d, e, hd⟩ := F9_good
    simp only [obind_some, Bool.not_true, cond_false, e]
    unfold F6_1'
    exact F6_1_eq l most p h16.1 h16.2 h8.1 h8.2 (by omega) _ 0 d hd (by omega) (by omega) (by omega)

end Go.Proofs.Ytecjkkofoafhaaa.V
