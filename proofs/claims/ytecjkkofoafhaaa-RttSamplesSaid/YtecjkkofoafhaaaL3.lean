/- The law RttSamples in plain Lean: whatever samples come in, an estimate, and what it is waited by, is the document's. -/
import Derived.Test.YtecjkkofoafhaaaF3
import Derived.Test.YtecjkkofoafhaaaL6
namespace Go.Proofs.Ytecjkkofoafhaaa.V
open Go.RowKit

theorem F18_eq (a : Int) : F18 a = some (clampT a, ()) := by
  unfold F18 clampT
  simp only [Option.some.injEq, Prod.mk.injEq, and_true]
  split <;> split <;> split <;> omega

theorem tdiv_nn (a b : Int) (h : 0 ≤ a) : Int.tdiv a b = a / b := Int.tdiv_eq_ediv_of_nonneg h

theorem F16_eq (s : RState) (hs : RGood s) (a1 a2 a3 : Int) : F16 s a1 a2 a3 = F15 s a1 a2 a3 := by
  obtain ⟨any, l, sm, v, m, u⟩ := s
  obtain ⟨l0, l1, s0, s1, v0, v1, m0, m1⟩ := hs
  simp only at l0 l1 s0 s1 v0 v1 m0 m1
  have c1 := clampT_in a1
  have c2 := clampT_in a2
  have c3 := clampT_in a3
  unfold F16 F15
  simp only [F17_eq, F18_eq, obind_some]
  cases any with
  | false =>
    simp only [Bool.not_false, cond_true]
    rw [tdiv_nn _ _ c1.1, wrap_i64 _ (by omega) (by omega), fdiv_2]
  | true =>
    simp only [Bool.not_true, cond_false]
    have hd : 0 ≤ (if clampT a3 < clampT a2 then clampT a3 else clampT a2) ∧ (if clampT a3 < clampT a2 then clampT a3 else clampT a2) ≤ 1099511627776 := by split <;> omega
    have hm : 0 ≤ (if clampT a1 < m then clampT a1 else m) ∧ (if clampT a1 < m then clampT a1 else m) ≤ 1099511627776 := by split <;> omega
    generalize (if clampT a3 < clampT a2 then clampT a3 else clampT a2) = dd at *
    generalize (if clampT a1 < m then clampT a1 else m) = mm at *
    unfold F19
    simp only [F17_eq, obind_some, fdiv_4, fdiv_8]
    rw [wrap_i64 (clampT a1 - dd) (by omega) (by omega)]
    have key : ∀ y : Int, 0 ≤ y → y ≤ 1099511627776 →
        (some ((true, (clampT a1, (IntKind.wrap .i64 (Int.tdiv (IntKind.wrap .i64 (IntKind.wrap .i64 (7 * sm) + y)) 8), (IntKind.wrap .i64 (Int.tdiv (IntKind.wrap .i64 (IntKind.wrap .i64 (3 * v) + (if IntKind.wrap .i64 (y - sm) > IntKind.wrap .i64 (sm - y) then IntKind.wrap .i64 (y - sm) else IntKind.wrap .i64 (sm - y)))) 4), (mm, ()))))), ()) : Option (RState × Unit)) =
        (bif decide (IntKind.wrap .i64 (sm - y) < 0) then
          some ((true, (clampT a1, (IntKind.wrap .i64 (IntKind.wrap .i64 (7 * sm) + y) / 8, (IntKind.wrap .i64 (IntKind.wrap .i64 (3 * v) + IntKind.wrap .i64 (0 - IntKind.wrap .i64 (sm - y))) / 4, (mm, ()))))), ())
        else some ((true, (clampT a1, (IntKind.wrap .i64 (IntKind.wrap .i64 (7 * sm) + y) / 8, (IntKind.wrap .i64 (IntKind.wrap .i64 (3 * v) + IntKind.wrap .i64 (sm - y)) / 4, (mm, ()))))), ())) := by
      intro y y0 y1
      rw [wrap_i64 (sm - y) (by omega) (by omega), wrap_i64 (y - sm) (by omega) (by omega), wrap_i64 (7 * sm) (by omega) (by omega), wrap_i64 (7 * sm + y) (by omega) (by omega), wrap_i64 (3 * v) (by omega) (by omega),
        wrap_i64 (0 - (sm - y)) (by omega) (by omega), tdiv_nn _ 8 (by omega), wrap_i64 ((7 * sm + y) / 8) (by omega) (by omega)]
      by_cases h : sm - y < 0
      · have h2 : y - sm > sm - y := by omega
        simp only [h, h2, decide_true, cond_true, if_true]
        rw [wrap_i64 (3 * v + (y - sm)) (by omega) (by omega), wrap_i64 (3 * v + (0 - (sm - y))) (by omega) (by omega), tdiv_nn _ 4 (by omega), wrap_i64 _ (by omega) (by omega)]
        have : y - sm = 0 - (sm - y) := by omega
        rw [this]
      · have h2 : ¬ (y - sm > sm - y) := by omega
        simp only [h, h2, decide_false, cond_false, if_false]
        rw [wrap_i64 (3 * v + (sm - y)) (by omega) (by omega), tdiv_nn _ 4 (by omega), wrap_i64 _ (by omega) (by omega)]
    by_cases h : clampT a1 - dd ≥ mm
    · simp only [h, decide_true, cond_true, obind_some]
      exact key _ (by omega) (by omega)
    · simp only [h, decide_false, cond_false, obind_some]
      exact key _ (by omega) (by omega)

theorem F14_eq (s : RState) (hs : RGood s) : ∃ n, F13 s = some (n, ()) ∧ F14 s = some (n, ()) := by
  obtain ⟨l0, l1, s0, s1, v0, v1, m0, m1⟩ := hs
  unfold F13 F14
  have hn : 0 ≤ (if s.2.1 > s.2.2.1 then s.2.1 else s.2.2.1) ∧ (if s.2.1 > s.2.2.1 then s.2.1 else s.2.2.1) ≤ 1099511627776 := by split <;> omega
  generalize (if s.2.1 > s.2.2.1 then s.2.1 else s.2.2.1) = n at *
  dsimp only
  rw [wrap_i64 (n * 8) (by omega) (by omega)]
  rw [wrap_i64 (n * 8 + n) (by omega) (by omega), wrap_i64 (9 * n) (by omega) (by omega), fdiv_8, tdiv_nn _ 8 (by omega), wrap_i64 _ (by omega) (by omega)]
  refine ⟨_, rfl, ?_⟩
  have e : 9 * n = n * 8 + n := by omega
  rw [e]
  congr 2
  split <;> split <;> omega

theorem pow_le10 : ∀ k : Nat, k ≤ 10 → 1 ≤ (2 : Int) ^ k ∧ (2 : Int) ^ k ≤ 1024 := by decide

/-- The document's doubling. -/
theorem F12_0_eq (p : Int) (x : Int) (x0 : 0 ≤ x) (x1 : x ≤ 6597069766657) : ∀ (m k : Nat) (n : Int), k ≤ exp10 p → ((exp10 p : Int) - k) < m → n = x * 2 ^ k → F12_0 m p n k = some (x * 2 ^ exp10 p, ()) := by
  intro m
  induction m with
  | zero => intro k n h0 h1; omega
  | succ m ih =>
    intro k n h0 h1 hx
    simp only [F12_0]
    unfold tF12_0
    have h10 := exp10_le p
    have hb := pow_le10 k (by omega)
    have hw : 0 ≤ x * 2 ^ k ∧ x * 2 ^ k ≤ 6597069766657 * 1024 := ⟨Int.mul_nonneg x0 (by omega), Int.mul_le_mul x1 hb.2 (by omega) (by omega)⟩
    have hq : ((k : Int) < (if (10 : Int) < p then 10 else p)) ↔ k < exp10 p := by
      unfold exp10
      split <;> split <;> omega
    by_cases hlt : k < exp10 p
    · have : (k : Int) < (if (10 : Int) < p then 10 else p) := hq.mpr hlt
      simp only [this, decide_true, cond_true]
      rw [wrap_i64 (n * 2) (by omega) (by omega), wrap_i64 ((k : Int) + 1) (by omega) (by omega)]
      have := ih (k + 1) (n * 2) (by omega) (by omega) (by rw [hx, Int.pow_succ, Int.mul_assoc])
      rw [← this]
      rfl
    · have : ¬ ((k : Int) < (if (10 : Int) < p then 10 else p)) := fun h => hlt (hq.mp h)
      simp only [this, decide_false, cond_false]
      have e : k = exp10 p := by omega
      rw [hx, e]

theorem F12_eq (s : RState) (hs : RGood s) (most p : Int) : F12 s most p = some (rbase s most * 2 ^ exp10 p, ()) := by
  have hb := rbase_in s hs most
  obtain ⟨l0, l1, s0, s1, v0, v1, m0, m1⟩ := hs
  have c1 := clampT_in most
  unfold F12
  simp only [F18_eq, obind_some]
  rw [wrap_i64 (4 * s.2.2.2.1) (by omega) (by omega)]
  have ex : (if 1 > 4 * s.2.2.2.1 then 1 else 4 * s.2.2.2.1) = (if s.2.2.2.1 * 4 > 1 then s.2.2.2.1 * 4 else 1) := by split <;> split <;> omega
  have hx : 1 ≤ (if s.2.2.2.1 * 4 > 1 then s.2.2.2.1 * 4 else 1) ∧ (if s.2.2.2.1 * 4 > 1 then s.2.2.2.1 * 4 else 1) ≤ 4398046511104 := by split <;> omega
  rw [ex, wrap_i64 (s.2.2.1 + _) (by omega) (by omega), wrap_i64 (s.2.2.1 + _ + clampT most) (by omega) (by omega)]
  unfold F12_0'
  exact F12_0_eq p (rbase s most) (by omega) hb.2 _ 0 _ (by omega) (by unfold exp10; split <;> split <;> omega) (by simp [rbase])

theorem beq_all (d : RState) : ((d.1 == d.1) && ((d.2.1 == d.2.1) && ((d.2.2.1 == d.2.2.1) && ((d.2.2.2.1 == d.2.2.2.1) && ((d.2.2.2.2.1 == d.2.2.2.2.1) && true))))) = true := by simp

theorem F3_1_eq (l : List (Int × Int × Unit)) (most p : Int) (hl : l.length ≤ 100) :
    ∀ (m : Nat) (i : Int) (d : RState), RGood d → 0 ≤ i → i ≤ l.length + 1 → (l.length + 1 - i : Int) < m → F3_1 m l most p i d d = some (true, ()) := by
  intro m
  induction m with
  | zero => intro i d _ _ _ h; omega
  | succ m ih =>
    intro i d hd hi0 hi1 hm
    simp only [F3_1]
    unfold tF3_1
    by_cases hle : i ≤ (l.length : Int)
    · simp only [hle, decide_true, cond_true, beq_all, Bool.not_true, cond_false, F11_eq d hd, F12_eq d hd, obind_some, bne_self_eq_false]
      obtain ⟨n, e13, e14⟩ := F14_eq d hd
      simp only [e13, e14, obind_some, bne_self_eq_false, cond_false]
      by_cases hlt : i < (l.length : Int)
      · simp only [hlt, hi0, and_self, decide_true, cond_true]
        obtain ⟨d', e, hd'⟩ := F15_good d hd (l.getD i.toNat (Ty.dflt (.pair (.int .i64) (.pair (.int .i64) .unit)))).1 (l.getD i.toNat (Ty.dflt (.pair (.int .i64) (.pair (.int .i64) .unit)))).2.1 most
        rw [F16_eq d hd, e]
        simp only [obind_some]
        unfold F3_3
        rw [wrap_i64 (i + 1) (by omega) (by omega)]
        exact ih (i + 1) d' hd' (by omega) (by omega) (by omega)
      · simp only [hlt, decide_false, cond_false]
        unfold F3_3
        rw [wrap_i64 (i + 1) (by omega) (by omega)]
        exact ih (i + 1) d hd (by omega) (by omega) (by omega)
    · simp only [hle, decide_false, cond_false]

theorem law3 (x : denL con3.params) (h : Wfs con3.params x) : con3.F x = some (true, ()) := by
  obtain ⟨l, most, p, u⟩ := x
  show F3 l most p = _
  unfold F3
  by_cases hlen : (l.length : Int) > 100
  · simp only [hlen, decide_true, cond_true]
    unfold F3_0
    rw [F8_eq]; rfl
  · simp only [hlen, decide_false, cond_false]
    rw [F8_eq]
    obtain ⟨d, e, hd⟩ := F9_good
    have e10 : F10 = F9 := rfl
    simp only [obind_some, Bool.not_true, cond_false, e10, e]
    unfold F3_1'
    exact F3_1_eq l most p (by omega) _ 0 d hd (by omega) (by omega) (by omega)

end Go.Proofs.Ytecjkkofoafhaaa.V
