/- The law RttSteady (layer 11) in numbers alone: of samples that are all alike nothing else comes; for all numbers of the arguments' kinds. -/
import Derived.Test.YtecjkkofoafhaaaPRttSteadyx1
namespace Go.Proofs.Ytecjkkofoafhaaa.Pure
open Go.RowKit Go.Proofs.Ytecjkkofoafhaaa.PRttSteady Go.Proofs.YtecjkkofoafhaaaW.PrintWords Go.Proofs.YtecjkkofoafhaaaW.PrintLast

theorem w_in (n : Int) (h0 : -9223372036854775808 ≤ n) (h : n ≤ 9223372036854775807) : wrap64 n = n := by unfold wrap64; omega

theorem u16_in {a : Int} (h : (Lit.int .u16 a).wf = true) : 0 ≤ a ∧ a ≤ 65535 := by
  simp only [Lit.wf, IntKind.min, IntKind.max, IntKind.signed, IntKind.bits, Bool.and_eq_true] at h
  simp at h; omega
theorem u8_in {a : Int} (h : (Lit.int .u8 a).wf = true) : 0 ≤ a ∧ a ≤ 255 := by
  simp only [Lit.wf, IntKind.min, IntKind.max, IntKind.signed, IntKind.bits, Bool.and_eq_true] at h
  simp at h; omega

theorem bounded_in (a : Int) (h0 : 0 ≤ a) (h : a ≤ 1099511627776) : rtt_ticks_bounded.f a = some a := by
  unfold rtt_ticks_bounded.f mx mn; congr 1; split <;> split <;> omega

theorem mn_le (a b : Int) : mn a b ≤ a ∧ mn a b ≤ b ∧ (mn a b = a ∨ mn a b = b) := by unfold mn; split <;> omega
theorem mx_ge (a b : Int) : a ≤ mx a b ∧ b ≤ mx a b ∧ (mx a b = a ∨ mx a b = b) := by unfold mx; split <;> omega

theorem sample_first (l s v m a1 a2 a3 : Int) (h0 : 0 ≤ a1) (h : a1 ≤ 65535) (g0 : 0 ≤ a2) (g : a2 ≤ 65535) (k0 : 0 ≤ a3) (k : a3 ≤ 65535) :
    rtt_Sample.f false l s v m a1 a2 a3 = some (true, a1, a1, a1 / 2, a1) := by
  unfold rtt_Sample.f
  rw [bounded_in a1 h0 (by omega), bounded_in a2 g0 (by omega), bounded_in a3 k0 (by omega)]
  rfl

def adj (a1 d m : Int) : Int := if a1 - d ≥ m then a1 - d else a1

theorem sample_next (l s v m a1 a2 a3 : Int) (h0 : 0 ≤ a1) (h : a1 ≤ 65535) (g0 : 0 ≤ a2) (g : a2 ≤ 65535) (k0 : 0 ≤ a3) (k : a3 ≤ 65535)
    (s0 : 0 ≤ s) (s1 : s ≤ 65535) (v0 : 0 ≤ v) (v1 : v ≤ 65535) :
    rtt_Sample.f true l s v m a1 a2 a3 = some (true, a1, (7 * s + adj a1 (mn a2 a3) (mn m a1)) / 8,
      (3 * v + (if s - adj a1 (mn a2 a3) (mn m a1) < 0 then -(s - adj a1 (mn a2 a3) (mn m a1)) else s - adj a1 (mn a2 a3) (mn m a1))) / 4, mn m a1) := by
  unfold rtt_Sample.f
  rw [bounded_in a1 h0 (by omega), bounded_in a2 g0 (by omega), bounded_in a3 k0 (by omega)]
  simp only [Option.bind_some, if_true]
  have hd := mn_le a2 a3
  have hd0 : 0 ≤ mn a2 a3 := by rcases hd.2.2 with e | e <;> omega
  have hm := mn_le m a1
  have hadj : rtt_sample_adjusted.f a1 (mn a2 a3) (mn m a1) = some (adj a1 (mn a2 a3) (mn m a1)) := by
    unfold rtt_sample_adjusted.f adj
    rw [bounded_in a1 h0 (by omega)]
    simp only [Option.bind_some]
    rw [w_in (a1 - mn a2 a3) (by omega) (by omega)]
    split <;> rfl
  rw [hadj]; simp only [Option.bind_some]
  have ha : -65535 ≤ adj a1 (mn a2 a3) (mn m a1) ∧ adj a1 (mn a2 a3) (mn m a1) ≤ 65535 := by unfold adj; split <;> omega
  generalize adj a1 (mn a2 a3) (mn m a1) = A at *
  rw [w_in (s - A) (by omega) (by omega), w_in (7 * s) (by omega) (by omega), w_in (7 * s + A) (by omega) (by omega), w_in (-(s - A)) (by omega) (by omega),
    w_in (3 * v) (by omega) (by omega), w_in (3 * v + -(s - A)) (by omega) (by omega), w_in (3 * v + (s - A)) (by omega) (by omega)]
  split <;> rfl

theorem shown_true : dominolaw11_shown.f = some true := by decide +kernel

theorem tdiv_pos (a b : Int) (h : 0 ≤ a) : Int.tdiv a b = a / b := by
  rw [Int.tdiv_eq_ediv_of_nonneg h]


theorem steady_step (l v n : Int) (n0 : 0 ≤ n) (n1 : n ≤ 65535) (v0 : 0 ≤ v) (v1 : v ≤ 65535) :
    rtt_Sample.f true l n v n n 0 0 = some (true, n, n, 3 * v / 4, n) := by
  rw [sample_next l n v n n 0 0 n0 n1 (by omega) (by omega) (by omega) (by omega) n0 n1 v0 v1]
  have e : mn n n = n := by unfold mn; split <;> rfl
  have e0 : mn 0 0 = 0 := by decide
  rw [e, e0]
  have ea : adj n 0 n = n := by unfold adj; split <;> omega
  rw [ea]
  have e1 : (7 * n + n) / 8 = n := by omega
  have e2 : n - n = 0 := by omega
  rw [e1, e2]
  simp

theorem steady_loop (x0 x1 : Int) (n0 : 0 ≤ x0) (n1 : x0 ≤ 65535) (b0 : 0 ≤ x1) (b1 : x1 ≤ 255) (d : Nat) : ∀ (k : Nat) (i l v : Int), 0 ≤ i → i ≤ 80 → (80 - i : Int) = d → d < k → 0 ≤ v → v ≤ 65535 →
    dominolaw11_RttSteady.l0 k x0 x1 i true l x0 v x0 = some true := by
  induction d with
  | zero =>
    intro k i l v h0 h1 hd hk v0 v1
    obtain ⟨k, rfl⟩ : ∃ m, k = m + 1 := ⟨k - 1, by omega⟩
    simp only [dominolaw11_RttSteady.l0]
    rw [w_in x1 (by omega) (by omega), w_in x0 (by omega) (by omega), Int.tmod_eq_emod_of_nonneg b0, if_neg (by omega), if_pos rfl, shown_true]
    rfl
  | succ d ih =>
    intro k i l v h0 h1 hd hk v0 v1
    obtain ⟨k, rfl⟩ : ∃ m, k = m + 1 := ⟨k - 1, by omega⟩
    simp only [dominolaw11_RttSteady.l0]
    rw [w_in x1 (by omega) (by omega), w_in x0 (by omega) (by omega), Int.tmod_eq_emod_of_nonneg b0]
    by_cases c : i < x1 % 80
    · rw [if_pos c, steady_step l v x0 n0 n1 v0 v1]
      simp only [Option.bind_some, if_true]
      rw [if_neg (by omega), w_in (i + 1) (by omega) (by omega)]
      exact ih k (i + 1) x0 _ (by omega) (by omega) (by omega) (by omega) (by omega) (by omega)
    · rw [if_neg c, if_pos rfl, shown_true]
      rfl

theorem RttSteady : dominolaw11_RttSteady.Pure := by
  intro a0 a1 w0 w1
  have b0 := u16_in w0
  have b1 := u8_in w1
  refine ⟨100, ?_⟩
  unfold dominolaw11_RttSteady.f rtt_New.f
  simp only [Option.bind_some]
  rw [w_in a0 (by omega) (by omega), sample_first 0 10 5 0 a0 0 0 b0.1 b0.2 (by omega) (by omega) (by omega) (by omega)]
  simp only [Option.bind_some]
  exact steady_loop a0 a1 b0.1 b0.2 b1.1 b1.2 80 100 0 a0 (a0 / 2) (by omega) (by omega) (by omega) (by omega) (by omega) (by omega)

end Go.Proofs.Ytecjkkofoafhaaa.Pure
