/- The law RttHeld (layer 11) in numbers alone: of two samples the smooth value, what varies, the least and the latest are as the chapter says, whatever was held back; for all numbers of the arguments' kinds. -/
import Derived.Test.YtecjkkofoafhaaaPRttHeldx1
namespace Go.Proofs.Ytecjkkofoafhaaa.Pure
open Go.RowKit Go.Proofs.Ytecjkkofoafhaaa.PRttHeld Go.Proofs.YtecjkkofoafhaaaW.PrintWords Go.Proofs.YtecjkkofoafhaaaW.PrintLast

theorem w_in (n : Int) (h0 : -9223372036854775808 ≤ n) (h : n ≤ 9223372036854775807) : wrap64 n = n := by unfold wrap64; omega

theorem u16_in {a : Int} (h : (Lit.int .u16 a).wf = true) : 0 ≤ a ∧ a ≤ 65535 := by
  simp only [Lit.wf, IntKind.min, IntKind.max, IntKind.signed, IntKind.bits, Bool.and_eq_true] at h
  simp at h; omega
theorem u8_in {a : Int} (h : (Lit.int .u8 a).wf = true) : 0 ≤ a ∧ a ≤ 255 := by
  simp only [Lit.wf, IntKind.min, IntKind.max, IntKind.signed, IntKind.bits, Bool.and_eq_true] at h
  simp at h; omega

theorem bounded_in (a : Int) (h0 : 0 ≤ a) (h : a ≤ 1099511627776) : rtt_ticks_bounded.f a = some a := by
  unfold rtt_ticks_bounded.f mx mn; congr 1; split <;> split <;> omega

theorem mn_le (a b : Int) : mn a b ≤ a ∧ mn a b ≤ b ∧ (mn a b = a ∨ mn a b = b) := by unfold mn; split <;> omega
theorem mx_ge (a b : Int) : a ≤ mx a b ∧ b ≤ mx a b ∧ (mx a b = a ∨ mx a b = b) := by unfold mx; split <;> omega

theorem sample_first (l s v m a1 a2 a3 : Int) (h0 : 0 ≤ a1) (h : a1 ≤ 65535) (g0 : 0 ≤ a2) (g : a2 ≤ 65535) (k0 : 0 ≤ a3) (k : a3 ≤ 65535) :
    rtt_Sample.f false l s v m a1 a2 a3 = some (true, a1, a1, a1 / 2, a1) := by
  unfold rtt_Sample.f
  rw [bounded_in a1 h0 (by omega), bounded_in a2 g0 (by omega), bounded_in a3 k0 (by omega)]
  rfl

def adj (a1 d m : Int) : Int := if a1 - d ≥ m then a1 - d else a1

theorem sample_next (l s v m a1 a2 a3 : Int) (h0 : 0 ≤ a1) (h : a1 ≤ 65535) (g0 : 0 ≤ a2) (g : a2 ≤ 65535) (k0 : 0 ≤ a3) (k : a3 ≤ 65535)
    (s0 : 0 ≤ s) (s1 : s ≤ 65535) (v0 : 0 ≤ v) (v1 : v ≤ 65535) :
    rtt_Sample.f true l s v m a1 a2 a3 = some (true, a1, (7 * s + adj a1 (mn a2 a3) (mn m a1)) / 8,
      (3 * v + (if s - adj a1 (mn a2 a3) (mn m a1) < 0 then -(s - adj a1 (mn a2 a3) (mn m a1)) else s - adj a1 (mn a2 a3) (mn m a1))) / 4, mn m a1) := by
  unfold rtt_Sample.f
  rw [bounded_in a1 h0 (by omega), bounded_in a2 g0 (by omega), bounded_in a3 k0 (by omega)]
  simp only [Option.bind_some, if_true]
  have hd := mn_le a2 a3
  have hd0 : 0 ≤ mn a2 a3 := by rcases hd.2.2 with e | e <;> omega
  have hm := mn_le m a1
  have hadj : rtt_sample_adjusted.f a1 (mn a2 a3) (mn m a1) = some (adj a1 (mn a2 a3) (mn m a1)) := by
    unfold rtt_sample_adjusted.f adj
    rw [bounded_in a1 h0 (by omega)]
    simp only [Option.bind_some]
    rw [w_in (a1 - mn a2 a3) (by omega) (by omega)]
    split <;> rfl
  rw [hadj]; simp only [Option.bind_some]
  have ha : -65535 ≤ adj a1 (mn a2 a3) (mn m a1) ∧ adj a1 (mn a2 a3) (mn m a1) ≤ 65535 := by unfold adj; split <;> omega
  generalize adj a1 (mn a2 a3) (mn m a1) = A at *
  rw [w_in (s - A) (by omega) (by omega), w_in (7 * s) (by omega) (by omega), w_in (7 * s + A) (by omega) (by omega), w_in (-(s - A)) (by omega) (by omega),
    w_in (3 * v) (by omega) (by omega), w_in (3 * v + -(s - A)) (by omega) (by omega), w_in (3 * v + (s - A)) (by omega) (by omega)]
  split <;> rfl

theorem shown_true : dominolaw11_shown.f = some true := by decide +kernel

theorem tdiv_pos (a b : Int) (h : 0 ≤ a) : Int.tdiv a b = a / b := by
  rw [Int.tdiv_eq_ediv_of_nonneg h]

theorem RttHeld : dominolaw11_RttHeld.Pure := by
  intro a0 a1 a2 a3 w0 w1 w2 w3
  have b0 := u16_in w0
  have b1 := u16_in w1
  have b2 := u8_in w2
  have b3 := u8_in w3
  clear w0 w1 w2 w3
  unfold dominolaw11_RttHeld.f rtt_New.f
  simp only [Option.bind_some, shown_true]
  have hl := mn_le a0 a1
  have hh := mx_ge a0 a1
  have l0 : 0 ≤ mn a0 a1 ∧ mn a0 a1 ≤ 65535 := by rcases hl.2.2 with e | e <;> omega
  have h0 : 0 ≤ mx a0 a1 ∧ mx a0 a1 ≤ 65535 := by rcases hh.2.2 with e | e <;> omega
  have lh : mn a0 a1 ≤ mx a0 a1 := by omega
  clear hl hh
  generalize mn a0 a1 = L at *
  generalize mx a0 a1 = H at *
  rw [w_in L (by omega) (by omega), w_in H (by omega) (by omega), w_in a2 (by omega) (by omega), w_in a3 (by omega) (by omega)]
  rw [sample_first 0 10 5 0 L 0 0 l0.1 l0.2 (by omega) (by omega) (by omega) (by omega)]
  simp only [Option.bind_some]
  rw [sample_next L L (L / 2) L H a2 a3 h0.1 h0.2 (by omega) (by omega) (by omega) (by omega) l0.1 l0.2 (by omega) (by omega)]
  simp only [Option.bind_some]
  have e : mn L H = L := by unfold mn; split <;> omega
  rw [e]
  have hd := mn_le a2 a3
  have hd0 : 0 ≤ mn a2 a3 := by rcases hd.2.2 with e | e <;> omega
  generalize mn a2 a3 = D at *
  rw [w_in (H - D) (by omega) (by omega)]
  have hv : wrap64 (Int.tdiv L 2) = L / 2 := by rw [tdiv_pos _ _ l0.1]; exact w_in _ (by omega) (by omega)
  rw [hv, w_in (7 * L) (by omega) (by omega), w_in (3 * (L / 2)) (by omega) (by omega)]
  have h7 : ∀ x, L ≤ x → x ≤ 65535 → wrap64 (Int.tdiv (wrap64 (7 * L + x)) 8) = (7 * L + x) / 8 := by
    intro x hx hy
    rw [w_in (7 * L + x) (by omega) (by omega), tdiv_pos _ _ (by omega)]; exact w_in _ (by omega) (by omega)
  have h3 : ∀ x, L ≤ x → x ≤ 65535 → wrap64 (Int.tdiv (wrap64 (wrap64 (3 * (L / 2) + x) - L)) 4) = (3 * (L / 2) + x - L) / 4 := by
    intro x hx hy
    rw [w_in (3 * (L / 2) + x) (by omega) (by omega), w_in (3 * (L / 2) + x - L) (by omega) (by omega), tdiv_pos _ _ (by omega)]; exact w_in _ (by omega) (by omega)
  by_cases c : H - D ≥ L
  · rw [if_pos c]
    have ea : adj H D L = H - D := by unfold adj; rw [if_pos c]
    rw [ea, h7 _ (by omega) (by omega), h3 _ (by omega) (by omega)]
    simp only [if_true]
    rw [if_pos]
    split <;> omega
  · rw [if_neg c]
    have ea : adj H D L = H := by unfold adj; rw [if_neg c]
    rw [ea, h7 _ (by omega) (by omega), h3 _ (by omega) (by omega)]
    simp only [if_true]
    rw [if_pos]
    split <;> omega

end Go.Proofs.Ytecjkkofoafhaaa.Pure
