/- The law RttBetween (layer 11) in numbers alone: the least is the least sample, what is smooth lies between the least and the greatest one, nothing that is waited is below 1; for all lists of numbers of the arguments' kinds. -/
import Derived.Test.YtecjkkofoafhaaaPRttBetweenx2
namespace Go.Proofs.Ytecjkkofoafhaaa.Pure
open Go.RowKit Go.Proofs.Ytecjkkofoafhaaa.PRttBetween Go.Proofs.YtecjkkofoafhaaaW.PrintWords Go.Proofs.YtecjkkofoafhaaaW.PrintLast

theorem w_in (n : Int) (h0 : -9223372036854775808 ≤ n) (h : n ≤ 9223372036854775807) : wrap64 n = n := by unfold wrap64; omega

theorem u16_in {a : Int} (h : (Lit.int .u16 a).wf = true) : 0 ≤ a ∧ a ≤ 65535 := by
  simp only [Lit.wf, IntKind.min, IntKind.max, IntKind.signed, IntKind.bits, Bool.and_eq_true] at h
  simp at h; omega
theorem u8_in {a : Int} (h : (Lit.int .u8 a).wf = true) : 0 ≤ a ∧ a ≤ 255 := by
  simp only [Lit.wf, IntKind.min, IntKind.max, IntKind.signed, IntKind.bits, Bool.and_eq_true] at h
  simp at h; omega

theorem bounded_in (a : Int) (h0 : 0 ≤ a) (h : a ≤ 1099511627776) : rtt_ticks_bounded.f a = some a := by
  unfold rtt_ticks_bounded.f mx mn; congr 1; split <;> split <;> omega

theorem mn_le (a b : Int) : mn a b ≤ a ∧ mn a b ≤ b ∧ (mn a b = a ∨ mn a b = b) := by unfold mn; split <;> omega
theorem mx_ge (a b : Int) : a ≤ mx a b ∧ b ≤ mx a b ∧ (mx a b = a ∨ mx a b = b) := by unfold mx; split <;> omega

theorem sample_first (l s v m a1 a2 a3 : Int) (h0 : 0 ≤ a1) (h : a1 ≤ 65535) (g0 : 0 ≤ a2) (g : a2 ≤ 65535) (k0 : 0 ≤ a3) (k : a3 ≤ 65535) :
    rtt_Sample.f false l s v m a1 a2 a3 = some (true, a1, a1, a1 / 2, a1) := by
  unfold rtt_Sample.f
  rw [bounded_in a1 h0 (by omega), bounded_in a2 g0 (by omega), bounded_in a3 k0 (by omega)]
  rfl

def adj (a1 d m : Int) : Int := if a1 - d ≥ m then a1 - d else a1

theorem sample_next (l s v m a1 a2 a3 : Int) (h0 : 0 ≤ a1) (h : a1 ≤ 65535) (g0 : 0 ≤ a2) (g : a2 ≤ 65535) (k0 : 0 ≤ a3) (k : a3 ≤ 65535)
    (s0 : 0 ≤ s) (s1 : s ≤ 65535) (v0 : 0 ≤ v) (v1 : v ≤ 65535) :
    rtt_Sample.f true l s v m a1 a2 a3 = some (true, a1, (7 * s + adj a1 (mn a2 a3) (mn m a1)) / 8,
      (3 * v + (if s - adj a1 (mn a2 a3) (mn m a1) < 0 then -(s - adj a1 (mn a2 a3) (mn m a1)) else s - adj a1 (mn a2 a3) (mn m a1))) / 4, mn m a1) := by
  unfold rtt_Sample.f
  rw [bounded_in a1 h0 (by omega), bounded_in a2 g0 (by omega), bounded_in a3 k0 (by omega)]
  simp only [Option.bind_some, if_true]
  have hd := mn_le a2 a3
  have hd0 : 0 ≤ mn a2 a3 := by rcases hd.2.2 with e | e <;> omega
  have hm := mn_le m a1
  have hadj : rtt_sample_adjusted.f a1 (mn a2 a3) (mn m a1) = some (adj a1 (mn a2 a3) (mn m a1)) := by
    unfold rtt_sample_adjusted.f adj
    rw [bounded_in a1 h0 (by omega)]
    simp only [Option.bind_some]
    rw [w_in (a1 - mn a2 a3) (by omega) (by omega)]
    split <;> rfl
  rw [hadj]; simp only [Option.bind_some]
  have ha : -65535 ≤ adj a1 (mn a2 a3) (mn m a1) ∧ adj a1 (mn a2 a3) (mn m a1) ≤ 65535 := by unfold adj; split <;> omega
  generalize adj a1 (mn a2 a3) (mn m a1) = A at *
  rw [w_in (s - A) (by omega) (by omega), w_in (7 * s) (by omega) (by omega), w_in (7 * s + A) (by omega) (by omega), w_in (-(s - A)) (by omega) (by omega),
    w_in (3 * v) (by omega) (by omega), w_in (3 * v + -(s - A)) (by omega) (by omega), w_in (3 * v + (s - A)) (by omega) (by omega)]
  split <;> rfl

theorem shown_true : dominolaw11_shown.f = some true := by decide +kernel

theorem tdiv_pos (a b : Int) (h : 0 ≤ a) : Int.tdiv a b = a / b := by
  rw [Int.tdiv_eq_ediv_of_nonneg h]


theorem rd_in {P : Int → Prop} {xs : List Int} (h : ∀ x ∈ xs, P x) (i : Int) (h0 : 0 ≤ i) (h1 : i < xs.length) : P (rd xs i) := by
  unfold rd
  have hi : i.toNat < xs.length := by omega
  have e : xs.getD i.toNat 0 = xs[i.toNat] := by simp [List.getD, hi]
  rw [e]
  exact h _ (List.getElem_mem hi)

theorem threshold_ge (a : Bool) (l s v m : Int) : ∃ t, rtt_Threshold.f a l s v m = some t ∧ ¬ t < 1 := by
  unfold rtt_Threshold.f
  exact ⟨_, rfl, by unfold mx; split <;> omega⟩

theorem pto_ge (a : Bool) (l s v m : Int) (s0 : 0 ≤ s) (s1 : s ≤ 65535) (v0 : 0 ≤ v) (v1 : v ≤ 65535) : ∃ t, rtt_Pto.f a l s v m 0 0 = some t ∧ ¬ t < 1 := by
  unfold rtt_Pto.f
  rw [bounded_in 0 (by omega) (by omega)]
  simp only [Option.bind_some]
  refine ⟨_, rfl, ?_⟩
  have e : (mx 0 (mn 0 10)).toNat = 0 := by decide
  rw [e, w_in (v * 4) (by omega) (by omega)]
  have hx : 1 ≤ mx 1 (v * 4) ∧ mx 1 (v * 4) ≤ 262140 := by unfold mx; split <;> omega
  generalize mx 1 (v * 4) = x at *
  rw [w_in (s + x) (by omega) (by omega), w_in (s + x + 0) (by omega) (by omega), w_in ((s + x + 0) * 2 ^ 0) (by omega) (by omega)]
  omega

/-- What a round hands on: the least is the least so far, and what is smooth lies between. -/
def Fine (a : Bool) (lo hi s v m x : Int) : Prop := (a = false ∧ lo = x ∧ hi = x) ∨ (a = true ∧ m = lo ∧ lo ≤ s ∧ s ≤ hi ∧ 0 ≤ v ∧ v ≤ 65535)

theorem between_loop (x0 x1 : List Int) (x2 : Int) (h16 : ∀ x ∈ x0, 0 ≤ x ∧ x ≤ 65535) (h8 : ∀ x ∈ x1, 0 ≤ x ∧ x ≤ 255) (b0 : 0 ≤ x2) (b1 : x2 ≤ 255) (hn : x0.length ≤ 100) (d : Nat) :
    ∀ (k : Nat) (lo hi i : Int) (a : Bool) (l s v m : Int), 0 ≤ i → i ≤ x0.length → (x0.length - i : Int) = d → 2 * d + 1 < k → 0 ≤ lo → lo ≤ hi → hi ≤ 65535 →
      (i < x0.length → Fine a lo hi s v m (rd x0 i)) →
      dominolaw11_RttBetween.l0 k x0 x1 x2 lo hi i a l s v m = some true := by
  induction d with
  | zero =>
    intro k lo hi i a l s v m h0 h1 hd hk _ _ _ _
    obtain ⟨k, rfl⟩ : ∃ m, k = m + 1 := ⟨k - 1, by omega⟩
    simp only [dominolaw11_RttBetween.l0]
    rw [if_neg (by omega)]
  | succ d ih =>
    intro k lo hi i a l s v m h0 h1 hd hk lo0 lohi hi1 hf
    obtain ⟨k, rfl⟩ : ∃ m, k = m + 2 := ⟨k - 2, by omega⟩
    have hlt : i < (x0.length : Int) := by omega
    have hv := rd_in h16 i h0 hlt
    have step : ∀ dl : Int, 0 ≤ dl → dl ≤ 255 → dominolaw11_RttBetween.j2 (k + 1) x0 x1 x2 lo hi i dl a l s v m = some true := by
      intro dl d0 d1
      simp only [dominolaw11_RttBetween.j2]
      rw [if_pos h0, if_pos hlt, w_in x2 (by omega) (by omega), w_in (rd x0 i) (by omega) (by omega)]
      have fin : ∀ S V l' : Int, mn lo (rd x0 i) ≤ S → S ≤ mx hi (rd x0 i) → 0 ≤ V → V ≤ 65535 →
          ((some (true, l', S, V, mn lo (rd x0 i))).bind fun bt145 => (if bt145.2.2.2.2 = (mn lo (rd x0 i)) then (if bt145.2.2.1 < (mn lo (rd x0 i)) then (some false) else (if bt145.2.2.1 > (mx hi (rd x0 i)) then (some false) else (if bt145.2.2.2.1 < 0 then (some false) else (if bt145.2.2.2.1 > 65535 then (some false) else ((rtt_Threshold.f bt145.1 bt145.2.1 bt145.2.2.1 bt145.2.2.2.1 bt145.2.2.2.2).bind fun t152 => (if t152 < 1 then (some false) else ((rtt_Pto.f bt145.1 bt145.2.1 bt145.2.2.1 bt145.2.2.2.1 bt145.2.2.2.2 0 0).bind fun t153 => (if t153 < 1 then (some false) else (dominolaw11_RttBetween.l0 k x0 x1 x2 (mn lo (rd x0 i)) (mx hi (rd x0 i)) (wrap64 (i + 1)) bt145.1 bt145.2.1 bt145.2.2.1 bt145.2.2.2.1 bt145.2.2.2.2))))))))) else (some false))) = some true := by
        intro S V l' g0 g1 g2 g3
        have hm := mn_le lo (rd x0 i)
        have hx := mx_ge hi (rd x0 i)
        have M0 : 0 ≤ mn lo (rd x0 i) := by rcases hm.2.2 with e | e <;> omega
        have X1 : mx hi (rd x0 i) ≤ 65535 := by rcases hx.2.2 with e | e <;> omega
        simp only [Option.bind_some, if_true]
        rw [if_neg (by omega), if_neg (by omega), if_neg (by omega), if_neg (by omega)]
        obtain ⟨t, ht, t1⟩ := threshold_ge true l' S V (mn lo (rd x0 i))
        rw [ht]; simp only [Option.bind_some]
        rw [if_neg t1]
        obtain ⟨u, hu, u1⟩ := pto_ge true l' S V (mn lo (rd x0 i)) (by omega) (by omega) g2 g3
        rw [hu]; simp only [Option.bind_some]
        rw [if_neg u1, w_in (i + 1) (by omega) (by omega)]
        exact ih k _ _ (i + 1) true l' S V _ (by omega) (by omega) (by omega) (by omega) M0 (by omega) X1 (fun _ => .inr ⟨rfl, rfl, g0, g1, g2, g3⟩)
      rcases hf hlt with ⟨rfl, e1, e2⟩ | ⟨rfl, e1, s0, s1, v0, v1⟩
      · rw [sample_first l s v m (rd x0 i) dl x2 hv.1 hv.2 d0 (by omega) b0 (by omega)]
        have em : mn lo (rd x0 i) = rd x0 i := by rw [e1]; unfold mn; split <;> rfl
        have ex : mx hi (rd x0 i) = rd x0 i := by rw [e2]; unfold mx; split <;> rfl
        have := fin (rd x0 i) (rd x0 i / 2) (rd x0 i) (by omega) (by omega) (by omega) (by omega)
        rw [em] at this ⊢
        exact this
      · subst e1
        rw [sample_next l s v m (rd x0 i) dl x2 hv.1 hv.2 d0 (by omega) b0 (by omega) (by omega) (by omega) v0 v1]
        have hm := mn_le m (rd x0 i)
        have hx := mx_ge hi (rd x0 i)
        have hd := mn_le dl x2
        have hA : mn m (rd x0 i) ≤ adj (rd x0 i) (mn dl x2) (mn m (rd x0 i)) ∧ adj (rd x0 i) (mn dl x2) (mn m (rd x0 i)) ≤ rd x0 i := by
          have d0' : 0 ≤ mn dl x2 := by rcases hd.2.2 with e | e <;> omega
          unfold adj; split <;> omega
        generalize adj (rd x0 i) (mn dl x2) (mn m (rd x0 i)) = A at *
        have M0 : 0 ≤ mn m (rd x0 i) := by rcases hm.2.2 with e | e <;> omega
        exact fin _ _ _ (by omega) (by omega) (by split <;> omega) (by split <;> omega)
    simp only [dominolaw11_RttBetween.l0]
    rw [if_pos hlt]
    by_cases c : i < (x1.length : Int)
    · rw [if_pos c, if_pos h0]
      have hv1 := rd_in h8 i h0 c
      rw [w_in (rd x1 i) (by omega) (by omega)]
      exact step _ hv1.1 hv1.2
    · rw [if_neg c]
      exact step 0 (by omega) (by omega)

theorem RttBetween : dominolaw11_RttBetween.Pure := by
  intro l0 l1 a2 _ _ w0 _ _ w1 w2
  have h16 : ∀ x ∈ l0, 0 ≤ x ∧ x ≤ 65535 := fun x hx => u16_in (w0 x hx)
  have h8 : ∀ x ∈ l1, 0 ≤ x ∧ x ≤ 255 := fun x hx => u8_in (w1 x hx)
  have b2 := u8_in w2
  refine ⟨300, ?_⟩
  unfold dominolaw11_RttBetween.f
  by_cases c : (l0.length : Int) > 100
  · rw [if_pos c]; simp only [dominolaw11_RttBetween.j0, if_true]; rw [shown_true]; rfl
  · rw [if_neg c]
    by_cases c0 : (l0.length : Int) = 0
    · rw [if_pos c0]; simp only [dominolaw11_RttBetween.j0, if_true]; rw [shown_true]; rfl
    · rw [if_neg c0, shown_true]
      simp only [Option.bind_some, dominolaw11_RttBetween.j0, rtt_New.f]
      have hlt : (0 : Int) < l0.length := by omega
      have hv := rd_in h16 0 (by omega) hlt
      rw [if_neg (by decide), if_pos hlt, w_in (rd l0 0) (by omega) (by omega)]
      exact between_loop l0 l1 a2 h16 h8 b2.1 b2.2 (by omega) l0.length _ _ _ 0 false 0 10 5 0 (by omega) (by omega) (by omega) (by omega) hv.1 (by omega) hv.2 (fun _ => .inl ⟨rfl, rfl, rfl⟩)

end Go.Proofs.Ytecjkkofoafhaaa.Pure
