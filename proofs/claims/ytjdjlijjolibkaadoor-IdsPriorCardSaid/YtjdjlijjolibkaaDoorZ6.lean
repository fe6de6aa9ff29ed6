/- The law IdsPrior, part 6 of 6: what is proved: for every input that can be read the call of IdsPrior returns true and leaves its arguments alone. No conditions but the listed tables of the card. -/
import Derived.OpenShut
import Derived.LaidHandle
import Derived.LaidMore
import Derived.Stop.Joined
import Derived.Test.YtjdjlijjolibkaaDoorRows
import Derived.Test.YtjdjlijjolibkaaDoorCards
import Derived.Test.YtjdjlijjolibkaaDoorTie
import Derived.SevenTiedAt
import Derived.Test.YtjdjlijjolibkaaDoorZ5
/- The law IdsPrior in plain Lean: whoever is told to retire all below a number retires them, tells so, and goes on with one that is not below. -/
namespace Go.Proofs.YtjdjlijjolibkaaDoor.V
open Go.RowKit
/-! #### a state is itself -/
theorem whole1 (d : D_ids_State) (a b c p now : Int) (L : List D_ids_Own) : ∀ (suf pre : List D_ids_Given) (m : Nat), d.2.2.2.2.1 = pre ++ suf → suf.length < m → (pre ++ suf).length ≤ 100000 →
    law18_whole_1 m ((pre.length : Nat) : Int) d a b c p now L pre = some ((a, b, c, L, pre ++ suf, p, now, ()), ()) := by
  intro suf
  induction suf with
  | nil =>
    intro pre m hd hm _
    obtain ⟨m, rfl⟩ : ∃ k, m = k + 1 := ⟨m - 1, by omega⟩
    rw [List.append_nil] at hd
    have cc : decide (((pre.length : Nat) : Int) < ((pre.length : Nat) : Int)) = false := by simp
    simp only [law18_whole_1, t_law18_whole_1, hd, cc, cond_false, List.append_nil]
  | cons x suf ih =>
    intro pre m hd hm hl
    obtain ⟨m, rfl⟩ : ∃ k, m = k + 1 := ⟨m - 1, by omega⟩
    have e : (x.1, x.2.1, x.2.2.1, x.2.2.2.1, x.2.2.2.2.1, x.2.2.2.2.2.1, ()) = x := rfl
    have c2 : pre.length + [x].length ≤ 4294967296 := by simp at hl ⊢; omega
    simp only [law18_whole_1, t_law18_whole_1, hd, mid_lt, nn, and_true, decide_true, cond_true, toNat_len, getD_mid, e, c2]
    rw [mid_next pre x x suf (by omega)]
    have := ih (pre ++ [x]) m (by simpa using hd) (by simp at hm; omega) (by simpa using hl)
    simpa using this
theorem whole0 (d : D_ids_State) (a b c p now : Int) (hp : d.2.2.2.2.1.length ≤ 100000) : ∀ (suf pre : List D_ids_Own) (m : Nat), d.2.2.2.1 = pre ++ suf → suf.length < m → (pre ++ suf).length ≤ 100000 →
    law18_whole_0 m ((pre.length : Nat) : Int) d a b c p now pre = some ((a, b, c, pre ++ suf, d.2.2.2.2.1, p, now, ()), ()) := by
  intro suf
  induction suf with
  | nil =>
    intro pre m hd hm _
    obtain ⟨m, rfl⟩ : ∃ k, m = k + 1 := ⟨m - 1, by omega⟩
    rw [List.append_nil] at hd
    have cc : decide (((pre.length : Nat) : Int) < ((pre.length : Nat) : Int)) = false := by simp
    simp only [law18_whole_0, t_law18_whole_0, hd, cc, cond_false, List.append_nil, law18_whole_1'_eq, b_law18_whole_1']
    have := whole1 d a b c p now pre d.2.2.2.2.1 [] (Int.toNat ((((List.length d.2.2.2.2.1) : Nat) : Int) - 0) + 2) rfl (by omega) (by simpa using hp)
    simpa using this
  | cons x suf ih =>
    intro pre m hd hm hl
    obtain ⟨m, rfl⟩ : ∃ k, m = k + 1 := ⟨m - 1, by omega⟩
    have e : (x.1, x.2.1, x.2.2.1, x.2.2.2.1, x.2.2.2.2.1, ()) = x := rfl
    have c2 : pre.length + [x].length ≤ 4294967296 := by simp at hl ⊢; omega
    simp only [law18_whole_0, t_law18_whole_0, hd, mid_lt, nn, and_true, decide_true, cond_true, toNat_len, getD_mid, e, c2]
    rw [mid_next pre x x suf (by omega)]
    have := ih (pre ++ [x]) m (by simpa using hd) (by simp at hm; omega) (by simpa using hl)
    simpa using this
theorem whole_is (s : D_ids_State) (hl : s.2.2.2.1.length ≤ 100000) (hp : s.2.2.2.2.1.length ≤ 100000) : law18_whole s = some (s, ()) := by
  rw [law18_whole_eq, b_law18_whole, law18_whole_0'_eq, b_law18_whole_0']
  have := whole0 s s.1 s.2.1 s.2.2.1 s.2.2.2.2.2.1 s.2.2.2.2.2.2.1 hp s.2.2.2.1 [] (Int.toNat ((((List.length s.2.2.2.1) : Nat) : Int) - 0) + 2) rfl (by omega) (by simpa using hl)
  simpa using this
theorem ba_beq (s : ByteArray) : (s == s) = true := by
  rcases s with ⟨d⟩
  show (d == d) = true
  exact beq_self_eq_true d
theorem same1 (d : D_ids_State) : ∀ (suf pre : List D_ids_Given) (m : Nat), d.2.2.2.2.1 = pre ++ suf → suf.length < m → (pre ++ suf).length ≤ 100000 → ref18_Same_1 m ((pre.length : Nat) : Int) d d = some (true, ()) := by
  intro suf
  induction suf with
  | nil =>
    intro pre m hd hm _
    obtain ⟨m, rfl⟩ : ∃ k, m = k + 1 := ⟨m - 1, by omega⟩
    simp only [ref18_Same_1, t_ref18_Same_1, hd, mid_end, decide_false, cond_false]
  | cons x suf ih =>
    intro pre m hd hm hl
    obtain ⟨m, rfl⟩ : ∃ k, m = k + 1 := ⟨m - 1, by omega⟩
    simp only [ref18_Same_1, t_ref18_Same_1, hd, mid_lt, nn, and_true, decide_true, cond_true, toNat_len, getD_mid, beq_self_eq_true, ba_beq, Bool.and_self, Bool.not_true, cond_false]
    rw [mid_next pre x x suf (by omega)]
    exact ih (pre ++ [x]) m (by simpa using hd) (by simp at hm; omega) (by simpa using hl)
theorem same0 (d : D_ids_State) (hp : d.2.2.2.2.1.length ≤ 100000) : ∀ (suf pre : List D_ids_Own) (m : Nat), d.2.2.2.1 = pre ++ suf → suf.length < m → (pre ++ suf).length ≤ 100000 → ref18_Same_0 m ((pre.length : Nat) : Int) d d = some (true, ()) := by
  intro suf
  induction suf with
  | nil =>
    intro pre m hd hm _
    obtain ⟨m, rfl⟩ : ∃ k, m = k + 1 := ⟨m - 1, by omega⟩
    simp only [ref18_Same_0, t_ref18_Same_0, hd, mid_end, decide_false, cond_false, ref18_Same_1'_eq, b_ref18_Same_1']
    have := same1 d d.2.2.2.2.1 [] (Int.toNat ((((List.length d.2.2.2.2.1) : Nat) : Int) - 0) + 2) rfl (by omega) (by simpa using hp)
    simpa using this
  | cons x suf ih =>
    intro pre m hd hm hl
    obtain ⟨m, rfl⟩ : ∃ k, m = k + 1 := ⟨m - 1, by omega⟩
    simp only [ref18_Same_0, t_ref18_Same_0, hd, mid_lt, nn, and_true, decide_true, cond_true, toNat_len, getD_mid, beq_self_eq_true, ba_beq, Bool.and_self, Bool.not_true, cond_false]
    rw [mid_next pre x x suf (by omega)]
    exact ih (pre ++ [x]) m (by simpa using hd) (by simp at hm; omega) (by simpa using hl)
theorem same_self (s : D_ids_State) (hl : s.2.2.2.1.length ≤ 100000) (hp : s.2.2.2.2.1.length ≤ 100000) : ref18_Same s s = some (true, ()) := by
  rw [ref18_Same_eq, b_ref18_Same]
  simp only [bne_self_eq_false, cond_false, ref18_Same_0'_eq, b_ref18_Same_0']
  have := same0 s hp s.2.2.2.1 [] (Int.toNat ((((List.length s.2.2.2.1) : Nat) : Int) - 0) + 2) rfl (by omega) (by simpa using hl)
  simpa using this
/-! #### the run by numbers -/
def abcS : ByteArray := ByteArray.mk (List.toArray ((97 : UInt8) :: 98 :: 99 :: 100 :: 101 :: 102 :: 103 :: 104 :: []))
def tokS : ByteArray := ByteArray.mk (List.toArray ((48 : UInt8) :: 49 :: 50 :: 51 :: 52 :: 53 :: 54 :: 55 :: 56 :: 57 :: 97 :: 98 :: 99 :: 100 :: 101 :: 102 :: []))
def gX (seed : Int) (c : Nat) : ByteArray := if c = 5001 then abcS else if c = 5002 then tokS else phi seed 1 c
theorem gX_low (seed : Int) (c : Nat) (h : c < 2002) : gX seed c = phi seed 1 c := by
  unfold gX
  rw [if_neg (by omega), if_neg (by omega)]
def stS (n : Nat) : StT Nat := (0, 0, 2, [(0, 1, 0, false, false, ())], (0, 1, 0, true, false, false, ()) :: (List.range n).map (fun j => (((j + 1 : Nat) : Int), 2 * (j + 1) + 1, 2 * (j + 1) + 2, false, false, false, ())), 0, 0, ())
def stO : StT Nat := (0, 1, 4, [(0, 1, 0, false, false, ()), (1, 3, 4, true, false, ()), (2, 5, 6, true, false, ()), (3, 7, 8, true, false, ())], [(0, 1, 0, true, false, false, ())], 0, 0, ())
def tell (p : Int) (x : Int × StT Nat) : Int × StT Nat := match nextP (fun _ => true) (fun _ => true) 0 x.2 with
  | some y => (if y.2.1 = 25 ∧ y.2.2.1 < p then x.1 + 1 else x.1, y.1)
  | none => x
def tells (p : Int) : Nat → Int × StT Nat → Int × StT Nat
  | 0, x => x
  | n + 1, x => tells p n (tell p x)
def tellsOk (p : Int) : Nat → Int × StT Nat → Bool
  | 0, _ => true
  | n + 1, x => okS x.2 && decide (0 ≤ x.1 ∧ x.1 ≤ 100) && tellsOk p n (tell p x)
def goneN (n : Nat) (p : Int) : Int := (((List.range (n + 1)).filter fun j => decide (((j : Nat) : Int) < p)).length : Nat)
def liveN (n : Nat) (p : Int) : Int := (((List.range (n + 1)).filter fun j => !decide (((j : Nat) : Int) < p)).length : Nat)
def nowN (n : Nat) (p : Int) : Int := if p > 0 then (if p ≤ (n : Int) then p else 5) else 0
def chkP (n : Nat) (p : Nat) : Bool := okS (stS n) && match newP (stS n) 5 ((p : Nat) : Int) 5001 5002 with
  | none => decide (liveN n p + 1 > 4)
  | some t => !decide (liveN n p + 1 > 4) && (okS t && tellsOk p 9 (tell p (0, t))) && decide ((tells p 9 (tell p (0, t))).1 = goneN n p) && decide ((tells p 9 (tell p (0, t))).2.2.2.2.2.2.2.1 = nowN n p) && decide ((tells p 9 (tell p (0, t))).2.2.2.2.2.2.1 = ((p : Nat) : Int))
theorem chkP_all : ∀ n : _root_.Fin 4, ∀ p : _root_.Fin 6, chkP n.val p.val = true := by decide +kernel
theorem chk_is (n p : Nat) (hn : n < 4) (hp : p < 6) : okS (stS n) = true ∧ ((newP (stS n) 5 ((p : Nat) : Int) 5001 5002 = none ∧ liveN n p + 1 > 4) ∨ ∃ t, newP (stS n) 5 ((p : Nat) : Int) 5001 5002 = some t ∧ ¬ (liveN n p + 1 > 4) ∧ (okS t = true ∧ tellsOk p 9 (tell p (0, t)) = true) ∧
    (tells p 9 (tell p (0, t))).1 = goneN n p ∧ (tells p 9 (tell p (0, t))).2.2.2.2.2.2.2.1 = nowN n p ∧ (tells p 9 (tell p (0, t))).2.2.2.2.2.2.1 = ((p : Nat) : Int)) := by
  have h : chkP n p = true := chkP_all ⟨n, hn⟩ ⟨p, hp⟩
  unfold chkP at h
  generalize newP (stS n) 5 ((p : Nat) : Int) 5001 5002 = o at h ⊢
  rw [Bool.and_eq_true] at h
  refine ⟨h.1, ?_⟩
  have h := h.2
  cases o with
  | none => exact .inl ⟨rfl, of_decide_eq_true h⟩
  | some t =>
    rw [Bool.and_eq_true, Bool.and_eq_true, Bool.and_eq_true, Bool.and_eq_true, Bool.and_eq_true] at h
    obtain ⟨⟨⟨⟨k1, k2⟩, k3⟩, k4⟩, k5⟩ := h
    have k1 : ¬ (liveN n p + 1 > 4) := by simpa using k1
    have k3 := of_decide_eq_true k3
    have k4 := of_decide_eq_true k4
    have k5 := of_decide_eq_true k5
    exact .inr ⟨t, rfl, k1, k2, k3, k4, k5⟩
section
variable {seed : Int}
theorem gX_zero : gX seed 0 = ⟨#[]⟩ := rfl
theorem apart_low (n : Nat) (hn : n < 4) (q : Int) (c t : Nat) (hc : c < 2002) (ht : t < 2002) : Apart (gX seed) (stS n).2.2.2.2.1 q c t := by
  intro x hx
  have hb : x.2.1 < 2002 ∧ x.2.2.1 < 2002 := by
    simp only [stS, List.mem_cons, List.mem_map, List.mem_range] at hx
    rcases hx with rfl | ⟨j, hj, rfl⟩
    · simp
    · simp only; omega
  rw [gX_low _ _ hb.1, gX_low _ _ hc, gX_low _ _ hb.2, gX_low _ _ ht]
  exact apart_phi seed 1 (.inr rfl) [x] q c t x (by simp)
theorem apart_new (n : Nat) (hn : n < 4) (h : ∀ j : Nat, j < 4 → phi seed 1 (2 * j + 1) ≠ abcS) : Apart (gX seed) (stS n).2.2.2.2.1 5 5001 5002 := by
  intro x hx
  simp only [stS, List.mem_cons, List.mem_map, List.mem_range] at hx
  have e : gX seed 5001 = abcS := rfl
  rw [e]
  rcases hx with rfl | ⟨j, hj, rfl⟩
  · refine ⟨⟨fun e => ?_, fun e => by simp at e⟩, fun e => by simp at e⟩
    rw [gX_low _ _ (by decide)] at e
    exact absurd e (h 0 (by omega))
  · refine ⟨⟨fun e => ?_, fun e => by simp only at e; omega⟩, fun e => by simp only at e; omega⟩
    simp only at e
    rw [gX_low _ _ (by omega)] at e
    exact absurd e (h (j + 1) (by omega))
theorem seg5 (n p e gone told : Int) (d : D_ids_State) (s : StT Nat) (h : okS s = true) (ht : 0 ≤ told ∧ told ≤ 100) :
    law18_IdsPrior_5 n p e gone told d (conG (gX seed) seed 0 s) = law18_IdsPrior_7 n p e gone (tell p (told, s)).1 (conG (gX seed) seed 0 s) (conG (gX seed) seed 0 (tell p (told, s)).2) := by
  rw [law18_IdsPrior_5_eq, b_law18_IdsPrior_5, next_con gX_zero s (okS_is h) 100 (by omega)]
  unfold tell
  simp only
  cases nextP (fun _ => true) (fun _ => true) 0 s with
  | none => simp only [obind_some, cond_false, law18_IdsPrior_6_eq, b_law18_IdsPrior_6]
  | some y =>
    obtain ⟨y1, k, q, pr, c, t⟩ := y
    have e1 : (frId (mapF (phi seed 0) (phi seed 0) (k, q, pr, c, t))).1 = k := rfl
    have e2 : (frId (mapF (phi seed 0) (phi seed 0) (k, q, pr, c, t))).2.2.2.2.2.1 = q := rfl
    simp only [obind_some, cond_true, e1, e2]
    by_cases h1 : k = 25
    · by_cases h2 : q < p
      · simp only [cond_true, h2, decide_true, and_self, h1, beq_self_eq_true, if_true]
        rw [wrap_i64 _ (by omega) (by omega)]
      · simp only [beq_of h1, cond_true, h2, decide_false, cond_false, and_false, if_false, law18_IdsPrior_6_eq, b_law18_IdsPrior_6]
    · simp only [beq_false_of_ne h1, cond_false, h1, false_and, if_false, law18_IdsPrior_6_eq, b_law18_IdsPrior_6]
theorem seg7 (n p e gone told : Int) (d : D_ids_State) (s : StT Nat) (h : okS s = true) (ht : 0 ≤ told ∧ told ≤ 100) :
    law18_IdsPrior_7 n p e gone told d (conG (gX seed) seed 0 s) = law18_IdsPrior_9 n p e gone (tell p (told, s)).1 (conG (gX seed) seed 0 s) (conG (gX seed) seed 0 (tell p (told, s)).2) := by
  rw [law18_IdsPrior_7_eq, b_law18_IdsPrior_7, next_con gX_zero s (okS_is h) 100 (by omega)]
  unfold tell
  simp only
  cases nextP (fun _ => true) (fun _ => true) 0 s with
  | none => simp only [obind_some, cond_false, law18_IdsPrior_8_eq, b_law18_IdsPrior_8]
  | some y =>
    obtain ⟨y1, k, q, pr, c, t⟩ := y
    have e1 : (frId (mapF (phi seed 0) (phi seed 0) (k, q, pr, c, t))).1 = k := rfl
    have e2 : (frId (mapF (phi seed 0) (phi seed 0) (k, q, pr, c, t))).2.2.2.2.2.1 = q := rfl
    simp only [obind_some, cond_true, e1, e2]
    by_cases h1 : k = 25
    · by_cases h2 : q < p
      · simp only [cond_true, h2, decide_true, and_self, h1, beq_self_eq_true, if_true]
        rw [wrap_i64 _ (by omega) (by omega)]
      · simp only [beq_of h1, cond_true, h2, decide_false, cond_false, and_false, if_false, law18_IdsPrior_8_eq, b_law18_IdsPrior_8]
    · simp only [beq_false_of_ne h1, cond_false, h1, false_and, if_false, law18_IdsPrior_8_eq, b_law18_IdsPrior_8]
theorem seg9 (n p e gone told : Int) (d : D_ids_State) (s : StT Nat) (h : okS s = true) (ht : 0 ≤ told ∧ told ≤ 100) :
    law18_IdsPrior_9 n p e gone told d (conG (gX seed) seed 0 s) = law18_IdsPrior_11 n p e gone (tell p (told, s)).1 (conG (gX seed) seed 0 s) (conG (gX seed) seed 0 (tell p (told, s)).2) := by
  rw [law18_IdsPrior_9_eq, b_law18_IdsPrior_9, next_con gX_zero s (okS_is h) 100 (by omega)]
  unfold tell
  simp only
  cases nextP (fun _ => true) (fun _ => true) 0 s with
  | none => simp only [obind_some, cond_false, law18_IdsPrior_10_eq, b_law18_IdsPrior_10]
  | some y =>
    obtain ⟨y1, k, q, pr, c, t⟩ := y
    have e1 : (frId (mapF (phi seed 0) (phi seed 0) (k, q, pr, c, t))).1 = k := rfl
    have e2 : (frId (mapF (phi seed 0) (phi seed 0) (k, q, pr, c, t))).2.2.2.2.2.1 = q := rfl
    simp only [obind_some, cond_true, e1, e2]
    by_cases h1 : k = 25
    · by_cases h2 : q < p
      · simp only [cond_true, h2, decide_true, and_self, h1, beq_self_eq_true, if_true]
        rw [wrap_i64 _ (by omega) (by omega)]
      · simp only [beq_of h1, cond_true, h2, decide_false, cond_false, and_false, if_false, law18_IdsPrior_10_eq, b_law18_IdsPrior_10]
    · simp only [beq_false_of_ne h1, cond_false, h1, false_and, if_false, law18_IdsPrior_10_eq, b_law18_IdsPrior_10]
theorem seg11 (n p e gone told : Int) (d : D_ids_State) (s : StT Nat) (h : okS s = true) (ht : 0 ≤ told ∧ told ≤ 100) :
    law18_IdsPrior_11 n p e gone told d (conG (gX seed) seed 0 s) = law18_IdsPrior_13 n p e gone (tell p (told, s)).1 (conG (gX seed) seed 0 s) (conG (gX seed) seed 0 (tell p (told, s)).2) := by
  rw [law18_IdsPrior_11_eq, b_law18_IdsPrior_11, next_con gX_zero s (okS_is h) 100 (by omega)]
  unfold tell
  simp only
  cases nextP (fun _ => true) (fun _ => true) 0 s with
  | none => simp only [obind_some, cond_false, law18_IdsPrior_12_eq, b_law18_IdsPrior_12]
  | some y =>
    obtain ⟨y1, k, q, pr, c, t⟩ := y
    have e1 : (frId (mapF (phi seed 0) (phi seed 0) (k, q, pr, c, t))).1 = k := rfl
    have e2 : (frId (mapF (phi seed 0) (phi seed 0) (k, q, pr, c, t))).2.2.2.2.2.1 = q := rfl
    simp only [obind_some, cond_true, e1, e2]
    by_cases h1 : k = 25
    · by_cases h2 : q < p
      · simp only [cond_true, h2, decide_true, and_self, h1, beq_self_eq_true, if_true]
        rw [wrap_i64 _ (by omega) (by omega)]
      · simp only [beq_of h1, cond_true, h2, decide_false, cond_false, and_false, if_false, law18_IdsPrior_12_eq, b_law18_IdsPrior_12]
    · simp only [beq_false_of_ne h1, cond_false, h1, false_and, if_false, law18_IdsPrior_12_eq, b_law18_IdsPrior_12]
theorem seg13 (n p e gone told : Int) (d : D_ids_State) (s : StT Nat) (h : okS s = true) (ht : 0 ≤ told ∧ told ≤ 100) :
    law18_IdsPrior_13 n p e gone told d (conG (gX seed) seed 0 s) = law18_IdsPrior_15 n p e gone (tell p (told, s)).1 (conG (gX seed) seed 0 s) (conG (gX seed) seed 0 (tell p (told, s)).2) := by
  rw [law18_IdsPrior_13_eq, b_law18_IdsPrior_13, next_con gX_zero s (okS_is h) 100 (by omega)]
  unfold tell
  simp only
  cases nextP (fun _ => true) (fun _ => true) 0 s with
  | none => simp only [obind_some, cond_false, law18_IdsPrior_14_eq, b_law18_IdsPrior_14]
  | some y =>
    obtain ⟨y1, k, q, pr, c, t⟩ := y
    have e1 : (frId (mapF (phi seed 0) (phi seed 0) (k, q, pr, c, t))).1 = k := rfl
    have e2 : (frId (mapF (phi seed 0) (phi seed 0) (k, q, pr, c, t))).2.2.2.2.2.1 = q := rfl
    simp only [obind_some, cond_true, e1, e2]
    by_cases h1 : k = 25
    · by_cases h2 : q < p
      · simp only [cond_true, h2, decide_true, and_self, h1, beq_self_eq_true, if_true]
        rw [wrap_i64 _ (by omega) (by omega)]
      · simp only [beq_of h1, cond_true, h2, decide_false, cond_false, and_false, if_false, law18_IdsPrior_14_eq, b_law18_IdsPrior_14]
    · simp only [beq_false_of_ne h1, cond_false, h1, false_and, if_false, law18_IdsPrior_14_eq, b_law18_IdsPrior_14]
theorem seg15 (n p e gone told : Int) (d : D_ids_State) (s : StT Nat) (h : okS s = true) (ht : 0 ≤ told ∧ told ≤ 100) :
    law18_IdsPrior_15 n p e gone told d (conG (gX seed) seed 0 s) = law18_IdsPrior_17 n p e gone (tell p (told, s)).1 (conG (gX seed) seed 0 s) (conG (gX seed) seed 0 (tell p (told, s)).2) := by
  rw [law18_IdsPrior_15_eq, b_law18_IdsPrior_15, next_con gX_zero s (okS_is h) 100 (by omega)]
  unfold tell
  simp only
  cases nextP (fun _ => true) (fun _ => true) 0 s with
  | none => simp only [obind_some, cond_false, law18_IdsPrior_16_eq, b_law18_IdsPrior_16]
  | some y =>
    obtain ⟨y1, k, q, pr, c, t⟩ := y
    have e1 : (frId (mapF (phi seed 0) (phi seed 0) (k, q, pr, c, t))).1 = k := rfl
    have e2 : (frId (mapF (phi seed 0) (phi seed 0) (k, q, pr, c, t))).2.2.2.2.2.1 = q := rfl
    simp only [obind_some, cond_true, e1, e2]
    by_cases h1 : k = 25
    · by_cases h2 : q < p
      · simp only [cond_true, h2, decide_true, and_self, h1, beq_self_eq_true, if_true]
        rw [wrap_i64 _ (by omega) (by omega)]
      · simp only [beq_of h1, cond_true, h2, decide_false, cond_false, and_false, if_false, law18_IdsPrior_16_eq, b_law18_IdsPrior_16]
    · simp only [beq_false_of_ne h1, cond_false, h1, false_and, if_false, law18_IdsPrior_16_eq, b_law18_IdsPrior_16]
theorem seg17 (n p e gone told : Int) (d : D_ids_State) (s : StT Nat) (h : okS s = true) (ht : 0 ≤ told ∧ told ≤ 100) :
    law18_IdsPrior_17 n p e gone told d (conG (gX seed) seed 0 s) = law18_IdsPrior_19 n p e gone (tell p (told, s)).1 (conG (gX seed) seed 0 s) (conG (gX seed) seed 0 (tell p (told, s)).2) := by
  rw [law18_IdsPrior_17_eq, b_law18_IdsPrior_17, next_con gX_zero s (okS_is h) 100 (by omega)]
  unfold tell
  simp only
  cases nextP (fun _ => true) (fun _ => true) 0 s with
  | none => simp only [obind_some, cond_false, law18_IdsPrior_18_eq, b_law18_IdsPrior_18]
  | some y =>
    obtain ⟨y1, k, q, pr, c, t⟩ := y
    have e1 : (frId (mapF (phi seed 0) (phi seed 0) (k, q, pr, c, t))).1 = k := rfl
    have e2 : (frId (mapF (phi seed 0) (phi seed 0) (k, q, pr, c, t))).2.2.2.2.2.1 = q := rfl
    simp only [obind_some, cond_true, e1, e2]
    by_cases h1 : k = 25
    · by_cases h2 : q < p
      · simp only [cond_true, h2, decide_true, and_self, h1, beq_self_eq_true, if_true]
        rw [wrap_i64 _ (by omega) (by omega)]
      · simp only [beq_of h1, cond_true, h2, decide_false, cond_false, and_false, if_false, law18_IdsPrior_18_eq, b_law18_IdsPrior_18]
    · simp only [beq_false_of_ne h1, cond_false, h1, false_and, if_false, law18_IdsPrior_18_eq, b_law18_IdsPrior_18]
theorem seg19 (n p e gone told : Int) (d : D_ids_State) (s : StT Nat) (h : okS s = true) (ht : 0 ≤ told ∧ told ≤ 100) :
    law18_IdsPrior_19 n p e gone told d (conG (gX seed) seed 0 s) = law18_IdsPrior_21 n p e gone (tell p (told, s)).1 (conG (gX seed) seed 0 s) (conG (gX seed) seed 0 (tell p (told, s)).2) := by
  rw [law18_IdsPrior_19_eq, b_law18_IdsPrior_19, next_con gX_zero s (okS_is h) 100 (by omega)]
  unfold tell
  simp only
  cases nextP (fun _ => true) (fun _ => true) 0 s with
  | none => simp only [obind_some, cond_false, law18_IdsPrior_20_eq, b_law18_IdsPrior_20]
  | some y =>
    obtain ⟨y1, k, q, pr, c, t⟩ := y
    have e1 : (frId (mapF (phi seed 0) (phi seed 0) (k, q, pr, c, t))).1 = k := rfl
    have e2 : (frId (mapF (phi seed 0) (phi seed 0) (k, q, pr, c, t))).2.2.2.2.2.1 = q := rfl
    simp only [obind_some, cond_true, e1, e2]
    by_cases h1 : k = 25
    · by_cases h2 : q < p
      · simp only [cond_true, h2, decide_true, and_self, h1, beq_self_eq_true, if_true]
        rw [wrap_i64 _ (by omega) (by omega)]
      · simp only [beq_of h1, cond_true, h2, decide_false, cond_false, and_false, if_false, law18_IdsPrior_20_eq, b_law18_IdsPrior_20]
    · simp only [beq_false_of_ne h1, cond_false, h1, false_and, if_false, law18_IdsPrior_20_eq, b_law18_IdsPrior_20]
theorem seg21 (n p e gone told : Int) (d : D_ids_State) (s : StT Nat) (h : okS s = true) (ht : 0 ≤ told ∧ told ≤ 100) :
    law18_IdsPrior_21 n p e gone told d (conG (gX seed) seed 0 s) = law18_IdsPrior_23 n p e gone (tell p (told, s)).1 (conG (gX seed) seed 0 s) (conG (gX seed) seed 0 (tell p (told, s)).2) := by
  rw [law18_IdsPrior_21_eq, b_law18_IdsPrior_21, next_con gX_zero s (okS_is h) 100 (by omega)]
  unfold tell
  simp only
  cases nextP (fun _ => true) (fun _ => true) 0 s with
  | none => simp only [obind_some, cond_false, law18_IdsPrior_22_eq, b_law18_IdsPrior_22]
  | some y =>
    obtain ⟨y1, k, q, pr, c, t⟩ := y
    have e1 : (frId (mapF (phi seed 0) (phi seed 0) (k, q, pr, c, t))).1 = k := rfl
    have e2 : (frId (mapF (phi seed 0) (phi seed 0) (k, q, pr, c, t))).2.2.2.2.2.1 = q := rfl
    simp only [obind_some, cond_true, e1, e2]
    by_cases h1 : k = 25
    · by_cases h2 : q < p
      · simp only [cond_true, h2, decide_true, and_self, h1, beq_self_eq_true, if_true]
        rw [wrap_i64 _ (by omega) (by omega)]
      · simp only [beq_of h1, cond_true, h2, decide_false, cond_false, and_false, if_false, law18_IdsPrior_22_eq, b_law18_IdsPrior_22]
    · simp only [beq_false_of_ne h1, cond_false, h1, false_and, if_false, law18_IdsPrior_22_eq, b_law18_IdsPrior_22]
theorem tell_rest (n p e gone : Int) (d : D_ids_State) (x : Int × StT Nat) (h : tellsOk p 9 x = true) :
    law18_IdsPrior_5 n p e gone x.1 d (conG (gX seed) seed 0 x.2) = law18_IdsPrior_23 n p e gone (tells p 9 x).1 (conG (gX seed) seed 0 (tells p 8 x).2) (conG (gX seed) seed 0 (tells p 9 x).2) := by
  simp only [tellsOk, Bool.and_eq_true, decide_eq_true_eq] at h
  obtain ⟨⟨h1, t1⟩, ⟨h2, t2⟩, ⟨h3, t3⟩, ⟨h4, t4⟩, ⟨h5, t5⟩, ⟨h6, t6⟩, ⟨h7, t7⟩, ⟨h8, t8⟩, ⟨h9, t9⟩, _⟩ := h
  rw [seg5 n p e gone x.1 d x.2 h1 t1, seg7 n p e gone _ _ _ h2 t2, seg9 n p e gone _ _ _ h3 t3, seg11 n p e gone _ _ _ h4 t4, seg13 n p e gone _ _ _ h5 t5, seg15 n p e gone _ _ _ h6 t6, seg17 n p e gone _ _ _ h7 t7, seg19 n p e gone _ _ _ h8 t8, seg21 n p e gone _ _ _ h9 t9]
  simp only [tells, Prod.eta]
theorem prior_end (n : Nat) (p : Nat) (hn : n < 4) (i82 : Int) (hi : i82 = ((p : Nat) : Int)) (e : Int) (gone : Int) (told : Int) (d0 : D_ids_State) (u : StT Nat) (he : e = 0) (hg : told = gone) (hnow : u.2.2.2.2.2.2.1 = nowN n p) (hpr : u.2.2.2.2.2.1 = ((p : Nat) : Int)) :
    law18_IdsPrior_23 ((n : Nat) : Int) i82 e gone told d0 (conG (gX seed) seed 0 u) = some (true, ()) := by
  subst hi he hg
  have e1 : (conG (gX seed) seed 0 u).2.2.2.2.2.2.1 = nowN n p := hnow
  have e2 : (conG (gX seed) seed 0 u).2.2.2.2.2.1 = ((p : Nat) : Int) := hpr
  rw [law18_IdsPrior_23_eq, b_law18_IdsPrior_23, wrap_u64 _ (by omega) (by omega)]
  have fin : ∀ v : Int, v = nowN n p → law18_IdsPrior_24 ((p : Nat) : Int) 0 told told v (conG (gX seed) seed 0 u) = some (true, ()) := by
    rintro v rfl
    rw [law18_IdsPrior_24_eq, b_law18_IdsPrior_24]
    simp only [beq_self_eq_true, cond_true, e1, e2, shown18_is, obind_some]
  unfold nowN at fin
  by_cases h1 : ((p : Nat) : Int) > 0
  · by_cases h2 : ((p : Nat) : Int) ≤ ((n : Nat) : Int)
    · simp only [h1, h2, decide_true, cond_true]
      exact fin _ (by rw [if_pos h1, if_pos h2])
    · simp only [h1, h2, decide_true, decide_false, cond_true, cond_false]
      exact fin _ (by rw [if_pos h1, if_neg h2])
  · simp only [h1, decide_false, cond_false]
    exact fin _ (by rw [if_neg h1])
theorem prior_count (n : Nat) (p e : Int) (hn : n < 4) (s t : D_ids_State) : ∀ (k i m : Nat), i + k = n + 1 → k < m →
    law18_IdsPrior_1 m ((n : Nat) : Int) p e ((((List.range i).filter fun j => !decide (((j : Nat) : Int) < p)).length : Nat) : Int) ((((List.range i).filter fun j => decide (((j : Nat) : Int) < p)).length : Nat) : Int) ((i : Nat) : Int) s t =
      law18_IdsPrior_1 1 ((n : Nat) : Int) p e (liveN n p) (goneN n p) ((n + 1 : Nat) : Int) s t := by
  intro k
  induction k with
  | zero =>
    intro i m hi hm
    obtain ⟨m, rfl⟩ : ∃ k, m = k + 1 := ⟨m - 1, by omega⟩
    obtain rfl : i = n + 1 := by omega
    have c : decide (((n + 1 : Nat) : Int) ≤ ((n : Nat) : Int)) = false := by simp; omega
    unfold liveN goneN
    simp only [law18_IdsPrior_1, t_law18_IdsPrior_1, c, cond_false]
  | succ k ih =>
    intro i m hi hm
    obtain ⟨m, rfl⟩ : ∃ k, m = k + 1 := ⟨m - 1, by omega⟩
    have c : decide (((i : Nat) : Int) ≤ ((n : Nat) : Int)) = true := by simp; omega
    have e0 : law18_IdsPrior_1 (m + 1) = t_law18_IdsPrior_1 (law18_IdsPrior_1 m) := rfl
    have := ih (i + 1) m (by omega) (by omega)
    rw [← this, e0]
    simp only [t_law18_IdsPrior_1, c, cond_true, wrap_u64 ((i : Nat) : Int) (by omega) (by omega), law18_IdsPrior_3_eq, b_law18_IdsPrior_3, List.range_succ, List.filter_append, List.length_append]
    have w : IntKind.wrap .i64 (((i : Nat) : Int) + 1) = ((i + 1 : Nat) : Int) := by rw [wrap_i64 _ (by omega) (by omega)]; omega
    rw [w]
    have hl1 : ((List.range i).filter fun j => !decide (((j : Nat) : Int) < p)).length ≤ i := by
      have := List.length_filter_le (fun j => !decide (((j : Nat) : Int) < p)) (List.range i)
      simpa using this
    have hl2 : ((List.range i).filter fun j => decide (((j : Nat) : Int) < p)).length ≤ i := by
      have := List.length_filter_le (fun j => decide (((j : Nat) : Int) < p)) (List.range i)
      simpa using this
    by_cases hp : ((i : Nat) : Int) < p
    · have c1 : decide (((i : Nat) : Int) ≥ p) = false := by simp; omega
      simp only [c1, cond_false, hp, decide_true, List.filter_cons, List.filter_nil, Bool.not_true, Bool.false_eq_true, if_false, if_true, List.length_nil, List.length_cons, Nat.add_zero, Nat.zero_add]
      rw [wrap_i64 _ (by omega) (by omega)]
      rfl
    · have c1 : decide (((i : Nat) : Int) ≥ p) = true := by simp; omega
      simp only [c1, cond_true, hp, decide_false, List.filter_cons, List.filter_nil, Bool.not_false, Bool.false_eq_true, if_false, if_true, List.length_nil, List.length_cons, Nat.add_zero, Nat.zero_add]
      rw [wrap_i64 _ (by omega) (by omega)]
      rfl
theorem prior_cut (i p : Nat) (hi : i < 4) (e : Int) (s t : D_ids_State) :
    law18_IdsPrior_1' ((i : Nat) : Int) ((p : Nat) : Int) e 0 0 0 s t = law18_IdsPrior_1 1 ((i : Nat) : Int) ((p : Nat) : Int) e (liveN i p) (goneN i p) ((i + 1 : Nat) : Int) s t := by
  rw [law18_IdsPrior_1'_eq, b_law18_IdsPrior_1']
  have hcnt := prior_count i ((p : Nat) : Int) e hi s t (i + 1) 0 (Int.toNat (((i : Nat) : Int) - 0) + 2) (by omega) (by omega)
  simp only [List.range_zero, List.filter_nil, List.length_nil, Int.natCast_zero] at hcnt
  exact hcnt
theorem live_le (i : Nat) (p : Int) (hi : i < 4) : 0 ≤ liveN i p ∧ liveN i p ≤ 4 := by
  unfold liveN
  have := List.length_filter_le (fun j => !decide (((j : Nat) : Int) < p)) (List.range (i + 1))
  rw [List.length_range] at this
  omega
theorem prior_none (i p : Nat) (hi : i < 4) (s : D_ids_State) (hl : s.2.2.2.1.length ≤ 100000) (hl2 : s.2.2.2.2.1.length ≤ 100000) (hlv : liveN i ((p : Nat) : Int) + 1 > 4) :
    law18_IdsPrior_1' ((i : Nat) : Int) ((p : Nat) : Int) 180 0 0 0 s s = some (true, ()) := by
  rw [prior_cut i p hi]
  have hlive := live_le i ((p : Nat) : Int) hi
  have c7 : decide (((i + 1 : Nat) : Int) ≤ ((i : Nat) : Int)) = false := by simp; omega
  have hw := whole_is s hl hl2
  have hsm := same_self s hl hl2
  simp only [law18_IdsPrior_1, t_law18_IdsPrior_1, c7, cond_false]
  rw [wrap_i64 _ (by omega) (by omega)]
  simp only [hlv, decide_true, cond_true, beq_self_eq_true, hw, hsm, obind_some]
theorem prior_some (i p : Nat) (hi : i < 4) (s : D_ids_State) (t : StT Nat) (k1 : ¬ (liveN i ((p : Nat) : Int) + 1 > 4)) (hokT : okS t = true)
    (hT : ∀ r : Int × StT Nat, tell ((p : Nat) : Int) (0, t) = r → law18_IdsPrior_5 ((i : Nat) : Int) ((p : Nat) : Int) 0 (goneN i ((p : Nat) : Int)) r.1 (conG (gX seed) seed 0 t) (conG (gX seed) seed 0 r.2) = some (true, ())) :
    law18_IdsPrior_1' ((i : Nat) : Int) ((p : Nat) : Int) 0 0 0 0 s (conG (gX seed) seed 0 t) = some (true, ()) := by
  rw [prior_cut i p hi]
  have hlive := live_le i ((p : Nat) : Int) hi
  have c7 : decide (((i + 1 : Nat) : Int) ≤ ((i : Nat) : Int)) = false := by simp; omega
  simp only [law18_IdsPrior_1, t_law18_IdsPrior_1, c7, cond_false]
  rw [wrap_i64 _ (by omega) (by omega)]
  simp only [k1, decide_false, cond_false]
  rw [next_con gX_zero t (okS_is hokT) 100 (by omega)]
  unfold tell at hT
  simp only at hT
  cases hnx : nextP (fun _ => true) (fun _ => true) 0 t with
  | none =>
    rw [hnx] at hT
    simp only [obind_some, cond_false, law18_IdsPrior_4_eq, b_law18_IdsPrior_4]
    exact hT (0, t) rfl
  | some y =>
    rw [hnx] at hT
    obtain ⟨y1, kk, q, pr, cc, tt⟩ := y
    have e1 : (frId (mapF (phi seed 0) (phi seed 0) (kk, q, pr, cc, tt))).1 = kk := rfl
    have e2 : (frId (mapF (phi seed 0) (phi seed 0) (kk, q, pr, cc, tt))).2.2.2.2.2.1 = q := rfl
    simp only [obind_some, cond_true, e1, e2]
    by_cases h1 : kk = 25
    · by_cases h2 : q < ((p : Nat) : Int)
      · simp only [cond_true, h2, decide_true, h1, beq_self_eq_true]
        exact hT (1, y1) (by simp [h1, h2])
      · simp only [h2, decide_false, cond_false, h1, beq_self_eq_true, cond_true, law18_IdsPrior_4_eq, b_law18_IdsPrior_4]
        exact hT (0, y1) (by simp [h2])
    · simp only [beq_false_of_ne h1, cond_false, law18_IdsPrior_4_eq, b_law18_IdsPrior_4]
      exact hT (0, y1) (by simp [h1])
theorem stO_at (i : Nat) (hi4 : i < 3) : ((conG (phi seed 0) seed 1 stO).2.2.2.1.getD (i + 1) (Ty.dflt T_ids_Own)).2.1 = gX seed (2 * (i + 1) + 1) ∧ ((conG (phi seed 0) seed 1 stO).2.2.2.1.getD (i + 1) (Ty.dflt T_ids_Own)).2.2.1 = gX seed (2 * (i + 1) + 2) := by
  have a1 : ((conG (phi seed 0) seed 1 stO).2.2.2.1.getD 1 (Ty.dflt T_ids_Own)).2.1 = phi seed 1 3 := rfl
  have a2 : ((conG (phi seed 0) seed 1 stO).2.2.2.1.getD 1 (Ty.dflt T_ids_Own)).2.2.1 = phi seed 1 4 := rfl
  have a3 : ((conG (phi seed 0) seed 1 stO).2.2.2.1.getD 2 (Ty.dflt T_ids_Own)).2.1 = phi seed 1 5 := rfl
  have a4 : ((conG (phi seed 0) seed 1 stO).2.2.2.1.getD 2 (Ty.dflt T_ids_Own)).2.2.1 = phi seed 1 6 := rfl
  have a5 : ((conG (phi seed 0) seed 1 stO).2.2.2.1.getD 3 (Ty.dflt T_ids_Own)).2.1 = phi seed 1 7 := rfl
  have a6 : ((conG (phi seed 0) seed 1 stO).2.2.2.1.getD 3 (Ty.dflt T_ids_Own)).2.2.1 = phi seed 1 8 := rfl
  rw [gX_low _ _ (by omega), gX_low _ _ (by omega)]
  have : i = 0 ∨ i = 1 ∨ i = 2 := by omega
  rcases this with rfl | rfl | rfl
  · exact ⟨a1, a2⟩
  · exact ⟨a3, a4⟩
  · exact ⟨a5, a6⟩
theorem stS_next (i : Nat) (hi4 : i < 3) : newP (stS i) ((i + 1 : Nat) : Int) 0 (2 * (i + 1) + 1) (2 * (i + 1) + 2) = some (stS (i + 1)) := by
  have : i = 0 ∨ i = 1 ∨ i = 2 := by omega
  rcases this with rfl | rfl | rfl <;> rfl
theorem prior_step (i n : Nat) (hi4 : i < 3) (hin : i < n) (prior : Int) (hOkS : OkS (stS i)) (m : Nat) :
    law18_IdsPrior_0 (m + 1) prior ((n : Nat) : Int) ((i + 1 : Nat) : Int) (conG (gX seed) seed 0 (stS i)) (conG (phi seed 0) seed 1 stO) = law18_IdsPrior_0 m prior ((n : Nat) : Int) ((i + 1 + 1 : Nat) : Int) (conG (gX seed) seed 0 (stS (i + 1))) (conG (phi seed 0) seed 1 stO) := by
  have c : decide (((i + 1 : Nat) : Int) ≤ ((n : Nat) : Int)) = true := by simp; omega
  have l2 : (conG (phi seed 0) seed 1 stO).2.2.2.1.length = 4 := rfl
  have c2 : (((0 : Int) ≤ ((i + 1 : Nat) : Int)) ∧ (((i + 1 : Nat) : Int) < ((4 : Nat) : Int))) = True := eq_true ⟨by omega, by omega⟩
  have hg := stO_at (seed := seed) i hi4
  have hnew := stS_next i hi4
  have hcon := new_con (g := gX seed) (seed := seed) (side := 0) (stS i) hOkS ((i + 1 : Nat) : Int) 0 (2 * (i + 1) + 1) (2 * (i + 1) + 2) (apart_low i (by omega) _ _ _ (by omega) (by omega))
  rw [hnew] at hcon
  unfold frId at hcon
  simp only at hcon
  have a3 : (ByteArray.mk (List.toArray ([] : List UInt8))) = ⟨#[]⟩ := rfl
  simp only [law18_IdsPrior_0, t_law18_IdsPrior_0, c, cond_true, wrap_u64 ((i + 1 : Nat) : Int) (by omega) (by omega), l2, c2, decide_true, Int.toNat_natCast, hg.1, hg.2, hcon, obind_some]
  rw [wrap_i64 _ (by omega) (by omega), show ((i + 1 : Nat) : Int) + 1 = ((i + 1 + 1 : Nat) : Int) by omega]
theorem prior_gate (prior n i : Int) (p : Nat) (hp : p < 6) (hpr : 0 ≤ prior ∧ prior < 256) (hmod : prior % 6 = ((p : Nat) : Int)) (hin : ¬ i ≤ n) (m : Nat) (d e : D_ids_State) (y : D_ids_State × Int × Unit) (c0 c1 c2 c3 c4 : ByteArray)
    (l1 : d.2.2.2.1.length = 1) (l2 : e.2.2.2.1.length = 4) (g0 : (d.2.2.2.1.getD 0 (Ty.dflt T_ids_Own)).2.1 = c0) (g1 : (e.2.2.2.1.getD 0 (Ty.dflt T_ids_Own)).2.1 = c1) (g2 : (e.2.2.2.1.getD 1 (Ty.dflt T_ids_Own)).2.1 = c2)
    (g3 : (e.2.2.2.1.getD 2 (Ty.dflt T_ids_Own)).2.1 = c3) (g4 : (e.2.2.2.1.getD 3 (Ty.dflt T_ids_Own)).2.1 = c4) (hy : ids_On d (24, 0, 0, 0, 0, 5, ((p : Nat) : Int), 0, false, ⟨#[]⟩, abcS, tokS, [], ()) = some y)
    (rest : c1 ≠ abcS → c2 ≠ abcS → c3 ≠ abcS → c4 ≠ abcS → law18_IdsPrior_1' n ((p : Nat) : Int) y.2.1 0 0 0 d y.1 = some (true, ())) : law18_IdsPrior_0 (m + 1) prior n i d e = some (true, ()) := by
  have ht : Int.tmod prior 6 = ((p : Nat) : Int) := by rw [Int.tmod_eq_emod_of_nonneg hpr.1, hmod]
  have hm5 : (if (5 : Int) < ((p : Nat) : Int) then (5 : Int) else ((p : Nat) : Int)) = ((p : Nat) : Int) := by split <;> omega
  have a1 : (ByteArray.mk (List.toArray ((97 : UInt8) :: (98 : UInt8) :: (99 : UInt8) :: (100 : UInt8) :: (101 : UInt8) :: (102 : UInt8) :: (103 : UInt8) :: (104 : UInt8) :: ([] : List UInt8)))) = abcS := rfl
  have a2 : (ByteArray.mk (List.toArray ((48 : UInt8) :: (49 : UInt8) :: (50 : UInt8) :: (51 : UInt8) :: (52 : UInt8) :: (53 : UInt8) :: (54 : UInt8) :: (55 : UInt8) :: (56 : UInt8) :: (57 : UInt8) :: (97 : UInt8) :: (98 : UInt8) :: (99 : UInt8) :: (100 : UInt8) :: (101 : UInt8) :: (102 : UInt8) :: ([] : List UInt8)))) = tokS := rfl
  have a3 : (ByteArray.mk (List.toArray ([] : List UInt8))) = ⟨#[]⟩ := rfl
  have d1 : decide ((0 : Int) ≤ 0 ∧ (0 : Int) < ((1 : Nat) : Int)) = true := by decide
  have d2 : decide ((0 : Int) ≤ 0 ∧ (0 : Int) < ((4 : Nat) : Int)) = true := by decide
  have d3 : decide ((0 : Int) ≤ 1 ∧ (1 : Int) < ((4 : Nat) : Int)) = true := by decide
  have d4 : decide ((0 : Int) ≤ 2 ∧ (2 : Int) < ((4 : Nat) : Int)) = true := by decide
  have d5 : decide ((0 : Int) ≤ 3 ∧ (3 : Int) < ((4 : Nat) : Int)) = true := by decide
  simp only [law18_IdsPrior_0, t_law18_IdsPrior_0, hin, decide_false, cond_false, wrap_u64 prior (by omega) (by omega), ht, hm5, a1, a2, hy, obind_some, l1, l2, g0, g1, g2, g3, g4, d1, d2, d3, d4, d5, cond_true, toList_beq]
  clear a1 a2 hy g0 g1 g2 g3 g4
  generalize abcS = A at *
  by_cases q0 : c0 = A
  · simp only [q0, decide_true, cond_true]
  by_cases q1 : c1 = A
  · simp only [q0, q1, decide_false, decide_true, cond_true, cond_false]
  by_cases q2 : c2 = A
  · simp only [q0, q1, q2, decide_false, decide_true, cond_true, cond_false]
  by_cases q3 : c3 = A
  · simp only [q0, q1, q2, q3, decide_false, decide_true, cond_true, cond_false]
  by_cases q4 : c4 = A
  · simp only [q0, q1, q2, q3, q4, decide_false, decide_true, cond_true, cond_false]
  simp only [q0, q1, q2, q3, q4, decide_false, cond_false]
  exact rest q1 q2 q3 q4
theorem prior_last (i p : Nat) (hn : i < 4) (hp : p < 6) (prior : Int) (hpr : 0 ≤ prior ∧ prior < 256) (hmod : prior % 6 = ((p : Nat) : Int)) (m : Nat) :
    law18_IdsPrior_0 (m + 1) prior ((i : Nat) : Int) ((i + 1 : Nat) : Int) (conG (gX seed) seed 0 (stS i)) (conG (phi seed 0) seed 1 stO) = some (true, ()) := by
  obtain ⟨hokS, hchk⟩ := chk_is i p hn hp
  have hOkS := okS_is hokS
  have l1 : (conG (gX seed) seed 0 (stS i)).2.2.2.1.length = 1 := rfl
  have l3 : (conG (gX seed) seed 0 (stS i)).2.2.2.2.1.length ≤ 100000 := by have := hOkS.p; simp only [conG, mapS, List.length_map]; omega
  have fr : ((24, 0, 0, 0, 0, 5, ((p : Nat) : Int), 0, false, ⟨#[]⟩, abcS, tokS, [], ()) : D_frame_Frame) = frId (24, 5, ((p : Nat) : Int), gX seed 5001, gX seed 5002) := rfl
  have hsome : ∃ y, ids_On (conG (gX seed) seed 0 (stS i)) (24, 0, 0, 0, 0, 5, ((p : Nat) : Int), 0, false, ⟨#[]⟩, abcS, tokS, [], ()) = some y := by
    have hnow : nowI (conG (gX seed) seed 0 (stS i)).2.2.2.2.1 (conG (gX seed) seed 0 (stS i)).2.2.2.2.2.2.1 < (conG (gX seed) seed 0 (stS i)).2.2.2.2.1.length := by
      have := hOkS.now
      show nowI ((stS i).2.2.2.2.1.map (mapG (gX seed))) (stS i).2.2.2.2.2.2.1 < ((stS i).2.2.2.2.1.map (mapG (gX seed))).length
      rw [nowI_map, List.length_map]
      exact this
    have hr : RisesG (conG (gX seed) seed 0 (stS i)).2.2.2.2.1 := by
      show ((stS i).2.2.2.2.1.map (mapG (gX seed))).Pairwise _
      rw [List.pairwise_map]
      exact hOkS.rise
    exact ⟨_, on_new _ _ rfl (by rw [l1]; omega) l3 hr (now_put _ _ _ _ _ _ hnow)⟩
  obtain ⟨y, hy⟩ := hsome
  refine prior_gate prior ((i : Nat) : Int) ((i + 1 : Nat) : Int) p hp hpr hmod (by omega) m _ _ y (phi seed 0 1) (phi seed 1 1) (phi seed 1 3) (phi seed 1 5) (phi seed 1 7) l1 rfl rfl rfl rfl rfl rfl hy fun q1 q2 q3 q4 => ?_
  have hne : ∀ j : Nat, j < 4 → phi seed 1 (2 * j + 1) ≠ abcS := by
    intro j hj
    have : j = 0 ∨ j = 1 ∨ j = 2 ∨ j = 3 := by omega
    rcases this with rfl | rfl | rfl | rfl
    · exact q1
    · exact q2
    · exact q3
    · exact q4
  have hcon := new_con (g := gX seed) (seed := seed) (side := 0) (stS i) hOkS 5 ((p : Nat) : Int) 5001 5002 (apart_new i hn hne)
  rw [fr, hcon] at hy
  rcases hchk with ⟨ht, hlv⟩ | ⟨t, ht, k1, ⟨hokT, k9⟩, k3, k4, k5⟩
  · rw [ht] at hy
    simp only [Option.some.injEq] at hy
    subst hy
    exact prior_none i p hn _ (by rw [l1]; omega) l3 hlv
  · rw [ht] at hy
    simp only [Option.some.injEq] at hy
    subst hy
    refine prior_some i p hn _ t k1 hokT ?_
    rintro r rfl
    rw [tell_rest _ _ _ _ _ _ k9]
    exact prior_end i p hn _ rfl 0 _ _ _ _ rfl k3 k4 k5
theorem prior_main (n p : Nat) (hn : n < 4) (hp : p < 6) (prior : Int) (hpr : 0 ≤ prior ∧ prior < 256) (hmod : prior % 6 = ((p : Nat) : Int)) : ∀ (k i m : Nat), i + k = n → k < m →
    law18_IdsPrior_0 m prior ((n : Nat) : Int) ((i + 1 : Nat) : Int) (conG (gX seed) seed 0 (stS i)) (conG (phi seed 0) seed 1 stO) = some (true, ()) := by
  intro k
  induction k with
  | zero =>
    intro i m hi hm
    obtain ⟨m, rfl⟩ : ∃ k, m = k + 1 := ⟨m - 1, by omega⟩
    obtain rfl : i = n := by omega
    exact prior_last i p hn hp prior hpr hmod m
  | succ k ih =>
    intro i m hi hm
    obtain ⟨m, rfl⟩ : ∃ k, m = k + 1 := ⟨m - 1, by omega⟩
    rw [prior_step i n (by omega) (by omega) prior (okS_is (chk_is i p (by omega) hp).1) m]
    exact ih (i + 1) m (by omega) (by omega)
end
theorem prior_law (seed many prior : Int) (hseed : 0 ≤ seed ∧ seed ≤ 18446744073709551615) (hm : 0 ≤ many ∧ many ≤ 255) (hp : 0 ≤ prior ∧ prior ≤ 255) : law18_IdsPrior seed many prior = some (true, ()) := by
  have hS : InU seed := by unfold InU; omega
  rw [law18_IdsPrior_eq, b_law18_IdsPrior]
  have e1 : ids_New seed 0 = some (conG (gX seed) seed 0 (stS 0), ()) := new0_is seed
  have e3 : ids_New seed 1 = some (conG (phi seed 0) seed 1 (new0 1), ()) := new1_is seed
  have e2 : ids_Fill (conG (phi seed 0) seed 1 (new0 1)) 4 = some (conG (phi seed 0) seed 1 stO, ()) := by
    rw [fill_con (side := 1) hS (new0 1) rfl (okS_is (by decide +kernel)) 4]
    rfl
  have l1 : (conG (gX seed) seed 0 (stS 0)).2.2.2.1.length = 1 := rfl
  have l2 : (conG (phi seed 0) seed 1 stO).2.2.2.1.length = 4 := rfl
  have d1 : (((1 : Nat) : Int) == 0) = false := by decide
  have d2 : decide (((4 : Nat) : Int) < 4) = false := by decide
  simp only [e1, e2, e3, obind_some, l1, l2, d1, d2, cond_false]
  rw [wrap_i64 many (by omega) (by omega), Int.tmod_eq_emod_of_nonneg hm.1, law18_IdsPrior_0'_eq, b_law18_IdsPrior_0']
  have en : many % 4 = (((many % 4).toNat : Nat) : Int) := by omega
  have ep : prior % 6 = (((prior % 6).toNat : Nat) : Int) := by omega
  rw [en]
  exact prior_main (many % 4).toNat (prior % 6).toNat (by omega) (by omega) prior (by omega) ep (many % 4).toNat 0 _ (by omega) (by omega)
theorem lawIdsPrior (x : denL c_law18_IdsPrior.params) (h : Wfs c_law18_IdsPrior.params x) : c_law18_IdsPrior.F x = some (true, ()) := by
  obtain ⟨seed, many, prior, u⟩ := x
  obtain ⟨h1, h2, h3, _⟩ := h
  exact prior_law seed many prior (wf_u64 h1) (wf_u8 h2) (wf_u8 h3)
end Go.Proofs.YtjdjlijjolibkaaDoor.V
/- Tables that are laid: from the condition of a row to what the machine asks for. -/
namespace Go.Proofs.YtjdjlijjolibkaaDoor.V
open Go.RowKit Go.ChangeShapes
section
variable {H : Type} {enc : TypeId × Value → H} {P : Program} {w : World} {sp : Nat → Bool} {held : Bool} {fuel : Nat}
theorem tab_cells {k : IntKind} {N : Nat} {e t : TypeId} {cs : List Value} {l : List Int} {p : List MemPlace} (hu : P.underlying t = some (.array N e)) (he : P.underlying e = some (.int k)) (hc : P.cellsOf e = 1) (ht : P.cellsOf t = l.length) (hN : N = l.length)
    (hd : DataW.trod enc P w 0 sp held fuel t cs = some (.agg (l.map fun n => .lit (.int k n)), p)) : cs = l.map (Value.int k) := by
  obtain ⟨xs, m, rfl, hx, hlen, hn, hel⟩ := DataW.trod_array hu hd
  simp only [Prod.mk.injEq, DataW.agg.injEq] at hx
  have hm := hx.1
  rw [ht] at hlen
  refine List.ext_getElem (by rw [hlen, List.length_map]) fun i h1 h2 => ?_
  have hi : i < l.length := by rw [List.length_map] at h2; exact h2
  have hix : i < xs.length := by omega
  have h3 := hel i (by omega)
  rw [hc, Nat.mul_one, List.getElem?_eq_getElem hix] at h3
  obtain ⟨n, e1, e2, _⟩ := DataW.trod_int he h3
  have e3 : (cs.drop i).take 1 = [cs[i]] := by
    rw [List.drop_eq_getElem_cons h1, List.take_succ_cons, List.take_zero]
  rw [e3] at e1
  have e4 : (l.map fun n => (DataW.lit (.int k n) : DataW H))[i]? = (xs.map (·.1))[i]? := by rw [hm]
  rw [List.getElem?_map, List.getElem?_map, List.getElem?_eq_getElem hi, List.getElem?_eq_getElem hix, e2] at e4
  simp only [Option.map_some, Option.some.injEq, DataW.lit.injEq, Lit.int.injEq, true_and] at e4
  simp only [List.cons.injEq, and_true] at e1
  rw [e1, List.getElem_map, ← e4]
theorem tab_in {k : IntKind} {N : Nat} {e t g : TypeId} {n : String} {cs : Array Value} {l : List Int} {p : List MemPlace} (hg : P.globalNamed n = some g) (hv : w.var? P n = some cs) (hu : P.underlying t = some (.array N e)) (he : P.underlying e = some (.int k)) (hc : P.cellsOf e = 1) (ht : P.cellsOf t = l.length) (hN : N = l.length)
    (hd : DataW.trod enc P w 0 sp held fuel t cs.toList = some (.agg (l.map fun n => .lit (.int k n)), p)) {r : List (Nat × (Σ t : Ty, List t.den))} (hr : TabsIn w r) : TabsIn w ((g, ⟨.int k, l⟩) :: r) ∧ g < w.heap.size := by
  have hcs := tab_cells hu he hc ht hN hd
  simp only [World.var?, hg, Option.bind_some] at hv
  cases hh : w.heap[g]? with
  | none => rw [hh] at hv; cases hv
  | some o =>
    rw [hh] at hv
    cases o with
    | cells arr e' fz =>
      simp only [Option.some.injEq] at hv
      subst hv
      refine ⟨⟨⟨arr, e', fz, hh, fun i hi => ⟨[.int k (l.getD i 0)], ?_, ?_⟩⟩, hr⟩, lt_of_heap hh⟩
      · simp only [Rep]
        have : l.getD i 0 = l[i] := by simp [List.getD, hi]
        rw [this]
      · intro j hj
        simp at hj
        subst hj
        show arr[i * 1 + 0]? = _
        rw [Nat.mul_one, Nat.add_zero, ← Array.getElem?_toList, hcs, List.getElem?_map, List.getElem?_eq_getElem hi]
        simp [List.getD, hi]
    | _ => cases hv
end
end Go.Proofs.YtjdjlijjolibkaaDoor.V
/- The law IdsPrior: for every input that can be read the call returns true and leaves its arguments alone: the row, and the tied card. No conditions but that the listed tables are laid (which the card ties to the program's text). -/
namespace Go.Proofs.YtjdjlijjolibkaaDoor.V.RowIdsPrior
open Go.ChangeShapes Go.WideShapes Go.ChangeAt Go.RowKit Go.Proofs
set_option linter.unusedVariables false
set_option maxRecDepth 100000
theorem own : ownKnob Tryd.prog.godebug = none := by kernel_rfl
theorem laidOut : laidOutB Tryd.prog = true := by kernel_rfl
theorem door_met (os : Os) (args : Array Value) : laidMetH Tryd.prog [("math/bits.deBruijn32tab", Rows.laid_math_bits_deBruijn32tab), ("math/bits.deBruijn64tab", Rows.laid_math_bits_deBruijn64tab)] ((World.doorLaid Tryd.prog 400 os).forCall (fun _ _ => 0) ⟨#[], args, []⟩).memory :=
  laidMetH_of_parts3 (fuel := 8) (laidMet_of_run' 8 (by kernel_rfl) (by kernel_rfl)) (by kernel_rfl) (by kernel_rfl)
theorem inv_of {W : World} (h : laidMetH Tryd.prog [("math/bits.deBruijn32tab", Rows.laid_math_bits_deBruijn32tab), ("math/bits.deBruijn64tab", Rows.laid_math_bits_deBruijn64tab)] W) : Inv W := by
  rw [MakeChecks.laidMetH_plain _ _ _ (by kernel_rfl)] at h
  obtain ⟨ps, ⟨g0, t0, cs0, f0, p0, q0, hg0, ht0, hv0, hd0, ⟨g1, t1, cs1, f1, p1, q1, hg1, ht1, hv1, hd1, _, _⟩, _⟩, _, _⟩ := h
  obtain ⟨gg0, tt0⟩ : Tryd.prog.globalNamed "math/bits.deBruijn32tab" = some 0 ∧ (Tryd.prog.globals[0]?).map (·.type) = some 246 := ⟨by kernel_rfl, by kernel_rfl⟩
  obtain rfl := Option.some.inj (gg0.symm.trans hg0)
  obtain rfl := Option.some.inj (tt0.symm.trans ht0)
  obtain ⟨gg1, tt1⟩ : Tryd.prog.globalNamed "math/bits.deBruijn64tab" = some 1 ∧ (Tryd.prog.globals[1]?).map (·.type) = some 247 := ⟨by kernel_rfl, by kernel_rfl⟩
  obtain rfl := Option.some.inj (gg1.symm.trans hg1)
  obtain rfl := Option.some.inj (tt1.symm.trans ht1)
  have i1 := tab_in (k := .u8) (l := [0, 1, 56, 2, 57, 49, 28, 3, 61, 58, 42, 50, 38, 29, 17, 4, 62, 47, 59, 36, 45, 43, 51, 22, 53, 39, 33, 30, 24, 18, 12, 5, 63, 55, 48, 27, 60, 41, 37, 16, 46, 35, 44, 21, 52, 32, 23, 11, 54, 26, 40, 15, 34, 20, 31, 10, 25, 14, 19, 9, 13, 8, 7, 6]) hg1 hv1 Tryd.underlying247 (by kernel_rfl) (by kernel_rfl) (by kernel_rfl) (by kernel_rfl) hd1 (r := []) trivial
  have i0 := tab_in (k := .u8) (l := [0, 1, 28, 2, 29, 14, 24, 3, 30, 22, 20, 15, 25, 17, 4, 8, 31, 27, 13, 23, 21, 19, 16, 7, 26, 12, 18, 6, 11, 5, 10, 9]) hg0 hv0 Tryd.underlying246 (by kernel_rfl) (by kernel_rfl) (by kernel_rfl) (by kernel_rfl) hd0 i1.1
  exact ⟨i1.2, i0.1⟩
theorem lifted (os : Os) (started : os.Started) (H : Type) (enc : TypeId × Value → H) :
    ReturnsInHanded {} Tryd.checked os 18 .any (fun w args => (Rows.idsPriorSpec.pre enc Tryd.prog Tryd.f18 [] false w args ∧ laidMetH Tryd.prog [("math/bits.deBruijn32tab", Rows.laid_math_bits_deBruijn32tab), ("math/bits.deBruijn64tab", Rows.laid_math_bits_deBruijn64tab)] w) ∧ sizedMet enc Tryd.prog Tryd.f18 (OpenSpec.ofChange Rows.idsPriorSpec) false w args) (Rows.idsPriorSpec.post enc Tryd.prog Tryd.f18 false true false false) := by
  refine returnsInHanded_of_change_and (C := Tryd.checked) (X := fun w _ => laidMetH Tryd.prog [("math/bits.deBruijn32tab", Rows.laid_math_bits_deBruijn32tab), ("math/bits.deBruijn64tab", Rows.laid_math_bits_deBruijn64tab)] w) (fun _ _ _ hh h => h.of_heap hh) own started (by kernel_rfl) Tryd.func18
    (ChangeSpec.witness_shaped (enc := enc) (C := Tryd.checked) (os := os) (X := fun w _ => laidMetH Tryd.prog [("math/bits.deBruijn32tab", Rows.laid_math_bits_deBruijn32tab), ("math/bits.deBruijn64tab", Rows.laid_math_bits_deBruijn64tab)] w) false (World.doorLaid Tryd.prog 400 os) (c_law18_IdsPrior.params.map zeroV).toArray 8 rfl (World.shaped_of_RefB (by kernel_rfl) (by kernel_rfl)) (by kernel_rfl) (by kernel_rfl) (by kernel_rfl) (door_met os _)) ?_
  intro W base args ds gs before hval hW hcnd hsz hL _
  have hI := inv_of hL
  have hW' := hW
  obtain ⟨p, q, hA, hV, rfl, hfz, hnd⟩ := hW
  obtain ⟨x, hx, hwf⟩ := args_rep (n := 20) (ts := c_law18_IdsPrior.params) (by kernel_rfl) hA (fun j T v h1 h2 => hval j T v (by simpa using h1) (by simpa using h2))
  have hlen : ds.length = 3 := (trodAll_length hA).trans (by kernel_rfl)
  obtain ⟨d1, d2, d3, rfl⟩ : ∃ d1 d2 d3, ds = [d1, d2, d3] := by match ds, hlen with | [d1, d2, d3], _ => exact ⟨d1, d2, d3, rfl⟩
  obtain ⟨rfl, rfl⟩ := trodVars_none hV
  refine (law_calls (K := 18) c_law18_IdsPrior_ok hI hx (lawIdsPrior x hwf)).mono fun e W' ⟨he, bel⟩ => ?_
  subst he
  exact ⟨_, rfl, _, _, _, [], _, [], hW', trodAll_mk1 (shut_bool Tryd.underlying4 _), trodAll_below laidOut bel (by kernel_rfl) hA, rfl, bel.frame _, fun h => by cases h⟩
theorem proved : Rows.IdsPriorSaid :=
  OpenClaim.holds_of_wide 18 Tryd.f18 rfl rfl rfl rfl rfl rfl rfl ⟨rfl, rfl, rfl, rfl, rfl⟩ rfl rfl rfl rfl rfl (by kernel_rfl) Tryd.func18 (by kernel_rfl)
    (of_decide_eq_true (by kernel_rfl)) (by unfold Func.isWrapper; first | (rw [if_pos (by decide +kernel)]; kernel_rfl) | (rw [if_neg (by decide +kernel)]; exact ⟨rfl, rfl⟩))
    (fun os started H enc _ => lifted os started H enc)
theorem card : Rows.IdsPriorCardSaid :=
  Claim7.holds_tied_plain_at .later [] [.data, .data] true (true, "1021a36958bef67feb8e8930050b74075fa45ed83853cf8c22c3fa63b7773168") true
    proved (fun _ h => by cases h) (by kernel_rfl) (fun _ h => by cases h) idsPrior_row_tie rfl ⟨rfl, rfl⟩ (by kernel_rfl) rfl
    (fun f fn hf hfn => by
      obtain rfl : f = 18 := Option.some.inj ((show Tryd.prog.funcNamed "domino/dominolaw18.IdsPrior" = some 18 by kernel_rfl).symm.trans hf) |>.symm
      obtain rfl : fn = Tryd.f18 := (Option.some.inj (Tryd.func18.symm.trans hfn)).symm
      exact ⟨by kernel_rfl, fun j t ht => by
        have all : ∀ t ∈ [30, 5, 5], Tryd.prog.wantsStandIn t = false := by
          intro t h
          simp only [List.mem_cons, List.not_mem_nil, or_false] at h
          rcases h with rfl | rfl | rfl <;> kernel_rfl
        have hp : Tryd.f18.params = #[30, 5, 5] := rfl
        rw [hp] at ht
        exact all t (by
          have := List.mem_of_getElem? (l := [30, 5, 5]) (i := j) (a := t) (by simpa using ht)
          exact this)⟩)
    (by kernel_rfl)
end Go.Proofs.YtjdjlijjolibkaaDoor.V.RowIdsPrior
namespace Go.Proofs.YtjdjlijjolibkaaDoor
theorem idsPrior_card : Rows.IdsPriorCardSaid := V.RowIdsPrior.card
end Go.Proofs.YtjdjlijjolibkaaDoor
