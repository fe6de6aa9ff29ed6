/- The law FrameGets, part 6 of 6: what is proved: for every input that can be read the call of FrameGets returns true and leaves its arguments alone. No conditions but the listed tables of the card. -/
import Derived.OpenShut
import Derived.LaidHandle
import Derived.LaidMore
import Derived.Stop.Joined
import Derived.Test.YtjdjlijjolibkaaDoorRows
import Derived.Test.YtjdjlijjolibkaaDoorCards
import Derived.Test.YtjdjlijjolibkaaDoorTie
import Derived.SevenTiedAt
import Derived.Test.YtjdjlijjolibkaaDoorZ5
namespace Go.Proofs.YtjdjlijjolibkaaDoor.V
open Go.RowKit
set_option linter.unusedVariables false
def P6 (k : Int) (l : List Int) : Prop := ∃ z s, ref06_parts k (bytesStr l) = some (match bodyP k l with | some (f, r) => (f, bytesStr r, true, ()) | none => (z, s, false, ()))
theorem e0B : ByteArray.mk (List.toArray ([] : List UInt8)) = eB := rfl
theorem nums2 (l : List Int) (hB : Byt l) (hl : l.length ≤ 1000000) : (vgets 2 l = none ∧ (∀ {α : Type} (f : Int → Int → Pr α), pb vget (fun a => pb vget fun b => f a b) l = none) ∧ ref06_numbers (bytesStr l) 2 = some ([], eB, false, ())) ∨
  ∃ a b r, In62 a ∧ In62 b ∧ Byt r ∧ r.length ≤ l.length ∧ (∀ {α : Type} (f : Int → Int → Pr α), pb vget (fun a => pb vget fun b => f a b) l = f a b r) ∧ ref06_numbers (bytesStr l) 2 = some ([a, b], bytesStr r, true, ()) := by
 have hn := nums6_is 2 (by omega) l hB hl
 simp only [show ((2 : Nat) : Int) = 2 from rfl] at hn
 cases g1 : vget l with
 | none =>
  have hv : vgets 2 l = none := by simp only [vgets, pb, g1]
  rw [hv] at hn
  exact .inl ⟨hv, fun f => by simp only [pb, g1], hn⟩
 | some x1 =>
  obtain ⟨a, r1⟩ := x1
  obtain ⟨i1, b1, c1⟩ := vget_in hB g1
  cases g2 : vget r1 with
  | none =>
   have hv : vgets 2 l = none := by simp only [vgets, pb, g1, g2]
   rw [hv] at hn
   exact .inl ⟨hv, fun f => by simp only [pb, g1, g2], hn⟩
  | some x2 =>
   obtain ⟨b, r2⟩ := x2
   obtain ⟨i2, b2, c2⟩ := vget_in b1 g2
   have hv : vgets 2 l = some ([a, b], r2) := by simp only [vgets, pb, pr, g1, g2]
   rw [hv] at hn
   exact .inr ⟨a, b, r2, i1, i2, b2, by omega, fun f => by simp only [pb, g1, g2], hn⟩
theorem at2 (a b : Int) : ((0 : Int) ≤ 0 ∧ (0 : Int) < ((([a, b] : List Int).length : Nat) : Int)) ∧ ((0 : Int) ≤ 1 ∧ (1 : Int) < ((([a, b] : List Int).length : Nat) : Int)) := by simp
theorem p6_0 (k : Int) (hk : k = 0 ∨ k = 1 ∨ k = 30) (l : List Int) : P6 k l := by
 unfold P6
 rw [ref06_parts_eq, b_ref06_parts]
 rcases hk with rfl | rfl | rfl <;> exact ⟨zF 0, eB, rfl⟩
theorem p6_2 (l : List Int) (hB : Byt l) (hl : l.length ≤ 1000000) : P6 2 l := by
 unfold P6
 rw [ref06_parts_eq, b_ref06_parts]
 refine ⟨zF 0, eB, ?_⟩
 simp only [Int.reduceBEq, cond_false, cond_true, getAck6_is l hB hl, toldP, obind_some, bodyP, Bool.or_self]
 cases ackP l <;> rfl
theorem p6_4 (l : List Int) (hB : Byt l) (hl : l.length ≤ 1000000) : P6 4 l := by
 have hn := nums6_is 3 (by omega) l hB hl
 simp only [show ((3 : Nat) : Int) = 3 from rfl] at hn
 unfold P6
 rw [ref06_parts_eq, b_ref06_parts]
 simp only [Int.reduceBEq, cond_false, cond_true, e0B, bodyP, Bool.or_self]
 cases g1 : vget l with
 | none =>
  have hv : vgets 3 l = none := by simp only [vgets, pb, g1]
  rw [hv] at hn
  simp only [hn, toldP, obind_some, pb, g1, cond_false]; exact ⟨_, _, rfl⟩
 | some x1 =>
  obtain ⟨a, r1⟩ := x1
  cases g2 : vget r1 with
  | none =>
   have hv : vgets 3 l = none := by simp only [vgets, pb, g1, g2]
   rw [hv] at hn
   simp only [hn, toldP, obind_some, pb, g1, g2, cond_false]; exact ⟨_, _, rfl⟩
  | some x2 =>
   obtain ⟨b, r2⟩ := x2
   cases g3 : vget r2 with
   | none =>
    have hv : vgets 3 l = none := by simp only [vgets, pb, g1, g2, g3]
    rw [hv] at hn
    simp only [hn, toldP, obind_some, pb, g1, g2, g3, cond_false]; exact ⟨_, _, rfl⟩
   | some x3 =>
    obtain ⟨c, r3⟩ := x3
    have hv : vgets 3 l = some ([a, b, c], r3) := by simp only [vgets, pb, pr, g1, g2, g3]
    rw [hv] at hn
    have q0 : (0 : Int) ≤ 0 ∧ (0 : Int) < ((([a, b, c] : List Int).length : Nat) : Int) := by simp
    have q1 : (0 : Int) ≤ 1 ∧ (1 : Int) < ((([a, b, c] : List Int).length : Nat) : Int) := by simp
    have q2 : (0 : Int) ≤ 2 ∧ (2 : Int) < ((([a, b, c] : List Int).length : Nat) : Int) := by simp
    simp only [hn, toldP, obind_some, pb, g1, g2, g3, pr, cond_true, q0, q1, q2, and_self, decide_true, List.getD_cons_zero, List.getD_cons_succ]; exact ⟨zF 0, eB, trivial⟩
theorem p6_5 (l : List Int) (hB : Byt l) (hl : l.length ≤ 1000000) : P6 5 l := by
 unfold P6
 rw [ref06_parts_eq, b_ref06_parts]
 simp only [Int.reduceBEq, cond_false, cond_true, e0B, bodyP, Bool.or_self]
 rcases nums2 l hB hl with ⟨_, h2, h3⟩ | ⟨a, b, r, _, _, _, _, h2, h3⟩
 · simp only [h2, h3, obind_some, cond_false]; exact ⟨_, _, rfl⟩
 · simp only [h2, h3, obind_some, cond_true, (at2 a b).1, (at2 a b).2, and_self, decide_true, List.getD_cons_zero, List.getD_cons_succ, pr]; exact ⟨zF 0, eB, trivial⟩
theorem p6_6 (l : List Int) (hB : Byt l) (hl : l.length ≤ 1000000) : P6 6 l := by
 unfold P6
 rw [ref06_parts_eq, b_ref06_parts]
 simp only [Int.reduceBEq, cond_false, cond_true, e0B, bodyP, Bool.or_self, num6_is l hB hl, toldP, obind_some, pb]
 cases g1 : vget l with
 | none => exact ⟨_, _, rfl⟩
 | some x1 =>
  obtain ⟨a, r1⟩ := x1
  obtain ⟨i1, b1, c1⟩ := vget_in hB g1
  simp only [cond_true, long6_is r1 b1 (by omega), toldP, obind_some]
  cases plong r1 with
  | none => exact ⟨_, _, rfl⟩
  | some x2 => exact ⟨zF 0, eB, rfl⟩
theorem p6_s (k : Int) (fin off len : Bool) (hk : 8 ≤ k ∧ k ≤ 15) (hf : (Int.tmod k 2 == 1) = fin) (ho : (Int.tmod (IntKind.wrap .u64 (Int.tdiv k 4)) 2 == 1) = off) (hl' : (Int.tmod (IntKind.wrap .u64 (Int.tdiv k 2)) 2 == 1) = len) (hb : ∀ l, bodyP k l = streamP fin off len l)
  (l : List Int) (hB : Byt l) (hl : l.length ≤ 1000000) : P6 k l := by
 unfold P6
 rw [ref06_parts_eq, b_ref06_parts]
 have k0 : (k == 0) = false := beq_false_of_ne (by omega)
 have k1 : (k == 1) = false := beq_false_of_ne (by omega)
 have k2 : (k == 30) = false := beq_false_of_ne (by omega)
 have k3 : (k == 2) = false := beq_false_of_ne (by omega)
 have k4 : (k == 4) = false := beq_false_of_ne (by omega)
 have k5 : (k == 5) = false := beq_false_of_ne (by omega)
 have k6 : (k == 6) = false := beq_false_of_ne (by omega)
 have k7 : k ≥ 8 := hk.1
 simp only [k0, k1, k2, k3, k4, k5, k6, k7, hk.2, decide_true, cond_false, cond_true, e0B, num6_is l hB hl, toldP, obind_some, hb, hf, ho, streamP, pb]
 cases g1 : vget l with
 | none => 
  simp only [cond_false]
  rw [ref06_parts_0_eq, b_ref06_parts_0, ref06_parts_1_eq, b_ref06_parts_1, ref06_parts_2_eq, b_ref06_parts_2]
  exact ⟨_, _, rfl⟩
 | some x1 =>
  obtain ⟨a, r1⟩ := x1
  obtain ⟨i1, b1, c1⟩ := vget_in hB g1
  have tail : ∀ (o : Int) (r : List Int), Byt r → r.length ≤ 1000000 → ∃ z s, ref06_parts_1 k (bytesStr r) true (0, 0, 0, 0, 0, 0, 0, 0, false, eB, eB, eB, [], ()) (8, a, o, 0, 0, 0, 0, 0, fin, eB, eB, eB, [], ()) =
    some (match pb (bif len then plong else prest) (fun d => pr ((8, a, o, 0, 0, 0, 0, 0, fin, d, eB, eB, [], ()) : D_frame_Frame)) r with | some (f, r') => (f, bytesStr r', true, ()) | none => (z, s, false, ())) := by
   intro o r hr hrl
   rw [ref06_parts_1_eq, b_ref06_parts_1]
   simp only [cond_true, hl', pb]
   cases len with
   | true =>
    simp only [cond_true, long6_is r hr hrl, toldP, obind_some]
    cases plong r with
    | none => exact ⟨_, _, rfl⟩
    | some x2 => exact ⟨zF 0, eB, rfl⟩
   | false =>
    simp only [cond_false]
    rw [ref06_parts_2_eq, b_ref06_parts_2]
    exact ⟨zF 0, eB, rfl⟩
  cases off with
  | false =>
   simp only [cond_true, cond_false]
   rw [ref06_parts_0_eq, b_ref06_parts_0]
   have := tail 0 r1 b1 (by omega)
   simp only [pb] at this
   simp only [pr]
   exact this
  | true =>
   simp only [cond_true, num6_is r1 b1 (by omega), toldP, obind_some]
   cases g2 : vget r1 with
   | none =>
    simp only
    rw [ref06_parts_1_eq, b_ref06_parts_1, ref06_parts_2_eq, b_ref06_parts_2]
    exact ⟨_, _, rfl⟩
   | some x2 =>
    obtain ⟨o, r2⟩ := x2
    obtain ⟨i2, b2, c2⟩ := vget_in b1 g2
    have := tail o r2 b2 (by omega)
    simp only [pb] at this
    exact this
theorem p6_3 (k : Int) (hk : 15 < k ∧ k ≠ 30) (l : List Int) (h : ∃ z s, ref06_parts_3 k (bytesStr l) (0, 0, 0, 0, 0, 0, 0, 0, false, eB, eB, eB, [], ()) (k, 0, 0, 0, 0, 0, 0, 0, false, eB, eB, eB, [], ()) = some (match bodyP k l with | some (f, r) => (f, bytesStr r, true, ()) | none => (z, s, false, ()))) : P6 k l := by
 unfold P6
 rw [ref06_parts_eq, b_ref06_parts]
 have k0 : (k == 0) = false := beq_false_of_ne (by omega)
 have k1 : (k == 1) = false := beq_false_of_ne (by omega)
 have k2 : (k == 30) = false := beq_false_of_ne (by omega)
 have k3 : (k == 2) = false := beq_false_of_ne (by omega)
 have k4 : (k == 4) = false := beq_false_of_ne (by omega)
 have k5 : (k == 5) = false := beq_false_of_ne (by omega)
 have k6 : (k == 6) = false := beq_false_of_ne (by omega)
 have k7 : k ≥ 8 := by omega
 have k8 : ¬ k ≤ 15 := by omega
 simp only [k0, k1, k2, k3, k4, k5, k6, k7, k8, decide_true, decide_false, cond_false, cond_true, e0B]
 exact h
theorem sh_m : decide (bytesStr [109] = ByteArray.mk (List.toArray ((109 : UInt8) :: ([] : List UInt8)))) = true := by decide
theorem sh_im : decide (bytesStr [105, 109] = ByteArray.mk (List.toArray ((109 : UInt8) :: ([] : List UInt8)))) = false := by decide
theorem sh_im2 : decide (bytesStr [105, 109] = ByteArray.mk (List.toArray ((105 : UInt8) :: ((109 : UInt8) :: ([] : List UInt8))))) = true := by decide
theorem p6_m (k : Int) (hk : k = 16 ∨ k = 18 ∨ k = 19 ∨ k = 20 ∨ k = 22 ∨ k = 23) (l : List Int) (hB : Byt l) (hl : l.length ≤ 1000000) : P6 k l := by
 refine p6_3 k (by omega) l ?_
 have hs : shapeL k = [109] := by rcases hk with rfl | rfl | rfl | rfl | rfl | rfl <;> rfl
 have hb : bodyP k l = pb vget (fun mx => pr (k, 0, 0, mx, 0, 0, 0, 0, false, eB, eB, eB, [], ())) l := by rcases hk with rfl | rfl | rfl | rfl | rfl | rfl <;> rfl
 rw [ref06_parts_3_eq, b_ref06_parts_3, shape_is, hs, hb]
 simp only [obind_some, toList_beq, sh_m, cond_true, num6_is l hB hl, toldP, pb]
 cases vget l with
 | none => exact ⟨_, _, rfl⟩
 | some x => exact ⟨zF 0, eB, rfl⟩
theorem p6_im (k : Int) (hk : k = 17 ∨ k = 21) (l : List Int) (hB : Byt l) (hl : l.length ≤ 1000000) : P6 k l := by
 refine p6_3 k (by omega) l ?_
 have hs : shapeL k = [105, 109] := by rcases hk with rfl | rfl <;> rfl
 have hb : bodyP k l = pb vget (fun id => pb vget fun mx => pr (k, id, 0, mx, 0, 0, 0, 0, false, eB, eB, eB, [], ())) l := by rcases hk with rfl | rfl <;> rfl
 rw [ref06_parts_3_eq, b_ref06_parts_3, shape_is, hs, hb]
 simp only [obind_some, toList_beq, sh_im, sh_im2, cond_true, cond_false]
 rcases nums2 l hB hl with ⟨_, h2, h3⟩ | ⟨a, b, r, _, _, _, _, h2, h3⟩
 · simp only [h2, h3, obind_some, cond_false]; exact ⟨_, _, rfl⟩
 · simp only [h2, h3, obind_some, cond_true, (at2 a b).1, (at2 a b).2, and_self, decide_true, List.getD_cons_zero, List.getD_cons_succ, pr]; exact ⟨zF 0, eB, trivial⟩
theorem sh_no {k : Int} (h : shapeL k = [113, 112, 110, 116] ∨ shapeL k = [113] ∨ shapeL k = [116] ∨ shapeL k = [99, 101, 100] ∨ shapeL k = [99, 100] ∨ shapeL k = []) :
  decide (bytesStr (shapeL k) = ByteArray.mk (List.toArray ((109 : UInt8) :: ([] : List UInt8)))) = false ∧ decide (bytesStr (shapeL k) = ByteArray.mk (List.toArray ((105 : UInt8) :: ((109 : UInt8) :: ([] : List UInt8))))) = false := by
 rcases h with h | h | h | h | h | h <;> (rw [h]; decide)
theorem extract_l (l : List Int) (hB : Byt l) (a b : Nat) : (bytesStr l).extract a b = bytesStr ((l.take b).drop a) := by
 have h1 : Byt ((l.take b).drop a) := fun x hx => hB x (List.mem_of_mem_take (List.mem_of_mem_drop hx))
 rw [← strBytes_inj, strBytes_extract, strBytes_bs hB, strBytes_bs h1]
theorem p6_25 (l : List Int) (hB : Byt l) (hl : l.length ≤ 1000000) : P6 25 l := by
 refine p6_3 25 (by omega) l ?_
 obtain ⟨s1, s2⟩ := sh_no (k := 25) (by simp [shapeL])
 rw [ref06_parts_3_eq, b_ref06_parts_3, shape_is]
 simp only [obind_some, toList_beq, s1, s2, cond_true, cond_false, Int.reduceBEq, num6_is l hB hl, toldP, bodyP, pb, Bool.or_self]
 cases vget l with
 | none => exact ⟨_, _, rfl⟩
 | some x => exact ⟨zF 0, eB, rfl⟩
theorem p6_t (k : Int) (hk : k = 26 ∨ k = 27) (l : List Int) (hB : Byt l) (hl : l.length ≤ 1000000) : P6 k l := by
 refine p6_3 k (by omega) l ?_
 obtain ⟨s1, s2⟩ := sh_no (k := k) (by rcases hk with rfl | rfl <;> simp [shapeL])
 have ht := take6_is l hB hl 8 (by omega)
 have hb : bodyP k l = pb (pstr 8) (fun tok => pr (k, 0, 0, 0, 0, 0, 0, 0, false, eB, eB, tok, [], ())) l := by rcases hk with rfl | rfl <;> rfl
 rw [ref06_parts_3_eq, b_ref06_parts_3, shape_is, hb]
 have g : ∃ z s, ref06_parts_5 (bytesStr l) (0, 0, 0, 0, 0, 0, 0, 0, false, eB, eB, eB, [], ()) (k, 0, 0, 0, 0, 0, 0, 0, false, eB, eB, eB, [], ()) = some (match pb (pstr 8) (fun tok => pr (k, 0, 0, 0, 0, 0, 0, 0, false, eB, eB, tok, [], ())) l with | some (f, r) => (f, bytesStr r, true, ()) | none => (z, s, false, ())) := by
  rw [ref06_parts_5_eq, b_ref06_parts_5, ht]
  have e8 : Int.toNat 8 = 8 := rfl
  simp only [toldP, obind_some, pstr, e8]
  generalize hp : pb (ptake 8) (fun bs => pr (bytesStr bs)) l = o
  cases o with
  | none => simp only [pb] at hp ⊢; rw [hp]; exact ⟨_, _, rfl⟩
  | some x => simp only [pb] at hp ⊢; rw [hp]; exact ⟨zF 0, eB, rfl⟩
 rcases hk with rfl | rfl
 · simp only [obind_some, toList_beq, s1, s2, cond_true, cond_false, Int.reduceBEq]; exact g
 · simp only [obind_some, toList_beq, s1, s2, cond_true, cond_false, Int.reduceBEq]; exact g
theorem p6_28 (l : List Int) (hB : Byt l) (hl : l.length ≤ 1000000) : P6 28 l := by
 refine p6_3 28 (by omega) l ?_
 obtain ⟨s1, s2⟩ := sh_no (k := 28) (by simp [shapeL])
 rw [ref06_parts_3_eq, b_ref06_parts_3, shape_is]
 simp only [obind_some, toList_beq, s1, s2, cond_true, cond_false, Int.reduceBEq, bodyP, Bool.or_self]
 rcases nums2 l hB hl with ⟨_, h2, h3⟩ | ⟨a, b, r, _, _, hr, hrl, h2, h3⟩
 · simp only [h2, h3, obind_some, cond_false]; exact ⟨_, _, rfl⟩
 ·
  simp only [h2, h3, obind_some, cond_true, (at2 a b).1, (at2 a b).2, and_self, decide_true, List.getD_cons_zero, List.getD_cons_succ, long6_is r hr (by omega), toldP]
  simp only [pb]
  cases plong r with
  | none => exact ⟨_, _, rfl⟩
  | some x => exact ⟨zF 0, eB, rfl⟩
theorem p6_29 (l : List Int) (hB : Byt l) (hl : l.length ≤ 1000000) : P6 29 l := by
 refine p6_3 29 (by omega) l ?_
 obtain ⟨s1, s2⟩ := sh_no (k := 29) (by simp [shapeL])
 rw [ref06_parts_3_eq, b_ref06_parts_3, shape_is]
 simp only [obind_some, toList_beq, s1, s2, cond_true, cond_false, Int.reduceBEq, bodyP, Bool.or_self, num6_is l hB hl, toldP, pb]
 cases g1 : vget l with
 | none => exact ⟨_, _, rfl⟩
 | some x1 =>
  obtain ⟨a, r1⟩ := x1
  obtain ⟨i1, b1, c1⟩ := vget_in hB g1
  simp only [cond_true, long6_is r1 b1 (by omega), toldP, obind_some]
  cases plong r1 with
  | none => exact ⟨_, _, rfl⟩
  | some x2 => exact ⟨zF 0, eB, rfl⟩
theorem p6_24 (l : List Int) (hB : Byt l) (hl : l.length ≤ 1000000) : P6 24 l := by
 refine p6_3 24 (by omega) l ?_
 obtain ⟨s1, s2⟩ := sh_no (k := 24) (by simp [shapeL])
 rw [ref06_parts_3_eq, b_ref06_parts_3, shape_is]
 simp only [obind_some, toList_beq, s1, s2, cond_true, cond_false, Int.reduceBEq, bodyP, Bool.or_self]
 rcases nums2 l hB hl with ⟨_, h2, h3⟩ | ⟨a, b, r, _, _, hr, hrl, h2, h3⟩
 ·
  simp only [h2, h3, obind_some, cond_false]
  rw [ref06_parts_4_eq, b_ref06_parts_4]
  exact ⟨_, _, rfl⟩
 ·
  have f4 : ∀ d1 d2, ref06_parts_4 (bytesStr r) false d1 d2 = some (d2, bytesStr r, false, ()) := fun d1 d2 => by rw [ref06_parts_4_eq, b_ref06_parts_4]; rfl
  simp only [h2, h3, obind_some, cond_true, (at2 a b).1, (at2 a b).2, and_self, decide_true, List.getD_cons_zero, List.getD_cons_succ, bytesStr_size]
  by_cases c : 25 ≤ r.length
  ·
   have c1 : ((r.length : Nat) : Int) ≥ 25 := by omega
   have c2 : (0 : Int) < ((r.length : Nat) : Int) := by omega
   obtain ⟨x, q, rfl⟩ : ∃ x q, r = x :: q := by
    cases r with
    | nil => simp at c
    | cons x q => exact ⟨x, q, rfl⟩
   have ex : byteAt (bytesStr (x :: q)) 0 = x := by rw [byteAt_is, strBytes_bs hr]; rfl
   have hq : 24 ≤ q.length := by simp at c; omega
   have hq8 : 8 ≤ q.length := by omega
   have hq16 : 16 ≤ (q.drop 8).length := by simp; omega
   have t1 : 1 ≤ (x :: q).length := by simp
   simp only [c1, c2, Int.le_refl, and_self, decide_true, cond_true, ex, pb, ptake, t1, if_true, List.take_succ_cons, List.take_zero, List.drop_succ_cons, List.drop_zero]
   by_cases h8 : x = 8
   ·
    subst h8
    have i1 : (0 : Int) ≤ 1 ∧ ((1 : Int) ≤ 9 ∧ (9 : Int) ≤ ((((8 : Int) :: q).length : Nat) : Int)) := by simp at c ⊢; omega
    have i2 : (0 : Int) ≤ 9 ∧ ((9 : Int) ≤ 25 ∧ (25 : Int) ≤ ((((8 : Int) :: q).length : Nat) : Int)) := by simp at c ⊢; omega
    have i3 : (0 : Int) ≤ 25 ∧ ((25 : Int) ≤ ((((8 : Int) :: q).length : Nat) : Int) ∧ ((((8 : Int) :: q).length : Nat) : Int) ≤ ((((8 : Int) :: q).length : Nat) : Int)) := by simp at c ⊢; omega
    have x1 : (bytesStr ((8 : Int) :: q)).extract 1 (Int.toNat 9) = bytesStr (q.take 8) := by rw [extract_l _ hr]; simp
    have x2 : (bytesStr ((8 : Int) :: q)).extract 9 (Int.toNat 25) = bytesStr ((q.drop 8).take 16) := by rw [extract_l _ hr]; simp [List.drop_take]
    have x3 : (bytesStr ((8 : Int) :: q)).extract 25 (Int.toNat ((((8 : Int) :: q).length : Nat) : Int)) = bytesStr ((q.drop 8).drop 16) := by rw [extract_l _ hr, Int.toNat_natCast, List.take_length]; simp
    rw [ref06_parts_4_eq, b_ref06_parts_4]
    simp only [beq_self_eq_true, cond_true, bytesStr_size, i1, i2, i3, and_self, decide_true, x1, x2, x3, pg, pstr, pb, ptake, hq8, hq16, if_true, pr]
    exact ⟨zF 0, eB, trivial⟩
   ·
    have hx : (x == 8) = false := beq_false_of_ne h8
    have hx2 : (([x] : List Int) == [8]) = false := by simp [h8]
    simp only [hx, hx2, f4, pg, cond_false]
    exact ⟨_, _, rfl⟩
  ·
   have c1 : ¬ ((r.length : Nat) : Int) ≥ 25 := by omega
   simp only [c1, decide_false, cond_false, f4]
   have hnone : pb (ptake 1) (fun n => pb (pg (n == [8])) fun _ => pb (pstr 8) fun cid => pb (pstr 16) fun tok => pr ((24, 0, 0, 0, 0, a, b, 0, false, eB, cid, tok, [], ()) : D_frame_Frame)) r = none := by
    simp only [pb, ptake, pg, pstr]
    by_cases d1 : 1 ≤ r.length
    ·
     simp only [d1, if_true]
     cases (List.take 1 r == [8]) with
     | false => rfl
     | true =>
      simp only [cond_true]
      by_cases d2 : 8 ≤ (r.drop 1).length
      ·
       have d3 : ¬ 16 ≤ ((r.drop 1).drop 8).length := by simp; omega
       simp only [d2, d3, if_true, if_false, pr]
      · simp only [d2, if_false]
    · simp only [d1, if_false]
   rw [hnone]
   exact ⟨_, _, rfl⟩
theorem parts6_is (k : Int) (hk : In62 k) (l : List Int) (hB : Byt l) (hl : l.length ≤ 1000000) : P6 k l := by
 obtain ⟨k0, _⟩ := hk
 by_cases h30 : k ≤ 30
 ·
  have hc : k = 0 ∨ k = 1 ∨ k = 2 ∨ k = 3 ∨ k = 4 ∨ k = 5 ∨ k = 6 ∨ k = 7 ∨ k = 8 ∨ k = 9 ∨ k = 10 ∨ k = 11 ∨ k = 12 ∨ k = 13 ∨ k = 14 ∨ k = 15 ∨ k = 16 ∨ k = 17 ∨ k = 18 ∨ k = 19 ∨ k = 20 ∨ k = 21 ∨ k = 22 ∨ k = 23 ∨ k = 24 ∨ k = 25 ∨ k = 26 ∨ k = 27 ∨ k = 28 ∨ k = 29 ∨ k = 30 := by omega
  have n37 : ∀ k : Int, k = 3 ∨ k = 7 → P6 k l := by
   rintro k (rfl | rfl)
   ·
    unfold P6
    rw [ref06_parts_eq, b_ref06_parts]
    simp only [Int.reduceBEq, cond_false, show ¬ (3 : Int) ≥ 8 by omega, decide_false, ref06_parts_3_eq, b_ref06_parts_3, shape_is, obind_some, toList_beq, (sh_no (k := 3) (by simp [shapeL])).1, (sh_no (k := 3) (by simp [shapeL])).2]
    exact ⟨_, _, rfl⟩
   ·
    unfold P6
    rw [ref06_parts_eq, b_ref06_parts]
    simp only [Int.reduceBEq, cond_false, show ¬ (7 : Int) ≥ 8 by omega, decide_false, ref06_parts_3_eq, b_ref06_parts_3, shape_is, obind_some, toList_beq, (sh_no (k := 7) (by simp [shapeL])).1, (sh_no (k := 7) (by simp [shapeL])).2]
    exact ⟨_, _, rfl⟩
  rcases hc with h | h | h | h | h | h | h | h | h | h | h | h | h | h | h | h | h | h | h | h | h | h | h | h | h | h | h | h | h | h | h
  · exact p6_0 k (by omega) l
  · exact p6_0 k (by omega) l
  · subst h; exact p6_2 l hB hl
  · exact n37 k (.inl h)
  · subst h; exact p6_4 l hB hl
  · subst h; exact p6_5 l hB hl
  · subst h; exact p6_6 l hB hl
  · exact n37 k (.inr h)
  · subst h; exact p6_s 8 false false false (by omega) rfl rfl rfl (fun _ => rfl) l hB hl
  · subst h; exact p6_s 9 true false false (by omega) rfl rfl rfl (fun _ => rfl) l hB hl
  · subst h; exact p6_s 10 false false true (by omega) rfl rfl rfl (fun _ => rfl) l hB hl
  · subst h; exact p6_s 11 true false true (by omega) rfl rfl rfl (fun _ => rfl) l hB hl
  · subst h; exact p6_s 12 false true false (by omega) rfl rfl rfl (fun _ => rfl) l hB hl
  · subst h; exact p6_s 13 true true false (by omega) rfl rfl rfl (fun _ => rfl) l hB hl
  · subst h; exact p6_s 14 false true true (by omega) rfl rfl rfl (fun _ => rfl) l hB hl
  · subst h; exact p6_s 15 true true true (by omega) rfl rfl rfl (fun _ => rfl) l hB hl
  · exact p6_m k (by omega) l hB hl
  · exact p6_im k (by omega) l hB hl
  · exact p6_m k (by omega) l hB hl
  · exact p6_m k (by omega) l hB hl
  · exact p6_m k (by omega) l hB hl
  · exact p6_im k (by omega) l hB hl
  · exact p6_m k (by omega) l hB hl
  · exact p6_m k (by omega) l hB hl
  · subst h; exact p6_24 l hB hl
  · subst h; exact p6_25 l hB hl
  · exact p6_t k (by omega) l hB hl
  · exact p6_t k (by omega) l hB hl
  · subst h; exact p6_28 l hB hl
  · subst h; exact p6_29 l hB hl
  · exact p6_0 k (by omega) l
 ·
  refine p6_3 k (by omega) l ?_
  have hs : shapeL k = [] := by
   have : kindB k = false := by
    cases h : kindB k with
    | false => rfl
    | true => have := kinds h; omega
   exact shapeL_none this
  obtain ⟨s1, s2⟩ := sh_no (k := k) (by simp [hs])
  have k24 : (k == 24) = false := beq_false_of_ne (by omega)
  have k25 : (k == 25) = false := beq_false_of_ne (by omega)
  have k26 : (k == 26) = false := beq_false_of_ne (by omega)
  have k27 : (k == 27) = false := beq_false_of_ne (by omega)
  have k28 : (k == 28) = false := beq_false_of_ne (by omega)
  have k29 : (k == 29) = false := beq_false_of_ne (by omega)
  have hb : bodyP k l = none := by
   simp only [bodyP, k24, k25, k26, k27, k28, k29, beq_false_of_ne (show k ≠ 0 by omega), beq_false_of_ne (show k ≠ 1 by omega), beq_false_of_ne (show k ≠ 2 by omega), beq_false_of_ne (show k ≠ 4 by omega), beq_false_of_ne (show k ≠ 5 by omega), beq_false_of_ne (show k ≠ 6 by omega),
    beq_false_of_ne (show k ≠ 8 by omega), beq_false_of_ne (show k ≠ 9 by omega), beq_false_of_ne (show k ≠ 10 by omega), beq_false_of_ne (show k ≠ 11 by omega), beq_false_of_ne (show k ≠ 12 by omega), beq_false_of_ne (show k ≠ 13 by omega), beq_false_of_ne (show k ≠ 14 by omega), beq_false_of_ne (show k ≠ 15 by omega),
    beq_false_of_ne (show k ≠ 16 by omega), beq_false_of_ne (show k ≠ 17 by omega), beq_false_of_ne (show k ≠ 18 by omega), beq_false_of_ne (show k ≠ 19 by omega), beq_false_of_ne (show k ≠ 20 by omega), beq_false_of_ne (show k ≠ 21 by omega), beq_false_of_ne (show k ≠ 22 by omega), beq_false_of_ne (show k ≠ 23 by omega),
    beq_false_of_ne (show k ≠ 30 by omega), Bool.or_self, cond_false]
  rw [ref06_parts_3_eq, b_ref06_parts_3, shape_is, hb]
  simp only [obind_some, toList_beq, s1, s2, k24, k25, k26, k27, k28, k29, cond_false]
  exact ⟨_, _, rfl⟩
theorem get6_is (l : List Int) (hB : Byt l) (hl : l.length ≤ 1000000) : ref06_Get (bytesStr l) = some (match getL l with | some (f, r) => (f, bytesStr r, 0, ()) | none => (zF 0, eB, 60, ())) := by
 rw [ref06_Get_eq, b_ref06_Get, num6_is l hB hl]
 simp only [toldP, obind_some, e0B, getL, pb]
 cases g1 : vget l with
 | none => rfl
 | some x1 =>
  obtain ⟨k, r⟩ := x1
  obtain ⟨i1, b1, c1⟩ := vget_in hB g1
  have w : IntKind.wrap .i64 (((l.length : Nat) : Int) - ((r.length : Nat) : Int)) = ((l.length : Nat) : Int) - ((r.length : Nat) : Int) := wrap_i64 _ (by omega) (by omega)
  have hv : (if k < 64 then (1 : Int) else if k < 16384 then 2 else if k < 1073741824 then 4 else if k < 4611686018427387904 then 8 else 0) = vsize k := rfl
  simp only [Bool.not_true, cond_false, bytesStr_size, w, size6_is, obind_some, hv]
  by_cases c : ((l.length : Nat) : Int) - ((r.length : Nat) : Int) = vsize k
  ·
   simp only [c, bne_self_eq_false, cond_false, decide_true, cond_true, pb, finP']
   obtain ⟨z, s, e⟩ := parts6_is k i1 r b1 (by omega)
   rw [e]
   simp only [obind_some]
   cases g2 : bodyP k r with
   | none => rfl
   | some x2 =>
    obtain ⟨f, r2⟩ := x2
    have hf : FrOk f := Tell.body k i1 r f r2 b1 g2
    simp only [Bool.not_true, cond_false, may6_is f hf, obind_some, pg, pr]
    cases mayFr f <;> rfl
  ·
   have cb : (((l.length : Nat) : Int) - ((r.length : Nat) : Int) != vsize k) = true := by simpa using c
   simp only [c, cb, decide_false, cond_false, cond_true]
end Go.Proofs.YtjdjlijjolibkaaDoor.V
namespace Go.Proofs.YtjdjlijjolibkaaDoor.V
open Go.RowKit Go.Proofs.Tryd
set_option maxRecDepth 100000
set_option linter.unusedVariables false
noncomputable def m_frame_All : Mach prog Inv gInv := mach bas [(42, f42)] ⟨ok42, trivial⟩ [(38, c_frame_Get)] ⟨⟨c_frame_Get_ok, FnOk.callable ok38⟩, trivial⟩ [] trivial [] trivial
/-! ### domino/frame.All -/
@[reducible] def r_frame_All : List Ty := [(.slice T_frame_Frame), (.int .i64)]
def ks_frame_All : List Nat := [42]
abbrev H_frame_All (base : Base) (S0 : Nat → Prop) := base.n = 0 ∧ FinOk (finR r_frame_All) base S0 (Post r_frame_All S0)
abbrev J_frame_All (base : Base) (S0 : Nat → Prop) (cs0 : List Go.Frame) (p : CPat) (J : denC p → Option (denL r_frame_All)) := JSound m_frame_All base S0 cs0 (Post r_frame_All S0) p J
abbrev O_frame_All (base : Base) (S0 : Nat → Prop) (cs0 : List Go.Frame) (X : Cfg → Option (Option (denL r_frame_All))) := OSound m_frame_All base S0 cs0 (Post r_frame_All S0) X
@[reducible] noncomputable def p_frame_All_0 : CPat := ⟨⟨42, [1, 1, 0, 0], none, [.str, .any, .all 0], 26⟩, [], [.row T_frame_Frame], 0⟩
@[reducible] noncomputable def u_frame_All_0 (k : ByteArray → (List D_frame_Frame) → Option ((List D_frame_Frame) × Int × Unit)) : denC p_frame_All_0 → Option ((List D_frame_Frame) × Int × Unit) := fun x => k x.1.1 x.2.2.1
noncomputable def t_frame_All_0 (k0 : ByteArray → (List D_frame_Frame) → Option ((List D_frame_Frame) × Int × Unit)) (s11 : ByteArray) (l12 : (List D_frame_Frame)) : Option ((List D_frame_Frame) × Int × Unit) :=
 let b13 : Bool := (!((ByteArray.toList s11) == (ByteArray.toList (ByteArray.mk (List.toArray ([] : List UInt8))))))
 bif b13 then
  let s14 : ByteArray := (ByteArray.mk (List.toArray ([] : List UInt8)))
  obind (frame_Get s11) fun y15 =>
  let b16 : Bool := (y15.2.2.1 != (0 : Int))
  bif b16 then
   some (([] : List D_frame_Frame), y15.2.2)
  else
   let b17 : Bool := (y15.1.1 == (0 : Int))
   bif b17 then
    k0 y15.2.1 l12
   else
    let e18 : (Int × (Int × (Int × (Int × (Int × (Int × (Int × (Int × (Bool × (ByteArray × (ByteArray × (ByteArray × ((List D_ranges_Range) × Unit))))))))))))) := (y15.1.1, (y15.1.2.1, (y15.1.2.2.1, (y15.1.2.2.2.1, (y15.1.2.2.2.2.1, (y15.1.2.2.2.2.2.1, (y15.1.2.2.2.2.2.2.1, (y15.1.2.2.2.2.2.2.2.1, (y15.1.2.2.2.2.2.2.2.2.1, (y15.1.2.2.2.2.2.2.2.2.2.1, (y15.1.2.2.2.2.2.2.2.2.2.2.1, (y15.1.2.2.2.2.2.2.2.2.2.2.2.1, (y15.1.2.2.2.2.2.2.2.2.2.2.2.2.1, ())))))))))))))
    bif (decide (((List.length l12) + (List.length (e18 :: ([] : List D_frame_Frame)))) ≤ 4294967296)) then
     let l19 : (List D_frame_Frame) := (l12 ++ (e18 :: ([] : List D_frame_Frame)))
     let n20 : Int := (((List.length l19) : Nat) : Int)
     let b21 : Bool := (decide (n20 > (40 : Int)))
     bif b21 then
      some (([] : List D_frame_Frame), ((60 : Int), ()))
     else
      k0 y15.2.1 l19
    else none
 else
  some (l12, ((0 : Int), ()))
noncomputable def frame_All_0 : Nat → ByteArray → (List D_frame_Frame) → Option ((List D_frame_Frame) × Int × Unit)
 | 0 => fun _ _ => none
 | m + 1 => t_frame_All_0 (frame_All_0 m)
noncomputable def b_frame_All_0' (s11 : ByteArray) (l12 : (List D_frame_Frame)) : Option ((List D_frame_Frame) × Int × Unit) := frame_All_0 (4294967296) s11 l12
theorem ex_frame_All_0' : ∃ f, f = @b_frame_All_0' := ⟨_, rfl⟩
noncomputable def frame_All_0' := Classical.choose ex_frame_All_0'
theorem frame_All_0'_eq : @frame_All_0' = @b_frame_All_0' := Classical.choose_spec ex_frame_All_0'
theorem s_frame_All_0 {base S0 cs0} (hfin : H_frame_All base S0) : ∀ m, J_frame_All base S0 cs0 p_frame_All_0 (u_frame_All_0 (frame_All_0 m)) :=
 JSound.loop' hfin.2 ks_frame_All 100000 u_frame_All_0 (fun k0 => cut p_frame_All_0 (u_frame_All_0 k0) (nowhere)) (fun k0 h0 => OSound.cut (OSound.nowhere) (Nat.le_of_eq hfin.1) h0) (frame_All_0) (by intro x; rfl) (by intro m x; kernel_rfl)
theorem s_frame_All_0' {base S0 cs0} (hfin : H_frame_All base S0) : J_frame_All base S0 cs0 p_frame_All_0 (u_frame_All_0 (frame_All_0')) := by
 rw [frame_All_0'_eq]; exact fun x r hx => s_frame_All_0 hfin _ x r hx
noncomputable def x_frame_All_0 : Cfg → Option (Option ((List D_frame_Frame) × Int × Unit)) := cut p_frame_All_0 (u_frame_All_0 (frame_All_0')) (nowhere)
theorem o_frame_All_0 {base S0 cs0} (hfin : H_frame_All base S0) : O_frame_All base S0 cs0 (x_frame_All_0) := OSound.cut (OSound.nowhere) (Nat.le_of_eq hfin.1) (s_frame_All_0' hfin)
noncomputable def b_frame_All (a0 : ByteArray) : Option ((List D_frame_Frame) × Int × Unit) :=
 let b1 : Bool := ((ByteArray.toList a0) == (ByteArray.toList (ByteArray.mk (List.toArray ([] : List UInt8)))))
 bif b1 then
  some (([] : List D_frame_Frame), ((60 : Int), ()))
 else
  frame_All_0' a0 ([] : List D_frame_Frame)
theorem ex_frame_All : ∃ f, f = @b_frame_All := ⟨_, rfl⟩
noncomputable def frame_All := Classical.choose ex_frame_All
theorem frame_All_eq : @frame_All = @b_frame_All := Classical.choose_spec ex_frame_All
noncomputable def cb_frame_All : Con := ⟨[.str], r_frame_All, fun x => b_frame_All x.1⟩
noncomputable def c_frame_All : Con := ⟨[.str], r_frame_All, fun x => frame_All x.1⟩
theorem cb_frame_All_ok : cb_frame_All.Sound prog Inv gInv 42 :=
 con_run (M := m_frame_All) inv_g (f := f42) rfl ks_frame_All 100000 (X := x_frame_All_0) (fun base S0 cs0 hn hf => have hfin : H_frame_All base S0 := ⟨hn, hf⟩; o_frame_All_0 hfin) (by intro x; kernel_rfl)
theorem c_frame_All_ok : c_frame_All.Sound prog Inv gInv 42 := by
 have e : c_frame_All = cb_frame_All := by unfold c_frame_All cb_frame_All; rw [frame_All_eq]
 rw [e]; exact cb_frame_All_ok
noncomputable def m_law06_all : Mach prog Inv gInv := mach bas [(45, f45)] ⟨ok45, trivial⟩ [(33, c_law06_its)] ⟨⟨c_law06_its_ok, FnOk.callable ok33⟩, trivial⟩ [] trivial [] trivial
/-! ### domino/dominolaw06.all -/
@[reducible] def r_law06_all : List Ty := [(.slice T_frame_Frame)]
def ks_law06_all : List Nat := [45]
abbrev H_law06_all (base : Base) (S0 : Nat → Prop) := base.n = 0 ∧ FinOk (finR r_law06_all) base S0 (Post r_law06_all S0)
abbrev J_law06_all (base : Base) (S0 : Nat → Prop) (cs0 : List Go.Frame) (p : CPat) (J : denC p → Option (denL r_law06_all)) := JSound m_law06_all base S0 cs0 (Post r_law06_all S0) p J
abbrev O_law06_all (base : Base) (S0 : Nat → Prop) (cs0 : List Go.Frame) (X : Cfg → Option (Option (denL r_law06_all))) := OSound m_law06_all base S0 cs0 (Post r_law06_all S0) X
@[reducible] noncomputable def p_law06_all_0 : CPat := ⟨⟨45, [1, 1, 0, 1, 0], none, [.rows T_frame_Frame false, .any, .any, .all 0, .int .i64], 16⟩, [], [.row T_frame_Frame], 0⟩
@[reducible] noncomputable def u_law06_all_0 (k : (List D_frame_Frame) → Int → (List D_frame_Frame) → Option ((List D_frame_Frame) × Unit)) : denC p_law06_all_0 → Option ((List D_frame_Frame) × Unit) := fun x => k x.1.1 x.1.2.2.2.2.1 x.2.2.1
noncomputable def t_law06_all_0 (k0 : (List D_frame_Frame) → Int → (List D_frame_Frame) → Option ((List D_frame_Frame) × Unit)) (l9 : (List D_frame_Frame)) (i10 : Int) (l11 : (List D_frame_Frame)) : Option ((List D_frame_Frame) × Unit) :=
 let n12 : Int := (((List.length l9) : Nat) : Int)
 let b13 : Bool := (decide (i10 < n12))
 bif b13 then
  bif (decide (((0 : Int) ≤ i10) ∧ (i10 < (((List.length l9) : Nat) : Int)))) then
   let x14 : D_frame_Frame := (List.getD l9 (Int.toNat i10) (Ty.dflt T_frame_Frame))
   obind (law06_its x14) fun y15 =>
   let e16 : (Int × (Int × (Int × (Int × (Int × (Int × (Int × (Int × (Bool × (ByteArray × (ByteArray × (ByteArray × ((List D_ranges_Range) × Unit))))))))))))) := (y15.1.1, (y15.1.2.1, (y15.1.2.2.1, (y15.1.2.2.2.1, (y15.1.2.2.2.2.1, (y15.1.2.2.2.2.2.1, (y15.1.2.2.2.2.2.2.1, (y15.1.2.2.2.2.2.2.2.1, (y15.1.2.2.2.2.2.2.2.2.1, (y15.1.2.2.2.2.2.2.2.2.2.1, (y15.1.2.2.2.2.2.2.2.2.2.2.1, (y15.1.2.2.2.2.2.2.2.2.2.2.2.1, (y15.1.2.2.2.2.2.2.2.2.2.2.2.2.1, ())))))))))))))
   bif (decide (((List.length l11) + (List.length (e16 :: ([] : List D_frame_Frame)))) ≤ 4294967296)) then
    let l17 : (List D_frame_Frame) := (l11 ++ (e16 :: ([] : List D_frame_Frame)))
    let n18 : Int := (Go.IntKind.wrap Go.IntKind.i64 (i10 + (1 : Int)))
    k0 l9 n18 l17
   else none
  else none
 else
  some (l11, ())
noncomputable def law06_all_0 : Nat → (List D_frame_Frame) → Int → (List D_frame_Frame) → Option ((List D_frame_Frame) × Unit)
 | 0 => fun _ _ _ => none
 | m + 1 => t_law06_all_0 (law06_all_0 m)
noncomputable def b_law06_all_0' (l9 : (List D_frame_Frame)) (i10 : Int) (l11 : (List D_frame_Frame)) : Option ((List D_frame_Frame) × Unit) := law06_all_0 (Int.toNat ((((List.length l9) : Nat) : Int) - i10) + 2) l9 i10 l11
theorem ex_law06_all_0' : ∃ f, f = @b_law06_all_0' := ⟨_, rfl⟩
noncomputable def law06_all_0' := Classical.choose ex_law06_all_0'
theorem law06_all_0'_eq : @law06_all_0' = @b_law06_all_0' := Classical.choose_spec ex_law06_all_0'
theorem s_law06_all_0 {base S0 cs0} (hfin : H_law06_all base S0) : ∀ m, J_law06_all base S0 cs0 p_law06_all_0 (u_law06_all_0 (law06_all_0 m)) :=
 JSound.loop' hfin.2 ks_law06_all 100000 u_law06_all_0 (fun k0 => cut p_law06_all_0 (u_law06_all_0 k0) (nowhere)) (fun k0 h0 => OSound.cut (OSound.nowhere) (Nat.le_of_eq hfin.1) h0) (law06_all_0) (by intro x; rfl) (by intro m x; kernel_rfl)
theorem s_law06_all_0' {base S0 cs0} (hfin : H_law06_all base S0) : J_law06_all base S0 cs0 p_law06_all_0 (u_law06_all_0 (law06_all_0')) := by
 rw [law06_all_0'_eq]; exact fun x r hx => s_law06_all_0 hfin _ x r hx
noncomputable def x_law06_all_0 : Cfg → Option (Option ((List D_frame_Frame) × Unit)) := cut p_law06_all_0 (u_law06_all_0 (law06_all_0')) (nowhere)
theorem o_law06_all_0 {base S0 cs0} (hfin : H_law06_all base S0) : O_law06_all base S0 cs0 (x_law06_all_0) := OSound.cut (OSound.nowhere) (Nat.le_of_eq hfin.1) (s_law06_all_0' hfin)
noncomputable def b_law06_all (a0 : (List D_frame_Frame)) : Option ((List D_frame_Frame) × Unit) :=
 law06_all_0' a0 (0 : Int) ([] : List D_frame_Frame)
theorem ex_law06_all : ∃ f, f = @b_law06_all := ⟨_, rfl⟩
noncomputable def law06_all := Classical.choose ex_law06_all
theorem law06_all_eq : @law06_all = @b_law06_all := Classical.choose_spec ex_law06_all
noncomputable def cb_law06_all : Con := ⟨[(.slice T_frame_Frame)], r_law06_all, fun x => b_law06_all x.1⟩
noncomputable def c_law06_all : Con := ⟨[(.slice T_frame_Frame)], r_law06_all, fun x => law06_all x.1⟩
theorem cb_law06_all_ok : cb_law06_all.Sound prog Inv gInv 45 :=
 con_run (M := m_law06_all) inv_g (f := f45) rfl ks_law06_all 100000 (X := x_law06_all_0) (fun base S0 cs0 hn hf => have hfin : H_law06_all base S0 := ⟨hn, hf⟩; o_law06_all_0 hfin) (by intro x; kernel_rfl)
theorem c_law06_all_ok : c_law06_all.Sound prog Inv gInv 45 := by
 have e : c_law06_all = cb_law06_all := by unfold c_law06_all cb_law06_all; rw [law06_all_eq]
 rw [e]; exact cb_law06_all_ok
noncomputable def m_ref06_SameAll : Mach prog Inv gInv := mach bas [(44, f44)] ⟨ok44, trivial⟩ [(40, c_ref06_Same)] ⟨⟨c_ref06_Same_ok, FnOk.callable ok40⟩, trivial⟩ [] trivial [] trivial
/-! ### domino/dominoref06.SameAll -/
@[reducible] def r_ref06_SameAll : List Ty := [.bool]
def ks_ref06_SameAll : List Nat := [44]
abbrev H_ref06_SameAll (base : Base) (S0 : Nat → Prop) := base.n = 0 ∧ FinOk (finR r_ref06_SameAll) base S0 (Post r_ref06_SameAll S0)
abbrev J_ref06_SameAll (base : Base) (S0 : Nat → Prop) (cs0 : List Go.Frame) (p : CPat) (J : denC p → Option (denL r_ref06_SameAll)) := JSound m_ref06_SameAll base S0 cs0 (Post r_ref06_SameAll S0) p J
abbrev O_ref06_SameAll (base : Base) (S0 : Nat → Prop) (cs0 : List Go.Frame) (X : Cfg → Option (Option (denL r_ref06_SameAll))) := OSound m_ref06_SameAll base S0 cs0 (Post r_ref06_SameAll S0) X
@[reducible] noncomputable def p_ref06_SameAll_0 : CPat := ⟨⟨44, [1, 1, 0, 1, 0], none, [.rows T_frame_Frame false, .rows T_frame_Frame false, .any, .any, .any, .int .i64], 21⟩, [], [], 0⟩
@[reducible] noncomputable def u_ref06_SameAll_0 (k : (List D_frame_Frame) → (List D_frame_Frame) → Int → Option (Bool × Unit)) : denC p_ref06_SameAll_0 → Option (Bool × Unit) := fun x => k x.1.1 x.1.2.1 x.1.2.2.2.2.2.1
noncomputable def t_ref06_SameAll_0 (k0 : (List D_frame_Frame) → (List D_frame_Frame) → Int → Option (Bool × Unit)) (l13 : (List D_frame_Frame)) (l14 : (List D_frame_Frame)) (i15 : Int) : Option (Bool × Unit) :=
 let n16 : Int := (((List.length l13) : Nat) : Int)
 let b17 : Bool := (decide (i15 < n16))
 bif b17 then
  bif (decide (((0 : Int) ≤ i15) ∧ (i15 < (((List.length l13) : Nat) : Int)))) then
   let x18 : D_frame_Frame := (List.getD l13 (Int.toNat i15) (Ty.dflt T_frame_Frame))
   bif (decide (((0 : Int) ≤ i15) ∧ (i15 < (((List.length l14) : Nat) : Int)))) then
    let x19 : D_frame_Frame := (List.getD l14 (Int.toNat i15) (Ty.dflt T_frame_Frame))
    obind (ref06_Same x18 x19) fun y20 =>
    let b21 : Bool := (!y20.1)
    bif b21 then
     some (false, ())
    else
     let n22 : Int := (Go.IntKind.wrap Go.IntKind.i64 (i15 + (1 : Int)))
     k0 l13 l14 n22
   else none
  else none
 else
  some (true, ())
noncomputable def ref06_SameAll_0 : Nat → (List D_frame_Frame) → (List D_frame_Frame) → Int → Option (Bool × Unit)
 | 0 => fun _ _ _ => none
 | m + 1 => t_ref06_SameAll_0 (ref06_SameAll_0 m)
noncomputable def b_ref06_SameAll_0' (l13 : (List D_frame_Frame)) (l14 : (List D_frame_Frame)) (i15 : Int) : Option (Bool × Unit) := ref06_SameAll_0 (Int.toNat ((((List.length l13) : Nat) : Int) - i15) + 2) l13 l14 i15
theorem ex_ref06_SameAll_0' : ∃ f, f = @b_ref06_SameAll_0' := ⟨_, rfl⟩
noncomputable def ref06_SameAll_0' := Classical.choose ex_ref06_SameAll_0'
theorem ref06_SameAll_0'_eq : @ref06_SameAll_0' = @b_ref06_SameAll_0' := Classical.choose_spec ex_ref06_SameAll_0'
theorem s_ref06_SameAll_0 {base S0 cs0} (hfin : H_ref06_SameAll base S0) : ∀ m, J_ref06_SameAll base S0 cs0 p_ref06_SameAll_0 (u_ref06_SameAll_0 (ref06_SameAll_0 m)) :=
 JSound.loop' hfin.2 ks_ref06_SameAll 100000 u_ref06_SameAll_0 (fun k0 => cut p_ref06_SameAll_0 (u_ref06_SameAll_0 k0) (nowhere)) (fun k0 h0 => OSound.cut (OSound.nowhere) (Nat.le_of_eq hfin.1) h0) (ref06_SameAll_0) (by intro x; rfl) (by intro m x; kernel_rfl)
theorem s_ref06_SameAll_0' {base S0 cs0} (hfin : H_ref06_SameAll base S0) : J_ref06_SameAll base S0 cs0 p_ref06_SameAll_0 (u_ref06_SameAll_0 (ref06_SameAll_0')) := by
 rw [ref06_SameAll_0'_eq]; exact fun x r hx => s_ref06_SameAll_0 hfin _ x r hx
noncomputable def x_ref06_SameAll_0 : Cfg → Option (Option (Bool × Unit)) := cut p_ref06_SameAll_0 (u_ref06_SameAll_0 (ref06_SameAll_0')) (nowhere)
theorem o_ref06_SameAll_0 {base S0 cs0} (hfin : H_ref06_SameAll base S0) : O_ref06_SameAll base S0 cs0 (x_ref06_SameAll_0) := OSound.cut (OSound.nowhere) (Nat.le_of_eq hfin.1) (s_ref06_SameAll_0' hfin)
noncomputable def b_ref06_SameAll (a0 : (List D_frame_Frame)) (a1 : (List D_frame_Frame)) : Option (Bool × Unit) :=
 let n2 : Int := (((List.length a0) : Nat) : Int)
 let n3 : Int := (((List.length a1) : Nat) : Int)
 let b4 : Bool := (n2 != n3)
 bif b4 then
  some (false, ())
 else
  ref06_SameAll_0' a0 a1 (0 : Int)
theorem ex_ref06_SameAll : ∃ f, f = @b_ref06_SameAll := ⟨_, rfl⟩
noncomputable def ref06_SameAll := Classical.choose ex_ref06_SameAll
theorem ref06_SameAll_eq : @ref06_SameAll = @b_ref06_SameAll := Classical.choose_spec ex_ref06_SameAll
noncomputable def cb_ref06_SameAll : Con := ⟨[(.slice T_frame_Frame), (.slice T_frame_Frame)], r_ref06_SameAll, fun x => b_ref06_SameAll x.1 x.2.1⟩
noncomputable def c_ref06_SameAll : Con := ⟨[(.slice T_frame_Frame), (.slice T_frame_Frame)], r_ref06_SameAll, fun x => ref06_SameAll x.1 x.2.1⟩
theorem cb_ref06_SameAll_ok : cb_ref06_SameAll.Sound prog Inv gInv 44 :=
 con_run (M := m_ref06_SameAll) inv_g (f := f44) rfl ks_ref06_SameAll 100000 (X := x_ref06_SameAll_0) (fun base S0 cs0 hn hf => have hfin : H_ref06_SameAll base S0 := ⟨hn, hf⟩; o_ref06_SameAll_0 hfin) (by intro x; kernel_rfl)
theorem c_ref06_SameAll_ok : c_ref06_SameAll.Sound prog Inv gInv 44 := by
 have e : c_ref06_SameAll = cb_ref06_SameAll := by unfold c_ref06_SameAll cb_ref06_SameAll; rw [ref06_SameAll_eq]
 rw [e]; exact cb_ref06_SameAll_ok
end Go.Proofs.YtjdjlijjolibkaaDoor.V
namespace Go.Proofs.YtjdjlijjolibkaaDoor.V
open Go.RowKit
set_option linter.unusedVariables false
theorem getB {l : List Int} (hB : Byt l) (hl : l.length ≤ 1000000) : frame_Get (bytesStr l) = some (match getL l with | some (f, r) => (f, bytesStr r, 0, ()) | none => (zF 0, eB, 60, ())) := by
 have e := get_is (bytesStr l) (by rw [bytesStr_size]; exact hl)
 rw [strBytes_bs hB] at e
 refine e.trans ?_
 cases getL l <;> rfl
theorem bs_nil {l : List Int} : bytesStr l = eB ↔ l = [] := by
 constructor
 ·
  intro h
  have := congrArg ByteArray.size h
  rw [bytesStr_size] at this
  exact List.eq_nil_of_length_eq_zero this
 · rintro rfl; rfl
def allF : Nat → List Int → List D_frame_Frame → List D_frame_Frame × Int × Unit
 | 0, _, _ => ([], 60, ())
 | m + 1, l, acc => bif decide (l = []) then (acc, 0, ()) else match getL l with
  | none => ([], 60, ())
  | some (f, r) => bif f.1 == 0 then allF m r acc else bif decide (40 < acc.length + 1) then ([], 60, ()) else allF m r (acc ++ [f])
theorem getL_less {l r : List Int} {f : D_frame_Frame} (h : getL l = some (f, r)) (hB : Byt l) : r.length < l.length ∧ Byt r := by
 obtain ⟨q, hq, hq1⟩ := getL_suf h
 rw [hq] at hB ⊢
 exact ⟨by simp; omega, Byt.suf hB⟩
theorem all_loop : ∀ (m n : Nat) (l : List Int) (acc : List D_frame_Frame), l.length < m → l.length < n → Byt l → l.length ≤ 1000000 → acc.length ≤ 40 → frame_All_0 m (bytesStr l) acc = some (allF n l acc) := by
 intro m
 induction m with
 | zero => intro n l acc h; omega
 | succ m ih =>
  intro n l acc hm hn hB hl ha
  obtain ⟨n, rfl⟩ : ∃ k, n = k + 1 := ⟨n - 1, by omega⟩
  have e0 : ByteArray.mk (List.toArray ([] : List UInt8)) = eB := rfl
  have hd : decide (bytesStr l = eB) = decide (l = []) := decide_eq_decide.mpr bs_nil
  simp only [frame_All_0, t_frame_All_0, e0, toList_beq, hd, allF]
  by_cases h0 : l = []
  · simp only [h0, decide_true, Bool.not_true, cond_false, cond_true]
  ·
   simp only [h0, decide_false, Bool.not_false, cond_true, cond_false, getB hB hl, obind_some]
   cases hg : getL l with
   | none => rfl
   | some x =>
    obtain ⟨f, r⟩ := x
    obtain ⟨h1, h2⟩ := getL_less hg hB
    simp only [bne_self_eq_false, cond_false]
    cases hk : f.1 == 0 with
    | true => simp only [cond_true]; exact ih n r acc (by omega) (by omega) h2 (by omega) ha
    | false =>
     have c : acc.length + [f].length ≤ 4294967296 := by simp; omega
     have ef : ((f.1, (f.2.1, (f.2.2.1, (f.2.2.2.1, (f.2.2.2.2.1, (f.2.2.2.2.2.1, (f.2.2.2.2.2.2.1, (f.2.2.2.2.2.2.2.1, (f.2.2.2.2.2.2.2.2.1, (f.2.2.2.2.2.2.2.2.2.1, (f.2.2.2.2.2.2.2.2.2.2.1, (f.2.2.2.2.2.2.2.2.2.2.2.1, (f.2.2.2.2.2.2.2.2.2.2.2.2.1, ()))))))))))))) : D_frame_Frame) = f := rfl
     have hd2 : decide ((((acc ++ [f]).length : Nat) : Int) > 40) = decide (40 < acc.length + 1) := decide_eq_decide.mpr (by simp; omega)
     simp only [ef, cond_false, c, decide_true, cond_true, hd2]
     by_cases h40 : 40 < acc.length + 1
     · simp only [h40, decide_true, cond_true]
     ·
      simp only [h40, decide_false, cond_false]
      exact ih n r (acc ++ [f]) (by omega) (by omega) h2 (by omega) (by simp; omega)
theorem all_is (l : List Int) (hB : Byt l) (hl : l.length ≤ 1000000) : frame_All (bytesStr l) = some (bif decide (l = []) then ([], 60, ()) else allF (l.length + 1) l []) := by
 rw [frame_All_eq, b_frame_All]
 have e0 : ByteArray.mk (List.toArray ([] : List UInt8)) = eB := rfl
 have hd : decide (bytesStr l = eB) = decide (l = []) := decide_eq_decide.mpr bs_nil
 simp only [e0, toList_beq, hd]
 by_cases h0 : l = []
 · simp only [h0, decide_true, cond_true]
 ·
  simp only [h0, decide_false, cond_false]
  rw [frame_All_0'_eq, b_frame_All_0']
  exact all_loop _ _ l [] (by omega) (by omega) hB hl (by simp)
/-! ### lists of frames -/
theorem lall_loop : ∀ (suf pre : List D_frame_Frame) (m : Nat), suf.length < m → (pre ++ suf).length ≤ 1000 → (∀ f ∈ pre ++ suf, f.2.2.2.2.2.2.2.2.2.2.2.2.1.length ≤ 1000000) →
  law06_all_0 m (pre ++ suf) ((pre.length : Nat) : Int) pre = some (pre ++ suf, ()) := by
 intro suf
 induction suf with
 | nil =>
  intro pre m hm _ _
  obtain ⟨m, rfl⟩ : ∃ k, m = k + 1 := ⟨m - 1, by omega⟩
  simp only [law06_all_0, t_law06_all_0, List.append_nil, Int.lt_irrefl, decide_false, cond_false]
 | cons x suf ih =>
  intro pre m hm hl hs
  obtain ⟨m, rfl⟩ : ∃ k, m = k + 1 := ⟨m - 1, by omega⟩
  have hx : law06_its x = some (x, ()) := its_is x (hs x (by simp))
  have c : pre.length + [x].length ≤ 4294967296 := by simp at hl ⊢; omega
  have ef : ((x.1, (x.2.1, (x.2.2.1, (x.2.2.2.1, (x.2.2.2.2.1, (x.2.2.2.2.2.1, (x.2.2.2.2.2.2.1, (x.2.2.2.2.2.2.2.1, (x.2.2.2.2.2.2.2.2.1, (x.2.2.2.2.2.2.2.2.2.1, (x.2.2.2.2.2.2.2.2.2.2.1, (x.2.2.2.2.2.2.2.2.2.2.2.1, (x.2.2.2.2.2.2.2.2.2.2.2.2.1, ()))))))))))))) : D_frame_Frame) = x := rfl
  simp only [law06_all_0, t_law06_all_0, mid_lt, nn, and_true, decide_true, cond_true, toNat_len, getD_mid, hx, obind_some, ef, c]
  rw [mid_next pre x x suf (by omega), snoc_app pre x suf]
  exact ih (pre ++ [x]) m (by simp at hm; omega) (by simpa using hl) (by rw [← snoc_app]; exact hs)
theorem lall_is (l : List D_frame_Frame) (hl : l.length ≤ 1000) (hs : ∀ f ∈ l, f.2.2.2.2.2.2.2.2.2.2.2.2.1.length ≤ 1000000) : law06_all l = some (l, ()) := by
 rw [law06_all_eq, b_law06_all, law06_all_0'_eq, b_law06_all_0']
 exact lall_loop l [] _ (by omega) (by simpa using hl) (by simpa using hs)
theorem sall_loop : ∀ (s1 s2 p1 p2 : List D_frame_Frame) (m : Nat), s1.length < m → p1.length = p2.length → s1.length = s2.length → (p1 ++ s1).length ≤ 1000 → (∀ f ∈ s1, f.2.2.2.2.2.2.2.2.2.2.2.2.1.length ≤ 1000000) →
  ref06_SameAll_0 m (p1 ++ s1) (p2 ++ s2) ((p1.length : Nat) : Int) = some (decide (s1 = s2), ()) := by
 intro s1
 induction s1 with
 | nil =>
  intro s2 p1 p2 m hm _ h2 _ _
  obtain ⟨m, rfl⟩ : ∃ k, m = k + 1 := ⟨m - 1, by omega⟩
  obtain rfl : s2 = [] := List.eq_nil_of_length_eq_zero (by simpa using h2.symm)
  simp only [ref06_SameAll_0, t_ref06_SameAll_0, mid_end, decide_false, cond_false, decide_true]
 | cons x s1 ih =>
  intro s2 p1 p2 m hm h1 h2 hl hs
  obtain ⟨m, rfl⟩ : ∃ k, m = k + 1 := ⟨m - 1, by omega⟩
  obtain ⟨y, s2, rfl⟩ : ∃ y t, s2 = y :: t := by
   cases s2 with
   | nil => simp at h2
   | cons y t => exact ⟨y, t, rfl⟩
  have g2 : ((p1.length : Nat) : Int) < (((p2 ++ y :: s2).length : Nat) : Int) := by rw [h1]; simp; omega
  have g3 : (p2 ++ y :: s2).getD p1.length (Ty.dflt T_frame_Frame) = y := by rw [h1, getD_mid]
  have hx := hs x (by simp)
  simp only [ref06_SameAll_0, t_ref06_SameAll_0, mid_lt, nn, and_true, decide_true, cond_true, toNat_len, getD_mid, g2, g3, same6_is x y (by omega), obind_some]
  by_cases he : x = y
  ·
   subst he
   simp only [decide_true, Bool.not_true, cond_false]
   rw [mid_next p1 x x s1 (by omega), snoc_app p1, snoc_app p2, ih s2 (p1 ++ [x]) (p2 ++ [x]) m (by simp at hm; omega) (by simp [h1]) (by simpa using h2) (by simpa using hl) (fun f hf => hs f (by simp [hf]))]
   simp
  ·
   simp only [he, decide_false, Bool.not_false, cond_true]
   rw [decide_eq_false]
   intro e
   simp only [List.cons.injEq] at e
   exact he e.1
theorem sall_is (a b : List D_frame_Frame) (ha : a.length ≤ 1000) (hs : ∀ f ∈ a, f.2.2.2.2.2.2.2.2.2.2.2.2.1.length ≤ 1000000) : ref06_SameAll a b = some (decide (a = b), ()) := by
 rw [ref06_SameAll_eq, b_ref06_SameAll]
 by_cases h : a.length = b.length
 ·
  have : (((a.length : Nat) : Int) != ((b.length : Nat) : Int)) = false := by rw [h]; simp
  simp only [this, cond_false]
  rw [ref06_SameAll_0'_eq, b_ref06_SameAll_0']
  exact sall_loop a b [] [] _ (by simp) rfl h (by simp; omega) hs
 ·
  have : (((a.length : Nat) : Int) != ((b.length : Nat) : Int)) = true := by simp; omega
  simp only [this, cond_true]
  rw [decide_eq_false (fun e => h (by rw [e]))]
theorem may_few {f : D_frame_Frame} (h : mayFr f = true) : f.2.2.2.2.2.2.2.2.2.2.2.2.1.length ≤ 32 := by
 obtain ⟨hk, ho, hn, hd, he⟩ := mayFr_parts h
 by_cases h2 : f.1 = 2
 ·
  simp only [extraF, h2, beq_self_eq_true, cond_true, Bool.and_eq_true, decide_eq_true_eq] at he
  exact he.1.2
 ·
  have : f.2.2.2.2.2.2.2.2.2.2.2.2.1 = [] := by
   have := congrArg (fun f : D_frame_Frame => f.2.2.2.2.2.2.2.2.2.2.2.2.1) ho
   simp only [onlyF, hasSet] at this
   rw [this]
   simp [h2]
  rw [this]; simp
theorem allF_ok : ∀ (n : Nat) (l : List Int) (acc : List D_frame_Frame), Byt l → (∀ f ∈ acc, FrOk f ∧ mayFr f = true) → acc.length ≤ 40 → (∀ f ∈ (allF n l acc).1, FrOk f ∧ mayFr f = true) ∧ (allF n l acc).1.length ≤ 40
 | 0, _, _, _, _, _ => ⟨by simp [allF], by simp [allF]⟩
 | n + 1, l, acc, hB, ha, h40 => by
  simp only [allF]
  by_cases h0 : l = []
  · simp only [h0, decide_true, cond_true]; exact ⟨ha, h40⟩
  ·
   simp only [h0, decide_false, cond_false]
   cases hg : getL l with
   | none => exact ⟨by simp, by simp⟩
   | some x =>
    obtain ⟨f, r⟩ := x
    obtain ⟨h1, h2⟩ := getL_less hg hB
    simp only
    cases hk : f.1 == 0 with
    | true => exact allF_ok n r acc h2 ha h40
    | false =>
     simp only [cond_false]
     by_cases c : 40 < acc.length + 1
     · simp only [c, decide_true, cond_true]; exact ⟨by simp, by simp⟩
     ·
      simp only [c, decide_false, cond_false]
      refine allF_ok n r (acc ++ [f]) h2 (fun g hg2 => ?_) (by simp; omega)
      rcases List.mem_append.mp hg2 with h | h
      · exact ha g h
      · rw [List.mem_singleton.mp h]; exact getL_ok hB hg
end Go.Proofs.YtjdjlijjolibkaaDoor.V
namespace Go.Proofs.YtjdjlijjolibkaaDoor.V
open Go.RowKit Go.Proofs.Tryd
set_option maxRecDepth 100000
set_option linter.unusedVariables false
noncomputable def m_ref06_All : Mach prog Inv gInv := mach bas [(43, f43)] ⟨ok43, trivial⟩ [(41, c_ref06_Get)] ⟨⟨c_ref06_Get_ok, FnOk.callable ok41⟩, trivial⟩ [] trivial [] trivial
/-! ### domino/dominoref06.All -/
@[reducible] def r_ref06_All : List Ty := [(.slice T_frame_Frame), (.int .i64)]
def ks_ref06_All : List Nat := [43]
abbrev H_ref06_All (base : Base) (S0 : Nat → Prop) := base.n = 0 ∧ FinOk (finR r_ref06_All) base S0 (Post r_ref06_All S0)
abbrev J_ref06_All (base : Base) (S0 : Nat → Prop) (cs0 : List Go.Frame) (p : CPat) (J : denC p → Option (denL r_ref06_All)) := JSound m_ref06_All base S0 cs0 (Post r_ref06_All S0) p J
abbrev O_ref06_All (base : Base) (S0 : Nat → Prop) (cs0 : List Go.Frame) (X : Cfg → Option (Option (denL r_ref06_All))) := OSound m_ref06_All base S0 cs0 (Post r_ref06_All S0) X
@[reducible] noncomputable def p_ref06_All_0 : CPat := ⟨⟨43, [1, 1, 1, 0, 0], none, [.str, .any, .any, .any, .all 0], 29⟩, [], [.row T_frame_Frame], 0⟩
@[reducible] noncomputable def u_ref06_All_0 (k : ByteArray → (List D_frame_Frame) → Option ((List D_frame_Frame) × Int × Unit)) : denC p_ref06_All_0 → Option ((List D_frame_Frame) × Int × Unit) := fun x => k x.1.1 x.2.2.1
@[reducible] noncomputable def p_ref06_All_1 : CPat := ⟨⟨43, [1, 1, 1, 0, 0, 0, 1, 0, 1, 1, 1], none, [.any, .any, .any, .any, .all 0, .any, .str], 27⟩, [], [.row T_frame_Frame], 0⟩
@[reducible] noncomputable def u_ref06_All_1 (k : ByteArray → (List D_frame_Frame) → Option ((List D_frame_Frame) × Int × Unit)) : denC p_ref06_All_1 → Option ((List D_frame_Frame) × Int × Unit) := fun x => k x.1.2.2.2.2.2.2.1 x.2.2.1
noncomputable def b_ref06_All_1 (k0 : ByteArray → (List D_frame_Frame) → Option ((List D_frame_Frame) × Int × Unit)) (s13 : ByteArray) (l14 : (List D_frame_Frame)) : Option ((List D_frame_Frame) × Int × Unit) :=
 let n15 : Int := (((List.length l14) : Nat) : Int)
 let b16 : Bool := (decide (n15 > (40 : Int)))
 bif b16 then
  some (([] : List D_frame_Frame), ((60 : Int), ()))
 else
  k0 s13 l14
theorem ex_ref06_All_1 : ∃ f, f = @b_ref06_All_1 := ⟨_, rfl⟩
noncomputable def ref06_All_1 := Classical.choose ex_ref06_All_1
theorem ref06_All_1_eq : @ref06_All_1 = @b_ref06_All_1 := Classical.choose_spec ex_ref06_All_1
theorem s_ref06_All_1 {base S0 cs0} (hfin : H_ref06_All base S0) (k0) (h0 : J_ref06_All base S0 cs0 p_ref06_All_0 (u_ref06_All_0 k0)) : J_ref06_All base S0 cs0 p_ref06_All_1 (u_ref06_All_1 (ref06_All_1 k0)) :=
 JSound.join hfin.2 (OSound.cut (OSound.nowhere) (Nat.le_of_eq hfin.1) h0) ks_ref06_All 100000 (by rw [ref06_All_1_eq]; intro x; kernel_rfl)
noncomputable def x_ref06_All_1 (k0 : ByteArray → (List D_frame_Frame) → Option ((List D_frame_Frame) × Int × Unit)) : Cfg → Option (Option ((List D_frame_Frame) × Int × Unit)) := cut p_ref06_All_1 (u_ref06_All_1 (ref06_All_1 k0)) (cut p_ref06_All_0 (u_ref06_All_0 k0) (nowhere))
theorem o_ref06_All_1 {base S0 cs0} (hfin : H_ref06_All base S0) (k0) (h0 : J_ref06_All base S0 cs0 p_ref06_All_0 (u_ref06_All_0 k0)) : O_ref06_All base S0 cs0 (x_ref06_All_1 k0) := OSound.cut (OSound.cut (OSound.nowhere) (Nat.le_of_eq hfin.1) h0) (Nat.le_of_eq hfin.1) (s_ref06_All_1 hfin k0 h0)
noncomputable def t_ref06_All_0 (k0 : ByteArray → (List D_frame_Frame) → Option ((List D_frame_Frame) × Int × Unit)) (s2 : ByteArray) (l3 : (List D_frame_Frame)) : Option ((List D_frame_Frame) × Int × Unit) :=
 let b4 : Bool := (!((ByteArray.toList s2) == (ByteArray.toList (ByteArray.mk (List.toArray ([] : List UInt8))))))
 bif b4 then
  obind (ref06_Get s2) fun y5 =>
  let s6 : ByteArray := (ByteArray.mk (List.toArray ([] : List UInt8)))
  let b7 : Bool := (y5.2.2.1 != (0 : Int))
  bif b7 then
   some (([] : List D_frame_Frame), y5.2.2)
  else
   let b8 : Bool := (y5.1.1 != (0 : Int))
   bif b8 then
    let e9 : (Int × (Int × (Int × (Int × (Int × (Int × (Int × (Int × (Bool × (ByteArray × (ByteArray × (ByteArray × ((List D_ranges_Range) × Unit))))))))))))) := (y5.1.1, (y5.1.2.1, (y5.1.2.2.1, (y5.1.2.2.2.1, (y5.1.2.2.2.2.1, (y5.1.2.2.2.2.2.1, (y5.1.2.2.2.2.2.2.1, (y5.1.2.2.2.2.2.2.2.1, (y5.1.2.2.2.2.2.2.2.2.1, (y5.1.2.2.2.2.2.2.2.2.2.1, (y5.1.2.2.2.2.2.2.2.2.2.2.1, (y5.1.2.2.2.2.2.2.2.2.2.2.2.1, (y5.1.2.2.2.2.2.2.2.2.2.2.2.2.1, ())))))))))))))
    bif (decide (((List.length l3) + (List.length (e9 :: ([] : List D_frame_Frame)))) ≤ 4294967296)) then
     let l10 : (List D_frame_Frame) := (l3 ++ (e9 :: ([] : List D_frame_Frame)))
     ref06_All_1 k0 y5.2.1 l10
    else none
   else
    ref06_All_1 k0 y5.2.1 l3
 else
  some (l3, ((0 : Int), ()))
noncomputable def ref06_All_0 : Nat → ByteArray → (List D_frame_Frame) → Option ((List D_frame_Frame) × Int × Unit)
 | 0 => fun _ _ => none
 | m + 1 => t_ref06_All_0 (ref06_All_0 m)
noncomputable def b_ref06_All_0' (s2 : ByteArray) (l3 : (List D_frame_Frame)) : Option ((List D_frame_Frame) × Int × Unit) := ref06_All_0 (4294967296) s2 l3
theorem ex_ref06_All_0' : ∃ f, f = @b_ref06_All_0' := ⟨_, rfl⟩
noncomputable def ref06_All_0' := Classical.choose ex_ref06_All_0'
theorem ref06_All_0'_eq : @ref06_All_0' = @b_ref06_All_0' := Classical.choose_spec ex_ref06_All_0'
theorem s_ref06_All_0 {base S0 cs0} (hfin : H_ref06_All base S0) : ∀ m, J_ref06_All base S0 cs0 p_ref06_All_0 (u_ref06_All_0 (ref06_All_0 m)) :=
 JSound.loop' hfin.2 ks_ref06_All 100000 u_ref06_All_0 (fun k0 => x_ref06_All_1 k0) (fun k0 h0 => o_ref06_All_1 hfin k0 h0) (ref06_All_0) (by intro x; rfl) (by intro m x; kernel_rfl)
theorem s_ref06_All_0' {base S0 cs0} (hfin : H_ref06_All base S0) : J_ref06_All base S0 cs0 p_ref06_All_0 (u_ref06_All_0 (ref06_All_0')) := by
 rw [ref06_All_0'_eq]; exact fun x r hx => s_ref06_All_0 hfin _ x r hx
noncomputable def x_ref06_All_0 : Cfg → Option (Option ((List D_frame_Frame) × Int × Unit)) := cut p_ref06_All_0 (u_ref06_All_0 (ref06_All_0')) (nowhere)
theorem o_ref06_All_0 {base S0 cs0} (hfin : H_ref06_All base S0) : O_ref06_All base S0 cs0 (x_ref06_All_0) := OSound.cut (OSound.nowhere) (Nat.le_of_eq hfin.1) (s_ref06_All_0' hfin)
noncomputable def b_ref06_All (a0 : ByteArray) : Option ((List D_frame_Frame) × Int × Unit) :=
 let b1 : Bool := ((ByteArray.toList a0) == (ByteArray.toList (ByteArray.mk (List.toArray ([] : List UInt8)))))
 bif b1 then
  some (([] : List D_frame_Frame), ((60 : Int), ()))
 else
  ref06_All_0' a0 ([] : List D_frame_Frame)
theorem ex_ref06_All : ∃ f, f = @b_ref06_All := ⟨_, rfl⟩
noncomputable def ref06_All := Classical.choose ex_ref06_All
theorem ref06_All_eq : @ref06_All = @b_ref06_All := Classical.choose_spec ex_ref06_All
noncomputable def cb_ref06_All : Con := ⟨[.str], r_ref06_All, fun x => b_ref06_All x.1⟩
noncomputable def c_ref06_All : Con := ⟨[.str], r_ref06_All, fun x => ref06_All x.1⟩
theorem cb_ref06_All_ok : cb_ref06_All.Sound prog Inv gInv 43 :=
 con_run (M := m_ref06_All) inv_g (f := f43) rfl ks_ref06_All 100000 (X := x_ref06_All_0) (fun base S0 cs0 hn hf => have hfin : H_ref06_All base S0 := ⟨hn, hf⟩; o_ref06_All_0 hfin) (by intro x; kernel_rfl)
theorem c_ref06_All_ok : c_ref06_All.Sound prog Inv gInv 43 := by
 have e : c_ref06_All = cb_ref06_All := by unfold c_ref06_All cb_ref06_All; rw [ref06_All_eq]
 rw [e]; exact cb_ref06_All_ok
noncomputable def m_law06_FrameGets : Mach prog Inv gInv := mach bas [(13, f13)] ⟨ok13, trivial⟩ [(30, c_law06_shown), (33, c_law06_its), (38, c_frame_Get), (40, c_ref06_Same), (41, c_ref06_Get), (42, c_frame_All), (43, c_ref06_All), (44, c_ref06_SameAll), (45, c_law06_all)] ⟨⟨c_law06_shown_ok, FnOk.callable ok30⟩, ⟨c_law06_its_ok, FnOk.callable ok33⟩, ⟨c_frame_Get_ok, FnOk.callable ok38⟩, ⟨c_ref06_Same_ok, FnOk.callable ok40⟩, ⟨c_ref06_Get_ok, FnOk.callable ok41⟩, ⟨c_frame_All_ok, FnOk.callable ok42⟩, ⟨c_ref06_All_ok, FnOk.callable ok43⟩, ⟨c_ref06_SameAll_ok, FnOk.callable ok44⟩, ⟨c_law06_all_ok, FnOk.callable ok45⟩, trivial⟩ [] trivial [] trivial
/-! ### domino/dominolaw06.FrameGets -/
@[reducible] def r_law06_FrameGets : List Ty := [.bool]
def ks_law06_FrameGets : List Nat := [13]
abbrev H_law06_FrameGets (base : Base) (S0 : Nat → Prop) := base.n = 0 ∧ FinOk (finR r_law06_FrameGets) base S0 (Post r_law06_FrameGets S0)
abbrev J_law06_FrameGets (base : Base) (S0 : Nat → Prop) (cs0 : List Go.Frame) (p : CPat) (J : denC p → Option (denL r_law06_FrameGets)) := JSound m_law06_FrameGets base S0 cs0 (Post r_law06_FrameGets S0) p J
abbrev O_law06_FrameGets (base : Base) (S0 : Nat → Prop) (cs0 : List Go.Frame) (X : Cfg → Option (Option (denL r_law06_FrameGets))) := OSound m_law06_FrameGets base S0 cs0 (Post r_law06_FrameGets S0) X
@[reducible] noncomputable def p_law06_FrameGets_0 : CPat := ⟨⟨13, [1, 0, 1, 0], none, [], 68⟩, [], [], 0⟩
@[reducible] noncomputable def u_law06_FrameGets_0 (k : Option (Bool × Unit)) : denC p_law06_FrameGets_0 → Option (Bool × Unit) := fun x => k
noncomputable def b_law06_FrameGets_0 : Option (Bool × Unit) :=
 obind law06_shown fun y6 =>
 some y6
theorem ex_law06_FrameGets_0 : ∃ f, f = @b_law06_FrameGets_0 := ⟨_, rfl⟩
noncomputable def law06_FrameGets_0 := Classical.choose ex_law06_FrameGets_0
theorem law06_FrameGets_0_eq : @law06_FrameGets_0 = @b_law06_FrameGets_0 := Classical.choose_spec ex_law06_FrameGets_0
theorem s_law06_FrameGets_0 {base S0 cs0} (hfin : H_law06_FrameGets base S0) : J_law06_FrameGets base S0 cs0 p_law06_FrameGets_0 (u_law06_FrameGets_0 (law06_FrameGets_0)) :=
 JSound.join hfin.2 (OSound.nowhere) ks_law06_FrameGets 100000 (by rw [law06_FrameGets_0_eq]; intro x; kernel_rfl)
noncomputable def x_law06_FrameGets_0 : Cfg → Option (Option (Bool × Unit)) := cut p_law06_FrameGets_0 (u_law06_FrameGets_0 (law06_FrameGets_0)) (nowhere)
theorem o_law06_FrameGets_0 {base S0 cs0} (hfin : H_law06_FrameGets base S0) : O_law06_FrameGets base S0 cs0 (x_law06_FrameGets_0) := OSound.cut (OSound.nowhere) (Nat.le_of_eq hfin.1) (s_law06_FrameGets_0 hfin)
noncomputable def b_law06_FrameGets (a0 : ByteArray) : Option (Bool × Unit) :=
 let n1 : Int := (((ByteArray.size a0) : Nat) : Int)
 let b2 : Bool := (decide (n1 > (1500 : Int)))
 bif b2 then
  law06_FrameGets_0
 else
  obind law06_shown fun y3 =>
  let b4 : Bool := (!y3.1)
  bif b4 then
   law06_FrameGets_0
  else
   obind (frame_Get a0) fun y7 =>
   let s8 : ByteArray := (ByteArray.mk (List.toArray ([] : List UInt8)))
   obind (ref06_Get a0) fun y9 =>
   let s10 : ByteArray := (ByteArray.mk (List.toArray ([] : List UInt8)))
   obind (frame_All a0) fun y11 =>
   obind (ref06_All a0) fun y12 =>
   obind (law06_its y7.1) fun y13 =>
   obind (ref06_Same y13.1 y9.1) fun y14 =>
   bif y14.1 then
    let b15 : Bool := ((ByteArray.toList y7.2.1) == (ByteArray.toList y9.2.1))
    bif b15 then
     let b16 : Bool := (y7.2.2.1 == y9.2.2.1)
     bif b16 then
      obind (law06_all y11.1) fun y17 =>
      obind (ref06_SameAll y17.1 y12.1) fun y18 =>
      bif y18.1 then
       let b19 : Bool := (y11.2.1 == y12.2.1)
       some (b19, ())
      else
       some (false, ())
     else
      some (false, ())
    else
     some (false, ())
   else
    some (false, ())
theorem ex_law06_FrameGets : ∃ f, f = @b_law06_FrameGets := ⟨_, rfl⟩
noncomputable def law06_FrameGets := Classical.choose ex_law06_FrameGets
theorem law06_FrameGets_eq : @law06_FrameGets = @b_law06_FrameGets := Classical.choose_spec ex_law06_FrameGets
noncomputable def cb_law06_FrameGets : Con := ⟨[.str], r_law06_FrameGets, fun x => b_law06_FrameGets x.1⟩
noncomputable def c_law06_FrameGets : Con := ⟨[.str], r_law06_FrameGets, fun x => law06_FrameGets x.1⟩
theorem cb_law06_FrameGets_ok : cb_law06_FrameGets.Sound prog Inv gInv 13 :=
 con_run (M := m_law06_FrameGets) inv_g (f := f13) rfl ks_law06_FrameGets 100000 (X := x_law06_FrameGets_0) (fun base S0 cs0 hn hf => have hfin : H_law06_FrameGets base S0 := ⟨hn, hf⟩; o_law06_FrameGets_0 hfin) (by intro x; kernel_rfl)
theorem c_law06_FrameGets_ok : c_law06_FrameGets.Sound prog Inv gInv 13 := by
 have e : c_law06_FrameGets = cb_law06_FrameGets := by unfold c_law06_FrameGets cb_law06_FrameGets; rw [law06_FrameGets_eq]
 rw [e]; exact cb_law06_FrameGets_ok
end Go.Proofs.YtjdjlijjolibkaaDoor.V
namespace Go.Proofs.YtjdjlijjolibkaaDoor.V
open Go.RowKit
set_option linter.unusedVariables false
theorem all6_loop : ∀ (m n : Nat) (l : List Int) (acc : List D_frame_Frame), l.length < m → l.length < n → Byt l → l.length ≤ 1000000 → acc.length ≤ 40 → ref06_All_0 m (bytesStr l) acc = some (allF n l acc) := by
 intro m
 induction m with
 | zero => intro n l acc h; omega
 | succ m ih =>
  intro n l acc hm hn hB hl ha
  obtain ⟨n, rfl⟩ : ∃ k, n = k + 1 := ⟨n - 1, by omega⟩
  have hd : decide (bytesStr l = eB) = decide (l = []) := decide_eq_decide.mpr bs_nil
  simp only [ref06_All_0, t_ref06_All_0, e0B, toList_beq, hd, allF]
  by_cases h0 : l = []
  · simp only [h0, decide_true, Bool.not_true, cond_false, cond_true]
  ·
   simp only [h0, decide_false, Bool.not_false, cond_true, cond_false, get6_is l hB hl, obind_some]
   cases hg : getL l with
   | none => rfl
   | some x =>
    obtain ⟨f, r⟩ := x
    obtain ⟨h1, h2⟩ := getL_less hg hB
    simp only [bne_self_eq_false, cond_false, bne, ref06_All_1_eq, b_ref06_All_1]
    cases hk : f.1 == 0 with
    | true =>
     have c : ¬ ((acc.length : Nat) : Int) > 40 := by omega
     simp only [Bool.not_true, cond_false, cond_true, c, decide_false]
     exact ih n r acc (by omega) (by omega) h2 (by omega) ha
    | false =>
     have c : acc.length + [f].length ≤ 4294967296 := by simp; omega
     have ef : ((f.1, (f.2.1, (f.2.2.1, (f.2.2.2.1, (f.2.2.2.2.1, (f.2.2.2.2.2.1, (f.2.2.2.2.2.2.1, (f.2.2.2.2.2.2.2.1, (f.2.2.2.2.2.2.2.2.1, (f.2.2.2.2.2.2.2.2.2.1, (f.2.2.2.2.2.2.2.2.2.2.1, (f.2.2.2.2.2.2.2.2.2.2.2.1, (f.2.2.2.2.2.2.2.2.2.2.2.2.1, ()))))))))))))) : D_frame_Frame) = f := rfl
     have hd2 : decide ((((acc ++ [f]).length : Nat) : Int) > 40) = decide (40 < acc.length + 1) := decide_eq_decide.mpr (by simp; omega)
     simp only [Bool.not_false, ef, cond_false, c, decide_true, cond_true, hd2]
     by_cases h40 : 40 < acc.length + 1
     · simp only [h40, decide_true, cond_true]; rfl
     ·
      simp only [h40, decide_false, cond_false]
      show ref06_All_0 m _ _ = _
      exact ih n r (acc ++ [f]) (by omega) (by omega) h2 (by omega) (by simp; omega)
theorem all6_is (l : List Int) (hB : Byt l) (hl : l.length ≤ 1000000) : ref06_All (bytesStr l) = some (bif decide (l = []) then ([], 60, ()) else allF (l.length + 1) l []) := by
 rw [ref06_All_eq, b_ref06_All]
 have hd : decide (bytesStr l = eB) = decide (l = []) := decide_eq_decide.mpr bs_nil
 simp only [e0B, toList_beq, hd]
 by_cases h0 : l = []
 · simp only [h0, decide_true, cond_true]
 ·
  simp only [h0, decide_false, cond_false]
  rw [ref06_All_0'_eq, b_ref06_All_0']
  exact all6_loop _ _ l [] (by omega) (by omega) hB hl (by simp)
theorem lawFrameGets (x : denL c_law06_FrameGets.params) (h : Wfs c_law06_FrameGets.params x) : c_law06_FrameGets.F x = some (true, ()) := by
 obtain ⟨s, u⟩ := x
 show law06_FrameGets s = _
 rw [law06_FrameGets_eq, b_law06_FrameGets, law06_FrameGets_0_eq, b_law06_FrameGets_0]
 simp only [shown_is, obind_some, Bool.not_true, cond_false]
 by_cases c1 : ((s.size : Nat) : Int) > 1500
 · simp only [c1, decide_true, cond_true]
 ·
  have hs : s.size ≤ 1500 := by omega
  simp only [c1, decide_false, cond_false]
  have hB := strBytes_range s
  have hl : (strBytes s).length ≤ 1000000 := by rw [strBytes_len]; omega
  have hall : ∀ f ∈ (bif decide (strBytes s = []) then (([], 60, ()) : List D_frame_Frame × Int × Unit) else allF ((strBytes s).length + 1) (strBytes s) []).1, f.2.2.2.2.2.2.2.2.2.2.2.2.1.length ≤ 1000000 := by
   intro f hf
   by_cases h0 : strBytes s = []
   · simp [h0] at hf
   ·
    simp only [h0, decide_false, cond_false] at hf
    have := may_few ((allF_ok _ _ [] hB (by simp) (by simp)).1 f hf).2
    omega
  have hlen : (bif decide (strBytes s = []) then (([], 60, ()) : List D_frame_Frame × Int × Unit) else allF ((strBytes s).length + 1) (strBytes s) []).1.length ≤ 1000 := by
   by_cases h0 : strBytes s = []
   · simp [h0]
   ·
    simp only [h0, decide_false, cond_false]
    have := (allF_ok ((strBytes s).length + 1) _ [] hB (by simp) (by simp)).2
    omega
  have g1 := getB hB hl
  have g2 := get6_is (strBytes s) hB hl
  have g3 := all_is (strBytes s) hB hl
  have g4 := all6_is (strBytes s) hB hl
  rw [bytesStr_strBytes] at g1 g2 g3 g4
  rw [g1, g2, g3, g4]
  generalize (bif decide (strBytes s = []) then (([], 60, ()) : List D_frame_Frame × Int × Unit) else allF ((strBytes s).length + 1) (strBytes s) []) = A at hall hlen
  obtain ⟨l, e, ⟨⟩⟩ := A
  simp only [obind_some] at hall hlen ⊢
  have hz : (zF 0).2.2.2.2.2.2.2.2.2.2.2.2.1.length ≤ 1000000 := by simp
  cases hg : getL (strBytes s) with
  | none =>
   simp only [its_is _ hz, obind_some, same6_is (zF 0) (zF 0) (by simp), decide_true, cond_true, beq_self_eq_true, lall_is l hlen hall, sall_is l l hlen hall]
  | some x =>
   obtain ⟨f, r⟩ := x
   have hf := may_few (getL_ok hB hg).2
   simp only [its_is f (by omega), obind_some, same6_is f f (by omega), decide_true, cond_true, beq_self_eq_true, lall_is l hlen hall, sall_is l l hlen hall]
end Go.Proofs.YtjdjlijjolibkaaDoor.V
namespace Go.Proofs.YtjdjlijjolibkaaDoor.V
open Go.RowKit Go.ChangeShapes
section
variable {H : Type} {enc : TypeId × Value → H} {P : Program} {w : World} {sp : Nat → Bool} {held : Bool} {fuel : Nat}
theorem tab_cells {k : IntKind} {N : Nat} {e t : TypeId} {cs : List Value} {l : List Int} {p : List MemPlace} (hu : P.underlying t = some (.array N e)) (he : P.underlying e = some (.int k)) (hc : P.cellsOf e = 1) (ht : P.cellsOf t = l.length) (hN : N = l.length)
  (hd : DataW.trod enc P w 0 sp held fuel t cs = some (.agg (l.map fun n => .lit (.int k n)), p)) : cs = l.map (Value.int k) := by
 obtain ⟨xs, m, rfl, hx, hlen, hn, hel⟩ := DataW.trod_array hu hd
 simp only [Prod.mk.injEq, DataW.agg.injEq] at hx
 have hm := hx.1
 rw [ht] at hlen
 refine List.ext_getElem (by rw [hlen, List.length_map]) fun i h1 h2 => ?_
 have hi : i < l.length := by rw [List.length_map] at h2; exact h2
 have hix : i < xs.length := by omega
 have h3 := hel i (by omega)
 rw [hc, Nat.mul_one, List.getElem?_eq_getElem hix] at h3
 obtain ⟨n, e1, e2, _⟩ := DataW.trod_int he h3
 have e3 : (cs.drop i).take 1 = [cs[i]] := by
  rw [List.drop_eq_getElem_cons h1, List.take_succ_cons, List.take_zero]
 rw [e3] at e1
 have e4 : (l.map fun n => (DataW.lit (.int k n) : DataW H))[i]? = (xs.map (·.1))[i]? := by rw [hm]
 rw [List.getElem?_map, List.getElem?_map, List.getElem?_eq_getElem hi, List.getElem?_eq_getElem hix, e2] at e4
 simp only [Option.map_some, Option.some.injEq, DataW.lit.injEq, Lit.int.injEq, true_and] at e4
 simp only [List.cons.injEq, and_true] at e1
 rw [e1, List.getElem_map, ← e4]
theorem tab_in {k : IntKind} {N : Nat} {e t g : TypeId} {n : String} {cs : Array Value} {l : List Int} {p : List MemPlace} (hg : P.globalNamed n = some g) (hv : w.var? P n = some cs) (hu : P.underlying t = some (.array N e)) (he : P.underlying e = some (.int k)) (hc : P.cellsOf e = 1) (ht : P.cellsOf t = l.length) (hN : N = l.length)
  (hd : DataW.trod enc P w 0 sp held fuel t cs.toList = some (.agg (l.map fun n => .lit (.int k n)), p)) {r : List (Nat × (Σ t : Ty, List t.den))} (hr : TabsIn w r) : TabsIn w ((g, ⟨.int k, l⟩) :: r) ∧ g < w.heap.size := by
 have hcs := tab_cells hu he hc ht hN hd
 simp only [World.var?, hg, Option.bind_some] at hv
 cases hh : w.heap[g]? with
 | none => rw [hh] at hv; cases hv
 | some o =>
  rw [hh] at hv
  cases o with
  | cells arr e' fz =>
   simp only [Option.some.injEq] at hv
   subst hv
   refine ⟨⟨⟨arr, e', fz, hh, fun i hi => ⟨[.int k (l.getD i 0)], ?_, ?_⟩⟩, hr⟩, lt_of_heap hh⟩
   ·
    simp only [Rep]
    have : l.getD i 0 = l[i] := by simp [List.getD, hi]
    rw [this]
   ·
    intro j hj
    simp at hj
    subst hj
    show arr[i * 1 + 0]? = _
    rw [Nat.mul_one, Nat.add_zero, ← Array.getElem?_toList, hcs, List.getElem?_map, List.getElem?_eq_getElem hi]
    simp [List.getD, hi]
  | _ => cases hv
end
end Go.Proofs.YtjdjlijjolibkaaDoor.V
/- The law FrameGets: for every input that can be read the call returns true and leaves its arguments alone: the row, and the tied card. No conditions but that the listed tables are laid (which the card ties to the program's text). -/
namespace Go.Proofs.YtjdjlijjolibkaaDoor.V.RowFrameGets
open Go.ChangeShapes Go.WideShapes Go.ChangeAt Go.RowKit Go.Proofs
set_option linter.unusedVariables false
set_option maxRecDepth 100000
theorem own : ownKnob Tryd.prog.godebug = none := by kernel_rfl
theorem laidOut : laidOutB Tryd.prog = true := by kernel_rfl
theorem door_met (os : Os) (args : Array Value) : laidMetH Tryd.prog [("math/bits.deBruijn32tab", Rows.laid_math_bits_deBruijn32tab), ("math/bits.deBruijn64tab", Rows.laid_math_bits_deBruijn64tab)] ((World.doorLaid Tryd.prog 400 os).forCall (fun _ _ => 0) ⟨#[], args, []⟩).memory :=
 laidMetH_of_parts3 (fuel := 8) (laidMet_of_run' 8 (by kernel_rfl) (by kernel_rfl)) (by kernel_rfl) (by kernel_rfl)
theorem inv_of {W : World} (h : laidMetH Tryd.prog [("math/bits.deBruijn32tab", Rows.laid_math_bits_deBruijn32tab), ("math/bits.deBruijn64tab", Rows.laid_math_bits_deBruijn64tab)] W) : Inv W := by
 rw [MakeChecks.laidMetH_plain _ _ _ (by kernel_rfl)] at h
 obtain ⟨ps, ⟨g0, t0, cs0, f0, p0, q0, hg0, ht0, hv0, hd0, ⟨g1, t1, cs1, f1, p1, q1, hg1, ht1, hv1, hd1, _, _⟩, _⟩, _, _⟩ := h
 obtain ⟨gg0, tt0⟩ : Tryd.prog.globalNamed "math/bits.deBruijn32tab" = some 0 ∧ (Tryd.prog.globals[0]?).map (·.type) = some 246 := ⟨by kernel_rfl, by kernel_rfl⟩
 obtain rfl := Option.some.inj (gg0.symm.trans hg0)
 obtain rfl := Option.some.inj (tt0.symm.trans ht0)
 obtain ⟨gg1, tt1⟩ : Tryd.prog.globalNamed "math/bits.deBruijn64tab" = some 1 ∧ (Tryd.prog.globals[1]?).map (·.type) = some 247 := ⟨by kernel_rfl, by kernel_rfl⟩
 obtain rfl := Option.some.inj (gg1.symm.trans hg1)
 obtain rfl := Option.some.inj (tt1.symm.trans ht1)
 have i1 := tab_in (k := .u8) (l := [0, 1, 56, 2, 57, 49, 28, 3, 61, 58, 42, 50, 38, 29, 17, 4, 62, 47, 59, 36, 45, 43, 51, 22, 53, 39, 33, 30, 24, 18, 12, 5, 63, 55, 48, 27, 60, 41, 37, 16, 46, 35, 44, 21, 52, 32, 23, 11, 54, 26, 40, 15, 34, 20, 31, 10, 25, 14, 19, 9, 13, 8, 7, 6]) hg1 hv1 Tryd.underlying247 (by kernel_rfl) (by kernel_rfl) (by kernel_rfl) (by kernel_rfl) hd1 (r := []) trivial
 have i0 := tab_in (k := .u8) (l := [0, 1, 28, 2, 29, 14, 24, 3, 30, 22, 20, 15, 25, 17, 4, 8, 31, 27, 13, 23, 21, 19, 16, 7, 26, 12, 18, 6, 11, 5, 10, 9]) hg0 hv0 Tryd.underlying246 (by kernel_rfl) (by kernel_rfl) (by kernel_rfl) (by kernel_rfl) hd0 i1.1
 exact ⟨i1.2, i0.1⟩
theorem lifted (os : Os) (started : os.Started) (H : Type) (enc : TypeId × Value → H) :
  ReturnsInHanded {} Tryd.checked os 13 .any (fun w args => (Rows.frameGetsSpec.pre enc Tryd.prog Tryd.f13 [] false w args ∧ laidMetH Tryd.prog [("math/bits.deBruijn32tab", Rows.laid_math_bits_deBruijn32tab), ("math/bits.deBruijn64tab", Rows.laid_math_bits_deBruijn64tab)] w) ∧ sizedMet enc Tryd.prog Tryd.f13 (OpenSpec.ofChange Rows.frameGetsSpec) false w args) (Rows.frameGetsSpec.post enc Tryd.prog Tryd.f13 false true false false) := by
 refine returnsInHanded_of_change_and (C := Tryd.checked) (X := fun w _ => laidMetH Tryd.prog [("math/bits.deBruijn32tab", Rows.laid_math_bits_deBruijn32tab), ("math/bits.deBruijn64tab", Rows.laid_math_bits_deBruijn64tab)] w) (fun _ _ _ hh h => h.of_heap hh) own started (by kernel_rfl) Tryd.func13
  (ChangeSpec.witness_shaped (enc := enc) (C := Tryd.checked) (os := os) (X := fun w _ => laidMetH Tryd.prog [("math/bits.deBruijn32tab", Rows.laid_math_bits_deBruijn32tab), ("math/bits.deBruijn64tab", Rows.laid_math_bits_deBruijn64tab)] w) false (World.doorLaid Tryd.prog 400 os) (c_law06_FrameGets.params.map zeroV).toArray 8 rfl (World.shaped_of_RefB (by kernel_rfl) (by kernel_rfl)) (by kernel_rfl) (by kernel_rfl) (by kernel_rfl) (door_met os _)) ?_
 intro W base args ds gs before hval hW hcnd hsz hL _
 have hI := inv_of hL
 have hW' := hW
 obtain ⟨p, q, hA, hV, rfl, hfz, hnd⟩ := hW
 obtain ⟨x, hx, hwf⟩ := args_rep (n := 20) (ts := c_law06_FrameGets.params) (by kernel_rfl) hA (fun j T v h1 h2 => hval j T v (by simpa using h1) (by simpa using h2))
 have hlen : ds.length = 1 := (trodAll_length hA).trans (by kernel_rfl)
 obtain ⟨d1, rfl⟩ : ∃ d1, ds = [d1] := by match ds, hlen with | [d1], _ => exact ⟨d1, rfl⟩
 obtain ⟨rfl, rfl⟩ := trodVars_none hV
 refine (law_calls (K := 13) c_law06_FrameGets_ok hI hx (lawFrameGets x hwf)).mono fun e W' ⟨he, bel⟩ => ?_
 subst he
 exact ⟨_, rfl, _, _, _, [], _, [], hW', trodAll_mk1 (shut_bool Tryd.underlying4 _), trodAll_below laidOut bel (by kernel_rfl) hA, rfl, bel.frame _, fun h => by cases h⟩
theorem proved : Rows.FrameGetsSaid :=
 OpenClaim.holds_of_wide 13 Tryd.f13 rfl rfl rfl rfl rfl rfl rfl ⟨rfl, rfl, rfl, rfl, rfl⟩ rfl rfl rfl rfl rfl (by kernel_rfl) Tryd.func13 (by kernel_rfl)
  (of_decide_eq_true (by kernel_rfl)) (by unfold Func.isWrapper; first | (rw [if_pos (by decide +kernel)]; kernel_rfl) | (rw [if_neg (by decide +kernel)]; exact ⟨rfl, rfl⟩))
  (fun os started H enc _ => lifted os started H enc)
theorem card : Rows.FrameGetsCardSaid :=
 Claim7.holds_tied_plain_at .later [] [.data, .data] true (true, "1021a36958bef67feb8e8930050b74075fa45ed83853cf8c22c3fa63b7773168") true
  proved (fun _ h => by cases h) (by kernel_rfl) (fun _ h => by cases h) frameGets_row_tie rfl ⟨rfl, rfl⟩ (by kernel_rfl) rfl
  (fun f fn hf hfn => by
   obtain rfl : f = 13 := Option.some.inj ((show Tryd.prog.funcNamed "domino/dominolaw06.FrameGets" = some 13 by kernel_rfl).symm.trans hf) |>.symm
   obtain rfl : fn = Tryd.f13 := (Option.some.inj (Tryd.func13.symm.trans hfn)).symm
   exact ⟨by kernel_rfl, fun j t ht => by
    have all : ∀ t ∈ [9], Tryd.prog.wantsStandIn t = false := by
     intro t h
     simp only [List.mem_cons, List.not_mem_nil, or_false] at h
     rcases h with rfl <;> kernel_rfl
    have hp : Tryd.f13.params = #[9] := rfl
    rw [hp] at ht
    exact all t (by
     have := List.mem_of_getElem? (l := [9]) (i := j) (a := t) (by simpa using ht)
     exact this)⟩)
  (by kernel_rfl)
end Go.Proofs.YtjdjlijjolibkaaDoor.V.RowFrameGets
namespace Go.Proofs.YtjdjlijjolibkaaDoor
theorem frameGets_card : Rows.FrameGetsCardSaid := V.RowFrameGets.card
end Go.Proofs.YtjdjlijjolibkaaDoor
