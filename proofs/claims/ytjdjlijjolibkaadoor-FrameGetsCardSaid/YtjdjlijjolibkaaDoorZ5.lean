/- The law FrameGets, part 5 of 6: what is proved: for every input that can be read the call of FrameGets returns true and leaves its arguments alone. No conditions but the listed tables of the card. -/
import Derived.Test.YtjdjlijjolibkaaDoorZ4
namespace Go.Proofs.YtjdjlijjolibkaaDoor.V
open Go.RowKit
set_option linter.unusedVariables false
noncomputable def startR (k : Int) (r : List Int) : Option (Option (D_frame_framer × Unit)) :=
 bif k == 0 then frame_framer_read_h0_0 k true (st r (zF k)) else bif k == 1 then frame_framer_read_h0_0 k true (st r (zF k)) else frame_framer_read_h0_0 k (k == 30) (st r (zF k))
theorem i62 (n : Nat) (h : n < 1000) : In62 ((n : Nat) : Int) := by unfold In62; omega
theorem byte_pb {f : List Int → Pr D_frame_Frame} {l : List Int} {fr : D_frame_Frame} {k : ByteArray × D_frame_framer × Unit → Option (Option (D_frame_framer × Unit))} (hB : Byt l) (hl : l.length ≤ 1000000)
  (H : ∀ b r, (0 ≤ b ∧ b ≤ 255) → Byt r → r.length ≤ l.length → k (bytesStr [b], (st r fr, ())) = outP (f [b] r)) : obindP (frame_reader_take_h0 1 (st l fr)) (some none) k = outP (pb (ptake 1) f l) := by
 have e := take_is hB fr 1 (by omega) hl
 rw [show ((1 : Nat) : Int) = 1 from rfl] at e
 rw [e]
 cases l with
 | nil => rfl
 | cons b r =>
  obtain ⟨h1, h2⟩ := Byt.cons.mp hB
  have c : 1 ≤ (b :: r).length := by simp
  simp only [ptake, c, if_true, Option.map_some, obindP_ss, pb, List.take_succ_cons, List.take_zero, List.drop_succ_cons, List.drop_zero]
  exact H b r h1 h2 (by simp)
theorem body_0 {r : List Int} (hB : Byt r) (hl : r.length ≤ 1000000) : startR 0 r = outP (pb (bodyP 0) finP' r) := by
 have ik : In62 0 := i62 0 (by decide)
 simp only [startR, bodyP, frame_framer_read_h0_0_eq, b_frame_framer_read_h0_0, frame_framer_read_h0_1_eq, b_frame_framer_read_h0_1, frame_framer_read_h0_2_eq, b_frame_framer_read_h0_2, frame_framer_read_h0_3_eq, b_frame_framer_read_h0_3, Int.reduceBEq, Bool.or_false, Bool.or_self, cond_true, cond_false, ge_iff_le, Int.reduceLE, Int.reduceLT, decide_true, decide_false]
 exact last_out r _ _ _ _ _ _ _ _ _ _ _ _ _ (frok0 ik in62_0 in62_0 in62_0 in62_0 in62_0 in62_0 in62_0)
theorem body_1 {r : List Int} (hB : Byt r) (hl : r.length ≤ 1000000) : startR 1 r = outP (pb (bodyP 1) finP' r) := by
 have ik : In62 1 := i62 1 (by decide)
 simp only [startR, bodyP, frame_framer_read_h0_0_eq, b_frame_framer_read_h0_0, frame_framer_read_h0_1_eq, b_frame_framer_read_h0_1, frame_framer_read_h0_2_eq, b_frame_framer_read_h0_2, frame_framer_read_h0_3_eq, b_frame_framer_read_h0_3, Int.reduceBEq, Bool.or_true, Bool.or_false, Bool.or_self, cond_true, cond_false, ge_iff_le, Int.reduceLE, Int.reduceLT, decide_true, decide_false]
 exact last_out r _ _ _ _ _ _ _ _ _ _ _ _ _ (frok0 ik in62_0 in62_0 in62_0 in62_0 in62_0 in62_0 in62_0)
theorem body_2 {r : List Int} (hB : Byt r) (hl : r.length ≤ 1000000) : startR 2 r = outP (pb (bodyP 2) finP' r) := by
 have ik : In62 2 := i62 2 (by decide)
 simp only [startR, bodyP, frame_framer_read_h0_0_eq, b_frame_framer_read_h0_0, frame_framer_read_h0_1_eq, b_frame_framer_read_h0_1, frame_framer_read_h0_2_eq, b_frame_framer_read_h0_2, frame_framer_read_h0_3_eq, b_frame_framer_read_h0_3, Int.reduceBEq, Bool.or_self, cond_true, cond_false, ge_iff_le, Int.reduceLE, Int.reduceLT, decide_true, decide_false]
 exact ack_pb hB
theorem body_4 {r : List Int} (hB : Byt r) (hl : r.length ≤ 1000000) : startR 4 r = outP (pb (bodyP 4) finP' r) := by
 have ik : In62 4 := i62 4 (by decide)
 simp only [startR, bodyP, frame_framer_read_h0_0_eq, b_frame_framer_read_h0_0, frame_framer_read_h0_1_eq, b_frame_framer_read_h0_1, frame_framer_read_h0_2_eq, b_frame_framer_read_h0_2, frame_framer_read_h0_3_eq, b_frame_framer_read_h0_3, Int.reduceBEq, Bool.or_self, cond_true, cond_false, ge_iff_le, Int.reduceLE, Int.reduceLT, decide_true, decide_false]
 simp only [frame_reader_into_h9_eq, b_frame_reader_into_h9, obindP_assoc, obindP_ss, pb_assoc, pb_pr]
 refine num_pb hB fun id r0 hid hr0 hl0 => ?_
 refine num_pb hr0 fun code r1 hcode hr1 hl1 => ?_
 refine num_pb hr1 fun mx r2 hmx hr2 hl2 => ?_
 exact last_out r2 _ _ _ _ _ _ _ _ _ _ _ _ _ (frok0 ik hid in62_0 hmx hcode in62_0 in62_0 in62_0)
theorem body_5 {r : List Int} (hB : Byt r) (hl : r.length ≤ 1000000) : startR 5 r = outP (pb (bodyP 5) finP' r) := by
 have ik : In62 5 := i62 5 (by decide)
 simp only [startR, bodyP, frame_framer_read_h0_0_eq, b_frame_framer_read_h0_0, frame_framer_read_h0_1_eq, b_frame_framer_read_h0_1, frame_framer_read_h0_2_eq, b_frame_framer_read_h0_2, frame_framer_read_h0_3_eq, b_frame_framer_read_h0_3, Int.reduceBEq, Bool.or_self, cond_true, cond_false, ge_iff_le, Int.reduceLE, Int.reduceLT, decide_true, decide_false]
 simp only [frame_reader_into_h6_eq, b_frame_reader_into_h6, obindP_assoc, obindP_ss, pb_assoc, pb_pr]
 refine num_pb hB fun id r0 hid hr0 hl0 => ?_
 refine num_pb hr0 fun code r1 hcode hr1 hl1 => ?_
 exact last_out r1 _ _ _ _ _ _ _ _ _ _ _ _ _ (frok0 ik hid in62_0 in62_0 hcode in62_0 in62_0 in62_0)
theorem body_6 {r : List Int} (hB : Byt r) (hl : r.length ≤ 1000000) : startR 6 r = outP (pb (bodyP 6) finP' r) := by
 have ik : In62 6 := i62 6 (by decide)
 simp only [startR, bodyP, frame_framer_read_h0_0_eq, b_frame_framer_read_h0_0, frame_framer_read_h0_1_eq, b_frame_framer_read_h0_1, frame_framer_read_h0_2_eq, b_frame_framer_read_h0_2, frame_framer_read_h0_3_eq, b_frame_framer_read_h0_3, Int.reduceBEq, Bool.or_self, cond_true, cond_false, ge_iff_le, Int.reduceLE, Int.reduceLT, decide_true, decide_false]
 simp only [frame_reader_into_h1_eq, b_frame_reader_into_h1, obindP_assoc, obindP_ss, pb_assoc, pb_pr]
 refine num_pb hB fun off r0 hoff hr0 hl0 => ?_
 refine long_pb hr0 (by omega) fun bs r1 hr1 hl1 hbs => ?_
 exact last_out r1 _ _ _ _ _ _ _ _ _ _ _ _ _ (frok0 ik in62_0 hoff in62_0 in62_0 in62_0 in62_0 in62_0)
theorem body_8 {r : List Int} (hB : Byt r) (hl : r.length ≤ 1000000) : startR 8 r = outP (pb (bodyP 8) finP' r) := by
 have ik : In62 8 := i62 8 (by decide)
 simp only [startR, bodyP, frame_framer_read_h0_0_eq, b_frame_framer_read_h0_0, frame_framer_read_h0_1_eq, b_frame_framer_read_h0_1, frame_framer_read_h0_2_eq, b_frame_framer_read_h0_2, frame_framer_read_h0_3_eq, b_frame_framer_read_h0_3, Int.reduceBEq, Bool.or_self, cond_true, cond_false, ge_iff_le, Int.reduceLE, Int.reduceLT, decide_true]
 simp only [need_is, cond_true, obindP_ss]
 exact stream_pb 8 false false false (by rw [bits_and_u64 _ _ (by omega) (by omega)]; decide) (by rw [bits_and_u64 _ _ (by omega) (by omega)]; decide) (by rw [bits_and_u64 _ _ (by omega) (by omega)]; decide) hB hl
theorem body_9 {r : List Int} (hB : Byt r) (hl : r.length ≤ 1000000) : startR 9 r = outP (pb (bodyP 9) finP' r) := by
 have ik : In62 9 := i62 9 (by decide)
 simp only [startR, bodyP, frame_framer_read_h0_0_eq, b_frame_framer_read_h0_0, frame_framer_read_h0_1_eq, b_frame_framer_read_h0_1, frame_framer_read_h0_2_eq, b_frame_framer_read_h0_2, frame_framer_read_h0_3_eq, b_frame_framer_read_h0_3, Int.reduceBEq, Bool.or_self, cond_true, cond_false, ge_iff_le, Int.reduceLE, Int.reduceLT, decide_true]
 simp only [need_is, cond_true, obindP_ss]
 exact stream_pb 9 true false false (by rw [bits_and_u64 _ _ (by omega) (by omega)]; decide) (by rw [bits_and_u64 _ _ (by omega) (by omega)]; decide) (by rw [bits_and_u64 _ _ (by omega) (by omega)]; decide) hB hl
theorem body_10 {r : List Int} (hB : Byt r) (hl : r.length ≤ 1000000) : startR 10 r = outP (pb (bodyP 10) finP' r) := by
 have ik : In62 10 := i62 10 (by decide)
 simp only [startR, bodyP, frame_framer_read_h0_0_eq, b_frame_framer_read_h0_0, frame_framer_read_h0_1_eq, b_frame_framer_read_h0_1, frame_framer_read_h0_2_eq, b_frame_framer_read_h0_2, frame_framer_read_h0_3_eq, b_frame_framer_read_h0_3, Int.reduceBEq, Bool.or_self, cond_true, cond_false, ge_iff_le, Int.reduceLE, Int.reduceLT, decide_true]
 simp only [need_is, cond_true, obindP_ss]
 exact stream_pb 10 false false true (by rw [bits_and_u64 _ _ (by omega) (by omega)]; decide) (by rw [bits_and_u64 _ _ (by omega) (by omega)]; decide) (by rw [bits_and_u64 _ _ (by omega) (by omega)]; decide) hB hl
theorem body_11 {r : List Int} (hB : Byt r) (hl : r.length ≤ 1000000) : startR 11 r = outP (pb (bodyP 11) finP' r) := by
 have ik : In62 11 := i62 11 (by decide)
 simp only [startR, bodyP, frame_framer_read_h0_0_eq, b_frame_framer_read_h0_0, frame_framer_read_h0_1_eq, b_frame_framer_read_h0_1, frame_framer_read_h0_2_eq, b_frame_framer_read_h0_2, frame_framer_read_h0_3_eq, b_frame_framer_read_h0_3, Int.reduceBEq, Bool.or_self, cond_true, cond_false, ge_iff_le, Int.reduceLE, Int.reduceLT, decide_true]
 simp only [need_is, cond_true, obindP_ss]
 exact stream_pb 11 true false true (by rw [bits_and_u64 _ _ (by omega) (by omega)]; decide) (by rw [bits_and_u64 _ _ (by omega) (by omega)]; decide) (by rw [bits_and_u64 _ _ (by omega) (by omega)]; decide) hB hl
theorem body_12 {r : List Int} (hB : Byt r) (hl : r.length ≤ 1000000) : startR 12 r = outP (pb (bodyP 12) finP' r) := by
 have ik : In62 12 := i62 12 (by decide)
 simp only [startR, bodyP, frame_framer_read_h0_0_eq, b_frame_framer_read_h0_0, frame_framer_read_h0_1_eq, b_frame_framer_read_h0_1, frame_framer_read_h0_2_eq, b_frame_framer_read_h0_2, frame_framer_read_h0_3_eq, b_frame_framer_read_h0_3, Int.reduceBEq, Bool.or_self, cond_true, cond_false, ge_iff_le, Int.reduceLE, Int.reduceLT, decide_true]
 simp only [need_is, cond_true, obindP_ss]
 exact stream_pb 12 false true false (by rw [bits_and_u64 _ _ (by omega) (by omega)]; decide) (by rw [bits_and_u64 _ _ (by omega) (by omega)]; decide) (by rw [bits_and_u64 _ _ (by omega) (by omega)]; decide) hB hl
theorem body_13 {r : List Int} (hB : Byt r) (hl : r.length ≤ 1000000) : startR 13 r = outP (pb (bodyP 13) finP' r) := by
 have ik : In62 13 := i62 13 (by decide)
 simp only [startR, bodyP, frame_framer_read_h0_0_eq, b_frame_framer_read_h0_0, frame_framer_read_h0_1_eq, b_frame_framer_read_h0_1, frame_framer_read_h0_2_eq, b_frame_framer_read_h0_2, frame_framer_read_h0_3_eq, b_frame_framer_read_h0_3, Int.reduceBEq, Bool.or_self, cond_true, cond_false, ge_iff_le, Int.reduceLE, Int.reduceLT, decide_true]
 simp only [need_is, cond_true, obindP_ss]
 exact stream_pb 13 true true false (by rw [bits_and_u64 _ _ (by omega) (by omega)]; decide) (by rw [bits_and_u64 _ _ (by omega) (by omega)]; decide) (by rw [bits_and_u64 _ _ (by omega) (by omega)]; decide) hB hl
theorem body_14 {r : List Int} (hB : Byt r) (hl : r.length ≤ 1000000) : startR 14 r = outP (pb (bodyP 14) finP' r) := by
 have ik : In62 14 := i62 14 (by decide)
 simp only [startR, bodyP, frame_framer_read_h0_0_eq, b_frame_framer_read_h0_0, frame_framer_read_h0_1_eq, b_frame_framer_read_h0_1, frame_framer_read_h0_2_eq, b_frame_framer_read_h0_2, frame_framer_read_h0_3_eq, b_frame_framer_read_h0_3, Int.reduceBEq, Bool.or_self, cond_true, cond_false, ge_iff_le, Int.reduceLE, Int.reduceLT, decide_true]
 simp only [need_is, cond_true, obindP_ss]
 exact stream_pb 14 false true true (by rw [bits_and_u64 _ _ (by omega) (by omega)]; decide) (by rw [bits_and_u64 _ _ (by omega) (by omega)]; decide) (by rw [bits_and_u64 _ _ (by omega) (by omega)]; decide) hB hl
theorem body_15 {r : List Int} (hB : Byt r) (hl : r.length ≤ 1000000) : startR 15 r = outP (pb (bodyP 15) finP' r) := by
 have ik : In62 15 := i62 15 (by decide)
 simp only [startR, bodyP, frame_framer_read_h0_0_eq, b_frame_framer_read_h0_0, frame_framer_read_h0_1_eq, b_frame_framer_read_h0_1, frame_framer_read_h0_2_eq, b_frame_framer_read_h0_2, frame_framer_read_h0_3_eq, b_frame_framer_read_h0_3, Int.reduceBEq, Bool.or_self, cond_true, cond_false, ge_iff_le, Int.reduceLE, Int.reduceLT, decide_true]
 simp only [need_is, cond_true, obindP_ss]
 exact stream_pb 15 true true true (by rw [bits_and_u64 _ _ (by omega) (by omega)]; decide) (by rw [bits_and_u64 _ _ (by omega) (by omega)]; decide) (by rw [bits_and_u64 _ _ (by omega) (by omega)]; decide) hB hl
theorem body_16 {r : List Int} (hB : Byt r) (hl : r.length ≤ 1000000) : startR 16 r = outP (pb (bodyP 16) finP' r) := by
 have ik : In62 16 := i62 16 (by decide)
 simp only [startR, bodyP, frame_framer_read_h0_0_eq, b_frame_framer_read_h0_0, frame_framer_read_h0_1_eq, b_frame_framer_read_h0_1, frame_framer_read_h0_2_eq, b_frame_framer_read_h0_2, frame_framer_read_h0_3_eq, b_frame_framer_read_h0_3, Int.reduceBEq, Bool.or_false, Bool.or_self, cond_true, cond_false, ge_iff_le, Int.reduceLE, Int.reduceLT, decide_true, decide_false]
 simp only [frame_reader_into_h2_eq, b_frame_reader_into_h2, obindP_assoc, obindP_ss, pb_assoc, pb_pr]
 refine num_pb hB fun mx r0 hmx hr0 hl0 => ?_
 exact last_out r0 _ _ _ _ _ _ _ _ _ _ _ _ _ (frok0 ik in62_0 in62_0 hmx in62_0 in62_0 in62_0 in62_0)
theorem body_17 {r : List Int} (hB : Byt r) (hl : r.length ≤ 1000000) : startR 17 r = outP (pb (bodyP 17) finP' r) := by
 have ik : In62 17 := i62 17 (by decide)
 simp only [startR, bodyP, frame_framer_read_h0_0_eq, b_frame_framer_read_h0_0, frame_framer_read_h0_1_eq, b_frame_framer_read_h0_1, frame_framer_read_h0_2_eq, b_frame_framer_read_h0_2, frame_framer_read_h0_3_eq, b_frame_framer_read_h0_3, Int.reduceBEq, Bool.or_false, Bool.or_self, cond_true, cond_false, ge_iff_le, Int.reduceLE, Int.reduceLT, decide_true, decide_false]
 simp only [frame_reader_into_h5_eq, b_frame_reader_into_h5, obindP_assoc, obindP_ss, pb_assoc, pb_pr]
 refine num_pb hB fun id r0 hid hr0 hl0 => ?_
 refine num_pb hr0 fun mx r1 hmx hr1 hl1 => ?_
 exact last_out r1 _ _ _ _ _ _ _ _ _ _ _ _ _ (frok0 ik hid in62_0 hmx in62_0 in62_0 in62_0 in62_0)
theorem body_18 {r : List Int} (hB : Byt r) (hl : r.length ≤ 1000000) : startR 18 r = outP (pb (bodyP 18) finP' r) := by
 have ik : In62 18 := i62 18 (by decide)
 simp only [startR, bodyP, frame_framer_read_h0_0_eq, b_frame_framer_read_h0_0, frame_framer_read_h0_1_eq, b_frame_framer_read_h0_1, frame_framer_read_h0_2_eq, b_frame_framer_read_h0_2, frame_framer_read_h0_3_eq, b_frame_framer_read_h0_3, Int.reduceBEq, Bool.or_true, Bool.or_false, Bool.or_self, cond_true, cond_false, ge_iff_le, Int.reduceLE, Int.reduceLT, decide_true, decide_false]
 simp only [frame_reader_into_h2_eq, b_frame_reader_into_h2, obindP_assoc, obindP_ss, pb_assoc, pb_pr]
 refine num_pb hB fun mx r0 hmx hr0 hl0 => ?_
 exact last_out r0 _ _ _ _ _ _ _ _ _ _ _ _ _ (frok0 ik in62_0 in62_0 hmx in62_0 in62_0 in62_0 in62_0)
theorem body_19 {r : List Int} (hB : Byt r) (hl : r.length ≤ 1000000) : startR 19 r = outP (pb (bodyP 19) finP' r) := by
 have ik : In62 19 := i62 19 (by decide)
 simp only [startR, bodyP, frame_framer_read_h0_0_eq, b_frame_framer_read_h0_0, frame_framer_read_h0_1_eq, b_frame_framer_read_h0_1, frame_framer_read_h0_2_eq, b_frame_framer_read_h0_2, frame_framer_read_h0_3_eq, b_frame_framer_read_h0_3, Int.reduceBEq, Bool.or_true, Bool.or_false, Bool.or_self, cond_true, cond_false, ge_iff_le, Int.reduceLE, Int.reduceLT, decide_true, decide_false]
 simp only [frame_reader_into_h2_eq, b_frame_reader_into_h2, obindP_assoc, obindP_ss, pb_assoc, pb_pr]
 refine num_pb hB fun mx r0 hmx hr0 hl0 => ?_
 exact last_out r0 _ _ _ _ _ _ _ _ _ _ _ _ _ (frok0 ik in62_0 in62_0 hmx in62_0 in62_0 in62_0 in62_0)
theorem body_20 {r : List Int} (hB : Byt r) (hl : r.length ≤ 1000000) : startR 20 r = outP (pb (bodyP 20) finP' r) := by
 have ik : In62 20 := i62 20 (by decide)
 simp only [startR, bodyP, frame_framer_read_h0_0_eq, b_frame_framer_read_h0_0, frame_framer_read_h0_1_eq, b_frame_framer_read_h0_1, frame_framer_read_h0_2_eq, b_frame_framer_read_h0_2, frame_framer_read_h0_3_eq, b_frame_framer_read_h0_3, Int.reduceBEq, Bool.or_true, Bool.or_false, Bool.or_self, cond_true, cond_false, ge_iff_le, Int.reduceLE, Int.reduceLT, decide_true, decide_false]
 simp only [frame_reader_into_h2_eq, b_frame_reader_into_h2, obindP_assoc, obindP_ss, pb_assoc, pb_pr]
 refine num_pb hB fun mx r0 hmx hr0 hl0 => ?_
 exact last_out r0 _ _ _ _ _ _ _ _ _ _ _ _ _ (frok0 ik in62_0 in62_0 hmx in62_0 in62_0 in62_0 in62_0)
theorem body_21 {r : List Int} (hB : Byt r) (hl : r.length ≤ 1000000) : startR 21 r = outP (pb (bodyP 21) finP' r) := by
 have ik : In62 21 := i62 21 (by decide)
 simp only [startR, bodyP, frame_framer_read_h0_0_eq, b_frame_framer_read_h0_0, frame_framer_read_h0_1_eq, b_frame_framer_read_h0_1, frame_framer_read_h0_2_eq, b_frame_framer_read_h0_2, frame_framer_read_h0_3_eq, b_frame_framer_read_h0_3, Int.reduceBEq, Bool.or_true, Bool.or_self, cond_true, cond_false, ge_iff_le, Int.reduceLE, Int.reduceLT, decide_true, decide_false]
 simp only [frame_reader_into_h5_eq, b_frame_reader_into_h5, obindP_assoc, obindP_ss, pb_assoc, pb_pr]
 refine num_pb hB fun id r0 hid hr0 hl0 => ?_
 refine num_pb hr0 fun mx r1 hmx hr1 hl1 => ?_
 exact last_out r1 _ _ _ _ _ _ _ _ _ _ _ _ _ (frok0 ik hid in62_0 hmx in62_0 in62_0 in62_0 in62_0)
theorem body_22 {r : List Int} (hB : Byt r) (hl : r.length ≤ 1000000) : startR 22 r = outP (pb (bodyP 22) finP' r) := by
 have ik : In62 22 := i62 22 (by decide)
 simp only [startR, bodyP, frame_framer_read_h0_0_eq, b_frame_framer_read_h0_0, frame_framer_read_h0_1_eq, b_frame_framer_read_h0_1, frame_framer_read_h0_2_eq, b_frame_framer_read_h0_2, frame_framer_read_h0_3_eq, b_frame_framer_read_h0_3, Int.reduceBEq, Bool.or_true, Bool.or_false, Bool.or_self, cond_true, cond_false, ge_iff_le, Int.reduceLE, Int.reduceLT, decide_true, decide_false]
 simp only [frame_reader_into_h2_eq, b_frame_reader_into_h2, obindP_assoc, obindP_ss, pb_assoc, pb_pr]
 refine num_pb hB fun mx r0 hmx hr0 hl0 => ?_
 exact last_out r0 _ _ _ _ _ _ _ _ _ _ _ _ _ (frok0 ik in62_0 in62_0 hmx in62_0 in62_0 in62_0 in62_0)
theorem body_23 {r : List Int} (hB : Byt r) (hl : r.length ≤ 1000000) : startR 23 r = outP (pb (bodyP 23) finP' r) := by
 have ik : In62 23 := i62 23 (by decide)
 simp only [startR, bodyP, frame_framer_read_h0_0_eq, b_frame_framer_read_h0_0, frame_framer_read_h0_1_eq, b_frame_framer_read_h0_1, frame_framer_read_h0_2_eq, b_frame_framer_read_h0_2, frame_framer_read_h0_3_eq, b_frame_framer_read_h0_3, Int.reduceBEq, Bool.or_true, Bool.or_self, cond_true, cond_false, ge_iff_le, Int.reduceLE, Int.reduceLT, decide_true, decide_false]
 simp only [frame_reader_into_h2_eq, b_frame_reader_into_h2, obindP_assoc, obindP_ss, pb_assoc, pb_pr]
 refine num_pb hB fun mx r0 hmx hr0 hl0 => ?_
 exact last_out r0 _ _ _ _ _ _ _ _ _ _ _ _ _ (frok0 ik in62_0 in62_0 hmx in62_0 in62_0 in62_0 in62_0)
theorem body_24 {r : List Int} (hB : Byt r) (hl : r.length ≤ 1000000) : startR 24 r = outP (pb (bodyP 24) finP' r) := by
 have ik : In62 24 := i62 24 (by decide)
 simp only [startR, bodyP, frame_framer_read_h0_0_eq, b_frame_framer_read_h0_0, frame_framer_read_h0_1_eq, b_frame_framer_read_h0_1, frame_framer_read_h0_2_eq, b_frame_framer_read_h0_2, frame_framer_read_h0_3_eq, b_frame_framer_read_h0_3, Int.reduceBEq, Bool.or_self, cond_true, cond_false, ge_iff_le, Int.reduceLE, Int.reduceLT, decide_true, decide_false]
 simp only [frame_reader_into_h8_eq, b_frame_reader_into_h8, obindP_assoc, obindP_ss, pb_assoc, pb_pr]
 refine num_pb hB fun seq r0 hseq hr0 hl0 => ?_
 refine num_pb hr0 fun prior r1 hprior hr1 hl1 => ?_
 refine byte_pb hr1 (by omega) fun b r2 hb hr2 hl2 => ?_
 have eb : byteAt (bytesStr [b]) 0 = b := by rw [byteAt_is, strBytes_bs (Byt.cons.mpr ⟨hb, Byt.nil⟩)]; rfl
 have ec : (0 : Int) < (((bytesStr [b]).size : Nat) : Int) := by rw [bytesStr_size]; simp
 simp only [need_is, eb, ec, and_self, decide_true, cond_true]
 cases hb8 : (b == 8) with
 | false =>
  have : ([b] == [8]) = false := by simpa using hb8
  simp only [cond_false, obindP_sn, pb, pg, this, outP, Option.map_none]
 | true =>
  have e8 : ([b] == [8]) = true := by simpa using hb8
  simp only [cond_true, obindP_ss, e8, pb_gt rfl]
  refine take_pb (n := 8) hr2 (by omega) (by omega) fun cid r3 hr3 hl3 _ _ _ => ?_
  refine take_pb (n := 16) hr3 (by omega) (by omega) fun tok r4 hr4 hl4 _ _ _ => ?_
  exact last_out r4 _ _ _ _ _ _ _ _ _ _ _ _ _ (frok0 ik in62_0 in62_0 in62_0 in62_0 hseq hprior in62_0)
theorem body_25 {r : List Int} (hB : Byt r) (hl : r.length ≤ 1000000) : startR 25 r = outP (pb (bodyP 25) finP' r) := by
 have ik : In62 25 := i62 25 (by decide)
 simp only [startR, bodyP, frame_framer_read_h0_0_eq, b_frame_framer_read_h0_0, frame_framer_read_h0_1_eq, b_frame_framer_read_h0_1, frame_framer_read_h0_2_eq, b_frame_framer_read_h0_2, frame_framer_read_h0_3_eq, b_frame_framer_read_h0_3, Int.reduceBEq, Bool.or_self, cond_true, cond_false, ge_iff_le, Int.reduceLE, Int.reduceLT, decide_true, decide_false]
 simp only [frame_reader_into_h4_eq, b_frame_reader_into_h4, obindP_assoc, obindP_ss, pb_assoc, pb_pr]
 refine num_pb hB fun seq r0 hseq hr0 hl0 => ?_
 exact last_out r0 _ _ _ _ _ _ _ _ _ _ _ _ _ (frok0 ik in62_0 in62_0 in62_0 in62_0 hseq in62_0 in62_0)
theorem body_26 {r : List Int} (hB : Byt r) (hl : r.length ≤ 1000000) : startR 26 r = outP (pb (bodyP 26) finP' r) := by
 have ik : In62 26 := i62 26 (by decide)
 simp only [startR, bodyP, frame_framer_read_h0_0_eq, b_frame_framer_read_h0_0, frame_framer_read_h0_1_eq, b_frame_framer_read_h0_1, frame_framer_read_h0_2_eq, b_frame_framer_read_h0_2, frame_framer_read_h0_3_eq, b_frame_framer_read_h0_3, Int.reduceBEq, Bool.or_false, Bool.or_self, cond_true, cond_false, ge_iff_le, Int.reduceLE, Int.reduceLT, decide_true, decide_false]
 simp only [pb_assoc, pb_pr]
 refine take_pb (n := 8) hB (by omega) hl fun tok r1 hr1 hl1 _ _ _ => ?_
 exact last_out r1 _ _ _ _ _ _ _ _ _ _ _ _ _ (frok0 ik in62_0 in62_0 in62_0 in62_0 in62_0 in62_0 in62_0)
theorem body_27 {r : List Int} (hB : Byt r) (hl : r.length ≤ 1000000) : startR 27 r = outP (pb (bodyP 27) finP' r) := by
 have ik : In62 27 := i62 27 (by decide)
 simp only [startR, bodyP, frame_framer_read_h0_0_eq, b_frame_framer_read_h0_0, frame_framer_read_h0_1_eq, b_frame_framer_read_h0_1, frame_framer_read_h0_2_eq, b_frame_framer_read_h0_2, frame_framer_read_h0_3_eq, b_frame_framer_read_h0_3, Int.reduceBEq, Bool.or_true, Bool.or_self, cond_true, cond_false, ge_iff_le, Int.reduceLE, Int.reduceLT, decide_true, decide_false]
 simp only [pb_assoc, pb_pr]
 refine take_pb (n := 8) hB (by omega) hl fun tok r1 hr1 hl1 _ _ _ => ?_
 exact last_out r1 _ _ _ _ _ _ _ _ _ _ _ _ _ (frok0 ik in62_0 in62_0 in62_0 in62_0 in62_0 in62_0 in62_0)
theorem body_28 {r : List Int} (hB : Byt r) (hl : r.length ≤ 1000000) : startR 28 r = outP (pb (bodyP 28) finP' r) := by
 have ik : In62 28 := i62 28 (by decide)
 simp only [startR, bodyP, frame_framer_read_h0_0_eq, b_frame_framer_read_h0_0, frame_framer_read_h0_1_eq, b_frame_framer_read_h0_1, frame_framer_read_h0_2_eq, b_frame_framer_read_h0_2, frame_framer_read_h0_3_eq, b_frame_framer_read_h0_3, Int.reduceBEq, Bool.or_self, cond_true, cond_false, ge_iff_le, Int.reduceLE, Int.reduceLT, decide_true, decide_false]
 simp only [frame_reader_into_h7_eq, b_frame_reader_into_h7, obindP_assoc, obindP_ss, pb_assoc, pb_pr]
 refine num_pb hB fun code r0 hcode hr0 hl0 => ?_
 refine num_pb hr0 fun delay r1 hdelay hr1 hl1 => ?_
 refine long_pb hr1 (by omega) fun bs r2 hr2 hl2 hbs => ?_
 exact last_out r2 _ _ _ _ _ _ _ _ _ _ _ _ _ (frok0 ik in62_0 in62_0 in62_0 hcode in62_0 in62_0 hdelay)
theorem body_29 {r : List Int} (hB : Byt r) (hl : r.length ≤ 1000000) : startR 29 r = outP (pb (bodyP 29) finP' r) := by
 have ik : In62 29 := i62 29 (by decide)
 simp only [startR, bodyP, frame_framer_read_h0_0_eq, b_frame_framer_read_h0_0, frame_framer_read_h0_1_eq, b_frame_framer_read_h0_1, frame_framer_read_h0_2_eq, b_frame_framer_read_h0_2, frame_framer_read_h0_3_eq, b_frame_framer_read_h0_3, Int.reduceBEq, Bool.or_self, cond_true, cond_false, ge_iff_le, Int.reduceLE, Int.reduceLT, decide_true, decide_false]
 simp only [frame_reader_into_h3_eq, b_frame_reader_into_h3, obindP_assoc, obindP_ss, pb_assoc, pb_pr]
 refine num_pb hB fun code r0 hcode hr0 hl0 => ?_
 refine long_pb hr0 (by omega) fun bs r1 hr1 hl1 hbs => ?_
 exact last_out r1 _ _ _ _ _ _ _ _ _ _ _ _ _ (frok0 ik in62_0 in62_0 in62_0 hcode in62_0 in62_0 in62_0)
theorem body_30 {r : List Int} (hB : Byt r) (hl : r.length ≤ 1000000) : startR 30 r = outP (pb (bodyP 30) finP' r) := by
 have ik : In62 30 := i62 30 (by decide)
 simp only [startR, bodyP, frame_framer_read_h0_0_eq, b_frame_framer_read_h0_0, frame_framer_read_h0_1_eq, b_frame_framer_read_h0_1, frame_framer_read_h0_2_eq, b_frame_framer_read_h0_2, frame_framer_read_h0_3_eq, b_frame_framer_read_h0_3, Int.reduceBEq, Bool.or_true, Bool.or_self, cond_true, cond_false, ge_iff_le, Int.reduceLE, Int.reduceLT, decide_true, decide_false]
 exact last_out r _ _ _ _ _ _ _ _ _ _ _ _ _ (frok0 ik in62_0 in62_0 in62_0 in62_0 in62_0 in62_0 in62_0)
theorem body_none {k : Int} (r : List Int) (h0 : k ≠ 0) (h1 : k ≠ 1) (h2 : k ≠ 2) (h4 : k ≠ 4) (h5 : k ≠ 5) (h6 : k ≠ 6) (h8 : k ≠ 8) (h9 : k ≠ 9) (h10 : k ≠ 10) (h11 : k ≠ 11) (h12 : k ≠ 12) (h13 : k ≠ 13) (h14 : k ≠ 14) (h15 : k ≠ 15) (h16 : k ≠ 16) (h17 : k ≠ 17) (h18 : k ≠ 18) (h19 : k ≠ 19) (h20 : k ≠ 20) (h21 : k ≠ 21) (h22 : k ≠ 22) (h23 : k ≠ 23) (h24 : k ≠ 24) (h25 : k ≠ 25) (h26 : k ≠ 26) (h27 : k ≠ 27) (h28 : k ≠ 28) (h29 : k ≠ 29) (h30 : k ≠ 30) : startR k r = outP (pb (bodyP k) finP' r) := by
 have c : ¬ (k ≥ 8 ∧ k < 16) := by omega
 simp only [startR, bodyP, frame_framer_read_h0_0_eq, b_frame_framer_read_h0_0, frame_framer_read_h0_1_eq, b_frame_framer_read_h0_1, frame_framer_read_h0_2_eq, b_frame_framer_read_h0_2, frame_framer_read_h0_3_eq, b_frame_framer_read_h0_3, beq_false_of_ne h0, beq_false_of_ne h1, beq_false_of_ne h2, beq_false_of_ne h4, beq_false_of_ne h5, beq_false_of_ne h6, beq_false_of_ne h8, beq_false_of_ne h9, beq_false_of_ne h10, beq_false_of_ne h11, beq_false_of_ne h12, beq_false_of_ne h13, beq_false_of_ne h14, beq_false_of_ne h15, beq_false_of_ne h16, beq_false_of_ne h17, beq_false_of_ne h18, beq_false_of_ne h19, beq_false_of_ne h20, beq_false_of_ne h21, beq_false_of_ne h22, beq_false_of_ne h23, beq_false_of_ne h24, beq_false_of_ne h25, beq_false_of_ne h26, beq_false_of_ne h27, beq_false_of_ne h28, beq_false_of_ne h29, beq_false_of_ne h30, Bool.or_self, cond_false]
 have e : (outP (pb (fun _ => none) finP' r) : Option (Option (D_frame_framer × Unit))) = some none := rfl
 rw [e]
 by_cases c1 : k ≥ 8
 ·
  have c2 : ¬ k < 16 := fun h => c ⟨c1, h⟩
  simp only [c1, c2, decide_true, decide_false, cond_true, need_is, cond_false, obindP_sn]
 · simp only [c1, decide_false, need_is, cond_false, obindP_sn]
theorem body_is (k : Int) {r : List Int} (hB : Byt r) (hl : r.length ≤ 1000000) : startR k r = outP (pb (bodyP k) finP' r) := by
 by_cases h0 : k = 0
 · subst h0; exact body_0 hB hl
 by_cases h1 : k = 1
 · subst h1; exact body_1 hB hl
 by_cases h2 : k = 2
 · subst h2; exact body_2 hB hl
 by_cases h4 : k = 4
 · subst h4; exact body_4 hB hl
 by_cases h5 : k = 5
 · subst h5; exact body_5 hB hl
 by_cases h6 : k = 6
 · subst h6; exact body_6 hB hl
 by_cases h8 : k = 8
 · subst h8; exact body_8 hB hl
 by_cases h9 : k = 9
 · subst h9; exact body_9 hB hl
 by_cases h10 : k = 10
 · subst h10; exact body_10 hB hl
 by_cases h11 : k = 11
 · subst h11; exact body_11 hB hl
 by_cases h12 : k = 12
 · subst h12; exact body_12 hB hl
 by_cases h13 : k = 13
 · subst h13; exact body_13 hB hl
 by_cases h14 : k = 14
 · subst h14; exact body_14 hB hl
 by_cases h15 : k = 15
 · subst h15; exact body_15 hB hl
 by_cases h16 : k = 16
 · subst h16; exact body_16 hB hl
 by_cases h17 : k = 17
 · subst h17; exact body_17 hB hl
 by_cases h18 : k = 18
 · subst h18; exact body_18 hB hl
 by_cases h19 : k = 19
 · subst h19; exact body_19 hB hl
 by_cases h20 : k = 20
 · subst h20; exact body_20 hB hl
 by_cases h21 : k = 21
 · subst h21; exact body_21 hB hl
 by_cases h22 : k = 22
 · subst h22; exact body_22 hB hl
 by_cases h23 : k = 23
 · subst h23; exact body_23 hB hl
 by_cases h24 : k = 24
 · subst h24; exact body_24 hB hl
 by_cases h25 : k = 25
 · subst h25; exact body_25 hB hl
 by_cases h26 : k = 26
 · subst h26; exact body_26 hB hl
 by_cases h27 : k = 27
 · subst h27; exact body_27 hB hl
 by_cases h28 : k = 28
 · subst h28; exact body_28 hB hl
 by_cases h29 : k = 29
 · subst h29; exact body_29 hB hl
 by_cases h30 : k = 30
 · subst h30; exact body_30 hB hl
 exact body_none r h0 h1 h2 h4 h5 h6 h8 h9 h10 h11 h12 h13 h14 h15 h16 h17 h18 h19 h20 h21 h22 h23 h24 h25 h26 h27 h28 h29 h30
theorem read_is {l : List Int} (hB : Byt l) (hl : l.length ≤ 1000000) : frame_framer_read_h0 (st l (zF 0)) = outP (getL l) := by
 rw [frame_framer_read_h0_eq, b_frame_framer_read_h0]
 simp only [frame_reader_into_h0_eq, b_frame_reader_into_h0, obindP_assoc, obindP_ss, getL]
 refine num_pb hB fun k r hk hr hlr => ?_
 simp only [bytesStr_size]
 rw [wrap_i64 _ (by omega) (by omega), vsize_is k hk.1 (in62_64 hk).2]
 simp only [obind_some, need_is, beq_dec]
 by_cases c : ((l.length : Nat) : Int) - ((r.length : Nat) : Int) = vsize k
 ·
  simp only [c, decide_true, cond_true, obindP_ss]
  have := body_is k hr (by omega)
  simp only [startR, beq_dec] at this
  exact this
 · simp only [c, decide_false, cond_false, obindP_sn, outP, Option.map_none]
theorem get_is (s : ByteArray) (hl : s.size ≤ 1000000) : frame_Get s = some (match getL (strBytes s) with | some (f, r) => (f, bytesStr r, 0, ()) | none => (zF 0, eB, 60, ())) := by
 rw [frame_Get_eq, b_frame_Get]
 have e := read_is (l := strBytes s) (strBytes_range s) (by rw [strBytes_len]; exact hl)
 simp only [st, bytesStr_strBytes] at e
 rw [e]
 cases getL (strBytes s) with
 | none => rfl
 | some x => rfl
/-! ### what is behind was there -/
theorem Suf.long : Suf plong := Suf.bind Suf.vget fun n => Suf.bind (Suf.take _) fun _ => Suf.pr _
theorem Mono.long : Mono plong := Mono.bind Mono.vget fun n => Mono.bind (Mono.take _) fun _ => Mono.pr _
theorem Suf.str (n : Nat) : Suf (pstr n) := Suf.bind (Suf.take _) fun _ => Suf.pr _
theorem Mono.str (n : Nat) : Mono (pstr n) := Mono.bind (Mono.take _) fun _ => Mono.pr _
theorem Suf.rest : Suf prest := fun l a r h => by cases h; exact ⟨l, by simp⟩
theorem Suf.gaps : ∀ (n : Nat) (lo : Int), Suf (gapsP n lo)
 | 0, _ => Suf.pr _
 | n + 1, lo => Suf.bind Suf.vget fun _ => Suf.bind Suf.vget fun _ => Suf.bind (Suf.pg _) fun _ => Suf.bind (Suf.gaps n _) fun _ => Suf.pr _
theorem Mono.gaps : ∀ (n : Nat) (lo : Int), Mono (gapsP n lo)
 | 0, _ => Mono.pr _
 | n + 1, lo => Mono.bind Mono.vget fun _ => Mono.bind Mono.vget fun _ => Mono.bind (Mono.pg _) fun _ => Mono.bind (Mono.gaps n _) fun _ => Mono.pr _
theorem Suf.ack : Suf ackP := Suf.bind Suf.vget fun _ => Suf.bind Suf.vget fun _ => Suf.bind Suf.vget fun _ => Suf.bind Suf.vget fun _ => Suf.bind (Suf.pg _) fun _ => Suf.bind (Suf.gaps _ _) fun _ => Suf.pr _
theorem Mono.ack : Mono ackP := Mono.bind Mono.vget fun _ => Mono.bind Mono.vget fun _ => Mono.bind Mono.vget fun _ => Mono.bind Mono.vget fun _ => Mono.bind (Mono.pg _) fun _ => Mono.bind (Mono.gaps _ _) fun _ => Mono.pr _
theorem Suf.stream (a b c : Bool) : Suf (streamP a b c) := Suf.bind Suf.vget fun _ => Suf.bind (by cases b; exact Suf.pr _; exact Suf.vget) fun _ => Suf.bind (by cases c; exact Suf.rest; exact Suf.long) fun _ => Suf.pr _
theorem Mono.stream (a b : Bool) : Mono (streamP a b true) := Mono.bind Mono.vget fun _ => Mono.bind (by cases b; exact Mono.pr _; exact Mono.vget) fun _ => Mono.bind Mono.long fun _ => Mono.pr _
theorem Suf.none {α : Type} : Suf (fun _ => none : Pr α) := fun _ _ _ h => by cases h
theorem Mono.none {α : Type} : Mono (fun _ => none : Pr α) := fun _ _ _ _ h => by cases h
theorem Suf.cond {α : Type} {b : Bool} {p q : Pr α} (h : Suf p) (k : Suf q) : Suf (bif b then p else q) := by cases b; exact k; exact h
theorem Mono.cond {α : Type} {b : Bool} {p q : Pr α} (h : b = true → Mono p) (k : b = false → Mono q) : Mono (bif b then p else q) := by cases b; exact k rfl; exact h rfl
theorem Suf.body (k : Int) : Suf (bodyP k) := by
 unfold bodyP
 refine Suf.cond (Suf.pr _) (Suf.cond Suf.ack (Suf.cond (Suf.bind Suf.vget fun _ => Suf.bind Suf.vget fun _ => Suf.bind Suf.vget fun _ => Suf.pr _) (Suf.cond (Suf.bind Suf.vget fun _ => Suf.bind Suf.vget fun _ => Suf.pr _) (Suf.cond (Suf.bind Suf.vget fun _ => Suf.bind Suf.long fun _ => Suf.pr _) ?_))))
 refine Suf.cond (Suf.stream _ _ _) (Suf.cond (Suf.stream _ _ _) (Suf.cond (Suf.stream _ _ _) (Suf.cond (Suf.stream _ _ _) (Suf.cond (Suf.stream _ _ _) (Suf.cond (Suf.stream _ _ _) (Suf.cond (Suf.stream _ _ _) (Suf.cond (Suf.stream _ _ _) ?_)))))))
 refine Suf.cond (Suf.bind Suf.vget fun _ => Suf.pr _) (Suf.cond (Suf.bind Suf.vget fun _ => Suf.bind Suf.vget fun _ => Suf.pr _) ?_)
 refine Suf.cond (Suf.bind Suf.vget fun _ => Suf.bind Suf.vget fun _ => Suf.bind (Suf.take _) fun _ => Suf.bind (Suf.pg _) fun _ => Suf.bind (Suf.str _) fun _ => Suf.bind (Suf.str _) fun _ => Suf.pr _) ?_
 refine Suf.cond (Suf.bind Suf.vget fun _ => Suf.pr _) (Suf.cond (Suf.bind (Suf.str _) fun _ => Suf.pr _) ?_)
 exact Suf.cond (Suf.bind Suf.vget fun _ => Suf.bind Suf.vget fun _ => Suf.bind Suf.long fun _ => Suf.pr _) (Suf.cond (Suf.bind Suf.vget fun _ => Suf.bind Suf.long fun _ => Suf.pr _) Suf.none)
theorem Mono.body (k : Int) (h8 : k ≠ 8) (h9 : k ≠ 9) (h12 : k ≠ 12) (h13 : k ≠ 13) : Mono (bodyP k) := by
 unfold bodyP
 rw [beq_false_of_ne h8, beq_false_of_ne h9, beq_false_of_ne h12, beq_false_of_ne h13]
 simp only [cond_false]
 refine Mono.cond (fun _ => Mono.pr _) fun _ => Mono.cond (fun _ => Mono.ack) fun _ => Mono.cond (fun _ => Mono.bind Mono.vget fun _ => Mono.bind Mono.vget fun _ => Mono.bind Mono.vget fun _ => Mono.pr _) fun _ => Mono.cond (fun _ => Mono.bind Mono.vget fun _ => Mono.bind Mono.vget fun _ => Mono.pr _) fun _ => Mono.cond (fun _ => Mono.bind Mono.vget fun _ => Mono.bind Mono.long fun _ => Mono.pr _) fun _ => ?_
 refine Mono.cond (fun _ => Mono.stream _ _) fun _ => Mono.cond (fun _ => Mono.stream _ _) fun _ => Mono.cond (fun _ => Mono.stream _ _) fun _ => Mono.cond (fun _ => Mono.stream _ _) fun _ => ?_
 refine Mono.cond (fun _ => Mono.bind Mono.vget fun _ => Mono.pr _) fun _ => Mono.cond (fun _ => Mono.bind Mono.vget fun _ => Mono.bind Mono.vget fun _ => Mono.pr _) fun _ => ?_
 refine Mono.cond (fun _ => Mono.bind Mono.vget fun _ => Mono.bind Mono.vget fun _ => Mono.bind (Mono.take _) fun _ => Mono.bind (Mono.pg _) fun _ => Mono.bind (Mono.str _) fun _ => Mono.bind (Mono.str _) fun _ => Mono.pr _) fun _ => ?_
 refine Mono.cond (fun _ => Mono.bind Mono.vget fun _ => Mono.pr _) fun _ => Mono.cond (fun _ => Mono.bind (Mono.str _) fun _ => Mono.pr _) fun _ => ?_
 exact Mono.cond (fun _ => Mono.bind Mono.vget fun _ => Mono.bind Mono.vget fun _ => Mono.bind Mono.long fun _ => Mono.pr _) fun _ => Mono.cond (fun _ => Mono.bind Mono.vget fun _ => Mono.bind Mono.long fun _ => Mono.pr _) fun _ => Mono.none
theorem getL_some {l : List Int} {f : D_frame_Frame} {r : List Int} (h : getL l = some (f, r)) : ∃ k r1, vget l = some (k, r1) ∧ ((l.length : Nat) : Int) - ((r1.length : Nat) : Int) = vsize k ∧ bodyP k r1 = some (f, r) ∧ mayFr f = true := by
 unfold getL at h
 obtain ⟨k, r1, h1, h2⟩ := pb_some h
 by_cases c : ((l.length : Nat) : Int) - ((r1.length : Nat) : Int) = vsize k
 ·
  simp only [c, decide_true, cond_true] at h2
  obtain ⟨f', r2, h3, h4⟩ := pb_some h2
  unfold finP' at h4
  obtain ⟨⟨⟩, r3, h5, h6⟩ := pb_some h4
  cases h6
  cases hm : mayFr f with
  | true =>
   rw [hm] at h5
   cases h5
   exact ⟨k, r1, h1, c, h3, rfl⟩
  | false => rw [hm] at h5; cases h5
 ·
  simp only [c, decide_false, cond_false] at h2
  cases h2
theorem getL_of {l : List Int} {f : D_frame_Frame} {r r1 : List Int} {k : Int} (h1 : vget l = some (k, r1)) (h2 : ((l.length : Nat) : Int) - ((r1.length : Nat) : Int) = vsize k) (h3 : bodyP k r1 = some (f, r)) (h4 : mayFr f = true) : getL l = some (f, r) := by
 unfold getL
 simp only [pb, h1, h2, decide_true, cond_true, h3, finP', h4, pg, pr]
theorem getL_suf {l : List Int} {f : D_frame_Frame} {r : List Int} (h : getL l = some (f, r)) : ∃ q, l = q ++ r ∧ 1 ≤ q.length := by
 obtain ⟨k, r1, h1, _, h3, _⟩ := getL_some h
 obtain ⟨q, rfl, hq, _⟩ := vget_some h1
 obtain ⟨q2, rfl⟩ := Suf.body k _ _ _ h3
 exact ⟨q ++ q2, by simp, by simp; omega⟩
theorem pb_vb {β : Type} (n : Int) (h : In62 n) (f : Int → Pr β) (t : List Int) : pb vget f (vb n ++ t) = f n t := by
 simp only [pb, vget_vb n h t]
theorem pb_bytes {β : Type} (s : ByteArray) (n : Nat) (h : s.size = n) (f : List Int → Pr β) (t : List Int) : pb (ptake n) f (strBytes s ++ t) = f (strBytes s) t := by
 have hl : (strBytes s).length = n := by rw [strBytes_len, h]
 have c : n ≤ (strBytes s ++ t).length := by simp; omega
 simp only [pb, ptake, c, if_true]
 subst hl
 rw [List.take_left, List.drop_left]
theorem pb_str {β : Type} (s : ByteArray) (n : Nat) (h : s.size = n) (f : ByteArray → Pr β) (t : List Int) : pb (pstr n) f (strBytes s ++ t) = f s t := by
 rw [pstr, pb_assoc, pb_bytes s n h]
 simp only [pb_pr, bytesStr_strBytes]
theorem pb_text {β : Type} (s : ByteArray) (h : s.size ≤ 100000) (f : ByteArray → Pr β) (t : List Int) : pb plong f (textL s ++ t) = f s t := by
 rw [plong, textL, pb_assoc, List.append_assoc, pb_vb _ (size62 h)]
 simp only [Int.toNat_natCast]
 rw [pb_assoc, pb_bytes s _ rfl]
 simp only [pb_pr, bytesStr_strBytes]
theorem gaps_back (t : List Int) : ∀ (l : List D_ranges_Range) (lo : Int), descR lo l → lo < 4611686018427387904 → gapsP l.length lo (ackGaps lo l ++ t) = some (l, t)
 | [], lo, _, _ => rfl
 | r :: l, lo, ⟨d1, d2, d3, d4⟩, hlo => by
  have e1 : lo - (lo - r.2.1 - 2) - 2 = r.2.1 := by omega
  have e2 : r.2.1 - (r.2.1 - r.1) = r.1 := by omega
  have c1 : lo - r.2.1 - 2 + 2 ≤ lo := by omega
  have c2 : r.2.1 - r.1 ≤ r.2.1 := by omega
  simp only [gapsP, List.length_cons, ackGaps, List.append_assoc]
  rw [pb_vb _ ⟨by omega, by omega⟩, pb_vb _ ⟨by omega, by omega⟩]
  simp only [e1, e2, c1, c2, decide_true, Bool.and_self, pb_gt rfl]
  have ih := gaps_back t l r.1 d4 (by omega)
  simp only [pb, ih, pr]
theorem only_parts {k id off mx code seq prior delay : Int} {fin : Bool} {data cid tok : ByteArray} {set : List D_ranges_Range} (h : (k, id, off, mx, code, seq, prior, delay, fin, data, cid, tok, set, ()) = onlyF (k, id, off, mx, code, seq, prior, delay, fin, data, cid, tok, set, ())) :
  (hasId k = false → id = 0) ∧ (hasOff k = false → off = 0) ∧ (hasMax k = false → mx = 0) ∧ (hasCode k = false → code = 0) ∧ (hasSeq k = false → seq = 0) ∧ (hasPrior k = false → prior = 0) ∧ (hasDelay k = false → delay = 0) ∧ (hasFin k = false → fin = false) ∧
  (hasData k = false → data = eB) ∧ (hasCid k = false → cid = eB) ∧ (hasToken k = false → tok = eB) ∧ (hasSet k = false → set = []) := by
 simp only [onlyF, Prod.mk.injEq, and_true, true_and] at h
 obtain ⟨h1, h2, h3, h4, h5, h6, h7, h8, h9, h10, h11, h12⟩ := h
 refine ⟨fun e => ?_, fun e => ?_, fun e => ?_, fun e => ?_, fun e => ?_, fun e => ?_, fun e => ?_, fun e => ?_, fun e => ?_, fun e => ?_, fun e => ?_, fun e => ?_⟩
 · rw [h1, e]; rfl
 · rw [h2, e]; rfl
 · rw [h3, e]; rfl
 · rw [h4, e]; rfl
 · rw [h5, e]; rfl
 · rw [h6, e]; rfl
 · rw [h7, e]; rfl
 · rw [h8, e]; rfl
 · rw [h9, e]; rfl
 · rw [h10, e]; rfl
 · rw [h11, e]; rfl
 · rw [h12, e]; rfl
theorem getL_vb {k : Int} (hk : In62 k) {l t : List Int} {f : D_frame_Frame} (h : bodyP k l = some (f, t)) (hm : mayFr f = true) : getL (vb k ++ l) = some (f, t) :=
 getL_of (vget_vb k hk l) (by rw [List.length_append]; have := vb_vsize k hk; omega) h hm
theorem back_is (f : D_frame_Frame) (h : FrOk f) (hm : mayFr f = true) (t : List Int) : getL (putL f ++ t) = some (f, t) := by
 obtain ⟨hk, ho, hn, hd, he⟩ := mayFr_parts hm
 obtain ⟨n1, n2, n3, n4, n5, n6, n7⟩ := nums62 h hn
 have hset := h.set
 obtain ⟨k, id, off, mx, code, seq, prior, delay, fin, data, cid, tok, set, ⟨⟩⟩ := f
 obtain ⟨o1, o2, o3, o4, o5, o6, o7, o8, o9, o10, o11, o12⟩ := only_parts ho
 simp only at n1 n2 n3 n4 n5 n6 n7 hd hset hk
 have v1 : ∀ (a : Int) (t : List Int), vbs [a] ++ t = vb a ++ t := fun a t => by simp [vbs]
 have v2 : ∀ (a b : Int) (t : List Int), vbs [a, b] ++ t = vb a ++ (vb b ++ t) := fun a b t => by simp [vbs]
 have v3 : ∀ (a b c : Int) (t : List Int), vbs [a, b, c] ++ t = vb a ++ (vb b ++ (vb c ++ t)) := fun a b c t => by simp [vbs]
 have K : In62 k := by rcases kinds hk with rfl | rfl | rfl | rfl | rfl | rfl | rfl | rfl | rfl | rfl | rfl | rfl | rfl | rfl | rfl | rfl | rfl | rfl | rfl | rfl | rfl | rfl <;> (unfold In62; omega)
 by_cases h8 : k = 8
 ·
  subst h8
  have z3 := o3 rfl; have z4 := o4 rfl; have z5 := o5 rfl; have z6 := o6 rfl; have z7 := o7 rfl; have z10 := o10 rfl; have z11 := o11 rfl; have z12 := o12 rfl
  subst z3 z4 z5 z6 z7 z10 z11 z12
  simp only [putL, beq_self_eq_true, cond_true, List.append_assoc, v2, streamK]
  have i10 := i62 10 (by decide); have i11 := i62 11 (by decide); have i14 := i62 14 (by decide); have i15 := i62 15 (by decide)
  by_cases h0 : off = 0
  ·
   subst h0
   cases fin
   ·
    refine getL_vb (k := 10) i10 ?_ hm
    show streamP false false true _ = _
    simp only [streamP, cond_false, cond_true, pb_pr, beq_self_eq_true, List.nil_append]
    rw [pb_vb _ n1, pb_text data (by omega)]; rfl
   ·
    refine getL_vb (k := 11) i11 ?_ hm
    show streamP true false true _ = _
    simp only [streamP, cond_false, cond_true, pb_pr, beq_self_eq_true, List.nil_append]
    rw [pb_vb _ n1, pb_text data (by omega)]; rfl
  ·
   have e0 : (off == 0) = false := beq_false_of_ne h0
   simp only [e0, cond_false, v1]
   cases fin
   ·
    refine getL_vb (k := 14) i14 ?_ hm
    show streamP false true true _ = _
    simp only [streamP, cond_true]
    rw [pb_vb _ n1, pb_vb _ n2, pb_text data (by omega)]; rfl
   ·
    refine getL_vb (k := 15) i15 ?_ hm
    show streamP true true true _ = _
    simp only [streamP, cond_true]
    rw [pb_vb _ n1, pb_vb _ n2, pb_text data (by omega)]; rfl
 ·
  have hb : (k == 8) = false := beq_false_of_ne h8
  simp only [putL, hb, cond_false, List.append_assoc, v1]
  refine getL_vb K ?_ hm
  rcases kinds hk with rfl | rfl | rfl | rfl | rfl | rfl | rfl | rfl | rfl | rfl | rfl | rfl | rfl | rfl | rfl | rfl | rfl | rfl | rfl | rfl | rfl | rfl
  case inr.inr.inl =>
   simp only [extraF, beq_self_eq_true, cond_true, Bool.and_eq_true, decide_eq_true_eq] at he
   obtain ⟨⟨⟨e1, e2⟩, e3⟩, e4⟩ := he
   obtain ⟨r, l, er, el, d1, d2, d3, d4⟩ := ack_desc (fun r hr => (hset r hr).1.1) e1 e2 e4
   have z1 := o1 rfl; have z2 := o2 rfl; have z3 := o3 rfl; have z4 := o4 rfl; have z5 := o5 rfl; have z6 := o6 rfl; have z8 := o8 rfl; have z9 := o9 rfl; have z10 := o10 rfl; have z11 := o11 rfl
   subst z1 z2 z3 z4 z5 z6 z8 z9 z10 z11
   have e5 : r.2.1 - (r.2.1 - r.1) = r.1 := by omega
   have c1 : ((l.length : Nat) : Int) < 32 := by omega
   have c2 : r.2.1 - r.1 ≤ r.2.1 := by omega
   show ackP (ackL delay set.reverse ++ t) = _
   rw [er]
   simp only [ackP, ackL, List.append_assoc]
   rw [pb_vb _ ⟨by omega, by omega⟩, pb_vb _ n7, pb_vb _ ⟨by omega, by omega⟩, pb_vb _ ⟨by omega, by omega⟩]
   simp only [e5, c1, c2, decide_true, Bool.and_self, pb_gt rfl, Int.toNat_natCast]
   have g := gaps_back t l r.1 d4 (by omega)
   simp only [pb, g, pr]
   have e6 : ((r.1, (r.2.1, ())) : D_ranges_Range) = r := rfl
   rw [e6, ← er, List.reverse_reverse]
  ·
   have z1 := o1 rfl; have z2 := o2 rfl; have z3 := o3 rfl; have z4 := o4 rfl; have z5 := o5 rfl; have z6 := o6 rfl; have z7 := o7 rfl; have z8 := o8 rfl; have z9 := o9 rfl; have z10 := o10 rfl; have z11 := o11 rfl; have z12 := o12 rfl
   subst z1 z2 z3 z4 z5 z6 z7 z8 z9 z10 z11 z12
   simp only [partsL, bodyP, Int.reduceBEq, Bool.or_false, Bool.or_self, cond_true, cond_false, v1, v2, List.append_assoc, List.nil_append]
   rfl
  ·
   have z1 := o1 rfl; have z2 := o2 rfl; have z3 := o3 rfl; have z4 := o4 rfl; have z5 := o5 rfl; have z6 := o6 rfl; have z7 := o7 rfl; have z8 := o8 rfl; have z9 := o9 rfl; have z10 := o10 rfl; have z11 := o11 rfl; have z12 := o12 rfl
   subst z1 z2 z3 z4 z5 z6 z7 z8 z9 z10 z11 z12
   simp only [partsL, bodyP, Int.reduceBEq, Bool.or_true, Bool.or_false, Bool.or_self, cond_true, cond_false, v1, v2, List.append_assoc, List.nil_append]
   rfl
  ·
   have z2 := o2 rfl; have z5 := o5 rfl; have z6 := o6 rfl; have z7 := o7 rfl; have z8 := o8 rfl; have z9 := o9 rfl; have z10 := o10 rfl; have z11 := o11 rfl; have z12 := o12 rfl
   subst z2 z5 z6 z7 z8 z9 z10 z11 z12
   simp only [partsL, bodyP, Int.reduceBEq, Bool.or_self, cond_true, cond_false, v1, v2, v3, List.append_assoc]
   rw [pb_vb _ n1, pb_vb _ n4, pb_vb _ n3]; rfl
  ·
   have z2 := o2 rfl; have z3 := o3 rfl; have z5 := o5 rfl; have z6 := o6 rfl; have z7 := o7 rfl; have z8 := o8 rfl; have z9 := o9 rfl; have z10 := o10 rfl; have z11 := o11 rfl; have z12 := o12 rfl
   subst z2 z3 z5 z6 z7 z8 z9 z10 z11 z12
   simp only [partsL, bodyP, Int.reduceBEq, Bool.or_self, cond_true, cond_false, v1, v2, List.append_assoc]
   rw [pb_vb _ n1, pb_vb _ n4]; rfl
  ·
   have z1 := o1 rfl; have z3 := o3 rfl; have z4 := o4 rfl; have z5 := o5 rfl; have z6 := o6 rfl; have z7 := o7 rfl; have z8 := o8 rfl; have z10 := o10 rfl; have z11 := o11 rfl; have z12 := o12 rfl
   subst z1 z3 z4 z5 z6 z7 z8 z10 z11 z12
   simp only [partsL, bodyP, Int.reduceBEq, Bool.or_self, cond_true, cond_false, v1, v2, List.append_assoc]
   rw [pb_vb _ n2, pb_text data (by omega)]; rfl
  · exact absurd rfl h8
  ·
   have z1 := o1 rfl; have z2 := o2 rfl; have z4 := o4 rfl; have z5 := o5 rfl; have z6 := o6 rfl; have z7 := o7 rfl; have z8 := o8 rfl; have z9 := o9 rfl; have z10 := o10 rfl; have z11 := o11 rfl; have z12 := o12 rfl
   subst z1 z2 z4 z5 z6 z7 z8 z9 z10 z11 z12
   simp only [partsL, bodyP, Int.reduceBEq, Bool.or_false, Bool.or_self, cond_true, cond_false, v1, v2, List.append_assoc]
   rw [pb_vb _ n3]; rfl
  ·
   have z2 := o2 rfl; have z4 := o4 rfl; have z5 := o5 rfl; have z6 := o6 rfl; have z7 := o7 rfl; have z8 := o8 rfl; have z9 := o9 rfl; have z10 := o10 rfl; have z11 := o11 rfl; have z12 := o12 rfl
   subst z2 z4 z5 z6 z7 z8 z9 z10 z11 z12
   simp only [partsL, bodyP, Int.reduceBEq, Bool.or_false, Bool.or_self, cond_true, cond_false, v1, v2, List.append_assoc]
   rw [pb_vb _ n1, pb_vb _ n3]; rfl
  ·
   have z1 := o1 rfl; have z2 := o2 rfl; have z4 := o4 rfl; have z5 := o5 rfl; have z6 := o6 rfl; have z7 := o7 rfl; have z8 := o8 rfl; have z9 := o9 rfl; have z10 := o10 rfl; have z11 := o11 rfl; have z12 := o12 rfl
   subst z1 z2 z4 z5 z6 z7 z8 z9 z10 z11 z12
   simp only [partsL, bodyP, Int.reduceBEq, Bool.or_true, Bool.or_false, Bool.or_self, cond_true, cond_false, v1, v2, List.append_assoc]
   rw [pb_vb _ n3]; rfl
  ·
   have z1 := o1 rfl; have z2 := o2 rfl; have z4 := o4 rfl; have z5 := o5 rfl; have z6 := o6 rfl; have z7 := o7 rfl; have z8 := o8 rfl; have z9 := o9 rfl; have z10 := o10 rfl; have z11 := o11 rfl; have z12 := o12 rfl
   subst z1 z2 z4 z5 z6 z7 z8 z9 z10 z11 z12
   simp only [partsL, bodyP, Int.reduceBEq, Bool.or_true, Bool.or_false, Bool.or_self, cond_true, cond_false, v1, v2, List.append_assoc]
   rw [pb_vb _ n3]; rfl
  ·
   have z1 := o1 rfl; have z2 := o2 rfl; have z4 := o4 rfl; have z5 := o5 rfl; have z6 := o6 rfl; have z7 := o7 rfl; have z8 := o8 rfl; have z9 := o9 rfl; have z10 := o10 rfl; have z11 := o11 rfl; have z12 := o12 rfl
   subst z1 z2 z4 z5 z6 z7 z8 z9 z10 z11 z12
   simp only [partsL, bodyP, Int.reduceBEq, Bool.or_true, Bool.or_false, Bool.or_self, cond_true, cond_false, v1, v2, List.append_assoc]
   rw [pb_vb _ n3]; rfl
  ·
   have z2 := o2 rfl; have z4 := o4 rfl; have z5 := o5 rfl; have z6 := o6 rfl; have z7 := o7 rfl; have z8 := o8 rfl; have z9 := o9 rfl; have z10 := o10 rfl; have z11 := o11 rfl; have z12 := o12 rfl
   subst z2 z4 z5 z6 z7 z8 z9 z10 z11 z12
   simp only [partsL, bodyP, Int.reduceBEq, Bool.or_true, Bool.or_self, cond_true, cond_false, v1, v2, List.append_assoc]
   rw [pb_vb _ n1, pb_vb _ n3]; rfl
  ·
   have z1 := o1 rfl; have z2 := o2 rfl; have z4 := o4 rfl; have z5 := o5 rfl; have z6 := o6 rfl; have z7 := o7 rfl; have z8 := o8 rfl; have z9 := o9 rfl; have z10 := o10 rfl; have z11 := o11 rfl; have z12 := o12 rfl
   subst z1 z2 z4 z5 z6 z7 z8 z9 z10 z11 z12
   simp only [partsL, bodyP, Int.reduceBEq, Bool.or_true, Bool.or_false, Bool.or_self, cond_true, cond_false, v1, v2, List.append_assoc]
   rw [pb_vb _ n3]; rfl
  ·
   have z1 := o1 rfl; have z2 := o2 rfl; have z4 := o4 rfl; have z5 := o5 rfl; have z6 := o6 rfl; have z7 := o7 rfl; have z8 := o8 rfl; have z9 := o9 rfl; have z10 := o10 rfl; have z11 := o11 rfl; have z12 := o12 rfl
   subst z1 z2 z4 z5 z6 z7 z8 z9 z10 z11 z12
   simp only [partsL, bodyP, Int.reduceBEq, Bool.or_true, Bool.or_self, cond_true, cond_false, v1, v2, List.append_assoc]
   rw [pb_vb _ n3]; rfl
  ·
   have z1 := o1 rfl; have z2 := o2 rfl; have z3 := o3 rfl; have z4 := o4 rfl; have z7 := o7 rfl; have z8 := o8 rfl; have z9 := o9 rfl; have z12 := o12 rfl
   subst z1 z2 z3 z4 z7 z8 z9 z12
   have hc : cid.size = 8 ∧ tok.size = 16 := by
    simp [extraF] at he
    omega
   simp only [partsL, bodyP, Int.reduceBEq, Bool.or_self, cond_true, cond_false, v1, v2, List.append_assoc]
   rw [pb_vb _ n5, pb_vb _ n6]
   have e1 : ∀ (f : List Int → Pr D_frame_Frame) (l : List Int), pb (ptake 1) f ([8] ++ l) = f [8] l := fun f l => by simp [pb, ptake]
   rw [e1]
   simp only [beq_self_eq_true, pb_gt rfl]
   rw [pb_str cid 8 hc.1, pb_str tok 16 hc.2]; rfl
  ·
   have z1 := o1 rfl; have z2 := o2 rfl; have z3 := o3 rfl; have z4 := o4 rfl; have z6 := o6 rfl; have z7 := o7 rfl; have z8 := o8 rfl; have z9 := o9 rfl; have z10 := o10 rfl; have z11 := o11 rfl; have z12 := o12 rfl
   subst z1 z2 z3 z4 z6 z7 z8 z9 z10 z11 z12
   simp only [partsL, bodyP, Int.reduceBEq, Bool.or_self, cond_true, cond_false, v1, v2, List.append_assoc]
   rw [pb_vb _ n5]; rfl
  ·
   have z1 := o1 rfl; have z2 := o2 rfl; have z3 := o3 rfl; have z4 := o4 rfl; have z5 := o5 rfl; have z6 := o6 rfl; have z7 := o7 rfl; have z8 := o8 rfl; have z9 := o9 rfl; have z10 := o10 rfl; have z12 := o12 rfl
   subst z1 z2 z3 z4 z5 z6 z7 z8 z9 z10 z12
   have hc : tok.size = 8 := by
    simp [extraF] at he
    omega
   simp only [partsL, bodyP, Int.reduceBEq, Bool.or_false, Bool.or_self, cond_true, cond_false, v1, v2, List.append_assoc]
   rw [pb_str tok 8 hc]; rfl
  ·
   have z1 := o1 rfl; have z2 := o2 rfl; have z3 := o3 rfl; have z4 := o4 rfl; have z5 := o5 rfl; have z6 := o6 rfl; have z7 := o7 rfl; have z8 := o8 rfl; have z9 := o9 rfl; have z10 := o10 rfl; have z12 := o12 rfl
   subst z1 z2 z3 z4 z5 z6 z7 z8 z9 z10 z12
   have hc : tok.size = 8 := by
    simp [extraF] at he
    omega
   simp only [partsL, bodyP, Int.reduceBEq, Bool.or_true, Bool.or_self, cond_true, cond_false, v1, v2, List.append_assoc]
   rw [pb_str tok 8 hc]; rfl
  ·
   have z1 := o1 rfl; have z2 := o2 rfl; have z3 := o3 rfl; have z5 := o5 rfl; have z6 := o6 rfl; have z8 := o8 rfl; have z10 := o10 rfl; have z11 := o11 rfl; have z12 := o12 rfl
   subst z1 z2 z3 z5 z6 z8 z10 z11 z12
   simp only [partsL, bodyP, Int.reduceBEq, Bool.or_self, cond_true, cond_false, v1, v2, List.append_assoc]
   rw [pb_vb _ n4, pb_vb _ n7, pb_text data (by omega)]; rfl
  ·
   have z1 := o1 rfl; have z2 := o2 rfl; have z3 := o3 rfl; have z5 := o5 rfl; have z6 := o6 rfl; have z7 := o7 rfl; have z8 := o8 rfl; have z10 := o10 rfl; have z11 := o11 rfl; have z12 := o12 rfl
   subst z1 z2 z3 z5 z6 z7 z8 z10 z11 z12
   simp only [partsL, bodyP, Int.reduceBEq, Bool.or_self, cond_true, cond_false, v1, v2, List.append_assoc]
   rw [pb_vb _ n4, pb_text data (by omega)]; rfl
  ·
   have z1 := o1 rfl; have z2 := o2 rfl; have z3 := o3 rfl; have z4 := o4 rfl; have z5 := o5 rfl; have z6 := o6 rfl; have z7 := o7 rfl; have z8 := o8 rfl; have z9 := o9 rfl; have z10 := o10 rfl; have z11 := o11 rfl; have z12 := o12 rfl
   subst z1 z2 z3 z4 z5 z6 z7 z8 z9 z10 z11 z12
   simp only [partsL, bodyP, Int.reduceBEq, Bool.or_true, Bool.or_self, cond_true, cond_false, v1, v2, List.append_assoc, List.nil_append]
   rfl
end Go.Proofs.YtjdjlijjolibkaaDoor.V
namespace Go.Proofs.YtjdjlijjolibkaaDoor.V
open Go.RowKit Go.Proofs.Tryd
set_option maxRecDepth 100000
set_option linter.unusedVariables false
noncomputable def m_slices_Index_uint64 : Mach prog Inv gInv := mach bas [(121, f121)] ⟨ok121, trivial⟩ [] trivial [] trivial [] trivial
/-! ### slices.Index[[]uint64,uint64] -/
@[reducible] def r_slices_Index_uint64 : List Ty := [(.int .i64)]
def ks_slices_Index_uint64 : List Nat := [121]
abbrev H_slices_Index_uint64 (base : Base) (S0 : Nat → Prop) := base.n = 0 ∧ FinOk (finR r_slices_Index_uint64) base S0 (Post r_slices_Index_uint64 S0)
abbrev J_slices_Index_uint64 (base : Base) (S0 : Nat → Prop) (cs0 : List Go.Frame) (p : CPat) (J : denC p → Option (denL r_slices_Index_uint64)) := JSound m_slices_Index_uint64 base S0 cs0 (Post r_slices_Index_uint64 S0) p J
abbrev O_slices_Index_uint64 (base : Base) (S0 : Nat → Prop) (cs0 : List Go.Frame) (X : Cfg → Option (Option (denL r_slices_Index_uint64))) := OSound m_slices_Index_uint64 base S0 cs0 (Post r_slices_Index_uint64 S0) X
@[reducible] noncomputable def p_slices_Index_uint64_0 : CPat := ⟨⟨121, [1, 0, 1, 0], none, [.rows (.int .u64) false, .int .u64, .any, .any, .any, .any, .any, .int .i64, .int .i64], 10⟩, [], [], 0⟩
@[reducible] noncomputable def u_slices_Index_uint64_0 (k : (List Int) → Int → Int → Int → Option (Int × Unit)) : denC p_slices_Index_uint64_0 → Option (Int × Unit) := fun x => k x.1.1 x.1.2.1 x.1.2.2.2.2.2.2.2.1 x.1.2.2.2.2.2.2.2.2.1
noncomputable def t_slices_Index_uint64_0 (k0 : (List Int) → Int → Int → Int → Option (Int × Unit)) (l9 : (List Int)) (i10 : Int) (i11 : Int) (i12 : Int) : Option (Int × Unit) :=
 let b13 : Bool := (decide (i12 < i11))
 bif b13 then
  bif (decide (((0 : Int) ≤ i12) ∧ (i12 < (((List.length l9) : Nat) : Int)))) then
   let x14 : Int := (List.getD l9 (Int.toNat i12) (0 : Int))
   let b15 : Bool := (i10 == x14)
   bif b15 then
    some (i12, ())
   else
    let n16 : Int := (Go.IntKind.wrap Go.IntKind.i64 (i12 + (1 : Int)))
    k0 l9 i10 i11 n16
  else none
 else
  some ((-1 : Int), ())
noncomputable def slices_Index_uint64_0 : Nat → (List Int) → Int → Int → Int → Option (Int × Unit)
 | 0 => fun _ _ _ _ => none
 | m + 1 => t_slices_Index_uint64_0 (slices_Index_uint64_0 m)
noncomputable def b_slices_Index_uint64_0' (l9 : (List Int)) (i10 : Int) (i11 : Int) (i12 : Int) : Option (Int × Unit) := slices_Index_uint64_0 (Int.toNat (i11 - i12) + 2) l9 i10 i11 i12
theorem ex_slices_Index_uint64_0' : ∃ f, f = @b_slices_Index_uint64_0' := ⟨_, rfl⟩
noncomputable def slices_Index_uint64_0' := Classical.choose ex_slices_Index_uint64_0'
theorem slices_Index_uint64_0'_eq : @slices_Index_uint64_0' = @b_slices_Index_uint64_0' := Classical.choose_spec ex_slices_Index_uint64_0'
theorem s_slices_Index_uint64_0 {base S0 cs0} (hfin : H_slices_Index_uint64 base S0) : ∀ m, J_slices_Index_uint64 base S0 cs0 p_slices_Index_uint64_0 (u_slices_Index_uint64_0 (slices_Index_uint64_0 m)) :=
 JSound.loop' hfin.2 ks_slices_Index_uint64 100000 u_slices_Index_uint64_0 (fun k0 => cut p_slices_Index_uint64_0 (u_slices_Index_uint64_0 k0) (nowhere)) (fun k0 h0 => OSound.cut (OSound.nowhere) (Nat.le_of_eq hfin.1) h0) (slices_Index_uint64_0) (by intro x; rfl) (by intro m x; kernel_rfl)
theorem s_slices_Index_uint64_0' {base S0 cs0} (hfin : H_slices_Index_uint64 base S0) : J_slices_Index_uint64 base S0 cs0 p_slices_Index_uint64_0 (u_slices_Index_uint64_0 (slices_Index_uint64_0')) := by
 rw [slices_Index_uint64_0'_eq]; exact fun x r hx => s_slices_Index_uint64_0 hfin _ x r hx
noncomputable def x_slices_Index_uint64_0 : Cfg → Option (Option (Int × Unit)) := cut p_slices_Index_uint64_0 (u_slices_Index_uint64_0 (slices_Index_uint64_0')) (nowhere)
theorem o_slices_Index_uint64_0 {base S0 cs0} (hfin : H_slices_Index_uint64 base S0) : O_slices_Index_uint64 base S0 cs0 (x_slices_Index_uint64_0) := OSound.cut (OSound.nowhere) (Nat.le_of_eq hfin.1) (s_slices_Index_uint64_0' hfin)
noncomputable def b_slices_Index_uint64 (a0 : (List Int)) (a1 : Int) : Option (Int × Unit) :=
 let n2 : Int := (((List.length a0) : Nat) : Int)
 slices_Index_uint64_0' a0 a1 n2 (0 : Int)
theorem ex_slices_Index_uint64 : ∃ f, f = @b_slices_Index_uint64 := ⟨_, rfl⟩
noncomputable def slices_Index_uint64 := Classical.choose ex_slices_Index_uint64
theorem slices_Index_uint64_eq : @slices_Index_uint64 = @b_slices_Index_uint64 := Classical.choose_spec ex_slices_Index_uint64
noncomputable def cb_slices_Index_uint64 : Con := ⟨[(.slice (.int .u64)), (.int .u64)], r_slices_Index_uint64, fun x => b_slices_Index_uint64 x.1 x.2.1⟩
noncomputable def c_slices_Index_uint64 : Con := ⟨[(.slice (.int .u64)), (.int .u64)], r_slices_Index_uint64, fun x => slices_Index_uint64 x.1 x.2.1⟩
theorem cb_slices_Index_uint64_ok : cb_slices_Index_uint64.Sound prog Inv gInv 121 :=
 con_run (M := m_slices_Index_uint64) inv_g (f := f121) rfl ks_slices_Index_uint64 100000 (X := x_slices_Index_uint64_0) (fun base S0 cs0 hn hf => have hfin : H_slices_Index_uint64 base S0 := ⟨hn, hf⟩; o_slices_Index_uint64_0 hfin) (by intro x; kernel_rfl)
theorem c_slices_Index_uint64_ok : c_slices_Index_uint64.Sound prog Inv gInv 121 := by
 have e : c_slices_Index_uint64 = cb_slices_Index_uint64 := by unfold c_slices_Index_uint64 cb_slices_Index_uint64; rw [slices_Index_uint64_eq]
 rw [e]; exact cb_slices_Index_uint64_ok
noncomputable def m_slices_Contains_uint64 : Mach prog Inv gInv := mach bas [(86, f86)] ⟨ok86, trivial⟩ [(121, c_slices_Index_uint64)] ⟨⟨c_slices_Index_uint64_ok, FnOk.callable ok121⟩, trivial⟩ [] trivial [] trivial
/-! ### slices.Contains[[]uint64,uint64] -/
@[reducible] def r_slices_Contains_uint64 : List Ty := [.bool]
def ks_slices_Contains_uint64 : List Nat := [86]
noncomputable def b_slices_Contains_uint64 (a0 : (List Int)) (a1 : Int) : Option (Bool × Unit) :=
 obind (slices_Index_uint64 a0 a1) fun y2 =>
 let b3 : Bool := (decide (y2.1 ≥ (0 : Int)))
 some (b3, ())
theorem ex_slices_Contains_uint64 : ∃ f, f = @b_slices_Contains_uint64 := ⟨_, rfl⟩
noncomputable def slices_Contains_uint64 := Classical.choose ex_slices_Contains_uint64
theorem slices_Contains_uint64_eq : @slices_Contains_uint64 = @b_slices_Contains_uint64 := Classical.choose_spec ex_slices_Contains_uint64
noncomputable def cb_slices_Contains_uint64 : Con := ⟨[(.slice (.int .u64)), (.int .u64)], r_slices_Contains_uint64, fun x => b_slices_Contains_uint64 x.1 x.2.1⟩
noncomputable def c_slices_Contains_uint64 : Con := ⟨[(.slice (.int .u64)), (.int .u64)], r_slices_Contains_uint64, fun x => slices_Contains_uint64 x.1 x.2.1⟩
theorem cb_slices_Contains_uint64_ok : cb_slices_Contains_uint64.Sound prog Inv gInv 86 :=
 con_run (M := m_slices_Contains_uint64) inv_g (f := f86) rfl ks_slices_Contains_uint64 100000 (X := nowhere) (fun base S0 cs0 hn hf => OSound.nowhere) (by intro x; kernel_rfl)
theorem c_slices_Contains_uint64_ok : c_slices_Contains_uint64.Sound prog Inv gInv 86 := by
 have e : c_slices_Contains_uint64 = cb_slices_Contains_uint64 := by unfold c_slices_Contains_uint64 cb_slices_Contains_uint64; rw [slices_Contains_uint64_eq]
 rw [e]; exact cb_slices_Contains_uint64_ok
noncomputable def m_frame_Elicits : Mach prog Inv gInv := mach bas [(36, f36)] ⟨ok36, trivial⟩ [(86, c_slices_Contains_uint64)] ⟨⟨c_slices_Contains_uint64_ok, FnOk.callable ok86⟩, trivial⟩ [] trivial [] trivial
/-! ### domino/frame.Elicits -/
@[reducible] def r_frame_Elicits : List Ty := [.bool]
def ks_frame_Elicits : List Nat := [36]
noncomputable def b_frame_Elicits (a0 : D_frame_Frame) : Option (Bool × Unit) :=
 obind (slices_Contains_uint64 ((0 : Int) :: ((2 : Int) :: ((28 : Int) :: ((29 : Int) :: ([] : List Int))))) a0.1) fun y1 =>
 let b2 : Bool := (!y1.1)
 some (b2, ())
theorem ex_frame_Elicits : ∃ f, f = @b_frame_Elicits := ⟨_, rfl⟩
noncomputable def frame_Elicits := Classical.choose ex_frame_Elicits
theorem frame_Elicits_eq : @frame_Elicits = @b_frame_Elicits := Classical.choose_spec ex_frame_Elicits
noncomputable def cb_frame_Elicits : Con := ⟨[T_frame_Frame], r_frame_Elicits, fun x => b_frame_Elicits x.1⟩
noncomputable def c_frame_Elicits : Con := ⟨[T_frame_Frame], r_frame_Elicits, fun x => frame_Elicits x.1⟩
theorem cb_frame_Elicits_ok : cb_frame_Elicits.Sound prog Inv gInv 36 :=
 con_run (M := m_frame_Elicits) inv_g (f := f36) rfl ks_frame_Elicits 100000 (X := nowhere) (fun base S0 cs0 hn hf => OSound.nowhere) (by intro x; kernel_rfl)
theorem c_frame_Elicits_ok : c_frame_Elicits.Sound prog Inv gInv 36 := by
 have e : c_frame_Elicits = cb_frame_Elicits := by unfold c_frame_Elicits cb_frame_Elicits; rw [frame_Elicits_eq]
 rw [e]; exact cb_frame_Elicits_ok
noncomputable def m_law06_shown : Mach prog Inv gInv := mach bas [(30, f30)] ⟨ok30, trivial⟩ [(31, c_frame_Put), (36, c_frame_Elicits), (38, c_frame_Get), (39, c_frame_Same)] ⟨⟨c_frame_Put_ok, FnOk.callable ok31⟩, ⟨c_frame_Elicits_ok, FnOk.callable ok36⟩, ⟨c_frame_Get_ok, FnOk.callable ok38⟩, ⟨c_frame_Same_ok, FnOk.callable ok39⟩, trivial⟩ [] trivial [] trivial
/-! ### domino/dominolaw06.shown -/
@[reducible] def r_law06_shown : List Ty := [.bool]
def ks_law06_shown : List Nat := [30]
noncomputable def b_law06_shown : Option (Bool × Unit) :=
 let e0 : (Int × (Int × Unit)) := ((1 : Int), ((3 : Int), ()))
 let e1 : (Int × (Int × Unit)) := ((6 : Int), ((6 : Int), ()))
 let s2 : ByteArray := (ByteArray.mk (List.toArray ([] : List UInt8)))
 let s3 : ByteArray := (ByteArray.mk (List.toArray ([] : List UInt8)))
 obind (frame_Put ((2 : Int), ((0 : Int), ((0 : Int), ((0 : Int), ((0 : Int), ((0 : Int), ((0 : Int), ((0 : Int), (false, (s2, (s2, (s2, ((e0 :: (e1 :: ([] : List D_ranges_Range))), ())))))))))))))) fun y4 =>
 bif (decide (((ByteArray.size y4.1) + 1) ≤ 9223372036854775807)) then
  let s5 : ByteArray := (y4.1 ++ (ByteArray.mk (List.toArray ((1 : UInt8) :: ([] : List UInt8)))))
  obind (frame_Get s5) fun y6 =>
  let s7 : ByteArray := (ByteArray.mk (List.toArray ([] : List UInt8)))
  let b8 : Bool := (y4.2.1 == (0 : Int))
  bif b8 then
   let b9 : Bool := (y6.2.2.1 == (0 : Int))
   bif b9 then
    let b10 : Bool := ((ByteArray.toList y4.1) == (ByteArray.toList (ByteArray.mk (List.toArray ((2 : UInt8) :: ((6 : UInt8) :: ((0 : UInt8) :: ((1 : UInt8) :: ((0 : UInt8) :: ((1 : UInt8) :: ((2 : UInt8) :: ([] : List UInt8))))))))))))
    bif b10 then
     let b11 : Bool := ((ByteArray.toList y6.2.1) == (ByteArray.toList (ByteArray.mk (List.toArray ((1 : UInt8) :: ([] : List UInt8))))))
     bif b11 then
      obind (frame_Same ((2 : Int), ((0 : Int), ((0 : Int), ((0 : Int), ((0 : Int), ((0 : Int), ((0 : Int), ((0 : Int), (false, (s2, (s2, (s2, ((e0 :: (e1 :: ([] : List D_ranges_Range))), ()))))))))))))) y6.1) fun y12 =>
      bif y12.1 then
       obind (frame_Elicits y6.1) fun y13 =>
       let b14 : Bool := (!y13.1)
       some (b14, ())
      else
       some (false, ())
     else
      some (false, ())
    else
     some (false, ())
   else
    some (false, ())
  else
   some (false, ())
 else none
theorem ex_law06_shown : ∃ f, f = @b_law06_shown := ⟨_, rfl⟩
noncomputable def law06_shown := Classical.choose ex_law06_shown
theorem law06_shown_eq : @law06_shown = @b_law06_shown := Classical.choose_spec ex_law06_shown
noncomputable def cb_law06_shown : Con := ⟨[], r_law06_shown, fun x => b_law06_shown⟩
noncomputable def c_law06_shown : Con := ⟨[], r_law06_shown, fun x => law06_shown⟩
theorem cb_law06_shown_ok : cb_law06_shown.Sound prog Inv gInv 30 :=
 con_run (M := m_law06_shown) inv_g (f := f30) rfl ks_law06_shown 100000 (X := nowhere) (fun base S0 cs0 hn hf => OSound.nowhere) (by intro x; kernel_rfl)
theorem c_law06_shown_ok : c_law06_shown.Sound prog Inv gInv 30 := by
 have e : c_law06_shown = cb_law06_shown := by unfold c_law06_shown cb_law06_shown; rw [law06_shown_eq]
 rw [e]; exact cb_law06_shown_ok
/-! ### domino/dominolaw06.bounded -/
end Go.Proofs.YtjdjlijjolibkaaDoor.V
namespace Go.Proofs.YtjdjlijjolibkaaDoor.V
open Go.RowKit
def f0 : D_frame_Frame := (2, 0, 0, 0, 0, 0, 0, 0, false, eB, eB, eB, [(1, (3, ())), (6, (6, ()))], ())
theorem f0_ok : FrOk f0 := ⟨by decide, by decide, by decide, by decide, by decide, by decide, by decide, by decide, by decide, by decide⟩
theorem f0_may : mayFr f0 = true := by decide +kernel
theorem f0_put : putL f0 = [2, 6, 0, 1, 0, 1, 2] := by decide +kernel
theorem index_loop (x : Int) : ∀ (suf pre : List Int) (m : Nat), suf.length < m → (pre ++ suf).length ≤ 9223372036854775807 →
  ∃ i, slices_Index_uint64_0 m (pre ++ suf) x (((pre ++ suf).length : Nat) : Int) ((pre.length : Nat) : Int) = some (i, ()) ∧ (0 ≤ i ↔ x ∈ suf) := by
 intro suf
 induction suf with
 | nil =>
  intro pre m hm _
  obtain ⟨m, rfl⟩ : ∃ k, m = k + 1 := ⟨m - 1, by omega⟩
  refine ⟨-1, ?_, by simp⟩
  simp only [slices_Index_uint64_0, t_slices_Index_uint64_0, mid_end, decide_false, cond_false]
 | cons y suf ih =>
  intro pre m hm hl
  obtain ⟨m, rfl⟩ : ∃ k, m = k + 1 := ⟨m - 1, by omega⟩
  by_cases e : x = y
  ·
   subst e
   refine ⟨((pre.length : Nat) : Int), ?_, by simp⟩
   simp only [slices_Index_uint64_0, t_slices_Index_uint64_0, mid_lt, nn, and_true, decide_true, cond_true, toNat_len, getD_mid, beq_self_eq_true]
  ·
   obtain ⟨i, h1, h2⟩ := ih (pre ++ [y]) m (by simp at hm; omega) (by simpa using hl)
   refine ⟨i, ?_, by rw [h2]; simp [e]⟩
   simp only [slices_Index_uint64_0, t_slices_Index_uint64_0, mid_lt, nn, and_true, decide_true, cond_true, toNat_len, getD_mid, beq_false_of_ne e, cond_false]
   rw [mid_next' pre y y suf hl, snoc_app, h1]
theorem contains_is (x : Int) (l : List Int) (hl : l.length ≤ 9223372036854775807) : slices_Contains_uint64 l x = some (decide (x ∈ l), ()) := by
 rw [slices_Contains_uint64_eq, b_slices_Contains_uint64, slices_Index_uint64_eq, b_slices_Index_uint64]
 simp only
 rw [slices_Index_uint64_0'_eq, b_slices_Index_uint64_0']
 obtain ⟨i, h1, h2⟩ := index_loop x l [] (Int.toNat (((l.length : Nat) : Int) - 0) + 2) (by omega) (by simpa using hl)
 simp only [List.nil_append, List.length_nil] at h1
 rw [show ((0 : Nat) : Int) = 0 from rfl] at h1
 rw [h1]
 simp only [obind_some]
 exact some_b (decide_eq_decide.mpr h2)
theorem elicits_is (f : D_frame_Frame) : frame_Elicits f = some (!decide (f.1 ∈ ([0, 2, 28, 29] : List Int)), ()) := by
 rw [frame_Elicits_eq, b_frame_Elicits, contains_is _ _ (by simp)]
 simp only [obind_some]
theorem size_app (a b : ByteArray) : (a ++ b).size = a.size + b.size := by
 rw [← strBytes_len, strBytes_app, List.length_append, strBytes_len, strBytes_len]
theorem got_back (f : D_frame_Frame) (h : FrOk f) (hm : mayFr f = true) (t : ByteArray) (ht : t.size ≤ 900000) : frame_Get (bytesStr (putL f) ++ t) = some (f, t, 0, ()) := by
 obtain ⟨p1, p2, p3⟩ := put_ok f h hm
 rw [get_is _ (by rw [size_app, bytesStr_size]; omega), strBytes_app, strBytes_bs p1, back_is f h hm]
 simp only [bytesStr_strBytes]
theorem shown_is : law06_shown = some (true, ()) := by
 rw [law06_shown_eq, b_law06_shown]
 have e0 : ByteArray.mk (List.toArray ([] : List UInt8)) = eB := rfl
 simp only [e0]
 have ep := put_is f0 f0_ok
 rw [f0_may, f0_put] at ep
 simp only [f0, if_true] at ep
 simp only [ep, obind_some]
 have es : (bytesStr [2, 6, 0, 1, 0, 1, 2]).size = 7 := by rw [bytesStr_size]; rfl
 have eg := got_back f0 f0_ok f0_may (ByteArray.mk (List.toArray ((1 : UInt8) :: ([] : List UInt8)))) (by decide)
 rw [f0_put] at eg
 have eb : bytesStr [2, 6, 0, 1, 0, 1, 2] = ByteArray.mk (List.toArray ((2 : UInt8) :: ((6 : UInt8) :: ((0 : UInt8) :: ((1 : UInt8) :: ((0 : UInt8) :: ((1 : UInt8) :: ((2 : UInt8) :: ([] : List UInt8))))))))) := by
  rw [byt_eq, bytesStr_data]; decide
 have esame : frame_Same f0 f0 = some (true, ()) := by rw [same_is _ _ f0_ok.few]; simp
 have eel : frame_Elicits f0 = some (false, ()) := by rw [elicits_is]; rfl
 simp only [f0] at eg esame eel
 simp only [es, eg, obind_some, toList_beq, ← eb, esame, eel]
 simp
def Tell {α : Type} (p : Pr α) (Q : α → Prop) : Prop := ∀ l a r, Byt l → p l = some (a, r) → Q a
theorem Tell.any {α : Type} (p : Pr α) : Tell p fun _ => True := fun _ _ _ _ _ => trivial
theorem Tell.pr {α : Type} {a : α} {Q : α → Prop} (h : Q a) : Tell (pr a) Q := fun _ _ _ _ e => by cases e; exact h
theorem Tell.nat : Tell vget In62 := fun l a r hB e => by
 obtain ⟨q, rfl, _, h, _⟩ := vget_some e
 exact h hB
theorem Tell.bind {α β : Type} {p : Pr α} {f : α → Pr β} {Q : α → Prop} {R : β → Prop} (hs : Suf p) (h : Tell p Q) (k : ∀ a, Q a → Tell (f a) R) : Tell (pb p f) R := fun l b r hB e => by
 obtain ⟨a, r1, e1, e2⟩ := pb_some e
 obtain ⟨q, rfl⟩ := hs _ _ _ e1
 exact k a (h _ _ _ hB e1) _ _ _ hB.suf e2
theorem Tell.num {β : Type} {f : Int → Pr β} {R : β → Prop} (k : ∀ n, In62 n → Tell (f n) R) : Tell (pb vget f) R := Tell.bind Suf.vget Tell.nat k
theorem Tell.cond {α : Type} {b : Bool} {p q : Pr α} {Q : α → Prop} (h : b = true → Tell p Q) (k : b = false → Tell q Q) : Tell (bif b then p else q) Q := by cases b; exact k rfl; exact h rfl
theorem Tell.none {α : Type} {Q : α → Prop} : Tell (fun _ => none : Pr α) Q := fun _ _ _ _ h => by cases h
theorem Tell.stream (a b c : Bool) : Tell (streamP a b c) FrOk := by
 have i8 := i62 8 (by decide)
 refine Tell.num fun id hid => Tell.bind (Q := In62) (by cases b; exact Suf.pr _; exact Suf.vget) (by cases b; exact Tell.pr in62_0; exact Tell.nat) fun off hoff => ?_
 refine Tell.bind (by cases c; exact Suf.rest; exact Suf.long) (Tell.any _) fun data _ => Tell.pr ?_
 exact frok0 i8 hid hoff in62_0 in62_0 in62_0 in62_0 in62_0
theorem Tell.ack : Tell ackP FrOk := by
 refine Tell.num fun hi h1 => Tell.num fun delay h2 => Tell.num fun cnt h3 => Tell.num fun first h4 => ?_
 intro l f r hB e
 obtain ⟨⟨⟩, r1, e1, e2⟩ := pb_some e
 obtain ⟨rs, r2, e3, e4⟩ := pb_some e2
 cases e4
 obtain ⟨a0, a1⟩ := h1
 obtain ⟨f0, f1⟩ := h4
 cases hc : (decide (cnt < 32) && decide (first ≤ hi)) with
 | false => rw [hc] at e1; cases e1
 | true =>
  rw [hc] at e1
  cases e1
  simp only [Bool.and_eq_true, decide_eq_true_eq] at hc
  obtain ⟨c1, c2⟩ := hc
  obtain ⟨k1, k2⟩ := gaps_ok _ _ _ _ _ e3 hB (by omega) ⟨by omega, by omega⟩
  have ok0 := frok0 (k := 2) (id := 0) (off := 0) (mx := 0) (code := 0) (seq := 0) (prior := 0) (delay := delay) (fin := false) (data := eB) (cid := eB) (tok := eB) (i62 2 (by decide)) in62_0 in62_0 in62_0 in62_0 in62_0 in62_0 h2
  refine ⟨ok0.kind, ok0.id, ok0.off, ok0.max, ok0.code, ok0.seq, ok0.prior, ok0.delay, fun x hx => ?_, ?_⟩
  ·
   simp only [List.mem_reverse, List.mem_cons] at hx
   rcases hx with rfl | hx
   · exact ⟨⟨by show 0 ≤ hi - first; omega, by show hi - first < _; omega⟩, ⟨a0, by show hi < _; omega⟩⟩
   · exact ⟨in62_64 (k2 x hx).1, in62_64 (k2 x hx).2⟩
  ·
   show (((hi - first, hi, ()) :: rs).reverse).length ≤ 9223372036854775807
   simp; omega
theorem Tell.body (k : Int) (hk : In62 k) : Tell (bodyP k) FrOk := by
 have Z := in62_0
 unfold bodyP
 refine Tell.cond (fun _ => Tell.pr (frok0 hk Z Z Z Z Z Z Z)) fun _ => Tell.cond (fun _ => Tell.ack) fun _ => Tell.cond (fun e => ?_) fun _ => Tell.cond (fun _ => ?_) fun _ => Tell.cond (fun _ => ?_) fun _ => ?_
 · exact Tell.num fun id h1 => Tell.num fun code h2 => Tell.num fun mx h3 => Tell.pr (frok0 (i62 4 (by decide)) h1 Z h3 h2 Z Z Z)
 · exact Tell.num fun id h1 => Tell.num fun code h2 => Tell.pr (frok0 (i62 5 (by decide)) h1 Z Z h2 Z Z Z)
 · exact Tell.num fun off h1 => Tell.bind Suf.long (Tell.any _) fun data _ => Tell.pr (frok0 (i62 6 (by decide)) Z h1 Z Z Z Z Z)
 refine Tell.cond (fun _ => Tell.stream _ _ _) fun _ => Tell.cond (fun _ => Tell.stream _ _ _) fun _ => Tell.cond (fun _ => Tell.stream _ _ _) fun _ => Tell.cond (fun _ => Tell.stream _ _ _) fun _ => Tell.cond (fun _ => Tell.stream _ _ _) fun _ => Tell.cond (fun _ => Tell.stream _ _ _) fun _ => Tell.cond (fun _ => Tell.stream _ _ _) fun _ => Tell.cond (fun _ => Tell.stream _ _ _) fun _ => ?_
 refine Tell.cond (fun _ => Tell.num fun mx h => Tell.pr (frok0 hk Z Z h Z Z Z Z)) fun _ => Tell.cond (fun _ => Tell.num fun id h1 => Tell.num fun mx h => Tell.pr (frok0 hk h1 Z h Z Z Z Z)) fun _ => Tell.cond (fun _ => ?_) fun _ => ?_
 · exact Tell.num fun seq h1 => Tell.num fun prior h2 => Tell.bind (Suf.take _) (Tell.any _) fun _ _ => Tell.bind (Suf.pg _) (Tell.any _) fun _ _ => Tell.bind (Suf.str _) (Tell.any _) fun _ _ => Tell.bind (Suf.str _) (Tell.any _) fun _ _ => Tell.pr (frok0 (i62 24 (by decide)) Z Z Z Z h1 h2 Z)
 refine Tell.cond (fun _ => Tell.num fun seq h => Tell.pr (frok0 (i62 25 (by decide)) Z Z Z Z h Z Z)) fun _ => Tell.cond (fun _ => Tell.bind (Suf.str _) (Tell.any _) fun _ _ => Tell.pr (frok0 hk Z Z Z Z Z Z Z)) fun _ => Tell.cond (fun _ => ?_) fun _ => Tell.cond (fun _ => ?_) fun _ => Tell.none
 · exact Tell.num fun code h1 => Tell.num fun delay h2 => Tell.bind Suf.long (Tell.any _) fun _ _ => Tell.pr (frok0 (i62 28 (by decide)) Z Z Z h1 Z Z h2)
 · exact Tell.num fun code h1 => Tell.bind Suf.long (Tell.any _) fun _ _ => Tell.pr (frok0 (i62 29 (by decide)) Z Z Z h1 Z Z Z)
theorem getL_ok {l : List Int} {f : D_frame_Frame} {r : List Int} (hB : Byt l) (h : getL l = some (f, r)) : FrOk f ∧ mayFr f = true := by
 obtain ⟨k, r1, h1, _, h3, h4⟩ := getL_some h
 obtain ⟨q, rfl, _, hk, _⟩ := vget_some h1
 exact ⟨Tell.body k (hk hB) _ _ _ hB.suf h3, h4⟩
end Go.Proofs.YtjdjlijjolibkaaDoor.V
namespace Go.Proofs.YtjdjlijjolibkaaDoor.V
open Go.RowKit Go.Proofs.Tryd
set_option maxRecDepth 100000
set_option linter.unusedVariables false
noncomputable def m_law06_its : Mach prog Inv gInv := mach bas [(33, f33)] ⟨ok33, trivial⟩ [] trivial [] trivial [] trivial
/-! ### domino/dominolaw06.its -/
@[reducible] def r_law06_its : List Ty := [T_frame_Frame]
def ks_law06_its : List Nat := [33]
abbrev H_law06_its (base : Base) (S0 : Nat → Prop) := base.n = 0 ∧ FinOk (finR r_law06_its) base S0 (Post r_law06_its S0)
abbrev J_law06_its (base : Base) (S0 : Nat → Prop) (cs0 : List Go.Frame) (p : CPat) (J : denC p → Option (denL r_law06_its)) := JSound m_law06_its base S0 cs0 (Post r_law06_its S0) p J
abbrev O_law06_its (base : Base) (S0 : Nat → Prop) (cs0 : List Go.Frame) (X : Cfg → Option (Option (denL r_law06_its))) := OSound m_law06_its base S0 cs0 (Post r_law06_its S0) X
@[reducible] noncomputable def p_law06_its_0 : CPat := ⟨⟨33, [1, 1, 0, 1, 0], none, [.any, .ptr 0 0, .ptr 1 0, .ptr 2 0, .int .i64], 43⟩, [], [.dat 34 T_frame_Frame, .cells 60 [.intC .u64 (0), .intC .u64 (0), .intC .u64 (0), .intC .u64 (0), .intC .u64 (0), .intC .u64 (0), .intC .u64 (0), .intC .u64 (0), .boolC false, .str, .str, .str, .nilSlice], .cells 60 [.int .u64, .int .u64, .int .u64, .int .u64, .int .u64, .int .u64, .int .u64, .int .u64, .bool, .str, .str, .str, .all 3], .row T_ranges_Range], 0⟩
@[reducible] noncomputable def u_law06_its_0 (k : Int → D_frame_Frame → ByteArray → ByteArray → ByteArray → Int → Int → Int → Int → Int → Int → Int → Int → Bool → ByteArray → ByteArray → ByteArray → (List D_ranges_Range) → Option (D_frame_Frame × Unit)) : denC p_law06_its_0 → Option (D_frame_Frame × Unit) := fun x => k x.1.2.2.2.2.1 x.2.2.1 x.2.2.2.1.2.2.2.2.2.2.2.2.2.1 x.2.2.2.1.2.2.2.2.2.2.2.2.2.2.1 x.2.2.2.1.2.2.2.2.2.2.2.2.2.2.2.1 x.2.2.2.2.1.1 x.2.2.2.2.1.2.1 x.2.2.2.2.1.2.2.1 x.2.2.2.2.1.2.2.2.1 x.2.2.2.2.1.2.2.2.2.1 x.2.2.2.2.1.2.2.2.2.2.1 x.2.2.2.2.1.2.2.2.2.2.2.1 x.2.2.2.2.1.2.2.2.2.2.2.2.1 x.2.2.2.2.1.2.2.2.2.2.2.2.2.1 x.2.2.2.2.1.2.2.2.2.2.2.2.2.2.1 x.2.2.2.2.1.2.2.2.2.2.2.2.2.2.2.1 x.2.2.2.2.1.2.2.2.2.2.2.2.2.2.2.2.1 x.2.2.2.2.2.1
noncomputable def t_law06_its_0 (k0 : Int → D_frame_Frame → ByteArray → ByteArray → ByteArray → Int → Int → Int → Int → Int → Int → Int → Int → Bool → ByteArray → ByteArray → ByteArray → (List D_ranges_Range) → Option (D_frame_Frame × Unit)) (i23 : Int) (d24 : D_frame_Frame) (s25 : ByteArray) (s26 : ByteArray) (s27 : ByteArray) (i28 : Int) (i29 : Int) (i30 : Int) (i31 : Int) (i32 : Int) (i33 : Int) (i34 : Int) (i35 : Int) (b36 : Bool) (s37 : ByteArray) (s38 : ByteArray) (s39 : ByteArray) (l40 : (List D_ranges_Range)) : Option (D_frame_Frame × Unit) :=
 let n41 : Int := (((List.length d24.2.2.2.2.2.2.2.2.2.2.2.2.1) : Nat) : Int)
 let b42 : Bool := (decide (i23 < n41))
 bif b42 then
  bif (decide (((0 : Int) ≤ i23) ∧ (i23 < (((List.length d24.2.2.2.2.2.2.2.2.2.2.2.2.1) : Nat) : Int)))) then
   let x43 : D_ranges_Range := (List.getD d24.2.2.2.2.2.2.2.2.2.2.2.2.1 (Int.toNat i23) (Ty.dflt T_ranges_Range))
   let e44 : (Int × (Int × Unit)) := (x43.1, (x43.2.1, ()))
   bif (decide (((List.length l40) + (List.length (e44 :: ([] : List D_ranges_Range)))) ≤ 4294967296)) then
    let l45 : (List D_ranges_Range) := (l40 ++ (e44 :: ([] : List D_ranges_Range)))
    let n46 : Int := (Go.IntKind.wrap Go.IntKind.i64 (i23 + (1 : Int)))
    k0 n46 d24 s25 s26 s27 i28 i29 i30 i31 i32 i33 i34 i35 b36 s37 s38 s39 l45
   else none
  else none
 else
  some ((i28, (i29, (i30, (i31, (i32, (i33, (i34, (i35, (b36, (s37, (s38, (s39, (l40, ()))))))))))))), ())
noncomputable def law06_its_0 : Nat → Int → D_frame_Frame → ByteArray → ByteArray → ByteArray → Int → Int → Int → Int → Int → Int → Int → Int → Bool → ByteArray → ByteArray → ByteArray → (List D_ranges_Range) → Option (D_frame_Frame × Unit)
 | 0 => fun _ _ _ _ _ _ _ _ _ _ _ _ _ _ _ _ _ _ => none
 | m + 1 => t_law06_its_0 (law06_its_0 m)
noncomputable def b_law06_its_0' (i23 : Int) (d24 : D_frame_Frame) (s25 : ByteArray) (s26 : ByteArray) (s27 : ByteArray) (i28 : Int) (i29 : Int) (i30 : Int) (i31 : Int) (i32 : Int) (i33 : Int) (i34 : Int) (i35 : Int) (b36 : Bool) (s37 : ByteArray) (s38 : ByteArray) (s39 : ByteArray) (l40 : (List D_ranges_Range)) : Option (D_frame_Frame × Unit) := law06_its_0 (Int.toNat ((((List.length d24.2.2.2.2.2.2.2.2.2.2.2.2.1) : Nat) : Int) - i23) + 2) i23 d24 s25 s26 s27 i28 i29 i30 i31 i32 i33 i34 i35 b36 s37 s38 s39 l40
theorem ex_law06_its_0' : ∃ f, f = @b_law06_its_0' := ⟨_, rfl⟩
noncomputable def law06_its_0' := Classical.choose ex_law06_its_0'
theorem law06_its_0'_eq : @law06_its_0' = @b_law06_its_0' := Classical.choose_spec ex_law06_its_0'
theorem s_law06_its_0 {base S0 cs0} (hfin : H_law06_its base S0) : ∀ m, J_law06_its base S0 cs0 p_law06_its_0 (u_law06_its_0 (law06_its_0 m)) :=
 JSound.loop' hfin.2 ks_law06_its 100000 u_law06_its_0 (fun k0 => cut p_law06_its_0 (u_law06_its_0 k0) (nowhere)) (fun k0 h0 => OSound.cut (OSound.nowhere) (Nat.le_of_eq hfin.1) h0) (law06_its_0) (by intro x; rfl) (by intro m x; kernel_rfl)
theorem s_law06_its_0' {base S0 cs0} (hfin : H_law06_its base S0) : J_law06_its base S0 cs0 p_law06_its_0 (u_law06_its_0 (law06_its_0')) := by
 rw [law06_its_0'_eq]; exact fun x r hx => s_law06_its_0 hfin _ x r hx
noncomputable def x_law06_its_0 : Cfg → Option (Option (D_frame_Frame × Unit)) := cut p_law06_its_0 (u_law06_its_0 (law06_its_0')) (nowhere)
theorem o_law06_its_0 {base S0 cs0} (hfin : H_law06_its base S0) : O_law06_its base S0 cs0 (x_law06_its_0) := OSound.cut (OSound.nowhere) (Nat.le_of_eq hfin.1) (s_law06_its_0' hfin)
noncomputable def b_law06_its (a0 : D_frame_Frame) : Option (D_frame_Frame × Unit) :=
 let s1 : ByteArray := (ByteArray.mk (List.toArray ([] : List UInt8)))
 let s2 : ByteArray := (ByteArray.mk (List.toArray ([] : List UInt8)))
 law06_its_0' (0 : Int) a0 s1 s1 s1 a0.1 a0.2.1 a0.2.2.1 a0.2.2.2.1 a0.2.2.2.2.1 a0.2.2.2.2.2.1 a0.2.2.2.2.2.2.1 a0.2.2.2.2.2.2.2.1 a0.2.2.2.2.2.2.2.2.1 a0.2.2.2.2.2.2.2.2.2.1 a0.2.2.2.2.2.2.2.2.2.2.1 a0.2.2.2.2.2.2.2.2.2.2.2.1 ([] : List D_ranges_Range)
theorem ex_law06_its : ∃ f, f = @b_law06_its := ⟨_, rfl⟩
noncomputable def law06_its := Classical.choose ex_law06_its
theorem law06_its_eq : @law06_its = @b_law06_its := Classical.choose_spec ex_law06_its
noncomputable def cb_law06_its : Con := ⟨[T_frame_Frame], r_law06_its, fun x => b_law06_its x.1⟩
noncomputable def c_law06_its : Con := ⟨[T_frame_Frame], r_law06_its, fun x => law06_its x.1⟩
theorem cb_law06_its_ok : cb_law06_its.Sound prog Inv gInv 33 :=
 con_run (M := m_law06_its) inv_g (f := f33) rfl ks_law06_its 100000 (X := x_law06_its_0) (fun base S0 cs0 hn hf => have hfin : H_law06_its base S0 := ⟨hn, hf⟩; o_law06_its_0 hfin) (by intro x; kernel_rfl)
theorem c_law06_its_ok : c_law06_its.Sound prog Inv gInv 33 := by
 have e : c_law06_its = cb_law06_its := by unfold c_law06_its cb_law06_its; rw [law06_its_eq]
 rw [e]; exact cb_law06_its_ok
noncomputable def m_ref03_Same : Mach prog Inv gInv := mach bas [(91, f91)] ⟨ok91, trivial⟩ [] trivial [] trivial [] trivial
/-! ### domino/dominoref03.Same -/
@[reducible] def r_ref03_Same : List Ty := [.bool]
def ks_ref03_Same : List Nat := [91]
abbrev H_ref03_Same (base : Base) (S0 : Nat → Prop) := base.n = 0 ∧ FinOk (finR r_ref03_Same) base S0 (Post r_ref03_Same S0)
abbrev J_ref03_Same (base : Base) (S0 : Nat → Prop) (cs0 : List Go.Frame) (p : CPat) (J : denC p → Option (denL r_ref03_Same)) := JSound m_ref03_Same base S0 cs0 (Post r_ref03_Same S0) p J
abbrev O_ref03_Same (base : Base) (S0 : Nat → Prop) (cs0 : List Go.Frame) (X : Cfg → Option (Option (denL r_ref03_Same))) := OSound m_ref03_Same base S0 cs0 (Post r_ref03_Same S0) X
@[reducible] noncomputable def p_ref03_Same_0 : CPat := ⟨⟨91, [1, 1, 0, 1, 0], none, [.rows T_ranges_Range false, .rows T_ranges_Range false, .any, .any, .any, .int .i64], 20⟩, [], [], 0⟩
@[reducible] noncomputable def u_ref03_Same_0 (k : (List D_ranges_Range) → (List D_ranges_Range) → Int → Option (Bool × Unit)) : denC p_ref03_Same_0 → Option (Bool × Unit) := fun x => k x.1.1 x.1.2.1 x.1.2.2.2.2.2.1
noncomputable def t_ref03_Same_0 (k0 : (List D_ranges_Range) → (List D_ranges_Range) → Int → Option (Bool × Unit)) (l12 : (List D_ranges_Range)) (l13 : (List D_ranges_Range)) (i14 : Int) : Option (Bool × Unit) :=
 let n15 : Int := (((List.length l12) : Nat) : Int)
 let b16 : Bool := (decide (i14 < n15))
 bif b16 then
  bif (decide (((0 : Int) ≤ i14) ∧ (i14 < (((List.length l12) : Nat) : Int)))) then
   let x17 : D_ranges_Range := (List.getD l12 (Int.toNat i14) (Ty.dflt T_ranges_Range))
   bif (decide (((0 : Int) ≤ i14) ∧ (i14 < (((List.length l13) : Nat) : Int)))) then
    let x18 : D_ranges_Range := (List.getD l13 (Int.toNat i14) (Ty.dflt T_ranges_Range))
    let b19 : Bool := (!((x17.1 == x18.1) && ((x17.2.1 == x18.2.1) && true)))
    bif b19 then
     some (false, ())
    else
     let n20 : Int := (Go.IntKind.wrap Go.IntKind.i64 (i14 + (1 : Int)))
     k0 l12 l13 n20
   else none
  else none
 else
  some (true, ())
noncomputable def ref03_Same_0 : Nat → (List D_ranges_Range) → (List D_ranges_Range) → Int → Option (Bool × Unit)
 | 0 => fun _ _ _ => none
 | m + 1 => t_ref03_Same_0 (ref03_Same_0 m)
noncomputable def b_ref03_Same_0' (l12 : (List D_ranges_Range)) (l13 : (List D_ranges_Range)) (i14 : Int) : Option (Bool × Unit) := ref03_Same_0 (Int.toNat ((((List.length l12) : Nat) : Int) - i14) + 2) l12 l13 i14
theorem ex_ref03_Same_0' : ∃ f, f = @b_ref03_Same_0' := ⟨_, rfl⟩
noncomputable def ref03_Same_0' := Classical.choose ex_ref03_Same_0'
theorem ref03_Same_0'_eq : @ref03_Same_0' = @b_ref03_Same_0' := Classical.choose_spec ex_ref03_Same_0'
theorem s_ref03_Same_0 {base S0 cs0} (hfin : H_ref03_Same base S0) : ∀ m, J_ref03_Same base S0 cs0 p_ref03_Same_0 (u_ref03_Same_0 (ref03_Same_0 m)) :=
 JSound.loop' hfin.2 ks_ref03_Same 100000 u_ref03_Same_0 (fun k0 => cut p_ref03_Same_0 (u_ref03_Same_0 k0) (nowhere)) (fun k0 h0 => OSound.cut (OSound.nowhere) (Nat.le_of_eq hfin.1) h0) (ref03_Same_0) (by intro x; rfl) (by intro m x; kernel_rfl)
theorem s_ref03_Same_0' {base S0 cs0} (hfin : H_ref03_Same base S0) : J_ref03_Same base S0 cs0 p_ref03_Same_0 (u_ref03_Same_0 (ref03_Same_0')) := by
 rw [ref03_Same_0'_eq]; exact fun x r hx => s_ref03_Same_0 hfin _ x r hx
noncomputable def x_ref03_Same_0 : Cfg → Option (Option (Bool × Unit)) := cut p_ref03_Same_0 (u_ref03_Same_0 (ref03_Same_0')) (nowhere)
theorem o_ref03_Same_0 {base S0 cs0} (hfin : H_ref03_Same base S0) : O_ref03_Same base S0 cs0 (x_ref03_Same_0) := OSound.cut (OSound.nowhere) (Nat.le_of_eq hfin.1) (s_ref03_Same_0' hfin)
noncomputable def b_ref03_Same (a0 : (List D_ranges_Range)) (a1 : (List D_ranges_Range)) : Option (Bool × Unit) :=
 let n2 : Int := (((List.length a0) : Nat) : Int)
 let n3 : Int := (((List.length a1) : Nat) : Int)
 let b4 : Bool := (n2 != n3)
 bif b4 then
  some (false, ())
 else
  ref03_Same_0' a0 a1 (0 : Int)
theorem ex_ref03_Same : ∃ f, f = @b_ref03_Same := ⟨_, rfl⟩
noncomputable def ref03_Same := Classical.choose ex_ref03_Same
theorem ref03_Same_eq : @ref03_Same = @b_ref03_Same := Classical.choose_spec ex_ref03_Same
noncomputable def cb_ref03_Same : Con := ⟨[(.slice T_ranges_Range), (.slice T_ranges_Range)], r_ref03_Same, fun x => b_ref03_Same x.1 x.2.1⟩
noncomputable def c_ref03_Same : Con := ⟨[(.slice T_ranges_Range), (.slice T_ranges_Range)], r_ref03_Same, fun x => ref03_Same x.1 x.2.1⟩
theorem cb_ref03_Same_ok : cb_ref03_Same.Sound prog Inv gInv 91 :=
 con_run (M := m_ref03_Same) inv_g (f := f91) rfl ks_ref03_Same 100000 (X := x_ref03_Same_0) (fun base S0 cs0 hn hf => have hfin : H_ref03_Same base S0 := ⟨hn, hf⟩; o_ref03_Same_0 hfin) (by intro x; kernel_rfl)
theorem c_ref03_Same_ok : c_ref03_Same.Sound prog Inv gInv 91 := by
 have e : c_ref03_Same = cb_ref03_Same := by unfold c_ref03_Same cb_ref03_Same; rw [ref03_Same_eq]
 rw [e]; exact cb_ref03_Same_ok
noncomputable def m_ref06_Same : Mach prog Inv gInv := mach bas [(40, f40)] ⟨ok40, trivial⟩ [(91, c_ref03_Same)] ⟨⟨c_ref03_Same_ok, FnOk.callable ok91⟩, trivial⟩ [] trivial [] trivial
/-! ### domino/dominoref06.Same -/
@[reducible] def r_ref06_Same : List Ty := [.bool]
def ks_ref06_Same : List Nat := [40]
noncomputable def b_ref06_Same (a0 : D_frame_Frame) (a1 : D_frame_Frame) : Option (Bool × Unit) :=
 let b2 : Bool := (a0.1 == a1.1)
 bif b2 then
  let b3 : Bool := (a0.2.1 == a1.2.1)
  bif b3 then
   let b4 : Bool := (a0.2.2.1 == a1.2.2.1)
   bif b4 then
    let b5 : Bool := (a0.2.2.2.1 == a1.2.2.2.1)
    bif b5 then
     let b6 : Bool := (a0.2.2.2.2.1 == a1.2.2.2.2.1)
     bif b6 then
      let b7 : Bool := (a0.2.2.2.2.2.1 == a1.2.2.2.2.2.1)
      bif b7 then
       let b8 : Bool := (a0.2.2.2.2.2.2.1 == a1.2.2.2.2.2.2.1)
       bif b8 then
        let b9 : Bool := (a0.2.2.2.2.2.2.2.1 == a1.2.2.2.2.2.2.2.1)
        bif b9 then
         let b10 : Bool := (a0.2.2.2.2.2.2.2.2.1 == a1.2.2.2.2.2.2.2.2.1)
         bif b10 then
          let b11 : Bool := ((ByteArray.toList a0.2.2.2.2.2.2.2.2.2.1) == (ByteArray.toList a1.2.2.2.2.2.2.2.2.2.1))
          bif b11 then
           let b12 : Bool := ((ByteArray.toList a0.2.2.2.2.2.2.2.2.2.2.1) == (ByteArray.toList a1.2.2.2.2.2.2.2.2.2.2.1))
           bif b12 then
            let b13 : Bool := ((ByteArray.toList a0.2.2.2.2.2.2.2.2.2.2.2.1) == (ByteArray.toList a1.2.2.2.2.2.2.2.2.2.2.2.1))
            bif b13 then
             obind (ref03_Same a0.2.2.2.2.2.2.2.2.2.2.2.2.1 a1.2.2.2.2.2.2.2.2.2.2.2.2.1) fun y14 =>
             some y14
            else
             some (false, ())
           else
            some (false, ())
          else
           some (false, ())
         else
          some (false, ())
        else
         some (false, ())
       else
        some (false, ())
      else
       some (false, ())
     else
      some (false, ())
    else
     some (false, ())
   else
    some (false, ())
  else
   some (false, ())
 else
  some (false, ())
theorem ex_ref06_Same : ∃ f, f = @b_ref06_Same := ⟨_, rfl⟩
noncomputable def ref06_Same := Classical.choose ex_ref06_Same
theorem ref06_Same_eq : @ref06_Same = @b_ref06_Same := Classical.choose_spec ex_ref06_Same
noncomputable def cb_ref06_Same : Con := ⟨[T_frame_Frame, T_frame_Frame], r_ref06_Same, fun x => b_ref06_Same x.1 x.2.1⟩
noncomputable def c_ref06_Same : Con := ⟨[T_frame_Frame, T_frame_Frame], r_ref06_Same, fun x => ref06_Same x.1 x.2.1⟩
theorem cb_ref06_Same_ok : cb_ref06_Same.Sound prog Inv gInv 40 :=
 con_run (M := m_ref06_Same) inv_g (f := f40) rfl ks_ref06_Same 100000 (X := nowhere) (fun base S0 cs0 hn hf => OSound.nowhere) (by intro x; kernel_rfl)
theorem c_ref06_Same_ok : c_ref06_Same.Sound prog Inv gInv 40 := by
 have e : c_ref06_Same = cb_ref06_Same := by unfold c_ref06_Same cb_ref06_Same; rw [ref06_Same_eq]
 rw [e]; exact cb_ref06_Same_ok
end Go.Proofs.YtjdjlijjolibkaaDoor.V
namespace Go.Proofs.YtjdjlijjolibkaaDoor.V
open Go.RowKit
set_option linter.unusedVariables false
theorem its_loop (f : D_frame_Frame) (s1 s2 s3 : ByteArray) (i1 i2 i3 i4 i5 i6 i7 i8 : Int) (b : Bool) (t1 t2 t3 : ByteArray) (hl : f.2.2.2.2.2.2.2.2.2.2.2.2.1.length ≤ 1000000) : ∀ (suf pre : List D_ranges_Range) (m : Nat), suf.length < m → f.2.2.2.2.2.2.2.2.2.2.2.2.1 = pre ++ suf →
  law06_its_0 m ((pre.length : Nat) : Int) f s1 s2 s3 i1 i2 i3 i4 i5 i6 i7 i8 b t1 t2 t3 pre = some ((i1, (i2, (i3, (i4, (i5, (i6, (i7, (i8, (b, (t1, (t2, (t3, (pre ++ suf, ()))))))))))))), ()) := by
 intro suf
 induction suf with
 | nil =>
  intro pre m hm e
  obtain ⟨m, rfl⟩ : ∃ k, m = k + 1 := ⟨m - 1, by omega⟩
  rw [List.append_nil] at e
  simp only [law06_its_0, t_law06_its_0, e, Int.lt_irrefl, decide_false, cond_false, List.append_nil]
 | cons x suf ih =>
  intro pre m hm e
  obtain ⟨m, rfl⟩ : ∃ k, m = k + 1 := ⟨m - 1, by omega⟩
  have hl' : (pre ++ x :: suf).length ≤ 1000000 := by rw [← e]; exact hl
  have c : pre.length + [((x.1, (x.2.1, ())) : D_ranges_Range)].length ≤ 4294967296 := by simp at hl' ⊢; omega
  have ex : ((x.1, (x.2.1, ())) : D_ranges_Range) = x := rfl
  simp only [law06_its_0, t_law06_its_0, e, mid_lt, nn, and_true, decide_true, cond_true, toNat_len, getD_mid, c]
  rw [mid_next pre x x suf (by omega), ex, ih (pre ++ [x]) m (by simp at hm; omega) (by rw [e]; simp)]
  simp
theorem its_is (f : D_frame_Frame) (hl : f.2.2.2.2.2.2.2.2.2.2.2.2.1.length ≤ 1000000) : law06_its f = some (f, ()) := by
 rw [law06_its_eq, b_law06_its]
 rw [law06_its_0'_eq, b_law06_its_0']
 have := its_loop f eB eB eB f.1 f.2.1 f.2.2.1 f.2.2.2.1 f.2.2.2.2.1 f.2.2.2.2.2.1 f.2.2.2.2.2.2.1 f.2.2.2.2.2.2.2.1 f.2.2.2.2.2.2.2.2.1 f.2.2.2.2.2.2.2.2.2.1 f.2.2.2.2.2.2.2.2.2.2.1 f.2.2.2.2.2.2.2.2.2.2.2.1 hl f.2.2.2.2.2.2.2.2.2.2.2.2.1 [] (Int.toNat (((f.2.2.2.2.2.2.2.2.2.2.2.2.1.length : Nat) : Int) - 0) + 2) (by omega) rfl
 exact this
theorem same3_loop : ∀ (s1 s2 p1 p2 : List D_ranges_Range) (m : Nat), s1.length < m → p1.length = p2.length → s1.length = s2.length → (p1 ++ s1).length ≤ 9223372036854775807 →
  ref03_Same_0 m (p1 ++ s1) (p2 ++ s2) ((p1.length : Nat) : Int) = some (decide (s1 = s2), ()) := by
 intro s1
 induction s1 with
 | nil =>
  intro s2 p1 p2 m hm _ h2 _
  obtain ⟨m, rfl⟩ : ∃ k, m = k + 1 := ⟨m - 1, by omega⟩
  obtain rfl : s2 = [] := List.eq_nil_of_length_eq_zero (by simpa using h2.symm)
  simp only [ref03_Same_0, t_ref03_Same_0, mid_end, decide_false, cond_false, decide_true]
 | cons x s1 ih =>
  intro s2 p1 p2 m hm h1 h2 hl
  obtain ⟨m, rfl⟩ : ∃ k, m = k + 1 := ⟨m - 1, by omega⟩
  obtain ⟨y, s2, rfl⟩ : ∃ y t, s2 = y :: t := by
   cases s2 with
   | nil => simp at h2
   | cons y t => exact ⟨y, t, rfl⟩
  have e : ((p1.length : Nat) : Int) = ((p2.length : Nat) : Int) := by rw [h1]
  have g2 : ((p1.length : Nat) : Int) < (((p2 ++ y :: s2).length : Nat) : Int) := by rw [h1]; simp; omega
  have g3 : (p2 ++ y :: s2).getD p1.length (Ty.dflt T_ranges_Range) = y := by rw [h1, getD_mid]
  simp only [ref03_Same_0, t_ref03_Same_0, mid_lt, nn, and_true, decide_true, cond_true, toNat_len, getD_mid, g2, g3]
  obtain ⟨a, b, ⟨⟩⟩ := x
  obtain ⟨c, d, ⟨⟩⟩ := y
  by_cases hx : a = c ∧ b = d
  ·
   obtain ⟨rfl, rfl⟩ := hx
   simp only [beq_self_eq_true, Bool.and_self, Bool.not_true, cond_false]
   rw [mid_next' p1 (a, b, ()) (a, b, ()) s1 hl, snoc_app p1, snoc_app p2, ih s2 (p1 ++ [(a, b, ())]) (p2 ++ [(a, b, ())]) m (by simp at hm; omega) (by simp [h1]) (by simpa using h2) (by simpa using hl)]
   simp
  ·
   have : ((a == c) && ((b == d) && true)) = false := by
    simp only [Bool.and_true, Bool.and_eq_false_iff, beq_eq_false_iff_ne]
    by_cases e : a = c
    · exact .inr fun e2 => hx ⟨e, e2⟩
    · exact .inl e
   simp only [this, Bool.not_false, cond_true]
   rw [decide_eq_false]
   intro e
   simp only [List.cons.injEq, Prod.mk.injEq, and_true] at e
   exact hx e.1
theorem same3_is (a b : List D_ranges_Range) (ha : a.length ≤ 9223372036854775807) : ref03_Same a b = some (decide (a = b), ()) := by
 rw [ref03_Same_eq, b_ref03_Same]
 by_cases h : a.length = b.length
 ·
  have : (((a.length : Nat) : Int) != ((b.length : Nat) : Int)) = false := by rw [h]; simp
  simp only [this, cond_false]
  rw [ref03_Same_0'_eq, b_ref03_Same_0']
  exact same3_loop a b [] [] _ (by simp) rfl h (by simp; omega)
 ·
  have : (((a.length : Nat) : Int) != ((b.length : Nat) : Int)) = true := by simp; omega
  simp only [this, cond_true]
  rw [decide_eq_false (fun e => h (by rw [e]))]
theorem same6_is (f g : D_frame_Frame) (hf : f.2.2.2.2.2.2.2.2.2.2.2.2.1.length ≤ 9223372036854775807) : ref06_Same f g = some (decide (f = g), ()) := by
 rw [ref06_Same_eq, b_ref06_Same, same3_is _ _ hf]
 simp only [obind_some, toList_beq, beq_dec]
 obtain ⟨a1, a2, a3, a4, a5, a6, a7, a8, a9, a10, a11, a12, a13, ⟨⟩⟩ := f
 obtain ⟨b1, b2, b3, b4, b5, b6, b7, b8, b9, b10, b11, b12, b13, ⟨⟩⟩ := g
 simp only [Prod.mk.injEq, and_true]
 have hb : (a9 == b9) = decide (a9 = b9) := by cases a9 <;> cases b9 <;> rfl
 simp only [hb]
 by_cases h1 : a1 = b1
 ·
  by_cases h2 : a2 = b2
  ·
   by_cases h3 : a3 = b3
   ·
    by_cases h4 : a4 = b4
    ·
     by_cases h5 : a5 = b5
     ·
      by_cases h6 : a6 = b6
      ·
       by_cases h7 : a7 = b7
       ·
        by_cases h8 : a8 = b8
        ·
         by_cases h9 : a9 = b9
         ·
          by_cases h10 : a10 = b10
          ·
           by_cases h11 : a11 = b11
           ·
            by_cases h12 : a12 = b12
            · simp only [h1, h2, h3, h4, h5, h6, h7, h8, h9, h10, h11, h12, decide_true, cond_true, true_and]
            · simp only [h1, h2, h3, h4, h5, h6, h7, h8, h9, h10, h11, h12, decide_true, decide_false, cond_true, cond_false, true_and, false_and]
           · simp only [h1, h2, h3, h4, h5, h6, h7, h8, h9, h10, h11, decide_true, decide_false, cond_true, cond_false, true_and, false_and]
          · simp only [h1, h2, h3, h4, h5, h6, h7, h8, h9, h10, decide_true, decide_false, cond_true, cond_false, true_and, false_and]
         · simp only [h1, h2, h3, h4, h5, h6, h7, h8, h9, decide_true, decide_false, cond_true, cond_false, true_and, false_and]
        · simp only [h1, h2, h3, h4, h5, h6, h7, h8, decide_true, decide_false, cond_true, cond_false, true_and, false_and]
       · simp only [h1, h2, h3, h4, h5, h6, h7, decide_true, decide_false, cond_true, cond_false, true_and, false_and]
      · simp only [h1, h2, h3, h4, h5, h6, decide_true, decide_false, cond_true, cond_false, true_and, false_and]
     · simp only [h1, h2, h3, h4, h5, decide_true, decide_false, cond_true, cond_false, true_and, false_and]
    · simp only [h1, h2, h3, h4, decide_true, decide_false, cond_true, cond_false, true_and, false_and]
   · simp only [h1, h2, h3, decide_true, decide_false, cond_true, cond_false, true_and, false_and]
  · simp only [h1, h2, decide_true, decide_false, cond_true, cond_false, true_and, false_and]
 · simp only [h1, decide_false, cond_false, false_and]
end Go.Proofs.YtjdjlijjolibkaaDoor.V
namespace Go.Proofs.YtjdjlijjolibkaaDoor.V
open Go.RowKit Go.Proofs.Tryd
set_option maxRecDepth 100000
set_option linter.unusedVariables false
noncomputable def m_ref06_shape : Mach prog Inv gInv := mach bas [(83, f83)] ⟨ok83, trivial⟩ [] trivial [] trivial [] trivial
/-! ### domino/dominoref06.shape -/
@[reducible] def r_ref06_shape : List Ty := [.str]
def ks_ref06_shape : List Nat := [83]
abbrev H_ref06_shape (base : Base) (S0 : Nat → Prop) := base.n = 0 ∧ FinOk (finR r_ref06_shape) base S0 (Post r_ref06_shape S0)
abbrev J_ref06_shape (base : Base) (S0 : Nat → Prop) (cs0 : List Go.Frame) (p : CPat) (J : denC p → Option (denL r_ref06_shape)) := JSound m_ref06_shape base S0 cs0 (Post r_ref06_shape S0) p J
abbrev O_ref06_shape (base : Base) (S0 : Nat → Prop) (cs0 : List Go.Frame) (X : Cfg → Option (Option (denL r_ref06_shape))) := OSound m_ref06_shape base S0 cs0 (Post r_ref06_shape S0) X
@[reducible] noncomputable def p_ref06_shape_3 : CPat := ⟨⟨83, [1, 0, 1, 0, 1, 1, 1, 1, 1, 1, 1, 1, 1, 1, 1, 1, 1, 1, 1, 1, 1, 1, 1, 1, 1], none, [.any, .any, .any, .int .u64, .any, .any, .any, .any, .any, .any, .any, .any, .any, .any, .any, .any, .any, .any, .any, .any, .any, .any, .any, .any, .any, .any, .any, .any, .any, .any, .any, .any, .bool], 6⟩, [], [], 0⟩
@[reducible] noncomputable def u_ref06_shape_3 (k : Int → Bool → Option (ByteArray × Unit)) : denC p_ref06_shape_3 → Option (ByteArray × Unit) := fun x => k x.1.2.2.2.1 x.1.2.2.2.2.2.2.2.2.2.2.2.2.2.2.2.2.2.2.2.2.2.2.2.2.2.2.2.2.2.2.2.2.1
noncomputable def b_ref06_shape_3 (i38 : Int) (b39 : Bool) : Option (ByteArray × Unit) :=
 bif b39 then
  let s40 : ByteArray := (ByteArray.mk (List.toArray ((116 : UInt8) :: ([] : List UInt8))))
  some (s40, ())
 else
  let b41 : Bool := (i38 == (28 : Int))
  bif b41 then
   let s42 : ByteArray := (ByteArray.mk (List.toArray ((99 : UInt8) :: ((101 : UInt8) :: ((100 : UInt8) :: ([] : List UInt8))))))
   some (s42, ())
  else
   let b43 : Bool := (i38 == (29 : Int))
   bif b43 then
    let s44 : ByteArray := (ByteArray.mk (List.toArray ((99 : UInt8) :: ((100 : UInt8) :: ([] : List UInt8)))))
    some (s44, ())
   else
    let s45 : ByteArray := (ByteArray.mk (List.toArray ([] : List UInt8)))
    some (s45, ())
theorem ex_ref06_shape_3 : ∃ f, f = @b_ref06_shape_3 := ⟨_, rfl⟩
noncomputable def ref06_shape_3 := Classical.choose ex_ref06_shape_3
theorem ref06_shape_3_eq : @ref06_shape_3 = @b_ref06_shape_3 := Classical.choose_spec ex_ref06_shape_3
theorem s_ref06_shape_3 {base S0 cs0} (hfin : H_ref06_shape base S0) : J_ref06_shape base S0 cs0 p_ref06_shape_3 (u_ref06_shape_3 (ref06_shape_3)) :=
 JSound.join hfin.2 (OSound.nowhere) ks_ref06_shape 100000 (by rw [ref06_shape_3_eq]; intro x; kernel_rfl)
noncomputable def x_ref06_shape_3 : Cfg → Option (Option (ByteArray × Unit)) := cut p_ref06_shape_3 (u_ref06_shape_3 (ref06_shape_3)) (nowhere)
theorem o_ref06_shape_3 {base S0 cs0} (hfin : H_ref06_shape base S0) : O_ref06_shape base S0 cs0 (x_ref06_shape_3) := OSound.cut (OSound.nowhere) (Nat.le_of_eq hfin.1) (s_ref06_shape_3 hfin)
@[reducible] noncomputable def p_ref06_shape_2 : CPat := ⟨⟨83, [1, 0, 1, 0, 1, 1, 1, 1, 1, 1, 1, 1, 1, 1, 1, 1, 1, 1, 1], none, [.any, .any, .any, .int .u64, .any, .any, .any, .any, .any, .any, .any, .any, .any, .any, .any, .any, .any, .any, .any, .any, .any, .any, .any, .any, .any, .bool], 13⟩, [], [], 0⟩
@[reducible] noncomputable def u_ref06_shape_2 (k : Int → Bool → Option (ByteArray × Unit)) : denC p_ref06_shape_2 → Option (ByteArray × Unit) := fun x => k x.1.2.2.2.1 x.1.2.2.2.2.2.2.2.2.2.2.2.2.2.2.2.2.2.2.2.2.2.2.2.2.2.1
noncomputable def b_ref06_shape_2 (i29 : Int) (b30 : Bool) : Option (ByteArray × Unit) :=
 bif b30 then
  let s31 : ByteArray := (ByteArray.mk (List.toArray ((105 : UInt8) :: ((109 : UInt8) :: ([] : List UInt8)))))
  some (s31, ())
 else
  let b32 : Bool := (i29 == (24 : Int))
  bif b32 then
   let s33 : ByteArray := (ByteArray.mk (List.toArray ((113 : UInt8) :: ((112 : UInt8) :: ((110 : UInt8) :: ((116 : UInt8) :: ([] : List UInt8)))))))
   some (s33, ())
  else
   let b34 : Bool := (i29 == (25 : Int))
   bif b34 then
    let s35 : ByteArray := (ByteArray.mk (List.toArray ((113 : UInt8) :: ([] : List UInt8))))
    some (s35, ())
   else
    let b36 : Bool := (i29 == (26 : Int))
    bif b36 then
     ref06_shape_3 i29 true
    else
     let b37 : Bool := (i29 == (27 : Int))
     ref06_shape_3 i29 b37
theorem ex_ref06_shape_2 : ∃ f, f = @b_ref06_shape_2 := ⟨_, rfl⟩
noncomputable def ref06_shape_2 := Classical.choose ex_ref06_shape_2
theorem ref06_shape_2_eq : @ref06_shape_2 = @b_ref06_shape_2 := Classical.choose_spec ex_ref06_shape_2
theorem s_ref06_shape_2 {base S0 cs0} (hfin : H_ref06_shape base S0) : J_ref06_shape base S0 cs0 p_ref06_shape_2 (u_ref06_shape_2 (ref06_shape_2)) :=
 JSound.join hfin.2 (o_ref06_shape_3 hfin) ks_ref06_shape 100000 (by rw [ref06_shape_2_eq]; intro x; kernel_rfl)
noncomputable def x_ref06_shape_2 : Cfg → Option (Option (ByteArray × Unit)) := cut p_ref06_shape_2 (u_ref06_shape_2 (ref06_shape_2)) (x_ref06_shape_3)
theorem o_ref06_shape_2 {base S0 cs0} (hfin : H_ref06_shape base S0) : O_ref06_shape base S0 cs0 (x_ref06_shape_2) := OSound.cut (o_ref06_shape_3 hfin) (Nat.le_of_eq hfin.1) (s_ref06_shape_2 hfin)
@[reducible] noncomputable def p_ref06_shape_1 : CPat := ⟨⟨83, [1, 0, 1, 0, 1, 1, 1, 1, 1, 1, 1, 1, 1, 1, 1, 1, 1], none, [.any, .any, .any, .int .u64, .any, .any, .any, .any, .any, .any, .any, .any, .any, .any, .any, .any, .any, .any, .bool], 20⟩, [], [], 0⟩
@[reducible] noncomputable def u_ref06_shape_1 (k : Int → Bool → Option (ByteArray × Unit)) : denC p_ref06_shape_1 → Option (ByteArray × Unit) := fun x => k x.1.2.2.2.1 x.1.2.2.2.2.2.2.2.2.2.2.2.2.2.2.2.2.2.2.1
noncomputable def b_ref06_shape_1 (i24 : Int) (b25 : Bool) : Option (ByteArray × Unit) :=
 bif b25 then
  let s26 : ByteArray := (ByteArray.mk (List.toArray ((109 : UInt8) :: ([] : List UInt8))))
  some (s26, ())
 else
  let b27 : Bool := (i24 == (17 : Int))
  bif b27 then
   ref06_shape_2 i24 true
  else
   let b28 : Bool := (i24 == (21 : Int))
   ref06_shape_2 i24 b28
theorem ex_ref06_shape_1 : ∃ f, f = @b_ref06_shape_1 := ⟨_, rfl⟩
noncomputable def ref06_shape_1 := Classical.choose ex_ref06_shape_1
theorem ref06_shape_1_eq : @ref06_shape_1 = @b_ref06_shape_1 := Classical.choose_spec ex_ref06_shape_1
theorem s_ref06_shape_1 {base S0 cs0} (hfin : H_ref06_shape base S0) : J_ref06_shape base S0 cs0 p_ref06_shape_1 (u_ref06_shape_1 (ref06_shape_1)) :=
 JSound.join hfin.2 (o_ref06_shape_2 hfin) ks_ref06_shape 100000 (by rw [ref06_shape_1_eq]; intro x; kernel_rfl)
noncomputable def x_ref06_shape_1 : Cfg → Option (Option (ByteArray × Unit)) := cut p_ref06_shape_1 (u_ref06_shape_1 (ref06_shape_1)) (x_ref06_shape_2)
theorem o_ref06_shape_1 {base S0 cs0} (hfin : H_ref06_shape base S0) : O_ref06_shape base S0 cs0 (x_ref06_shape_1) := OSound.cut (o_ref06_shape_2 hfin) (Nat.le_of_eq hfin.1) (s_ref06_shape_1 hfin)
@[reducible] noncomputable def p_ref06_shape_0 : CPat := ⟨⟨83, [1, 0, 1, 0, 1], none, [.any, .any, .any, .int .u64, .bool], 34⟩, [], [], 0⟩
@[reducible] noncomputable def u_ref06_shape_0 (k : Int → Bool → Option (ByteArray × Unit)) : denC p_ref06_shape_0 → Option (ByteArray × Unit) := fun x => k x.1.2.2.2.1 x.1.2.2.2.2.1
noncomputable def b_ref06_shape_0 (i5 : Int) (b6 : Bool) : Option (ByteArray × Unit) :=
 bif b6 then
  let s7 : ByteArray := (ByteArray.mk (List.toArray ((45 : UInt8) :: ([] : List UInt8))))
  some (s7, ())
 else
  let b8 : Bool := (i5 == (2 : Int))
  bif b8 then
   let s9 : ByteArray := (ByteArray.mk (List.toArray ((101 : UInt8) :: ((115 : UInt8) :: ([] : List UInt8)))))
   some (s9, ())
  else
   let b10 : Bool := (i5 == (4 : Int))
   bif b10 then
    let s11 : ByteArray := (ByteArray.mk (List.toArray ((105 : UInt8) :: ((99 : UInt8) :: ((109 : UInt8) :: ([] : List UInt8))))))
    some (s11, ())
   else
    let b12 : Bool := (i5 == (5 : Int))
    bif b12 then
     let s13 : ByteArray := (ByteArray.mk (List.toArray ((105 : UInt8) :: ((99 : UInt8) :: ([] : List UInt8)))))
     some (s13, ())
    else
     let b14 : Bool := (i5 == (6 : Int))
     bif b14 then
      let s15 : ByteArray := (ByteArray.mk (List.toArray ((111 : UInt8) :: ((100 : UInt8) :: ([] : List UInt8)))))
      some (s15, ())
     else
      let b16 : Bool := (i5 == (8 : Int))
      bif b16 then
       let s17 : ByteArray := (ByteArray.mk (List.toArray ((105 : UInt8) :: ((111 : UInt8) :: ((102 : UInt8) :: ((100 : UInt8) :: ([] : List UInt8)))))))
       some (s17, ())
      else
       let b18 : Bool := (i5 == (16 : Int))
       bif b18 then
        ref06_shape_1 i5 true
       else
        let b19 : Bool := (i5 == (18 : Int))
        bif b19 then
         ref06_shape_1 i5 true
        else
         let b20 : Bool := (i5 == (19 : Int))
         bif b20 then
          ref06_shape_1 i5 true
         else
          let b21 : Bool := (i5 == (20 : Int))
          bif b21 then
           ref06_shape_1 i5 true
          else
           let b22 : Bool := (i5 == (22 : Int))
           bif b22 then
            ref06_shape_1 i5 true
           else
            let b23 : Bool := (i5 == (23 : Int))
            ref06_shape_1 i5 b23
theorem ex_ref06_shape_0 : ∃ f, f = @b_ref06_shape_0 := ⟨_, rfl⟩
noncomputable def ref06_shape_0 := Classical.choose ex_ref06_shape_0
theorem ref06_shape_0_eq : @ref06_shape_0 = @b_ref06_shape_0 := Classical.choose_spec ex_ref06_shape_0
theorem s_ref06_shape_0 {base S0 cs0} (hfin : H_ref06_shape base S0) : J_ref06_shape base S0 cs0 p_ref06_shape_0 (u_ref06_shape_0 (ref06_shape_0)) :=
 JSound.join hfin.2 (o_ref06_shape_1 hfin) ks_ref06_shape 100000 (by rw [ref06_shape_0_eq]; intro x; kernel_rfl)
noncomputable def x_ref06_shape_0 : Cfg → Option (Option (ByteArray × Unit)) := cut p_ref06_shape_0 (u_ref06_shape_0 (ref06_shape_0)) (x_ref06_shape_1)
theorem o_ref06_shape_0 {base S0 cs0} (hfin : H_ref06_shape base S0) : O_ref06_shape base S0 cs0 (x_ref06_shape_0) := OSound.cut (o_ref06_shape_1 hfin) (Nat.le_of_eq hfin.1) (s_ref06_shape_0 hfin)
noncomputable def b_ref06_shape (a0 : Int) : Option (ByteArray × Unit) :=
 let s1 : ByteArray := (ByteArray.mk (List.toArray ([] : List UInt8)))
 let b2 : Bool := (a0 == (0 : Int))
 bif b2 then
  ref06_shape_0 a0 true
 else
  let b3 : Bool := (a0 == (1 : Int))
  bif b3 then
   ref06_shape_0 a0 true
  else
   let b4 : Bool := (a0 == (30 : Int))
   ref06_shape_0 a0 b4
theorem ex_ref06_shape : ∃ f, f = @b_ref06_shape := ⟨_, rfl⟩
noncomputable def ref06_shape := Classical.choose ex_ref06_shape
theorem ref06_shape_eq : @ref06_shape = @b_ref06_shape := Classical.choose_spec ex_ref06_shape
noncomputable def cb_ref06_shape : Con := ⟨[(.int .u64)], r_ref06_shape, fun x => b_ref06_shape x.1⟩
noncomputable def c_ref06_shape : Con := ⟨[(.int .u64)], r_ref06_shape, fun x => ref06_shape x.1⟩
theorem cb_ref06_shape_ok : cb_ref06_shape.Sound prog Inv gInv 83 :=
 con_run (M := m_ref06_shape) inv_g (f := f83) rfl ks_ref06_shape 100000 (X := x_ref06_shape_0) (fun base S0 cs0 hn hf => have hfin : H_ref06_shape base S0 := ⟨hn, hf⟩; o_ref06_shape_0 hfin) (by intro x; kernel_rfl)
theorem c_ref06_shape_ok : c_ref06_shape.Sound prog Inv gInv 83 := by
 have e : c_ref06_shape = cb_ref06_shape := by unfold c_ref06_shape cb_ref06_shape; rw [ref06_shape_eq]
 rw [e]; exact cb_ref06_shape_ok
noncomputable def m_ref06_in : Mach prog Inv gInv := mach bas [(84, f84)] ⟨ok84, trivial⟩ [] trivial [] trivial [] trivial
/-! ### domino/dominoref06.in -/
@[reducible] def r_ref06_in : List Ty := [.bool]
def ks_ref06_in : List Nat := [84]
abbrev H_ref06_in (base : Base) (S0 : Nat → Prop) := base.n = 0 ∧ FinOk (finR r_ref06_in) base S0 (Post r_ref06_in S0)
abbrev J_ref06_in (base : Base) (S0 : Nat → Prop) (cs0 : List Go.Frame) (p : CPat) (J : denC p → Option (denL r_ref06_in)) := JSound m_ref06_in base S0 cs0 (Post r_ref06_in S0) p J
abbrev O_ref06_in (base : Base) (S0 : Nat → Prop) (cs0 : List Go.Frame) (X : Cfg → Option (Option (denL r_ref06_in))) := OSound m_ref06_in base S0 cs0 (Post r_ref06_in S0) X
@[reducible] noncomputable def p_ref06_in_0 : CPat := ⟨⟨84, [1, 0, 1, 0], none, [.str, .int .u8, .any, .any, .any, .int .i64], 11⟩, [], [], 0⟩
@[reducible] noncomputable def u_ref06_in_0 (k : ByteArray → Int → Int → Option (Bool × Unit)) : denC p_ref06_in_0 → Option (Bool × Unit) := fun x => k x.1.1 x.1.2.1 x.1.2.2.2.2.2.1
noncomputable def t_ref06_in_0 (k0 : ByteArray → Int → Int → Option (Bool × Unit)) (s8 : ByteArray) (i9 : Int) (i10 : Int) : Option (Bool × Unit) :=
 let n11 : Int := (((ByteArray.size s8) : Nat) : Int)
 let b12 : Bool := (decide (i10 < n11))
 bif b12 then
  bif (decide (((0 : Int) ≤ i10) ∧ (i10 < (((ByteArray.size s8) : Nat) : Int)))) then
   let n13 : Int := (byteAt s8 i10)
   let b14 : Bool := (n13 == i9)
   bif b14 then
    some (true, ())
   else
    let n15 : Int := (Go.IntKind.wrap Go.IntKind.i64 (i10 + (1 : Int)))
    k0 s8 i9 n15
  else none
 else
  some (false, ())
noncomputable def ref06_in_0 : Nat → ByteArray → Int → Int → Option (Bool × Unit)
 | 0 => fun _ _ _ => none
 | m + 1 => t_ref06_in_0 (ref06_in_0 m)
noncomputable def b_ref06_in_0' (s8 : ByteArray) (i9 : Int) (i10 : Int) : Option (Bool × Unit) := ref06_in_0 (Int.toNat ((((ByteArray.size s8) : Nat) : Int) - i10) + 2) s8 i9 i10
theorem ex_ref06_in_0' : ∃ f, f = @b_ref06_in_0' := ⟨_, rfl⟩
noncomputable def ref06_in_0' := Classical.choose ex_ref06_in_0'
theorem ref06_in_0'_eq : @ref06_in_0' = @b_ref06_in_0' := Classical.choose_spec ex_ref06_in_0'
theorem s_ref06_in_0 {base S0 cs0} (hfin : H_ref06_in base S0) : ∀ m, J_ref06_in base S0 cs0 p_ref06_in_0 (u_ref06_in_0 (ref06_in_0 m)) :=
 JSound.loop' hfin.2 ks_ref06_in 100000 u_ref06_in_0 (fun k0 => cut p_ref06_in_0 (u_ref06_in_0 k0) (nowhere)) (fun k0 h0 => OSound.cut (OSound.nowhere) (Nat.le_of_eq hfin.1) h0) (ref06_in_0) (by intro x; rfl) (by intro m x; kernel_rfl)
theorem s_ref06_in_0' {base S0 cs0} (hfin : H_ref06_in base S0) : J_ref06_in base S0 cs0 p_ref06_in_0 (u_ref06_in_0 (ref06_in_0')) := by
 rw [ref06_in_0'_eq]; exact fun x r hx => s_ref06_in_0 hfin _ x r hx
noncomputable def x_ref06_in_0 : Cfg → Option (Option (Bool × Unit)) := cut p_ref06_in_0 (u_ref06_in_0 (ref06_in_0')) (nowhere)
theorem o_ref06_in_0 {base S0 cs0} (hfin : H_ref06_in base S0) : O_ref06_in base S0 cs0 (x_ref06_in_0) := OSound.cut (OSound.nowhere) (Nat.le_of_eq hfin.1) (s_ref06_in_0' hfin)
noncomputable def b_ref06_in (a0 : ByteArray) (a1 : Int) : Option (Bool × Unit) :=
 ref06_in_0' a0 a1 (0 : Int)
theorem ex_ref06_in : ∃ f, f = @b_ref06_in := ⟨_, rfl⟩
noncomputable def ref06_in := Classical.choose ex_ref06_in
theorem ref06_in_eq : @ref06_in = @b_ref06_in := Classical.choose_spec ex_ref06_in
noncomputable def cb_ref06_in : Con := ⟨[.str, (.int .u8)], r_ref06_in, fun x => b_ref06_in x.1 x.2.1⟩
noncomputable def c_ref06_in : Con := ⟨[.str, (.int .u8)], r_ref06_in, fun x => ref06_in x.1 x.2.1⟩
theorem cb_ref06_in_ok : cb_ref06_in.Sound prog Inv gInv 84 :=
 con_run (M := m_ref06_in) inv_g (f := f84) rfl ks_ref06_in 100000 (X := x_ref06_in_0) (fun base S0 cs0 hn hf => have hfin : H_ref06_in base S0 := ⟨hn, hf⟩; o_ref06_in_0 hfin) (by intro x; kernel_rfl)
theorem c_ref06_in_ok : c_ref06_in.Sound prog Inv gInv 84 := by
 have e : c_ref06_in = cb_ref06_in := by unfold c_ref06_in cb_ref06_in; rw [ref06_in_eq]
 rw [e]; exact cb_ref06_in_ok
noncomputable def m_ref03_May : Mach prog Inv gInv := mach bas [(85, f85)] ⟨ok85, trivial⟩ [] trivial [] trivial [] trivial
/-! ### domino/dominoref03.May -/
@[reducible] def r_ref03_May : List Ty := [.bool]
def ks_ref03_May : List Nat := [85]
abbrev H_ref03_May (base : Base) (S0 : Nat → Prop) := base.n = 0 ∧ FinOk (finR r_ref03_May) base S0 (Post r_ref03_May S0)
abbrev J_ref03_May (base : Base) (S0 : Nat → Prop) (cs0 : List Go.Frame) (p : CPat) (J : denC p → Option (denL r_ref03_May)) := JSound m_ref03_May base S0 cs0 (Post r_ref03_May S0) p J
abbrev O_ref03_May (base : Base) (S0 : Nat → Prop) (cs0 : List Go.Frame) (X : Cfg → Option (Option (denL r_ref03_May))) := OSound m_ref03_May base S0 cs0 (Post r_ref03_May S0) X
@[reducible] noncomputable def p_ref03_May_0 : CPat := ⟨⟨85, [1, 0, 1, 0], none, [.rows T_ranges_Range false, .any, .any, .int .i64], 44⟩, [], [], 0⟩
@[reducible] noncomputable def u_ref03_May_0 (k : (List D_ranges_Range) → Int → Option (Bool × Unit)) : denC p_ref03_May_0 → Option (Bool × Unit) := fun x => k x.1.1 x.1.2.2.2.1
@[reducible] noncomputable def p_ref03_May_1 : CPat := ⟨⟨85, [1, 0, 1, 0, 0, 1, 0, 0, 1, 1], none, [.rows T_ranges_Range false, .any, .any, .int .i64], 44⟩, [], [], 0⟩
@[reducible] noncomputable def u_ref03_May_1 (k : (List D_ranges_Range) → Int → Option (Bool × Unit)) : denC p_ref03_May_1 → Option (Bool × Unit) := fun x => k x.1.1 x.1.2.2.2.1
noncomputable def b_ref03_May_1 (k0 : (List D_ranges_Range) → Int → Option (Bool × Unit)) (l25 : (List D_ranges_Range)) (i26 : Int) : Option (Bool × Unit) :=
 let n27 : Int := (Go.IntKind.wrap Go.IntKind.i64 (i26 + (1 : Int)))
 k0 l25 n27
theorem ex_ref03_May_1 : ∃ f, f = @b_ref03_May_1 := ⟨_, rfl⟩
noncomputable def ref03_May_1 := Classical.choose ex_ref03_May_1
theorem ref03_May_1_eq : @ref03_May_1 = @b_ref03_May_1 := Classical.choose_spec ex_ref03_May_1
theorem s_ref03_May_1 {base S0 cs0} (hfin : H_ref03_May base S0) (k0) (h0 : J_ref03_May base S0 cs0 p_ref03_May_0 (u_ref03_May_0 k0)) : J_ref03_May base S0 cs0 p_ref03_May_1 (u_ref03_May_1 (ref03_May_1 k0)) :=
 JSound.join hfin.2 (OSound.cut (OSound.nowhere) (Nat.le_of_eq hfin.1) h0) ks_ref03_May 100000 (by rw [ref03_May_1_eq]; intro x; kernel_rfl)
noncomputable def x_ref03_May_1 (k0 : (List D_ranges_Range) → Int → Option (Bool × Unit)) : Cfg → Option (Option (Bool × Unit)) := cut p_ref03_May_1 (u_ref03_May_1 (ref03_May_1 k0)) (cut p_ref03_May_0 (u_ref03_May_0 k0) (nowhere))
theorem o_ref03_May_1 {base S0 cs0} (hfin : H_ref03_May base S0) (k0) (h0 : J_ref03_May base S0 cs0 p_ref03_May_0 (u_ref03_May_0 k0)) : O_ref03_May base S0 cs0 (x_ref03_May_1 k0) := OSound.cut (OSound.cut (OSound.nowhere) (Nat.le_of_eq hfin.1) h0) (Nat.le_of_eq hfin.1) (s_ref03_May_1 hfin k0 h0)
noncomputable def t_ref03_May_0 (k0 : (List D_ranges_Range) → Int → Option (Bool × Unit)) (l9 : (List D_ranges_Range)) (i10 : Int) : Option (Bool × Unit) :=
 let n11 : Int := (((List.length l9) : Nat) : Int)
 let b12 : Bool := (decide (i10 < n11))
 bif b12 then
  bif (decide (((0 : Int) ≤ i10) ∧ (i10 < (((List.length l9) : Nat) : Int)))) then
   let x13 : D_ranges_Range := (List.getD l9 (Int.toNat i10) (Ty.dflt T_ranges_Range))
   bif (decide (((0 : Int) ≤ i10) ∧ (i10 < (((List.length l9) : Nat) : Int)))) then
    let x14 : D_ranges_Range := (List.getD l9 (Int.toNat i10) (Ty.dflt T_ranges_Range))
    let b15 : Bool := (decide (x13.2.1 < x14.1))
    bif b15 then
     some (false, ())
    else
     bif (decide (((0 : Int) ≤ i10) ∧ (i10 < (((List.length l9) : Nat) : Int)))) then
      let x16 : D_ranges_Range := (List.getD l9 (Int.toNat i10) (Ty.dflt T_ranges_Range))
      let b17 : Bool := (decide (x16.2.1 ≥ (9223372036854775808 : Int)))
      bif b17 then
       some (false, ())
      else
       let b18 : Bool := (decide (i10 > (0 : Int)))
       bif b18 then
        bif (decide (((0 : Int) ≤ i10) ∧ (i10 < (((List.length l9) : Nat) : Int)))) then
         let x19 : D_ranges_Range := (List.getD l9 (Int.toNat i10) (Ty.dflt T_ranges_Range))
         let n20 : Int := (Go.IntKind.wrap Go.IntKind.i64 (i10 - (1 : Int)))
         bif (decide (((0 : Int) ≤ n20) ∧ (n20 < (((List.length l9) : Nat) : Int)))) then
          let x21 : D_ranges_Range := (List.getD l9 (Int.toNat n20) (Ty.dflt T_ranges_Range))
          let n22 : Int := (Go.IntKind.wrap Go.IntKind.u64 (x21.2.1 + (2 : Int)))
          let b23 : Bool := (decide (x19.1 < n22))
          bif b23 then
           some (false, ())
          else
           ref03_May_1 k0 l9 i10
         else none
        else none
       else
        ref03_May_1 k0 l9 i10
     else none
   else none
  else none
 else
  some (true, ())
noncomputable def ref03_May_0 : Nat → (List D_ranges_Range) → Int → Option (Bool × Unit)
 | 0 => fun _ _ => none
 | m + 1 => t_ref03_May_0 (ref03_May_0 m)
noncomputable def b_ref03_May_0' (l9 : (List D_ranges_Range)) (i10 : Int) : Option (Bool × Unit) := ref03_May_0 (Int.toNat ((((List.length l9) : Nat) : Int) - i10) + 2) l9 i10
theorem ex_ref03_May_0' : ∃ f, f = @b_ref03_May_0' := ⟨_, rfl⟩
noncomputable def ref03_May_0' := Classical.choose ex_ref03_May_0'
theorem ref03_May_0'_eq : @ref03_May_0' = @b_ref03_May_0' := Classical.choose_spec ex_ref03_May_0'
theorem s_ref03_May_0 {base S0 cs0} (hfin : H_ref03_May base S0) : ∀ m, J_ref03_May base S0 cs0 p_ref03_May_0 (u_ref03_May_0 (ref03_May_0 m)) :=
 JSound.loop' hfin.2 ks_ref03_May 100000 u_ref03_May_0 (fun k0 => x_ref03_May_1 k0) (fun k0 h0 => o_ref03_May_1 hfin k0 h0) (ref03_May_0) (by intro x; rfl) (by intro m x; kernel_rfl)
theorem s_ref03_May_0' {base S0 cs0} (hfin : H_ref03_May base S0) : J_ref03_May base S0 cs0 p_ref03_May_0 (u_ref03_May_0 (ref03_May_0')) := by
 rw [ref03_May_0'_eq]; exact fun x r hx => s_ref03_May_0 hfin _ x r hx
noncomputable def x_ref03_May_0 : Cfg → Option (Option (Bool × Unit)) := cut p_ref03_May_0 (u_ref03_May_0 (ref03_May_0')) (nowhere)
theorem o_ref03_May_0 {base S0 cs0} (hfin : H_ref03_May base S0) : O_ref03_May base S0 cs0 (x_ref03_May_0) := OSound.cut (OSound.nowhere) (Nat.le_of_eq hfin.1) (s_ref03_May_0' hfin)
noncomputable def b_ref03_May (a0 : (List D_ranges_Range)) : Option (Bool × Unit) :=
 ref03_May_0' a0 (0 : Int)
theorem ex_ref03_May : ∃ f, f = @b_ref03_May := ⟨_, rfl⟩
noncomputable def ref03_May := Classical.choose ex_ref03_May
theorem ref03_May_eq : @ref03_May = @b_ref03_May := Classical.choose_spec ex_ref03_May
noncomputable def cb_ref03_May : Con := ⟨[(.slice T_ranges_Range)], r_ref03_May, fun x => b_ref03_May x.1⟩
noncomputable def c_ref03_May : Con := ⟨[(.slice T_ranges_Range)], r_ref03_May, fun x => ref03_May x.1⟩
theorem cb_ref03_May_ok : cb_ref03_May.Sound prog Inv gInv 85 :=
 con_run (M := m_ref03_May) inv_g (f := f85) rfl ks_ref03_May 100000 (X := x_ref03_May_0) (fun base S0 cs0 hn hf => have hfin : H_ref03_May base S0 := ⟨hn, hf⟩; o_ref03_May_0 hfin) (by intro x; kernel_rfl)
theorem c_ref03_May_ok : c_ref03_May.Sound prog Inv gInv 85 := by
 have e : c_ref03_May = cb_ref03_May := by unfold c_ref03_May cb_ref03_May; rw [ref03_May_eq]
 rw [e]; exact cb_ref03_May_ok
noncomputable def m_ref06_May : Mach prog Inv gInv := mach bas [(35, f35)] ⟨ok35, trivial⟩ [(83, c_ref06_shape), (84, c_ref06_in), (85, c_ref03_May)] ⟨⟨c_ref06_shape_ok, FnOk.callable ok83⟩, ⟨c_ref06_in_ok, FnOk.callable ok84⟩, ⟨c_ref03_May_ok, FnOk.callable ok85⟩, trivial⟩ [] trivial [] trivial
/-! ### domino/dominoref06.May -/
@[reducible] def r_ref06_May : List Ty := [.bool]
def ks_ref06_May : List Nat := [35]
abbrev H_ref06_May (base : Base) (S0 : Nat → Prop) := base.n = 0 ∧ FinOk (finR r_ref06_May) base S0 (Post r_ref06_May S0)
abbrev J_ref06_May (base : Base) (S0 : Nat → Prop) (cs0 : List Go.Frame) (p : CPat) (J : denC p → Option (denL r_ref06_May)) := JSound m_ref06_May base S0 cs0 (Post r_ref06_May S0) p J
abbrev O_ref06_May (base : Base) (S0 : Nat → Prop) (cs0 : List Go.Frame) (X : Cfg → Option (Option (denL r_ref06_May))) := OSound m_ref06_May base S0 cs0 (Post r_ref06_May S0) X
@[reducible] noncomputable def p_ref06_May_7 : CPat := ⟨⟨35, [1, 1, 1, 1, 1, 0, 1, 0, 1, 1, 1, 1, 1, 1, 1, 1, 1, 1, 1], none, [.any, .ptr 0 0, .any, .any, .any, .any, .any, .any, .any, .any, .any, .any, .any, .any, .any, .any, .any, .any, .any, .any, .any, .any, .any, .any, .any, .any, .any, .any, .any, .any, .any, .any, .any, .any, .any, .any, .any, .any, .any, .any, .any, .any, .any, .any, .any, .any, .any, .any, .any, .any, .any, .any, .any, .any, .any, .any, .any, .any, .any, .any, .any, .any, .any, .any, .any, .any, .any, .any, .any, .any, .any, .any, .any, .any, .any, .any, .any, .any, .any, .any, .any, .any, .any, .any, .any, .any, .any, .any, .any, .any, .any, .any, .any, .any, .any, .any, .any, .any, .any, .any, .any, .any, .any, .any, .any, .any, .any, .any, .any, .any, .any, .any, .any, .any, .any, .any, .any, .any, .any, .any, .any, .any, .any, .any, .any, .any, .any, .any, .any, .any, .any, .any, .any, .any, .any, .any, .any, .any, .any, .any, .any, .any, .any, .any, .any, .any, .any, .any, .any, .any, .any, .any, .any, .any, .any, .any, .any, .any, .any, .any, .any, .any, .any, .any, .any, .any, .any, .any, .any, .any, .any, .any, .any, .any, .any, .any, .any, .any, .any, .any, .bool], 7⟩, [], [.dat 60 T_frame_Frame], 0⟩
@[reducible] noncomputable def u_ref06_May_7 (k : Bool → D_frame_Frame → Option (Bool × Unit)) : denC p_ref06_May_7 → Option (Bool × Unit) := fun x => k x.1.2.2.2.2.2.2.2.2.2.2.2.2.2.2.2.2.2.2.2.2.2.2.2.2.2.2.2.2.2.2.2.2.2.2.2.2.2.2.2.2.2.2.2.2.2.2.2.2.2.2.2.2.2.2.2.2.2.2.2.2.2.2.2.2.2.2.2.2.2.2.2.2.2.2.2.2.2.2.2.2.2.2.2.2.2.2.2.2.2.2.2.2.2.2.2.2.2.2.2.2.2.2.2.2.2.2.2.2.2.2.2.2.2.2.2.2.2.2.2.2.2.2.2.2.2.2.2.2.2.2.2.2.2.2.2.2.2.2.2.2.2.2.2.2.2.2.2.2.2.2.2.2.2.2.2.2.2.2.2.2.2.2.2.2.2.2.2.2.2.2.2.2.2.2.2.2.2.2.2.2.1 x.2.2.1
noncomputable def b_ref06_May_7 (b300 : Bool) (d301 : D_frame_Frame) : Option (Bool × Unit) :=
 bif b300 then
  let b302 : Bool := (decide (d301.2.2.2.1 ≤ (1152921504606846976 : Int)))
  some (b302, ())
 else
  some (true, ())
theorem ex_ref06_May_7 : ∃ f, f = @b_ref06_May_7 := ⟨_, rfl⟩
noncomputable def ref06_May_7 := Classical.choose ex_ref06_May_7
theorem ref06_May_7_eq : @ref06_May_7 = @b_ref06_May_7 := Classical.choose_spec ex_ref06_May_7
theorem s_ref06_May_7 {base S0 cs0} (hfin : H_ref06_May base S0) : J_ref06_May base S0 cs0 p_ref06_May_7 (u_ref06_May_7 (ref06_May_7)) :=
 JSound.join hfin.2 (OSound.nowhere) ks_ref06_May 100000 (by rw [ref06_May_7_eq]; intro x; kernel_rfl)
noncomputable def x_ref06_May_7 : Cfg → Option (Option (Bool × Unit)) := cut p_ref06_May_7 (u_ref06_May_7 (ref06_May_7)) (nowhere)
theorem o_ref06_May_7 {base S0 cs0} (hfin : H_ref06_May base S0) : O_ref06_May base S0 cs0 (x_ref06_May_7) := OSound.cut (OSound.nowhere) (Nat.le_of_eq hfin.1) (s_ref06_May_7 hfin)
@[reducible] noncomputable def p_ref06_May_6 : CPat := ⟨⟨35, [1, 1, 1, 1, 1, 0, 1, 0, 1, 1, 1, 1, 1, 1, 1, 1, 1], none, [.any, .ptr 0 0, .any, .any, .any, .any, .any, .any, .any, .any, .any, .any, .any, .any, .any, .any, .any, .any, .any, .any, .any, .any, .any, .any, .any, .any, .any, .any, .any, .any, .any, .any, .any, .any, .any, .any, .any, .any, .any, .any, .any, .any, .any, .any, .any, .any, .any, .any, .any, .any, .any, .any, .any, .any, .any, .any, .any, .any, .any, .any, .any, .any, .any, .any, .any, .any, .any, .any, .any, .any, .any, .any, .any, .any, .any, .any, .any, .any, .any, .any, .any, .any, .any, .any, .any, .any, .any, .any, .any, .any, .any, .any, .any, .any, .any, .any, .any, .any, .any, .any, .any, .any, .any, .int .u64, .any, .any, .any, .any, .any, .any, .any, .any, .any, .any, .any, .any, .any, .any, .any, .any, .any, .any, .any, .any, .any, .any, .any, .any, .any, .any, .any, .any, .any, .any, .any, .any, .any, .any, .any, .any, .any, .any, .any, .any, .any, .any, .any, .any, .any, .any, .any, .any, .any, .any, .any, .any, .any, .any, .any, .any, .any, .any, .any, .any, .any, .any, .any, .any, .any, .any, .any, .any, .any, .bool], 14⟩, [], [.dat 60 T_frame_Frame], 0⟩
@[reducible] noncomputable def u_ref06_May_6 (k : Int → Bool → D_frame_Frame → Option (Bool × Unit)) : denC p_ref06_May_6 → Option (Bool × Unit) := fun x => k x.1.2.2.2.2.2.2.2.2.2.2.2.2.2.2.2.2.2.2.2.2.2.2.2.2.2.2.2.2.2.2.2.2.2.2.2.2.2.2.2.2.2.2.2.2.2.2.2.2.2.2.2.2.2.2.2.2.2.2.2.2.2.2.2.2.2.2.2.2.2.2.2.2.2.2.2.2.2.2.2.2.2.2.2.2.2.2.2.2.2.2.2.2.2.2.2.2.2.2.2.2.2.2.2.1 x.1.2.2.2.2.2.2.2.2.2.2.2.2.2.2.2.2.2.2.2.2.2.2.2.2.2.2.2.2.2.2.2.2.2.2.2.2.2.2.2.2.2.2.2.2.2.2.2.2.2.2.2.2.2.2.2.2.2.2.2.2.2.2.2.2.2.2.2.2.2.2.2.2.2.2.2.2.2.2.2.2.2.2.2.2.2.2.2.2.2.2.2.2.2.2.2.2.2.2.2.2.2.2.2.2.2.2.2.2.2.2.2.2.2.2.2.2.2.2.2.2.2.2.2.2.2.2.2.2.2.2.2.2.2.2.2.2.2.2.2.2.2.2.2.2.2.2.2.2.2.2.2.2.2.2.2.2.2.2.2.2.2.2.2.2.2.2.2.2.2.2.2.2.2.1 x.2.2.1
noncomputable def b_ref06_May_6 (i291 : Int) (b292 : Bool) (d293 : D_frame_Frame) : Option (Bool × Unit) :=
 bif b292 then
  let n294 : Int := (((ByteArray.size d293.2.2.2.2.2.2.2.2.2.2.2.1) : Nat) : Int)
  let b295 : Bool := (n294 == (8 : Int))
  some (b295, ())
 else
  let b296 : Bool := (i291 == (18 : Int))
  bif b296 then
   ref06_May_7 true d293
  else
   let b297 : Bool := (i291 == (19 : Int))
   bif b297 then
    ref06_May_7 true d293
   else
    let b298 : Bool := (i291 == (22 : Int))
    bif b298 then
     ref06_May_7 true d293
    else
     let b299 : Bool := (i291 == (23 : Int))
     ref06_May_7 b299 d293
theorem ex_ref06_May_6 : ∃ f, f = @b_ref06_May_6 := ⟨_, rfl⟩
noncomputable def ref06_May_6 := Classical.choose ex_ref06_May_6
theorem ref06_May_6_eq : @ref06_May_6 = @b_ref06_May_6 := Classical.choose_spec ex_ref06_May_6
theorem s_ref06_May_6 {base S0 cs0} (hfin : H_ref06_May base S0) : J_ref06_May base S0 cs0 p_ref06_May_6 (u_ref06_May_6 (ref06_May_6)) :=
 JSound.join hfin.2 (o_ref06_May_7 hfin) ks_ref06_May 100000 (by rw [ref06_May_6_eq]; intro x; kernel_rfl)
noncomputable def x_ref06_May_6 : Cfg → Option (Option (Bool × Unit)) := cut p_ref06_May_6 (u_ref06_May_6 (ref06_May_6)) (x_ref06_May_7)
theorem o_ref06_May_6 {base S0 cs0} (hfin : H_ref06_May base S0) : O_ref06_May base S0 cs0 (x_ref06_May_6) := OSound.cut (o_ref06_May_7 hfin) (Nat.le_of_eq hfin.1) (s_ref06_May_6 hfin)
@[reducible] noncomputable def p_ref06_May_5 : CPat := ⟨⟨35, [1, 1, 1, 1, 1, 0, 1, 0, 1, 1, 1, 1, 1], none, [.any, .ptr 0 0, .any, .any, .any, .any, .any, .any, .any, .any, .any, .any, .any, .any, .any, .any, .any, .any, .any, .any, .any, .any, .any, .any, .any, .any, .any, .any, .any, .any, .any, .any, .any, .any, .any, .any, .any, .any, .any, .any, .any, .any, .any, .any, .any, .any, .any, .any, .any, .any, .any, .any, .any, .any, .any, .any, .any, .any, .any, .any, .any, .any, .any, .any, .any, .any, .any, .any, .any, .any, .any, .any, .any, .any, .any, .any, .any, .any, .any, .any, .any, .any, .any, .any, .any, .any, .any, .any, .any, .any, .any, .any, .any, .any, .any, .any, .any, .any, .any, .any, .any, .any, .any, .int .u64, .any, .any, .any, .any, .any, .any, .any, .any, .any, .any, .any, .any, .any, .any, .any, .any, .any, .any, .any, .any, .any, .any, .any, .any, .any, .any, .any, .any, .any, .any, .any, .any, .any, .any, .any, .any, .any, .any, .any, .any, .any, .any, .any, .bool], 40⟩, [], [.dat 60 T_frame_Frame], 0⟩
@[reducible] noncomputable def u_ref06_May_5 (k : Int → Bool → D_frame_Frame → Option (Bool × Unit)) : denC p_ref06_May_5 → Option (Bool × Unit) := fun x => k x.1.2.2.2.2.2.2.2.2.2.2.2.2.2.2.2.2.2.2.2.2.2.2.2.2.2.2.2.2.2.2.2.2.2.2.2.2.2.2.2.2.2.2.2.2.2.2.2.2.2.2.2.2.2.2.2.2.2.2.2.2.2.2.2.2.2.2.2.2.2.2.2.2.2.2.2.2.2.2.2.2.2.2.2.2.2.2.2.2.2.2.2.2.2.2.2.2.2.2.2.2.2.2.2.1 x.1.2.2.2.2.2.2.2.2.2.2.2.2.2.2.2.2.2.2.2.2.2.2.2.2.2.2.2.2.2.2.2.2.2.2.2.2.2.2.2.2.2.2.2.2.2.2.2.2.2.2.2.2.2.2.2.2.2.2.2.2.2.2.2.2.2.2.2.2.2.2.2.2.2.2.2.2.2.2.2.2.2.2.2.2.2.2.2.2.2.2.2.2.2.2.2.2.2.2.2.2.2.2.2.2.2.2.2.2.2.2.2.2.2.2.2.2.2.2.2.2.2.2.2.2.2.2.2.2.2.2.2.2.2.2.2.2.2.2.2.2.2.2.2.2.2.2.2.1 x.2.2.1
noncomputable def b_ref06_May_5 (i278 : Int) (b279 : Bool) (d280 : D_frame_Frame) : Option (Bool × Unit) :=
 bif b279 then
  let n281 : Int := (((ByteArray.size d280.2.2.2.2.2.2.2.2.2.1) : Nat) : Int)
  let b282 : Bool := (decide (n281 ≤ (1200 : Int)))
  some (b282, ())
 else
  let b283 : Bool := (i278 == (24 : Int))
  bif b283 then
   let b284 : Bool := (decide (d280.2.2.2.2.2.2.1 ≤ d280.2.2.2.2.2.1))
   bif b284 then
    let n285 : Int := (((ByteArray.size d280.2.2.2.2.2.2.2.2.2.2.1) : Nat) : Int)
    let b286 : Bool := (n285 == (8 : Int))
    bif b286 then
     let n287 : Int := (((ByteArray.size d280.2.2.2.2.2.2.2.2.2.2.2.1) : Nat) : Int)
     let b288 : Bool := (n287 == (16 : Int))
     some (b288, ())
    else
     some (false, ())
   else
    some (false, ())
  else
   let b289 : Bool := (i278 == (26 : Int))
   bif b289 then
    ref06_May_6 i278 true d280
   else
    let b290 : Bool := (i278 == (27 : Int))
    ref06_May_6 i278 b290 d280
theorem ex_ref06_May_5 : ∃ f, f = @b_ref06_May_5 := ⟨_, rfl⟩
noncomputable def ref06_May_5 := Classical.choose ex_ref06_May_5
theorem ref06_May_5_eq : @ref06_May_5 = @b_ref06_May_5 := Classical.choose_spec ex_ref06_May_5
theorem s_ref06_May_5 {base S0 cs0} (hfin : H_ref06_May base S0) : J_ref06_May base S0 cs0 p_ref06_May_5 (u_ref06_May_5 (ref06_May_5)) :=
 JSound.join hfin.2 (o_ref06_May_6 hfin) ks_ref06_May 100000 (by rw [ref06_May_5_eq]; intro x; kernel_rfl)
noncomputable def x_ref06_May_5 : Cfg → Option (Option (Bool × Unit)) := cut p_ref06_May_5 (u_ref06_May_5 (ref06_May_5)) (x_ref06_May_6)
theorem o_ref06_May_5 {base S0 cs0} (hfin : H_ref06_May base S0) : O_ref06_May base S0 cs0 (x_ref06_May_5) := OSound.cut (o_ref06_May_6 hfin) (Nat.le_of_eq hfin.1) (s_ref06_May_5 hfin)
@[reducible] noncomputable def p_ref06_May_4 : CPat := ⟨⟨35, [1, 1, 1, 1, 1, 0, 1, 0, 1, 1, 1], none, [.any, .ptr 0 0, .any, .any, .any, .any, .any, .any, .any, .any, .any, .any, .any, .any, .any, .any, .any, .any, .any, .any, .any, .any, .any, .any, .any, .any, .any, .any, .any, .any, .any, .any, .any, .any, .any, .any, .any, .any, .any, .any, .any, .any, .any, .any, .any, .any, .any, .any, .any, .any, .any, .any, .any, .any, .any, .any, .any, .any, .any, .any, .any, .any, .any, .any, .any, .any, .any, .any, .any, .any, .any, .any, .any, .any, .any, .any, .any, .any, .any, .any, .any, .any, .any, .any, .any, .any, .any, .any, .any, .any, .any, .any, .any, .any, .any, .any, .any, .any, .any, .any, .any, .any, .any, .int .u64, .any, .any, .any, .any, .any, .any, .any, .any, .any, .any, .any, .any, .any, .any, .any, .any, .any, .any, .any, .any, .any, .any, .any, .any, .any, .any, .bool], 57⟩, [], [.dat 60 T_frame_Frame], 0⟩
@[reducible] noncomputable def u_ref06_May_4 (k : Int → Bool → D_frame_Frame → Option (Bool × Unit)) : denC p_ref06_May_4 → Option (Bool × Unit) := fun x => k x.1.2.2.2.2.2.2.2.2.2.2.2.2.2.2.2.2.2.2.2.2.2.2.2.2.2.2.2.2.2.2.2.2.2.2.2.2.2.2.2.2.2.2.2.2.2.2.2.2.2.2.2.2.2.2.2.2.2.2.2.2.2.2.2.2.2.2.2.2.2.2.2.2.2.2.2.2.2.2.2.2.2.2.2.2.2.2.2.2.2.2.2.2.2.2.2.2.2.2.2.2.2.2.2.1 x.1.2.2.2.2.2.2.2.2.2.2.2.2.2.2.2.2.2.2.2.2.2.2.2.2.2.2.2.2.2.2.2.2.2.2.2.2.2.2.2.2.2.2.2.2.2.2.2.2.2.2.2.2.2.2.2.2.2.2.2.2.2.2.2.2.2.2.2.2.2.2.2.2.2.2.2.2.2.2.2.2.2.2.2.2.2.2.2.2.2.2.2.2.2.2.2.2.2.2.2.2.2.2.2.2.2.2.2.2.2.2.2.2.2.2.2.2.2.2.2.2.2.2.2.2.2.2.2.2.2.2.1 x.2.2.1
noncomputable def b_ref06_May_4 (i267 : Int) (b268 : Bool) (d269 : D_frame_Frame) : Option (Bool × Unit) :=
 bif b268 then
  let n270 : Int := (((ByteArray.size d269.2.2.2.2.2.2.2.2.2.1) : Nat) : Int)
  let b271 : Bool := (decide (n270 ≤ (1200 : Int)))
  bif b271 then
   let n272 : Int := (((ByteArray.size d269.2.2.2.2.2.2.2.2.2.1) : Nat) : Int)
   let n273 : Int := (Go.IntKind.wrap Go.IntKind.u64 n272)
   let n274 : Int := (Go.IntKind.wrap Go.IntKind.u64 (d269.2.2.1 + n273))
   let b275 : Bool := (decide (n274 ≤ (4611686018427387903 : Int)))
   some (b275, ())
  else
   some (false, ())
 else
  let b276 : Bool := (i267 == (28 : Int))
  bif b276 then
   ref06_May_5 i267 true d269
  else
   let b277 : Bool := (i267 == (29 : Int))
   ref06_May_5 i267 b277 d269
theorem ex_ref06_May_4 : ∃ f, f = @b_ref06_May_4 := ⟨_, rfl⟩
noncomputable def ref06_May_4 := Classical.choose ex_ref06_May_4
theorem ref06_May_4_eq : @ref06_May_4 = @b_ref06_May_4 := Classical.choose_spec ex_ref06_May_4
theorem s_ref06_May_4 {base S0 cs0} (hfin : H_ref06_May base S0) : J_ref06_May base S0 cs0 p_ref06_May_4 (u_ref06_May_4 (ref06_May_4)) :=
 JSound.join hfin.2 (o_ref06_May_5 hfin) ks_ref06_May 100000 (by rw [ref06_May_4_eq]; intro x; kernel_rfl)
noncomputable def x_ref06_May_4 : Cfg → Option (Option (Bool × Unit)) := cut p_ref06_May_4 (u_ref06_May_4 (ref06_May_4)) (x_ref06_May_5)
theorem o_ref06_May_4 {base S0 cs0} (hfin : H_ref06_May base S0) : O_ref06_May base S0 cs0 (x_ref06_May_4) := OSound.cut (o_ref06_May_5 hfin) (Nat.le_of_eq hfin.1) (s_ref06_May_4 hfin)
@[reducible] noncomputable def p_ref06_May_3 : CPat := ⟨⟨35, [1, 1, 1, 1, 0, 1, 1], none, [.any, .ptr 0 0], 186⟩, [], [.dat 60 T_frame_Frame], 0⟩
@[reducible] noncomputable def u_ref06_May_3 (k : D_frame_Frame → Option (Bool × Unit)) : denC p_ref06_May_3 → Option (Bool × Unit) := fun x => k x.2.2.1
noncomputable def b_ref06_May_3 (d256 : D_frame_Frame) : Option (Bool × Unit) :=
 let b257 : Bool := (d256.1 == (2 : Int))
 bif b257 then
  let n258 : Int := (((List.length d256.2.2.2.2.2.2.2.2.2.2.2.2.1) : Nat) : Int)
  obind (ref03_May d256.2.2.2.2.2.2.2.2.2.2.2.2.1) fun y259 =>
  bif y259.1 then
   let b260 : Bool := (decide (n258 ≥ (1 : Int)))
   bif b260 then
    let b261 : Bool := (decide (n258 ≤ (32 : Int)))
    bif b261 then
     let n262 : Int := (Go.IntKind.wrap Go.IntKind.i64 (n258 - (1 : Int)))
     bif (decide (((0 : Int) ≤ n262) ∧ (n262 < (((List.length d256.2.2.2.2.2.2.2.2.2.2.2.2.1) : Nat) : Int)))) then
      let x263 : D_ranges_Range := (List.getD d256.2.2.2.2.2.2.2.2.2.2.2.2.1 (Int.toNat n262) (Ty.dflt T_ranges_Range))
      let b264 : Bool := (decide (x263.2.1 ≤ (4611686018427387903 : Int)))
      some (b264, ())
     else none
    else
     some (false, ())
   else
    some (false, ())
  else
   some (false, ())
 else
  let b265 : Bool := (d256.1 == (6 : Int))
  bif b265 then
   ref06_May_4 d256.1 true d256
  else
   let b266 : Bool := (d256.1 == (8 : Int))
   ref06_May_4 d256.1 b266 d256
theorem ex_ref06_May_3 : ∃ f, f = @b_ref06_May_3 := ⟨_, rfl⟩
noncomputable def ref06_May_3 := Classical.choose ex_ref06_May_3
theorem ref06_May_3_eq : @ref06_May_3 = @b_ref06_May_3 := Classical.choose_spec ex_ref06_May_3
theorem s_ref06_May_3 {base S0 cs0} (hfin : H_ref06_May base S0) : J_ref06_May base S0 cs0 p_ref06_May_3 (u_ref06_May_3 (ref06_May_3)) :=
 JSound.join hfin.2 (o_ref06_May_4 hfin) ks_ref06_May 100000 (by rw [ref06_May_3_eq]; intro x; kernel_rfl)
noncomputable def x_ref06_May_3 : Cfg → Option (Option (Bool × Unit)) := cut p_ref06_May_3 (u_ref06_May_3 (ref06_May_3)) (x_ref06_May_4)
theorem o_ref06_May_3 {base S0 cs0} (hfin : H_ref06_May base S0) : O_ref06_May base S0 cs0 (x_ref06_May_3) := OSound.cut (o_ref06_May_4 hfin) (Nat.le_of_eq hfin.1) (s_ref06_May_3 hfin)
@[reducible] noncomputable def p_ref06_May_0 : CPat := ⟨⟨35, [1, 1, 1, 0, 1, 0], none, [.any, .ptr 0 0, .any, .str, .all 1, .int .i64], 182⟩, [], [.dat 60 T_frame_Frame, .row (.int .u64)], 0⟩
@[reducible] noncomputable def u_ref06_May_0 (k : ByteArray → Int → D_frame_Frame → (List Int) → Option (Bool × Unit)) : denC p_ref06_May_0 → Option (Bool × Unit) := fun x => k x.1.2.2.2.1 x.1.2.2.2.2.2.1 x.2.2.1 x.2.2.2.1
@[reducible] noncomputable def p_ref06_May_2 : CPat := ⟨⟨35, [1, 1, 1, 0, 1, 0, 0, 1, 0, 0, 1, 1], none, [.any, .ptr 0 0, .any, .str, .all 1, .int .i64], 182⟩, [], [.dat 60 T_frame_Frame, .row (.int .u64)], 0⟩
@[reducible] noncomputable def u_ref06_May_2 (k : ByteArray → Int → D_frame_Frame → (List Int) → Option (Bool × Unit)) : denC p_ref06_May_2 → Option (Bool × Unit) := fun x => k x.1.2.2.2.1 x.1.2.2.2.2.2.1 x.2.2.1 x.2.2.2.1
noncomputable def b_ref06_May_2 (k0 : ByteArray → Int → D_frame_Frame → (List Int) → Option (Bool × Unit)) (s250 : ByteArray) (i251 : Int) (d252 : D_frame_Frame) (l253 : (List Int)) : Option (Bool × Unit) :=
 let n254 : Int := (Go.IntKind.wrap Go.IntKind.i64 (i251 + (1 : Int)))
 k0 s250 n254 d252 l253
theorem ex_ref06_May_2 : ∃ f, f = @b_ref06_May_2 := ⟨_, rfl⟩
noncomputable def ref06_May_2 := Classical.choose ex_ref06_May_2
theorem ref06_May_2_eq : @ref06_May_2 = @b_ref06_May_2 := Classical.choose_spec ex_ref06_May_2
theorem s_ref06_May_2 {base S0 cs0} (hfin : H_ref06_May base S0) (k0) (h0 : J_ref06_May base S0 cs0 p_ref06_May_0 (u_ref06_May_0 k0)) : J_ref06_May base S0 cs0 p_ref06_May_2 (u_ref06_May_2 (ref06_May_2 k0)) :=
 JSound.join hfin.2 (OSound.cut (o_ref06_May_3 hfin) (Nat.le_of_eq hfin.1) h0) ks_ref06_May 100000 (by rw [ref06_May_2_eq]; intro x; kernel_rfl)
noncomputable def x_ref06_May_2 (k0 : ByteArray → Int → D_frame_Frame → (List Int) → Option (Bool × Unit)) : Cfg → Option (Option (Bool × Unit)) := cut p_ref06_May_2 (u_ref06_May_2 (ref06_May_2 k0)) (cut p_ref06_May_0 (u_ref06_May_0 k0) (x_ref06_May_3))
theorem o_ref06_May_2 {base S0 cs0} (hfin : H_ref06_May base S0) (k0) (h0 : J_ref06_May base S0 cs0 p_ref06_May_0 (u_ref06_May_0 k0)) : O_ref06_May base S0 cs0 (x_ref06_May_2 k0) := OSound.cut (OSound.cut (o_ref06_May_3 hfin) (Nat.le_of_eq hfin.1) h0) (Nat.le_of_eq hfin.1) (s_ref06_May_2 hfin k0 h0)
noncomputable def t_ref06_May_0 (k0 : ByteArray → Int → D_frame_Frame → (List Int) → Option (Bool × Unit)) (s125 : ByteArray) (i126 : Int) (d127 : D_frame_Frame) (l128 : (List Int)) : Option (Bool × Unit) :=
 let n129 : Int := (((List.length l128) : Nat) : Int)
 let b130 : Bool := (decide (i126 < n129))
 bif b130 then
  bif (decide (((0 : Int) ≤ i126) ∧ (i126 < (((List.length l128) : Nat) : Int)))) then
   let i131 : Nat := (Int.toNat i126)
   let n132 : Int := (List.getD l128 i131 (0 : Int))
   let b133 : Bool := (decide (n132 > (4611686018427387903 : Int)))
   bif b133 then
    some (false, ())
   else
    bif (decide (((0 : Int) ≤ i126) ∧ (i126 < (((List.length l128) : Nat) : Int)))) then
     let i134 : Nat := (Int.toNat i126)
     let n135 : Int := (List.getD l128 i134 (0 : Int))
     let b136 : Bool := (n135 != (0 : Int))
     bif b136 then
      bif (decide (((0 : Int) ≤ i126) ∧ (i126 < (7 : Int)))) then
       let n137 : Int := (byteAt (ByteArray.mk (List.toArray ((105 : UInt8) :: ((111 : UInt8) :: ((109 : UInt8) :: ((99 : UInt8) :: ((113 : UInt8) :: ((112 : UInt8) :: ((101 : UInt8) :: ([] : List UInt8)))))))))) i126)
       obind (ref06_in s125 n137) fun y138 =>
       let b139 : Bool := (!y138.1)
       bif b139 then
        some (false, ())
       else
        ref06_May_2 k0 s125 i126 d127 l128
      else none
     else
      ref06_May_2 k0 s125 i126 d127 l128
    else none
  else none
 else
  let b140 : Bool := ((ByteArray.toList s125) == (ByteArray.toList (ByteArray.mk (List.toArray ([] : List UInt8)))))
  bif b140 then
   some (false, ())
  else
   bif d127.2.2.2.2.2.2.2.2.1 then
    obind (ref06_in s125 (102 : Int)) fun y141 =>
    let b142 : Bool := (!y141.1)
    bif b142 then
     some (false, ())
    else
     let b143 : Bool := (!((ByteArray.toList d127.2.2.2.2.2.2.2.2.2.1) == (ByteArray.toList (ByteArray.mk (List.toArray ([] : List UInt8))))))
     bif b143 then
      obind (ref06_in s125 (100 : Int)) fun y144 =>
      let b145 : Bool := (!y144.1)
      bif b145 then
       some (false, ())
      else
       let b146 : Bool := (!((ByteArray.toList d127.2.2.2.2.2.2.2.2.2.2.1) == (ByteArray.toList (ByteArray.mk (List.toArray ([] : List UInt8))))))
       bif b146 then
        obind (ref06_in s125 (110 : Int)) fun y147 =>
        let b148 : Bool := (!y147.1)
        bif b148 then
         some (false, ())
        else
         let b149 : Bool := (!((ByteArray.toList d127.2.2.2.2.2.2.2.2.2.2.2.1) == (ByteArray.toList (ByteArray.mk (List.toArray ([] : List UInt8))))))
         bif b149 then
          obind (ref06_in s125 (116 : Int)) fun y150 =>
          let b151 : Bool := (!y150.1)
          bif b151 then
           some (false, ())
          else
           let n152 : Int := (((List.length d127.2.2.2.2.2.2.2.2.2.2.2.2.1) : Nat) : Int)
           let b153 : Bool := (decide (n152 > (0 : Int)))
           bif b153 then
            obind (ref06_in s125 (115 : Int)) fun y154 =>
            let b155 : Bool := (!y154.1)
            bif b155 then
             some (false, ())
            else
             ref06_May_3 d127
           else
            ref06_May_3 d127
         else
          let n156 : Int := (((List.length d127.2.2.2.2.2.2.2.2.2.2.2.2.1) : Nat) : Int)
          let b157 : Bool := (decide (n156 > (0 : Int)))
          bif b157 then
           obind (ref06_in s125 (115 : Int)) fun y158 =>
           let b159 : Bool := (!y158.1)
           bif b159 then
            some (false, ())
           else
            ref06_May_3 d127
          else
           ref06_May_3 d127
       else
        let b160 : Bool := (!((ByteArray.toList d127.2.2.2.2.2.2.2.2.2.2.2.1) == (ByteArray.toList (ByteArray.mk (List.toArray ([] : List UInt8))))))
        bif b160 then
         obind (ref06_in s125 (116 : Int)) fun y161 =>
         let b162 : Bool := (!y161.1)
         bif b162 then
          some (false, ())
         else
          let n163 : Int := (((List.length d127.2.2.2.2.2.2.2.2.2.2.2.2.1) : Nat) : Int)
          let b164 : Bool := (decide (n163 > (0 : Int)))
          bif b164 then
           obind (ref06_in s125 (115 : Int)) fun y165 =>
           let b166 : Bool := (!y165.1)
           bif b166 then
            some (false, ())
           else
            ref06_May_3 d127
          else
           ref06_May_3 d127
        else
         let n167 : Int := (((List.length d127.2.2.2.2.2.2.2.2.2.2.2.2.1) : Nat) : Int)
         let b168 : Bool := (decide (n167 > (0 : Int)))
         bif b168 then
          obind (ref06_in s125 (115 : Int)) fun y169 =>
          let b170 : Bool := (!y169.1)
          bif b170 then
           some (false, ())
          else
           ref06_May_3 d127
         else
          ref06_May_3 d127
     else
      let b171 : Bool := (!((ByteArray.toList d127.2.2.2.2.2.2.2.2.2.2.1) == (ByteArray.toList (ByteArray.mk (List.toArray ([] : List UInt8))))))
      bif b171 then
       obind (ref06_in s125 (110 : Int)) fun y172 =>
       let b173 : Bool := (!y172.1)
       bif b173 then
        some (false, ())
       else
        let b174 : Bool := (!((ByteArray.toList d127.2.2.2.2.2.2.2.2.2.2.2.1) == (ByteArray.toList (ByteArray.mk (List.toArray ([] : List UInt8))))))
        bif b174 then
         obind (ref06_in s125 (116 : Int)) fun y175 =>
         let b176 : Bool := (!y175.1)
         bif b176 then
          some (false, ())
         else
          let n177 : Int := (((List.length d127.2.2.2.2.2.2.2.2.2.2.2.2.1) : Nat) : Int)
          let b178 : Bool := (decide (n177 > (0 : Int)))
          bif b178 then
           obind (ref06_in s125 (115 : Int)) fun y179 =>
           let b180 : Bool := (!y179.1)
           bif b180 then
            some (false, ())
           else
            ref06_May_3 d127
          else
           ref06_May_3 d127
        else
         let n181 : Int := (((List.length d127.2.2.2.2.2.2.2.2.2.2.2.2.1) : Nat) : Int)
         let b182 : Bool := (decide (n181 > (0 : Int)))
         bif b182 then
          obind (ref06_in s125 (115 : Int)) fun y183 =>
          let b184 : Bool := (!y183.1)
          bif b184 then
           some (false, ())
          else
           ref06_May_3 d127
         else
          ref06_May_3 d127
      else
       let b185 : Bool := (!((ByteArray.toList d127.2.2.2.2.2.2.2.2.2.2.2.1) == (ByteArray.toList (ByteArray.mk (List.toArray ([] : List UInt8))))))
       bif b185 then
        obind (ref06_in s125 (116 : Int)) fun y186 =>
        let b187 : Bool := (!y186.1)
        bif b187 then
         some (false, ())
        else
         let n188 : Int := (((List.length d127.2.2.2.2.2.2.2.2.2.2.2.2.1) : Nat) : Int)
         let b189 : Bool := (decide (n188 > (0 : Int)))
         bif b189 then
          obind (ref06_in s125 (115 : Int)) fun y190 =>
          let b191 : Bool := (!y190.1)
          bif b191 then
           some (false, ())
          else
           ref06_May_3 d127
         else
          ref06_May_3 d127
       else
        let n192 : Int := (((List.length d127.2.2.2.2.2.2.2.2.2.2.2.2.1) : Nat) : Int)
        let b193 : Bool := (decide (n192 > (0 : Int)))
        bif b193 then
         obind (ref06_in s125 (115 : Int)) fun y194 =>
         let b195 : Bool := (!y194.1)
         bif b195 then
          some (false, ())
         else
          ref06_May_3 d127
        else
         ref06_May_3 d127
   else
    let b196 : Bool := (!((ByteArray.toList d127.2.2.2.2.2.2.2.2.2.1) == (ByteArray.toList (ByteArray.mk (List.toArray ([] : List UInt8))))))
    bif b196 then
     obind (ref06_in s125 (100 : Int)) fun y197 =>
     let b198 : Bool := (!y197.1)
     bif b198 then
      some (false, ())
     else
      let b199 : Bool := (!((ByteArray.toList d127.2.2.2.2.2.2.2.2.2.2.1) == (ByteArray.toList (ByteArray.mk (List.toArray ([] : List UInt8))))))
      bif b199 then
       obind (ref06_in s125 (110 : Int)) fun y200 =>
       let b201 : Bool := (!y200.1)
       bif b201 then
        some (false, ())
       else
        let b202 : Bool := (!((ByteArray.toList d127.2.2.2.2.2.2.2.2.2.2.2.1) == (ByteArray.toList (ByteArray.mk (List.toArray ([] : List UInt8))))))
        bif b202 then
         obind (ref06_in s125 (116 : Int)) fun y203 =>
         let b204 : Bool := (!y203.1)
         bif b204 then
          some (false, ())
         else
          let n205 : Int := (((List.length d127.2.2.2.2.2.2.2.2.2.2.2.2.1) : Nat) : Int)
          let b206 : Bool := (decide (n205 > (0 : Int)))
          bif b206 then
           obind (ref06_in s125 (115 : Int)) fun y207 =>
           let b208 : Bool := (!y207.1)
           bif b208 then
            some (false, ())
           else
            ref06_May_3 d127
          else
           ref06_May_3 d127
        else
         let n209 : Int := (((List.length d127.2.2.2.2.2.2.2.2.2.2.2.2.1) : Nat) : Int)
         let b210 : Bool := (decide (n209 > (0 : Int)))
         bif b210 then
          obind (ref06_in s125 (115 : Int)) fun y211 =>
          let b212 : Bool := (!y211.1)
          bif b212 then
           some (false, ())
          else
           ref06_May_3 d127
         else
          ref06_May_3 d127
      else
       let b213 : Bool := (!((ByteArray.toList d127.2.2.2.2.2.2.2.2.2.2.2.1) == (ByteArray.toList (ByteArray.mk (List.toArray ([] : List UInt8))))))
       bif b213 then
        obind (ref06_in s125 (116 : Int)) fun y214 =>
        let b215 : Bool := (!y214.1)
        bif b215 then
         some (false, ())
        else
         let n216 : Int := (((List.length d127.2.2.2.2.2.2.2.2.2.2.2.2.1) : Nat) : Int)
         let b217 : Bool := (decide (n216 > (0 : Int)))
         bif b217 then
          obind (ref06_in s125 (115 : Int)) fun y218 =>
          let b219 : Bool := (!y218.1)
          bif b219 then
           some (false, ())
          else
           ref06_May_3 d127
         else
          ref06_May_3 d127
       else
        let n220 : Int := (((List.length d127.2.2.2.2.2.2.2.2.2.2.2.2.1) : Nat) : Int)
        let b221 : Bool := (decide (n220 > (0 : Int)))
        bif b221 then
         obind (ref06_in s125 (115 : Int)) fun y222 =>
         let b223 : Bool := (!y222.1)
         bif b223 then
          some (false, ())
         else
          ref06_May_3 d127
        else
         ref06_May_3 d127
    else
     let b224 : Bool := (!((ByteArray.toList d127.2.2.2.2.2.2.2.2.2.2.1) == (ByteArray.toList (ByteArray.mk (List.toArray ([] : List UInt8))))))
     bif b224 then
      obind (ref06_in s125 (110 : Int)) fun y225 =>
      let b226 : Bool := (!y225.1)
      bif b226 then
       some (false, ())
      else
       let b227 : Bool := (!((ByteArray.toList d127.2.2.2.2.2.2.2.2.2.2.2.1) == (ByteArray.toList (ByteArray.mk (List.toArray ([] : List UInt8))))))
       bif b227 then
        obind (ref06_in s125 (116 : Int)) fun y228 =>
        let b229 : Bool := (!y228.1)
        bif b229 then
         some (false, ())
        else
         let n230 : Int := (((List.length d127.2.2.2.2.2.2.2.2.2.2.2.2.1) : Nat) : Int)
         let b231 : Bool := (decide (n230 > (0 : Int)))
         bif b231 then
          obind (ref06_in s125 (115 : Int)) fun y232 =>
          let b233 : Bool := (!y232.1)
          bif b233 then
           some (false, ())
          else
           ref06_May_3 d127
         else
          ref06_May_3 d127
       else
        let n234 : Int := (((List.length d127.2.2.2.2.2.2.2.2.2.2.2.2.1) : Nat) : Int)
        let b235 : Bool := (decide (n234 > (0 : Int)))
        bif b235 then
         obind (ref06_in s125 (115 : Int)) fun y236 =>
         let b237 : Bool := (!y236.1)
         bif b237 then
          some (false, ())
         else
          ref06_May_3 d127
        else
         ref06_May_3 d127
     else
      let b238 : Bool := (!((ByteArray.toList d127.2.2.2.2.2.2.2.2.2.2.2.1) == (ByteArray.toList (ByteArray.mk (List.toArray ([] : List UInt8))))))
      bif b238 then
       obind (ref06_in s125 (116 : Int)) fun y239 =>
       let b240 : Bool := (!y239.1)
       bif b240 then
        some (false, ())
       else
        let n241 : Int := (((List.length d127.2.2.2.2.2.2.2.2.2.2.2.2.1) : Nat) : Int)
        let b242 : Bool := (decide (n241 > (0 : Int)))
        bif b242 then
         obind (ref06_in s125 (115 : Int)) fun y243 =>
         let b244 : Bool := (!y243.1)
         bif b244 then
          some (false, ())
         else
          ref06_May_3 d127
        else
         ref06_May_3 d127
      else
       let n245 : Int := (((List.length d127.2.2.2.2.2.2.2.2.2.2.2.2.1) : Nat) : Int)
       let b246 : Bool := (decide (n245 > (0 : Int)))
       bif b246 then
        obind (ref06_in s125 (115 : Int)) fun y247 =>
        let b248 : Bool := (!y247.1)
        bif b248 then
         some (false, ())
        else
         ref06_May_3 d127
       else
        ref06_May_3 d127
noncomputable def ref06_May_0 : Nat → ByteArray → Int → D_frame_Frame → (List Int) → Option (Bool × Unit)
 | 0 => fun _ _ _ _ => none
 | m + 1 => t_ref06_May_0 (ref06_May_0 m)
noncomputable def b_ref06_May_0' (s125 : ByteArray) (i126 : Int) (d127 : D_frame_Frame) (l128 : (List Int)) : Option (Bool × Unit) := ref06_May_0 (Int.toNat ((((List.length l128) : Nat) : Int) - i126) + 2) s125 i126 d127 l128
theorem ex_ref06_May_0' : ∃ f, f = @b_ref06_May_0' := ⟨_, rfl⟩
noncomputable def ref06_May_0' := Classical.choose ex_ref06_May_0'
theorem ref06_May_0'_eq : @ref06_May_0' = @b_ref06_May_0' := Classical.choose_spec ex_ref06_May_0'
theorem s_ref06_May_0 {base S0 cs0} (hfin : H_ref06_May base S0) : ∀ m, J_ref06_May base S0 cs0 p_ref06_May_0 (u_ref06_May_0 (ref06_May_0 m)) :=
 JSound.loop' hfin.2 ks_ref06_May 100000 u_ref06_May_0 (fun k0 => x_ref06_May_2 k0) (fun k0 h0 => o_ref06_May_2 hfin k0 h0) (ref06_May_0) (by intro x; rfl) (by intro m x; kernel_rfl)
theorem s_ref06_May_0' {base S0 cs0} (hfin : H_ref06_May base S0) : J_ref06_May base S0 cs0 p_ref06_May_0 (u_ref06_May_0 (ref06_May_0')) := by
 rw [ref06_May_0'_eq]; exact fun x r hx => s_ref06_May_0 hfin _ x r hx
noncomputable def x_ref06_May_0 : Cfg → Option (Option (Bool × Unit)) := cut p_ref06_May_0 (u_ref06_May_0 (ref06_May_0')) (x_ref06_May_3)
theorem o_ref06_May_0 {base S0 cs0} (hfin : H_ref06_May base S0) : O_ref06_May base S0 cs0 (x_ref06_May_0) := OSound.cut (o_ref06_May_3 hfin) (Nat.le_of_eq hfin.1) (s_ref06_May_0' hfin)
noncomputable def b_ref06_May (a0 : D_frame_Frame) : Option (Bool × Unit) :=
 obind (ref06_shape a0.1) fun y1 =>
 ref06_May_0' y1.1 (0 : Int) a0 (a0.2.1 :: (a0.2.2.1 :: (a0.2.2.2.1 :: (a0.2.2.2.2.1 :: (a0.2.2.2.2.2.1 :: (a0.2.2.2.2.2.2.1 :: (a0.2.2.2.2.2.2.2.1 :: ([] : List Int))))))))
theorem ex_ref06_May : ∃ f, f = @b_ref06_May := ⟨_, rfl⟩
noncomputable def ref06_May := Classical.choose ex_ref06_May
theorem ref06_May_eq : @ref06_May = @b_ref06_May := Classical.choose_spec ex_ref06_May
noncomputable def cb_ref06_May : Con := ⟨[T_frame_Frame], r_ref06_May, fun x => b_ref06_May x.1⟩
noncomputable def c_ref06_May : Con := ⟨[T_frame_Frame], r_ref06_May, fun x => ref06_May x.1⟩
theorem cb_ref06_May_ok : cb_ref06_May.Sound prog Inv gInv 35 :=
 con_run (M := m_ref06_May) inv_g (f := f35) rfl ks_ref06_May 100000 (X := x_ref06_May_0) (fun base S0 cs0 hn hf => have hfin : H_ref06_May base S0 := ⟨hn, hf⟩; o_ref06_May_0 hfin) (by intro x; kernel_rfl)
theorem c_ref06_May_ok : c_ref06_May.Sound prog Inv gInv 35 := by
 have e : c_ref06_May = cb_ref06_May := by unfold c_ref06_May cb_ref06_May; rw [ref06_May_eq]
 rw [e]; exact cb_ref06_May_ok
noncomputable def m_ref01_power : Mach prog Inv gInv := mach bas [(130, f130)] ⟨ok130, trivial⟩ [] trivial [] trivial [] trivial
/-! ### domino/dominoref01.power -/
@[reducible] def r_ref01_power : List Ty := [(.int .u64)]
def ks_ref01_power : List Nat := [130]
abbrev H_ref01_power (base : Base) (S0 : Nat → Prop) := base.n = 0 ∧ FinOk (finR r_ref01_power) base S0 (Post r_ref01_power S0)
abbrev J_ref01_power (base : Base) (S0 : Nat → Prop) (cs0 : List Go.Frame) (p : CPat) (J : denC p → Option (denL r_ref01_power)) := JSound m_ref01_power base S0 cs0 (Post r_ref01_power S0) p J
abbrev O_ref01_power (base : Base) (S0 : Nat → Prop) (cs0 : List Go.Frame) (X : Cfg → Option (Option (denL r_ref01_power))) := OSound m_ref01_power base S0 cs0 (Post r_ref01_power S0) X
@[reducible] noncomputable def p_ref01_power_0 : CPat := ⟨⟨130, [1, 1, 0, 1, 0], none, [.int .i64, .any, .any, .int .u64, .int .i64], 8⟩, [], [], 0⟩
@[reducible] noncomputable def u_ref01_power_0 (k : Int → Int → Int → Option (Int × Unit)) : denC p_ref01_power_0 → Option (Int × Unit) := fun x => k x.1.1 x.1.2.2.2.1 x.1.2.2.2.2.1
noncomputable def t_ref01_power_0 (k0 : Int → Int → Int → Option (Int × Unit)) (i3 : Int) (i4 : Int) (i5 : Int) : Option (Int × Unit) :=
 let b6 : Bool := (decide (i5 < i3))
 bif b6 then
  let n7 : Int := (Go.IntKind.wrap Go.IntKind.u64 (i4 * (2 : Int)))
  let n8 : Int := (Go.IntKind.wrap Go.IntKind.i64 (i5 + (1 : Int)))
  k0 i3 n7 n8
 else
  some (i4, ())
noncomputable def ref01_power_0 : Nat → Int → Int → Int → Option (Int × Unit)
 | 0 => fun _ _ _ => none
 | m + 1 => t_ref01_power_0 (ref01_power_0 m)
noncomputable def b_ref01_power_0' (i3 : Int) (i4 : Int) (i5 : Int) : Option (Int × Unit) := ref01_power_0 (Int.toNat (i3 - i5) + 2) i3 i4 i5
theorem ex_ref01_power_0' : ∃ f, f = @b_ref01_power_0' := ⟨_, rfl⟩
noncomputable def ref01_power_0' := Classical.choose ex_ref01_power_0'
theorem ref01_power_0'_eq : @ref01_power_0' = @b_ref01_power_0' := Classical.choose_spec ex_ref01_power_0'
theorem s_ref01_power_0 {base S0 cs0} (hfin : H_ref01_power base S0) : ∀ m, J_ref01_power base S0 cs0 p_ref01_power_0 (u_ref01_power_0 (ref01_power_0 m)) :=
 JSound.loop' hfin.2 ks_ref01_power 100000 u_ref01_power_0 (fun k0 => cut p_ref01_power_0 (u_ref01_power_0 k0) (nowhere)) (fun k0 h0 => OSound.cut (OSound.nowhere) (Nat.le_of_eq hfin.1) h0) (ref01_power_0) (by intro x; rfl) (by intro m x; kernel_rfl)
theorem s_ref01_power_0' {base S0 cs0} (hfin : H_ref01_power base S0) : J_ref01_power base S0 cs0 p_ref01_power_0 (u_ref01_power_0 (ref01_power_0')) := by
 rw [ref01_power_0'_eq]; exact fun x r hx => s_ref01_power_0 hfin _ x r hx
noncomputable def x_ref01_power_0 : Cfg → Option (Option (Int × Unit)) := cut p_ref01_power_0 (u_ref01_power_0 (ref01_power_0')) (nowhere)
theorem o_ref01_power_0 {base S0 cs0} (hfin : H_ref01_power base S0) : O_ref01_power base S0 cs0 (x_ref01_power_0) := OSound.cut (OSound.nowhere) (Nat.le_of_eq hfin.1) (s_ref01_power_0' hfin)
noncomputable def b_ref01_power (a0 : Int) : Option (Int × Unit) :=
 ref01_power_0' a0 (1 : Int) (0 : Int)
theorem ex_ref01_power : ∃ f, f = @b_ref01_power := ⟨_, rfl⟩
noncomputable def ref01_power := Classical.choose ex_ref01_power
theorem ref01_power_eq : @ref01_power = @b_ref01_power := Classical.choose_spec ex_ref01_power
noncomputable def cb_ref01_power : Con := ⟨[(.int .i64)], r_ref01_power, fun x => b_ref01_power x.1⟩
noncomputable def c_ref01_power : Con := ⟨[(.int .i64)], r_ref01_power, fun x => ref01_power x.1⟩
theorem cb_ref01_power_ok : cb_ref01_power.Sound prog Inv gInv 130 :=
 con_run (M := m_ref01_power) inv_g (f := f130) rfl ks_ref01_power 100000 (X := x_ref01_power_0) (fun base S0 cs0 hn hf => have hfin : H_ref01_power base S0 := ⟨hn, hf⟩; o_ref01_power_0 hfin) (by intro x; kernel_rfl)
theorem c_ref01_power_ok : c_ref01_power.Sound prog Inv gInv 130 := by
 have e : c_ref01_power = cb_ref01_power := by unfold c_ref01_power cb_ref01_power; rw [ref01_power_eq]
 rw [e]; exact cb_ref01_power_ok
noncomputable def m_ref01_Size : Mach prog Inv gInv := mach bas [(93, f93)] ⟨ok93, trivial⟩ [(130, c_ref01_power)] ⟨⟨c_ref01_power_ok, FnOk.callable ok130⟩, trivial⟩ [] trivial [] trivial
/-! ### domino/dominoref01.Size -/
@[reducible] def r_ref01_Size : List Ty := [(.int .i64)]
def ks_ref01_Size : List Nat := [93]
noncomputable def b_ref01_Size (a0 : Int) : Option (Int × Unit) :=
 obind (ref01_power (6 : Int)) fun y1 =>
 let b2 : Bool := (decide (a0 < y1.1))
 bif b2 then
  some ((1 : Int), ())
 else
  obind (ref01_power (14 : Int)) fun y3 =>
  let b4 : Bool := (decide (a0 < y3.1))
  bif b4 then
   some ((2 : Int), ())
  else
   obind (ref01_power (30 : Int)) fun y5 =>
   let b6 : Bool := (decide (a0 < y5.1))
   bif b6 then
    some ((4 : Int), ())
   else
    obind (ref01_power (62 : Int)) fun y7 =>
    let b8 : Bool := (decide (a0 < y7.1))
    bif b8 then
     some ((8 : Int), ())
    else
     some ((0 : Int), ())
theorem ex_ref01_Size : ∃ f, f = @b_ref01_Size := ⟨_, rfl⟩
noncomputable def ref01_Size := Classical.choose ex_ref01_Size
theorem ref01_Size_eq : @ref01_Size = @b_ref01_Size := Classical.choose_spec ex_ref01_Size
noncomputable def cb_ref01_Size : Con := ⟨[(.int .u64)], r_ref01_Size, fun x => b_ref01_Size x.1⟩
noncomputable def c_ref01_Size : Con := ⟨[(.int .u64)], r_ref01_Size, fun x => ref01_Size x.1⟩
theorem cb_ref01_Size_ok : cb_ref01_Size.Sound prog Inv gInv 93 :=
 con_run (M := m_ref01_Size) inv_g (f := f93) rfl ks_ref01_Size 100000 (X := nowhere) (fun base S0 cs0 hn hf => OSound.nowhere) (by intro x; kernel_rfl)
theorem c_ref01_Size_ok : c_ref01_Size.Sound prog Inv gInv 93 := by
 have e : c_ref01_Size = cb_ref01_Size := by unfold c_ref01_Size cb_ref01_Size; rw [ref01_Size_eq]
 rw [e]; exact cb_ref01_Size_ok
/-! ### domino/dominoref01.Fixed -/
/-! ### domino/dominoref01.Put -/
/-! ### domino/dominoref06.v -/
/-! ### domino/dominoref06.ack -/
/-! ### domino/dominoref06.text -/
/-! ### domino/dominoref06.Put -/
end Go.Proofs.YtjdjlijjolibkaaDoor.V
namespace Go.Proofs.YtjdjlijjolibkaaDoor.V
open Go.RowKit
set_option linter.unusedVariables false
theorem in_loop (s : ByteArray) (x : Int) : ∀ (suf pre : List Int) (m : Nat), suf.length < m → strBytes s = pre ++ suf → s.size ≤ 9223372036854775807 →
  ref06_in_0 m s x ((pre.length : Nat) : Int) = some (decide (x ∈ suf), ()) := by
 intro suf
 induction suf with
 | nil =>
  intro pre m hm hs hl
  obtain ⟨m, rfl⟩ : ∃ k, m = k + 1 := ⟨m - 1, by omega⟩
  have hsz : s.size = pre.length := by rw [← strBytes_len, hs]; simp
  have c : ¬ ((pre.length : Nat) : Int) < ((s.size : Nat) : Int) := by omega
  simp only [ref06_in_0, t_ref06_in_0, c, decide_false, cond_false, List.not_mem_nil]
 | cons y suf ih =>
  intro pre m hm hs hl
  obtain ⟨m, rfl⟩ : ∃ k, m = k + 1 := ⟨m - 1, by omega⟩
  have hsz : s.size = pre.length + 1 + suf.length := by rw [← strBytes_len, hs]; simp; omega
  have c : ((pre.length : Nat) : Int) < ((s.size : Nat) : Int) := by omega
  have e : byteAt s ((pre.length : Nat) : Int) = y := by rw [byteAt_is, hs, Int.toNat_natCast, getD_mid]
  have w : IntKind.wrap .i64 (((pre.length : Nat) : Int) + 1) = (((pre ++ [y]).length : Nat) : Int) := by rw [wrap_i64 _ (by omega) (by omega)]; simp
  simp only [ref06_in_0, t_ref06_in_0, c, nn, and_self, decide_true, cond_true, e]
  by_cases h : y = x
  · subst h; simp
  ·
   have h' : ¬ x = y := fun e => h e.symm
   simp only [beq_false_of_ne h, cond_false, w]
   rw [ih (pre ++ [y]) m (by simp at hm; omega) (by rw [hs]; simp) hl]
   simp [h']
theorem in_is (s : ByteArray) (x : Int) (hl : s.size ≤ 9223372036854775807) : ref06_in s x = some (decide (x ∈ strBytes s), ()) := by
 rw [ref06_in_eq, b_ref06_in, ref06_in_0'_eq, b_ref06_in_0']
 exact in_loop s x (strBytes s) [] _ (by rw [strBytes_len]; omega) rfl hl
def shapeL (k : Int) : List Int :=
 if k = 0 ∨ k = 1 ∨ k = 30 then [45] else if k = 2 then [101, 115] else if k = 4 then [105, 99, 109] else if k = 5 then [105, 99] else if k = 6 then [111, 100] else if k = 8 then [105, 111, 102, 100]
 else if k = 16 ∨ k = 18 ∨ k = 19 ∨ k = 20 ∨ k = 22 ∨ k = 23 then [109] else if k = 17 ∨ k = 21 then [105, 109] else if k = 24 then [113, 112, 110, 116] else if k = 25 then [113] else if k = 26 ∨ k = 27 then [116]
 else if k = 28 then [99, 101, 100] else if k = 29 then [99, 100] else []
theorem shape_is (k : Int) : ref06_shape k = some (bytesStr (shapeL k), ()) := by
 rw [ref06_shape_eq, b_ref06_shape]
 simp only [ref06_shape_0_eq, b_ref06_shape_0, ref06_shape_1_eq, b_ref06_shape_1, ref06_shape_2_eq, b_ref06_shape_2, ref06_shape_3_eq, b_ref06_shape_3]
 cases h : kindB k with
 | true =>
  rcases kinds h with rfl | rfl | rfl | rfl | rfl | rfl | rfl | rfl | rfl | rfl | rfl | rfl | rfl | rfl | rfl | rfl | rfl | rfl | rfl | rfl | rfl | rfl <;> rfl
 | false =>
  obtain ⟨h0, h1, h2, h4, h5, h6, h8, h16, h17, h18, h19, h20, h21, h22, h23, h24, h25, h26, h27, h28, h29, h30⟩ := nokind h
  simp only [beq_false_of_ne h0, beq_false_of_ne h1, beq_false_of_ne h2, beq_false_of_ne h4, beq_false_of_ne h5, beq_false_of_ne h6, beq_false_of_ne h8, beq_false_of_ne h16, beq_false_of_ne h17, beq_false_of_ne h18, beq_false_of_ne h19,
   beq_false_of_ne h20, beq_false_of_ne h21, beq_false_of_ne h22, beq_false_of_ne h23, beq_false_of_ne h24, beq_false_of_ne h25, beq_false_of_ne h26, beq_false_of_ne h27, beq_false_of_ne h28, beq_false_of_ne h29, beq_false_of_ne h30, cond_false,
   shapeL, h0, h1, h2, h4, h5, h6, h8, h16, h17, h18, h19, h20, h21, h22, h23, h24, h25, h26, h27, h28, h29, h30, or_self, if_false]
  rfl
theorem power_loop (k : Nat) (hk : k < 64) : ∀ (j i m : Nat), j < m → i + j = k → ref01_power_0 m ((k : Nat) : Int) (2 ^ i) ((i : Nat) : Int) = some (2 ^ k, ()) := by
 intro j
 induction j with
 | zero =>
  intro i m hm e
  obtain ⟨m, rfl⟩ : ∃ k, m = k + 1 := ⟨m - 1, by omega⟩
  obtain rfl : i = k := by omega
  simp only [ref01_power_0, t_ref01_power_0, Int.lt_irrefl, decide_false, cond_false]
 | succ j ih =>
  intro i m hm e
  obtain ⟨m, rfl⟩ : ∃ k, m = k + 1 := ⟨m - 1, by omega⟩
  have c : ((i : Nat) : Int) < ((k : Nat) : Int) := by omega
  have w1 : IntKind.wrap .u64 (2 ^ i * 2) = 2 ^ (i + 1) := by
   have h : ∀ i : _root_.Fin 63, IntKind.wrap .u64 ((2 : Int) ^ i.val * 2) = 2 ^ (i.val + 1) := by decide
   exact h ⟨i, by omega⟩
  have w2 : IntKind.wrap .i64 (((i : Nat) : Int) + 1) = ((i + 1 : Nat) : Int) := by rw [wrap_i64 _ (by omega) (by omega)]; omega
  simp only [ref01_power_0, t_ref01_power_0, c, decide_true, cond_true, w1, w2]
  exact ih (i + 1) m (by omega) (by omega)
theorem power_is (k : Nat) (hk : k < 64) : ref01_power ((k : Nat) : Int) = some (2 ^ k, ()) := by
 rw [ref01_power_eq, b_ref01_power, ref01_power_0'_eq, b_ref01_power_0']
 exact power_loop k hk k 0 _ (by omega) (by omega)
theorem size6_is (x : Int) : ref01_Size x = some (if x < 64 then 1 else if x < 16384 then 2 else if x < 1073741824 then 4 else if x < 4611686018427387904 then 8 else 0, ()) := by
 rw [ref01_Size_eq, b_ref01_Size]
 have p1 : ref01_power 6 = some (64, ()) := power_is 6 (by omega)
 have p2 : ref01_power 14 = some (16384, ()) := power_is 14 (by omega)
 have p3 : ref01_power 30 = some (1073741824, ()) := power_is 30 (by omega)
 have p4 : ref01_power 62 = some (4611686018427387904, ()) := power_is 62 (by omega)
 rw [p1, p2, p3, p4]
 simp only [obind_some]
 by_cases c1 : x < 64
 · simp only [c1, decide_true, cond_true, if_true]
 ·
  by_cases c2 : x < 16384
  · simp only [c1, c2, decide_true, decide_false, cond_true, cond_false, if_true, if_false]
  ·
   by_cases c3 : x < 1073741824
   · simp only [c1, c2, c3, decide_true, decide_false, cond_true, cond_false, if_true, if_false]
   ·
    by_cases c4 : x < 4611686018427387904
    · simp only [c1, c2, c3, c4, decide_true, decide_false, cond_true, cond_false, if_true, if_false]
    · simp only [c1, c2, c3, c4, decide_false, cond_false, if_false]
end Go.Proofs.YtjdjlijjolibkaaDoor.V
namespace Go.Proofs.YtjdjlijjolibkaaDoor.V
open Go.RowKit Go.Proofs.Tryd
set_option maxRecDepth 100000
set_option linter.unusedVariables false
noncomputable def m_ref01_Back : Mach prog Inv gInv := mach bas [(151, f151)] ⟨ok151, trivial⟩ [] trivial [] trivial [] trivial
/-! ### domino/dominoref01.Back -/
@[reducible] def r_ref01_Back : List Ty := [(.int .u64)]
def ks_ref01_Back : List Nat := [151]
abbrev H_ref01_Back (base : Base) (S0 : Nat → Prop) := base.n = 0 ∧ FinOk (finR r_ref01_Back) base S0 (Post r_ref01_Back S0)
abbrev J_ref01_Back (base : Base) (S0 : Nat → Prop) (cs0 : List Go.Frame) (p : CPat) (J : denC p → Option (denL r_ref01_Back)) := JSound m_ref01_Back base S0 cs0 (Post r_ref01_Back S0) p J
abbrev O_ref01_Back (base : Base) (S0 : Nat → Prop) (cs0 : List Go.Frame) (X : Cfg → Option (Option (denL r_ref01_Back))) := OSound m_ref01_Back base S0 cs0 (Post r_ref01_Back S0) X
@[reducible] noncomputable def p_ref01_Back_0 : CPat := ⟨⟨151, [1, 1, 0, 1, 0], none, [.str, .any, .any, .int .u64, .int .i64], 14⟩, [], [], 0⟩
@[reducible] noncomputable def u_ref01_Back_0 (k : ByteArray → Int → Int → Option (Int × Unit)) : denC p_ref01_Back_0 → Option (Int × Unit) := fun x => k x.1.1 x.1.2.2.2.1 x.1.2.2.2.2.1
noncomputable def t_ref01_Back_0 (k0 : ByteArray → Int → Int → Option (Int × Unit)) (s7 : ByteArray) (i8 : Int) (i9 : Int) : Option (Int × Unit) :=
 let n10 : Int := (((ByteArray.size s7) : Nat) : Int)
 let b11 : Bool := (decide (i9 < n10))
 bif b11 then
  let n12 : Int := (Go.IntKind.wrap Go.IntKind.u64 (i8 * (256 : Int)))
  bif (decide (((0 : Int) ≤ i9) ∧ (i9 < (((ByteArray.size s7) : Nat) : Int)))) then
   let n13 : Int := (byteAt s7 i9)
   let n14 : Int := (Go.IntKind.wrap Go.IntKind.u64 n13)
   let n15 : Int := (Go.IntKind.wrap Go.IntKind.u64 (n12 + n14))
   let n16 : Int := (Go.IntKind.wrap Go.IntKind.i64 (i9 + (1 : Int)))
   k0 s7 n15 n16
  else none
 else
  some (i8, ())
noncomputable def ref01_Back_0 : Nat → ByteArray → Int → Int → Option (Int × Unit)
 | 0 => fun _ _ _ => none
 | m + 1 => t_ref01_Back_0 (ref01_Back_0 m)
noncomputable def b_ref01_Back_0' (s7 : ByteArray) (i8 : Int) (i9 : Int) : Option (Int × Unit) := ref01_Back_0 (Int.toNat ((((ByteArray.size s7) : Nat) : Int) - i9) + 2) s7 i8 i9
theorem ex_ref01_Back_0' : ∃ f, f = @b_ref01_Back_0' := ⟨_, rfl⟩
noncomputable def ref01_Back_0' := Classical.choose ex_ref01_Back_0'
theorem ref01_Back_0'_eq : @ref01_Back_0' = @b_ref01_Back_0' := Classical.choose_spec ex_ref01_Back_0'
theorem s_ref01_Back_0 {base S0 cs0} (hfin : H_ref01_Back base S0) : ∀ m, J_ref01_Back base S0 cs0 p_ref01_Back_0 (u_ref01_Back_0 (ref01_Back_0 m)) :=
 JSound.loop' hfin.2 ks_ref01_Back 100000 u_ref01_Back_0 (fun k0 => cut p_ref01_Back_0 (u_ref01_Back_0 k0) (nowhere)) (fun k0 h0 => OSound.cut (OSound.nowhere) (Nat.le_of_eq hfin.1) h0) (ref01_Back_0) (by intro x; rfl) (by intro m x; kernel_rfl)
theorem s_ref01_Back_0' {base S0 cs0} (hfin : H_ref01_Back base S0) : J_ref01_Back base S0 cs0 p_ref01_Back_0 (u_ref01_Back_0 (ref01_Back_0')) := by
 rw [ref01_Back_0'_eq]; exact fun x r hx => s_ref01_Back_0 hfin _ x r hx
noncomputable def x_ref01_Back_0 : Cfg → Option (Option (Int × Unit)) := cut p_ref01_Back_0 (u_ref01_Back_0 (ref01_Back_0')) (nowhere)
theorem o_ref01_Back_0 {base S0 cs0} (hfin : H_ref01_Back base S0) : O_ref01_Back base S0 cs0 (x_ref01_Back_0) := OSound.cut (OSound.nowhere) (Nat.le_of_eq hfin.1) (s_ref01_Back_0' hfin)
noncomputable def b_ref01_Back (a0 : ByteArray) : Option (Int × Unit) :=
 ref01_Back_0' a0 (0 : Int) (0 : Int)
theorem ex_ref01_Back : ∃ f, f = @b_ref01_Back := ⟨_, rfl⟩
noncomputable def ref01_Back := Classical.choose ex_ref01_Back
theorem ref01_Back_eq : @ref01_Back = @b_ref01_Back := Classical.choose_spec ex_ref01_Back
noncomputable def cb_ref01_Back : Con := ⟨[.str], r_ref01_Back, fun x => b_ref01_Back x.1⟩
noncomputable def c_ref01_Back : Con := ⟨[.str], r_ref01_Back, fun x => ref01_Back x.1⟩
theorem cb_ref01_Back_ok : cb_ref01_Back.Sound prog Inv gInv 151 :=
 con_run (M := m_ref01_Back) inv_g (f := f151) rfl ks_ref01_Back 100000 (X := x_ref01_Back_0) (fun base S0 cs0 hn hf => have hfin : H_ref01_Back base S0 := ⟨hn, hf⟩; o_ref01_Back_0 hfin) (by intro x; kernel_rfl)
theorem c_ref01_Back_ok : c_ref01_Back.Sound prog Inv gInv 151 := by
 have e : c_ref01_Back = cb_ref01_Back := by unfold c_ref01_Back cb_ref01_Back; rw [ref01_Back_eq]
 rw [e]; exact cb_ref01_Back_ok
noncomputable def m_ref01_Get : Mach prog Inv gInv := mach bas [(129, f129)] ⟨ok129, trivial⟩ [(130, c_ref01_power), (151, c_ref01_Back)] ⟨⟨c_ref01_power_ok, FnOk.callable ok130⟩, ⟨c_ref01_Back_ok, FnOk.callable ok151⟩, trivial⟩ [] trivial [] trivial
/-! ### domino/dominoref01.Get -/
@[reducible] def r_ref01_Get : List Ty := [(.int .u64), .str, (.int .i64)]
def ks_ref01_Get : List Nat := [129]
noncomputable def b_ref01_Get (a0 : ByteArray) : Option (Int × ByteArray × Int × Unit) :=
 let s1 : ByteArray := (ByteArray.mk (List.toArray ([] : List UInt8)))
 let b2 : Bool := ((ByteArray.toList a0) == (ByteArray.toList (ByteArray.mk (List.toArray ([] : List UInt8)))))
 bif b2 then
  let s3 : ByteArray := (ByteArray.mk (List.toArray ([] : List UInt8)))
  some ((0 : Int), (s3, ((10 : Int), ())))
 else
  bif (decide (((0 : Int) ≤ (0 : Int)) ∧ ((0 : Int) < (((ByteArray.size a0) : Nat) : Int)))) then
   let n4 : Int := (byteAt a0 (0 : Int))
   let n5 : Int := (Go.IntKind.wrap Go.IntKind.u8 (Int.tdiv n4 (64 : Int)))
   let n6 : Int := (Go.IntKind.wrap Go.IntKind.i64 n5)
   obind (ref01_power n6) fun y7 =>
   let n8 : Int := (Go.IntKind.wrap Go.IntKind.i64 y7.1)
   let n9 : Int := (((ByteArray.size a0) : Nat) : Int)
   let b10 : Bool := (decide (n9 < n8))
   bif b10 then
    let s11 : ByteArray := (ByteArray.mk (List.toArray ([] : List UInt8)))
    some ((0 : Int), (s11, ((10 : Int), ())))
   else
    bif (decide (((0 : Int) ≤ (0 : Int)) ∧ (((0 : Int) ≤ n8) ∧ (n8 ≤ (((ByteArray.size a0) : Nat) : Int))))) then
     let s12 : ByteArray := (ByteArray.extract a0 0 (Int.toNat n8))
     obind (ref01_Back s12) fun y13 =>
     let n14 : Int := (Go.IntKind.wrap Go.IntKind.i64 ((8 : Int) * n8))
     let n15 : Int := (Go.IntKind.wrap Go.IntKind.i64 (n14 - (2 : Int)))
     obind (ref01_power n15) fun y16 =>
     bif (decide (y16.1 ≠ (0 : Int))) then
      let n17 : Int := (Int.tmod y13.1 y16.1)
      bif (decide (((0 : Int) ≤ n8) ∧ ((n8 ≤ (((ByteArray.size a0) : Nat) : Int)) ∧ ((((ByteArray.size a0) : Nat) : Int) ≤ (((ByteArray.size a0) : Nat) : Int))))) then
       let s18 : ByteArray := (ByteArray.extract a0 (Int.toNat n8) (Int.toNat (((ByteArray.size a0) : Nat) : Int)))
       some (n17, (s18, ((0 : Int), ())))
      else none
     else none
    else none
  else none
theorem ex_ref01_Get : ∃ f, f = @b_ref01_Get := ⟨_, rfl⟩
noncomputable def ref01_Get := Classical.choose ex_ref01_Get
theorem ref01_Get_eq : @ref01_Get = @b_ref01_Get := Classical.choose_spec ex_ref01_Get
noncomputable def cb_ref01_Get : Con := ⟨[.str], r_ref01_Get, fun x => b_ref01_Get x.1⟩
noncomputable def c_ref01_Get : Con := ⟨[.str], r_ref01_Get, fun x => ref01_Get x.1⟩
theorem cb_ref01_Get_ok : cb_ref01_Get.Sound prog Inv gInv 129 :=
 con_run (M := m_ref01_Get) inv_g (f := f129) rfl ks_ref01_Get 100000 (X := nowhere) (fun base S0 cs0 hn hf => OSound.nowhere) (by intro x; kernel_rfl)
theorem c_ref01_Get_ok : c_ref01_Get.Sound prog Inv gInv 129 := by
 have e : c_ref01_Get = cb_ref01_Get := by unfold c_ref01_Get cb_ref01_Get; rw [ref01_Get_eq]
 rw [e]; exact cb_ref01_Get_ok
noncomputable def m_ref01_Gets : Mach prog Inv gInv := mach bas [(152, f152)] ⟨ok152, trivial⟩ [(129, c_ref01_Get)] ⟨⟨c_ref01_Get_ok, FnOk.callable ok129⟩, trivial⟩ [] trivial [] trivial
/-! ### domino/dominoref01.Gets -/
@[reducible] def r_ref01_Gets : List Ty := [(.slice (.int .u64)), .str, (.int .i64)]
def ks_ref01_Gets : List Nat := [152]
abbrev H_ref01_Gets (base : Base) (S0 : Nat → Prop) := base.n = 0 ∧ FinOk (finR r_ref01_Gets) base S0 (Post r_ref01_Gets S0)
abbrev J_ref01_Gets (base : Base) (S0 : Nat → Prop) (cs0 : List Go.Frame) (p : CPat) (J : denC p → Option (denL r_ref01_Gets)) := JSound m_ref01_Gets base S0 cs0 (Post r_ref01_Gets S0) p J
abbrev O_ref01_Gets (base : Base) (S0 : Nat → Prop) (cs0 : List Go.Frame) (X : Cfg → Option (Option (denL r_ref01_Gets))) := OSound m_ref01_Gets base S0 cs0 (Post r_ref01_Gets S0) X
@[reducible] noncomputable def p_ref01_Gets_0 : CPat := ⟨⟨152, [1, 1, 0, 1, 0], none, [.str, .int .i64, .any, .any, .any, .any, .any, .all 0, .int .i64], 25⟩, [], [.row (.int .u64)], 0⟩
@[reducible] noncomputable def u_ref01_Gets_0 (k : ByteArray → Int → Int → (List Int) → Option ((List Int) × ByteArray × Int × Unit)) : denC p_ref01_Gets_0 → Option ((List Int) × ByteArray × Int × Unit) := fun x => k x.1.1 x.1.2.1 x.1.2.2.2.2.2.2.2.2.1 x.2.2.1
noncomputable def t_ref01_Gets_0 (k0 : ByteArray → Int → Int → (List Int) → Option ((List Int) × ByteArray × Int × Unit)) (s11 : ByteArray) (i12 : Int) (i13 : Int) (l14 : (List Int)) : Option ((List Int) × ByteArray × Int × Unit) :=
 let b15 : Bool := (decide (i13 < i12))
 bif b15 then
  obind (ref01_Get s11) fun y16 =>
  let b17 : Bool := (y16.2.2.1 != (0 : Int))
  bif b17 then
   let s18 : ByteArray := (ByteArray.mk (List.toArray ([] : List UInt8)))
   some (([] : List Int), (s18, y16.2.2))
  else
   bif (decide (((List.length l14) + (List.length (y16.1 :: ([] : List Int)))) ≤ 4294967296)) then
    let l19 : (List Int) := (l14 ++ (y16.1 :: ([] : List Int)))
    let n20 : Int := (Go.IntKind.wrap Go.IntKind.i64 (i13 + (1 : Int)))
    k0 y16.2.1 i12 n20 l19
   else none
 else
  some (l14, (s11, ((0 : Int), ())))
noncomputable def ref01_Gets_0 : Nat → ByteArray → Int → Int → (List Int) → Option ((List Int) × ByteArray × Int × Unit)
 | 0 => fun _ _ _ _ => none
 | m + 1 => t_ref01_Gets_0 (ref01_Gets_0 m)
noncomputable def b_ref01_Gets_0' (s11 : ByteArray) (i12 : Int) (i13 : Int) (l14 : (List Int)) : Option ((List Int) × ByteArray × Int × Unit) := ref01_Gets_0 (Int.toNat (i12 - i13) + 2) s11 i12 i13 l14
theorem ex_ref01_Gets_0' : ∃ f, f = @b_ref01_Gets_0' := ⟨_, rfl⟩
noncomputable def ref01_Gets_0' := Classical.choose ex_ref01_Gets_0'
theorem ref01_Gets_0'_eq : @ref01_Gets_0' = @b_ref01_Gets_0' := Classical.choose_spec ex_ref01_Gets_0'
theorem s_ref01_Gets_0 {base S0 cs0} (hfin : H_ref01_Gets base S0) : ∀ m, J_ref01_Gets base S0 cs0 p_ref01_Gets_0 (u_ref01_Gets_0 (ref01_Gets_0 m)) :=
 JSound.loop' hfin.2 ks_ref01_Gets 100000 u_ref01_Gets_0 (fun k0 => cut p_ref01_Gets_0 (u_ref01_Gets_0 k0) (nowhere)) (fun k0 h0 => OSound.cut (OSound.nowhere) (Nat.le_of_eq hfin.1) h0) (ref01_Gets_0) (by intro x; rfl) (by intro m x; kernel_rfl)
theorem s_ref01_Gets_0' {base S0 cs0} (hfin : H_ref01_Gets base S0) : J_ref01_Gets base S0 cs0 p_ref01_Gets_0 (u_ref01_Gets_0 (ref01_Gets_0')) := by
 rw [ref01_Gets_0'_eq]; exact fun x r hx => s_ref01_Gets_0 hfin _ x r hx
noncomputable def x_ref01_Gets_0 : Cfg → Option (Option ((List Int) × ByteArray × Int × Unit)) := cut p_ref01_Gets_0 (u_ref01_Gets_0 (ref01_Gets_0')) (nowhere)
theorem o_ref01_Gets_0 {base S0 cs0} (hfin : H_ref01_Gets base S0) : O_ref01_Gets base S0 cs0 (x_ref01_Gets_0) := OSound.cut (OSound.nowhere) (Nat.le_of_eq hfin.1) (s_ref01_Gets_0' hfin)
noncomputable def b_ref01_Gets (a0 : ByteArray) (a1 : Int) : Option ((List Int) × ByteArray × Int × Unit) :=
 let s2 : ByteArray := (ByteArray.mk (List.toArray ([] : List UInt8)))
 ref01_Gets_0' a0 a1 (0 : Int) ([] : List Int)
theorem ex_ref01_Gets : ∃ f, f = @b_ref01_Gets := ⟨_, rfl⟩
noncomputable def ref01_Gets := Classical.choose ex_ref01_Gets
theorem ref01_Gets_eq : @ref01_Gets = @b_ref01_Gets := Classical.choose_spec ex_ref01_Gets
noncomputable def cb_ref01_Gets : Con := ⟨[.str, (.int .i64)], r_ref01_Gets, fun x => b_ref01_Gets x.1 x.2.1⟩
noncomputable def c_ref01_Gets : Con := ⟨[.str, (.int .i64)], r_ref01_Gets, fun x => ref01_Gets x.1 x.2.1⟩
theorem cb_ref01_Gets_ok : cb_ref01_Gets.Sound prog Inv gInv 152 :=
 con_run (M := m_ref01_Gets) inv_g (f := f152) rfl ks_ref01_Gets 100000 (X := x_ref01_Gets_0) (fun base S0 cs0 hn hf => have hfin : H_ref01_Gets base S0 := ⟨hn, hf⟩; o_ref01_Gets_0 hfin) (by intro x; kernel_rfl)
theorem c_ref01_Gets_ok : c_ref01_Gets.Sound prog Inv gInv 152 := by
 have e : c_ref01_Gets = cb_ref01_Gets := by unfold c_ref01_Gets cb_ref01_Gets; rw [ref01_Gets_eq]
 rw [e]; exact cb_ref01_Gets_ok
noncomputable def m_ref06_numbers : Mach prog Inv gInv := mach bas [(132, f132)] ⟨ok132, trivial⟩ [(152, c_ref01_Gets)] ⟨⟨c_ref01_Gets_ok, FnOk.callable ok152⟩, trivial⟩ [] trivial [] trivial
/-! ### domino/dominoref06.numbers -/
@[reducible] def r_ref06_numbers : List Ty := [(.slice (.int .u64)), .str, .bool]
def ks_ref06_numbers : List Nat := [132]
noncomputable def b_ref06_numbers (a0 : ByteArray) (a1 : Int) : Option ((List Int) × ByteArray × Bool × Unit) :=
 let s2 : ByteArray := (ByteArray.mk (List.toArray ([] : List UInt8)))
 obind (ref01_Gets a0 a1) fun y3 =>
 let b4 : Bool := (y3.2.2.1 == (0 : Int))
 some (y3.1, (y3.2.1, (b4, ())))
theorem ex_ref06_numbers : ∃ f, f = @b_ref06_numbers := ⟨_, rfl⟩
noncomputable def ref06_numbers := Classical.choose ex_ref06_numbers
theorem ref06_numbers_eq : @ref06_numbers = @b_ref06_numbers := Classical.choose_spec ex_ref06_numbers
noncomputable def cb_ref06_numbers : Con := ⟨[.str, (.int .i64)], r_ref06_numbers, fun x => b_ref06_numbers x.1 x.2.1⟩
noncomputable def c_ref06_numbers : Con := ⟨[.str, (.int .i64)], r_ref06_numbers, fun x => ref06_numbers x.1 x.2.1⟩
theorem cb_ref06_numbers_ok : cb_ref06_numbers.Sound prog Inv gInv 132 :=
 con_run (M := m_ref06_numbers) inv_g (f := f132) rfl ks_ref06_numbers 100000 (X := nowhere) (fun base S0 cs0 hn hf => OSound.nowhere) (by intro x; kernel_rfl)
theorem c_ref06_numbers_ok : c_ref06_numbers.Sound prog Inv gInv 132 := by
 have e : c_ref06_numbers = cb_ref06_numbers := by unfold c_ref06_numbers cb_ref06_numbers; rw [ref06_numbers_eq]
 rw [e]; exact cb_ref06_numbers_ok
noncomputable def m_ref06_number : Mach prog Inv gInv := mach bas [(92, f92)] ⟨ok92, trivial⟩ [(129, c_ref01_Get)] ⟨⟨c_ref01_Get_ok, FnOk.callable ok129⟩, trivial⟩ [] trivial [] trivial
/-! ### domino/dominoref06.number -/
@[reducible] def r_ref06_number : List Ty := [(.int .u64), .str, .bool]
def ks_ref06_number : List Nat := [92]
noncomputable def b_ref06_number (a0 : ByteArray) : Option (Int × ByteArray × Bool × Unit) :=
 let s1 : ByteArray := (ByteArray.mk (List.toArray ([] : List UInt8)))
 obind (ref01_Get a0) fun y2 =>
 let b3 : Bool := (y2.2.2.1 == (0 : Int))
 some (y2.1, (y2.2.1, (b3, ())))
theorem ex_ref06_number : ∃ f, f = @b_ref06_number := ⟨_, rfl⟩
noncomputable def ref06_number := Classical.choose ex_ref06_number
theorem ref06_number_eq : @ref06_number = @b_ref06_number := Classical.choose_spec ex_ref06_number
noncomputable def cb_ref06_number : Con := ⟨[.str], r_ref06_number, fun x => b_ref06_number x.1⟩
noncomputable def c_ref06_number : Con := ⟨[.str], r_ref06_number, fun x => ref06_number x.1⟩
theorem cb_ref06_number_ok : cb_ref06_number.Sound prog Inv gInv 92 :=
 con_run (M := m_ref06_number) inv_g (f := f92) rfl ks_ref06_number 100000 (X := nowhere) (fun base S0 cs0 hn hf => OSound.nowhere) (by intro x; kernel_rfl)
theorem c_ref06_number_ok : c_ref06_number.Sound prog Inv gInv 92 := by
 have e : c_ref06_number = cb_ref06_number := by unfold c_ref06_number cb_ref06_number; rw [ref06_number_eq]
 rw [e]; exact cb_ref06_number_ok
noncomputable def m_ref06_take : Mach prog Inv gInv := mach bas [(134, f134)] ⟨ok134, trivial⟩ [] trivial [] trivial [] trivial
/-! ### domino/dominoref06.take -/
@[reducible] def r_ref06_take : List Ty := [.str, .str, .bool]
def ks_ref06_take : List Nat := [134]
noncomputable def b_ref06_take (a0 : ByteArray) (a1 : Int) : Option (ByteArray × ByteArray × Bool × Unit) :=
 let s2 : ByteArray := (ByteArray.mk (List.toArray ([] : List UInt8)))
 let s3 : ByteArray := (ByteArray.mk (List.toArray ([] : List UInt8)))
 let n4 : Int := (((ByteArray.size a0) : Nat) : Int)
 let n5 : Int := (Go.IntKind.wrap Go.IntKind.u64 n4)
 let b6 : Bool := (decide (a1 > n5))
 bif b6 then
  let s7 : ByteArray := (ByteArray.mk (List.toArray ([] : List UInt8)))
  let s8 : ByteArray := (ByteArray.mk (List.toArray ([] : List UInt8)))
  some (s7, (s8, (false, ())))
 else
  bif (decide (((0 : Int) ≤ (0 : Int)) ∧ (((0 : Int) ≤ a1) ∧ (a1 ≤ (((ByteArray.size a0) : Nat) : Int))))) then
   let s9 : ByteArray := (ByteArray.extract a0 0 (Int.toNat a1))
   bif (decide (((0 : Int) ≤ a1) ∧ ((a1 ≤ (((ByteArray.size a0) : Nat) : Int)) ∧ ((((ByteArray.size a0) : Nat) : Int) ≤ (((ByteArray.size a0) : Nat) : Int))))) then
    let s10 : ByteArray := (ByteArray.extract a0 (Int.toNat a1) (Int.toNat (((ByteArray.size a0) : Nat) : Int)))
    some (s9, (s10, (true, ())))
   else none
  else none
theorem ex_ref06_take : ∃ f, f = @b_ref06_take := ⟨_, rfl⟩
noncomputable def ref06_take := Classical.choose ex_ref06_take
theorem ref06_take_eq : @ref06_take = @b_ref06_take := Classical.choose_spec ex_ref06_take
noncomputable def cb_ref06_take : Con := ⟨[.str, (.int .u64)], r_ref06_take, fun x => b_ref06_take x.1 x.2.1⟩
noncomputable def c_ref06_take : Con := ⟨[.str, (.int .u64)], r_ref06_take, fun x => ref06_take x.1 x.2.1⟩
theorem cb_ref06_take_ok : cb_ref06_take.Sound prog Inv gInv 134 :=
 con_run (M := m_ref06_take) inv_g (f := f134) rfl ks_ref06_take 100000 (X := nowhere) (fun base S0 cs0 hn hf => OSound.nowhere) (by intro x; kernel_rfl)
theorem c_ref06_take_ok : c_ref06_take.Sound prog Inv gInv 134 := by
 have e : c_ref06_take = cb_ref06_take := by unfold c_ref06_take cb_ref06_take; rw [ref06_take_eq]
 rw [e]; exact cb_ref06_take_ok
noncomputable def m_ref06_long : Mach prog Inv gInv := mach bas [(133, f133)] ⟨ok133, trivial⟩ [(92, c_ref06_number), (134, c_ref06_take)] ⟨⟨c_ref06_number_ok, FnOk.callable ok92⟩, ⟨c_ref06_take_ok, FnOk.callable ok134⟩, trivial⟩ [] trivial [] trivial
/-! ### domino/dominoref06.long -/
@[reducible] def r_ref06_long : List Ty := [.str, .str, .bool]
def ks_ref06_long : List Nat := [133]
noncomputable def b_ref06_long (a0 : ByteArray) : Option (ByteArray × ByteArray × Bool × Unit) :=
 let s1 : ByteArray := (ByteArray.mk (List.toArray ([] : List UInt8)))
 let s2 : ByteArray := (ByteArray.mk (List.toArray ([] : List UInt8)))
 obind (ref06_number a0) fun y3 =>
 let b4 : Bool := (!y3.2.2.1)
 bif b4 then
  let s5 : ByteArray := (ByteArray.mk (List.toArray ([] : List UInt8)))
  let s6 : ByteArray := (ByteArray.mk (List.toArray ([] : List UInt8)))
  some (s5, (s6, (false, ())))
 else
  obind (ref06_take y3.2.1 y3.1) fun y7 =>
  some y7
theorem ex_ref06_long : ∃ f, f = @b_ref06_long := ⟨_, rfl⟩
noncomputable def ref06_long := Classical.choose ex_ref06_long
theorem ref06_long_eq : @ref06_long = @b_ref06_long := Classical.choose_spec ex_ref06_long
noncomputable def cb_ref06_long : Con := ⟨[.str], r_ref06_long, fun x => b_ref06_long x.1⟩
noncomputable def c_ref06_long : Con := ⟨[.str], r_ref06_long, fun x => ref06_long x.1⟩
theorem cb_ref06_long_ok : cb_ref06_long.Sound prog Inv gInv 133 :=
 con_run (M := m_ref06_long) inv_g (f := f133) rfl ks_ref06_long 100000 (X := nowhere) (fun base S0 cs0 hn hf => OSound.nowhere) (by intro x; kernel_rfl)
theorem c_ref06_long_ok : c_ref06_long.Sound prog Inv gInv 133 := by
 have e : c_ref06_long = cb_ref06_long := by unfold c_ref06_long cb_ref06_long; rw [ref06_long_eq]
 rw [e]; exact cb_ref06_long_ok
end Go.Proofs.YtjdjlijjolibkaaDoor.V
namespace Go.Proofs.YtjdjlijjolibkaaDoor.V
open Go.RowKit
set_option linter.unusedVariables false
theorem back1_loop : ∀ (suf pre : List Int) (acc : Int) (m : Nat), suf.length < m → (pre ++ suf).length ≤ 8 → Byt (pre ++ suf) → 0 ≤ acc → acc < 256 ^ pre.length →
  ref01_Back_0 m (bytesStr (pre ++ suf)) acc ((pre.length : Nat) : Int) = some (suf.foldl (fun a b => a * 256 + b) acc, ()) := by
 intro suf
 induction suf with
 | nil =>
  intro pre acc m hm _ _ _ _
  obtain ⟨m, rfl⟩ : ∃ k, m = k + 1 := ⟨m - 1, by omega⟩
  have c : ¬ ((pre.length : Nat) : Int) < (((bytesStr (pre ++ [])).size : Nat) : Int) := by rw [bytesStr_size]; simp
  simp only [ref01_Back_0, t_ref01_Back_0, c, decide_false, cond_false, List.foldl_nil]
 | cons x suf ih =>
  intro pre acc m hm hl hB h0 h1
  obtain ⟨m, rfl⟩ : ∃ k, m = k + 1 := ⟨m - 1, by omega⟩
  have c : ((pre.length : Nat) : Int) < (((bytesStr (pre ++ x :: suf)).size : Nat) : Int) := by rw [bytesStr_size]; simp; omega
  have hx := hB x (by simp)
  have ex : byteAt (bytesStr (pre ++ x :: suf)) ((pre.length : Nat) : Int) = x := by rw [byteAt_is, strBytes_bs hB, toNat_len, getD_mid]
  have hp : ∀ i : _root_.Fin 8, (256 : Int) ^ i.val * 256 ≤ 18446744073709551616 := by decide
  have hlen : pre.length < 8 := by simp at hl; omega
  have hp1 := hp ⟨pre.length, hlen⟩
  simp only at hp1
  have w1 : IntKind.wrap .u64 (acc * 256) = acc * 256 := wrap_u64 _ (by omega) (by omega)
  have w2 : IntKind.wrap .u64 x = x := wrap_u64 _ (by omega) (by omega)
  have w3 : IntKind.wrap .u64 (acc * 256 + x) = acc * 256 + x := wrap_u64 _ (by omega) (by omega)
  have w4 : IntKind.wrap .i64 (((pre.length : Nat) : Int) + 1) = (((pre ++ [x]).length : Nat) : Int) := by rw [wrap_i64 _ (by omega) (by omega)]; simp
  simp only [ref01_Back_0, t_ref01_Back_0, c, nn, and_self, decide_true, cond_true, ex, w1, w2, w3, w4, List.foldl_cons]
  rw [snoc_app pre x suf]
  exact ih (pre ++ [x]) (acc * 256 + x) m (by simp at hm; omega) (by simpa using hl) (by rw [← snoc_app]; exact hB) (by omega) (by simp only [List.length_append, List.length_cons, List.length_nil, Int.pow_succ]; omega)
theorem back1_is (l : List Int) (hl : l.length ≤ 8) (hB : Byt l) : ref01_Back (bytesStr l) = some (l.foldl (fun a b => a * 256 + b) 0, ()) := by
 rw [ref01_Back_eq, b_ref01_Back, ref01_Back_0'_eq, b_ref01_Back_0']
 exact back1_loop l [] 0 _ (by rw [bytesStr_size]; omega) (by simpa using hl) (by simpa using hB) (by omega) (by simp)
theorem extract_bs (q r : List Int) (h : Byt (q ++ r)) : (bytesStr (q ++ r)).extract 0 q.length = bytesStr q ∧ (bytesStr (q ++ r)).extract q.length (q ++ r).length = bytesStr r := by
 obtain ⟨h1, h2⟩ := Byt.app.mp h
 constructor
 · rw [← strBytes_inj, strBytes_extract, strBytes_bs h, strBytes_bs h1]; simp
 · rw [← strBytes_inj, strBytes_extract, strBytes_bs h, strBytes_bs h2, List.take_length, List.drop_left]
theorem rget_is (l : List Int) (hB : Byt l) (hl : l.length ≤ 1000000) : ref01_Get (bytesStr l) = some (match vget l with | some (n, r) => (n, bytesStr r, 0, ()) | none => (0, eB, 10, ())) := by
 rw [ref01_Get_eq, b_ref01_Get]
 have e0 : ByteArray.mk (List.toArray ([] : List UInt8)) = eB := rfl
 simp only [toList_beq, e0]
 cases l with
 | nil => simp only [bytesStr_nil, decide_true, cond_true, vget]
 | cons b r =>
  have hb := hB b (by simp)
  have hne : ¬ bytesStr (b :: r) = eB := fun e => by have := congrArg ByteArray.size e; rw [bytesStr_size] at this; exact absurd this (by simp [eB, ByteArray.size])
  have hsz : (bytesStr (b :: r)).size = r.length + 1 := by rw [bytesStr_size]; simp
  have c0 : (0 : Int) < (((bytesStr (b :: r)).size : Nat) : Int) := by omega
  have eb : byteAt (bytesStr (b :: r)) 0 = b := by rw [byteAt_is, strBytes_bs hB]; rfl
  have ht : Int.tdiv b 64 = b / 64 := Int.tdiv_eq_ediv_of_nonneg (by omega)
  have w1 : IntKind.wrap .u8 (b / 64) = b / 64 := by rw [wrap_u8]; omega
  have w2 : IntKind.wrap .i64 (b / 64) = b / 64 := wrap_i64 _ (by omega) (by omega)
  simp only [hne, decide_false, cond_false, c0, Int.le_refl, and_self, decide_true, cond_true, eb, ht, w1, w2]
  have go : ∀ (k : Nat) (q t : List Int) (v : Int), k ≤ 3 → b / 64 = ((k : Nat) : Int) → b :: r = q ++ t → q.length = 2 ^ k → Int.tmod (q.foldl (fun a b => a * 256 + b) 0) (2 ^ (8 * 2 ^ k - 2)) = v → 
    (obind (ref01_power (b / 64)) fun y7 =>
     bif decide (((((bytesStr (b :: r)).size : Nat)) : Int) < IntKind.wrap .i64 y7.1) then some ((0 : Int), eB, (10 : Int), ()) else
     bif decide ((0 : Int) ≤ IntKind.wrap .i64 y7.1 ∧ IntKind.wrap .i64 y7.1 ≤ (((bytesStr (b :: r)).size : Nat) : Int)) then
      obind (ref01_Back ((bytesStr (b :: r)).extract 0 (Int.toNat (IntKind.wrap .i64 y7.1)))) fun y13 =>
      obind (ref01_power (IntKind.wrap .i64 (IntKind.wrap .i64 (8 * IntKind.wrap .i64 y7.1) - 2))) fun y16 =>
      bif decide (y16.1 ≠ 0) then
       bif decide ((0 : Int) ≤ IntKind.wrap .i64 y7.1 ∧ IntKind.wrap .i64 y7.1 ≤ (((bytesStr (b :: r)).size : Nat) : Int)) then
        some (Int.tmod y13.1 y16.1, (bytesStr (b :: r)).extract (Int.toNat (IntKind.wrap .i64 y7.1)) (Int.toNat (((bytesStr (b :: r)).size : Nat) : Int)), 0, ())
       else none
      else none
     else none) = some (v, bytesStr t, 0, ()) := by
   intro k q t v hk e1 e2 e3 e4
   have hB' : Byt (q ++ t) := e2 ▸ hB
   obtain ⟨x1, x2⟩ := extract_bs q t hB'
   have hk3 : ∀ k : _root_.Fin 4, IntKind.wrap .i64 (2 ^ k.val) = ((2 ^ k.val : Nat) : Int) ∧ IntKind.wrap .i64 (IntKind.wrap .i64 (8 * ((2 ^ k.val : Nat) : Int)) - 2) = ((8 * 2 ^ k.val - 2 : Nat) : Int) ∧ 8 * 2 ^ k.val - 2 < 64 ∧ 2 ^ k.val ≤ 8 := by decide
   obtain ⟨y1, y2, y3, y4⟩ := hk3 ⟨k, by omega⟩
   simp only at y1 y2 y3 y4
   have hsz2 : (bytesStr (q ++ t)).size = (q ++ t).length := bytesStr_size _
   have hlen : (q ++ t).length = 2 ^ k + t.length := by simp [e3]
   have c1 : ¬ ((((q ++ t).length : Nat)) : Int) < ((2 ^ k : Nat) : Int) := by omega
   have c2 : ((2 ^ k : Nat) : Int) ≤ (((q ++ t).length : Nat) : Int) := by omega
   have hp : (2 : Int) ^ (8 * 2 ^ k - 2) ≠ 0 := by have : (0 : Int) < 2 ^ (8 * 2 ^ k - 2) := Int.pow_pos (by omega); omega
   rw [e1, e2, power_is k (by omega)]
   simp only [obind_some, y1, hsz2, c1, c2, nn, decide_false, cond_false, and_self, decide_true, cond_true, Int.toNat_natCast, y2]
   rw [← e3, x1, back1_is q (by omega) (Byt.app.mp hB').1, e3, power_is _ y3]
   simp only [obind_some, hp, ne_eq, not_false_eq_true, decide_true, cond_true, e4]
   rw [← e3, x2]
  have short : ∀ (k : Nat), k ≤ 3 → b / 64 = ((k : Nat) : Int) → r.length + 1 < 2 ^ k → ∀ {γ : Type} (K : Int × Unit → Option γ) (z : γ), (obind (ref01_power (b / 64)) fun y7 => bif decide (((((bytesStr (b :: r)).size : Nat)) : Int) < IntKind.wrap .i64 y7.1) then some z else K y7) = some z := by
   intro k hk e1 h γ K z
   have hk3 : ∀ k : _root_.Fin 4, IntKind.wrap .i64 (2 ^ k.val) = ((2 ^ k.val : Nat) : Int) := by decide
   have y1 := hk3 ⟨k, by omega⟩
   simp only at y1
   have c1 : ((r.length + 1 : Nat) : Int) < ((2 ^ k : Nat) : Int) := by omega
   rw [e1, power_is k (by omega)]
   simp only [obind_some, y1, hsz, c1, decide_true, cond_true]
  simp only [Int.le_refl, and_true, true_and]
  have B : ∀ x ∈ r, 0 ≤ x ∧ x ≤ 255 := fun x hx => hB x (by simp [hx])
  by_cases d1 : b < 64
  ·
   simp only [vget, d1, if_true]
   exact go 0 [b] r b (by omega) (by omega) rfl rfl (by simp; rw [Int.tmod_eq_emod_of_nonneg (by omega)]; omega)
  ·
   by_cases d2 : b < 128
   ·
    simp only [vget, d1, d2, if_false, if_true]
    match r, hsz, B with
    | [], hsz, _ => exact short 1 (by omega) (by omega) (by simp) _ _
    | b1 :: t, _, B =>
     have h1 := B b1 (by simp)
     exact go 1 [b, b1] t _ (by omega) (by omega) rfl rfl (by simp; rw [Int.tmod_eq_emod_of_nonneg (by omega)]; omega)
   ·
    by_cases d3 : b < 192
    ·
     simp only [vget, d1, d2, d3, if_false, if_true]
     match r, hsz, B with
     | [], hsz, _ => exact short 2 (by omega) (by omega) (by simp) _ _
     | [_], hsz, _ => exact short 2 (by omega) (by omega) (by simp) _ _
     | [_, _], hsz, _ => exact short 2 (by omega) (by omega) (by simp) _ _
     | b1 :: b2 :: b3 :: t, _, B =>
      have h1 := B b1 (by simp); have h2 := B b2 (by simp); have h3 := B b3 (by simp)
      exact go 2 [b, b1, b2, b3] t _ (by omega) (by omega) rfl rfl (by simp; rw [Int.tmod_eq_emod_of_nonneg (by omega)]; omega)
    ·
     simp only [vget, d1, d2, d3, if_false]
     match r, hsz, B with
     | [], hsz, _ => exact short 3 (by omega) (by omega) (by simp) _ _
     | [_], hsz, _ => exact short 3 (by omega) (by omega) (by simp) _ _
     | [_, _], hsz, _ => exact short 3 (by omega) (by omega) (by simp) _ _
     | [_, _, _], hsz, _ => exact short 3 (by omega) (by omega) (by simp) _ _
     | [_, _, _, _], hsz, _ => exact short 3 (by omega) (by omega) (by simp) _ _
     | [_, _, _, _, _], hsz, _ => exact short 3 (by omega) (by omega) (by simp) _ _
     | [_, _, _, _, _, _], hsz, _ => exact short 3 (by omega) (by omega) (by simp) _ _
     | b1 :: b2 :: b3 :: b4 :: b5 :: b6 :: b7 :: t, _, B =>
      have h1 := B b1 (by simp); have h2 := B b2 (by simp); have h3 := B b3 (by simp); have h4 := B b4 (by simp); have h5 := B b5 (by simp); have h6 := B b6 (by simp); have h7 := B b7 (by simp)
      exact go 3 [b, b1, b2, b3, b4, b5, b6, b7] t _ (by omega) (by omega) rfl rfl (by simp; rw [Int.tmod_eq_emod_of_nonneg (by omega)]; omega)
def toldP {α : Type} (z : α) (o : Option (α × List Int)) : Option (α × ByteArray × Bool × Unit) := some (match o with | some (a, r) => (a, bytesStr r, true, ()) | none => (z, eB, false, ()))
theorem num6_is (l : List Int) (hB : Byt l) (hl : l.length ≤ 1000000) : ref06_number (bytesStr l) = toldP 0 (vget l) := by
 rw [ref06_number_eq, b_ref06_number, rget_is l hB hl]
 simp only [obind_some, toldP]
 cases vget l <;> rfl
theorem take6_is (l : List Int) (hB : Byt l) (hl : l.length ≤ 1000000) (n : Int) (hn : 0 ≤ n) : ref06_take (bytesStr l) n = toldP eB ((pb (ptake n.toNat) fun bs => pr (bytesStr bs)) l) := by
 rw [ref06_take_eq, b_ref06_take]
 have e0 : ByteArray.mk (List.toArray ([] : List UInt8)) = eB := rfl
 have w : IntKind.wrap .u64 ((l.length : Nat) : Int) = ((l.length : Nat) : Int) := wrap_u64 _ (by omega) (by omega)
 simp only [bytesStr_size, w, e0]
 by_cases c : n.toNat ≤ l.length
 ·
  have c1 : ¬ n > ((l.length : Nat) : Int) := by omega
  have c2 : n ≤ ((l.length : Nat) : Int) := by omega
  simp only [c1, c2, hn, Int.le_refl, and_self, decide_false, decide_true, cond_false, cond_true, pb, ptake, c, if_true, pr, toldP, Int.toNat_natCast]
  have hsp : l.take n.toNat ++ l.drop n.toNat = l := List.take_append_drop _ _
  have hlt : (l.take n.toNat).length = n.toNat := by simp; omega
  obtain ⟨x1, x2⟩ := extract_bs (l.take n.toNat) (l.drop n.toNat) (hsp.symm ▸ hB)
  rw [hsp, hlt] at x1 x2
  rw [x1, x2]
 ·
  have c1 : n > ((l.length : Nat) : Int) := by omega
  simp only [c1, decide_true, cond_true, pb, ptake, c, if_false, toldP]
theorem vget_in {l r : List Int} {n : Int} (hB : Byt l) (h : vget l = some (n, r)) : In62 n ∧ Byt r ∧ r.length ≤ l.length := by
 obtain ⟨q, e, h1, h2, _⟩ := vget_some h
 exact ⟨h2 hB, by rw [e] at hB; exact Byt.suf hB, by rw [e]; simp⟩
theorem long6_is (l : List Int) (hB : Byt l) (hl : l.length ≤ 1000000) : ref06_long (bytesStr l) = toldP eB (plong l) := by
 rw [ref06_long_eq, b_ref06_long, num6_is l hB hl]
 unfold plong
 cases h : vget l with
 | none => simp only [toldP, obind_some, pb, h]; rfl
 | some x =>
  obtain ⟨n, r⟩ := x
  obtain ⟨h1, h2, h3⟩ := vget_in hB h
  simp only [toldP, obind_some, Bool.not_true, cond_false]
  rw [take6_is r h2 (by omega) n h1.1]
  simp only [toldP, obind_some, pb, h]
def vgets : Nat → Pr (List Int)
 | 0 => pr []
 | n + 1 => pb vget fun a => pb (vgets n) fun l => pr (a :: l)
theorem gets_loop (n : Nat) (hn : n ≤ 100) : ∀ (j m i : Nat) (acc l : List Int), j < m → i + j = n → acc.length = i → Byt l → l.length ≤ 1000000 →
  ref01_Gets_0 m (bytesStr l) ((n : Nat) : Int) ((i : Nat) : Int) acc = some (match vgets j l with | some (ns, r) => (acc ++ ns, bytesStr r, 0, ()) | none => ([], eB, 10, ())) := by
 intro j
 induction j with
 | zero =>
  intro m i acc l hm hi ha hB hl
  obtain ⟨m, rfl⟩ : ∃ k, m = k + 1 := ⟨m - 1, by omega⟩
  have c : ¬ ((i : Nat) : Int) < ((n : Nat) : Int) := by omega
  simp only [ref01_Gets_0, t_ref01_Gets_0, c, decide_false, cond_false, vgets, pr, List.append_nil]
 | succ j ih =>
  intro m i acc l hm hi ha hB hl
  obtain ⟨m, rfl⟩ : ∃ k, m = k + 1 := ⟨m - 1, by omega⟩
  have c : ((i : Nat) : Int) < ((n : Nat) : Int) := by omega
  have e0 : ByteArray.mk (List.toArray ([] : List UInt8)) = eB := rfl
  simp only [ref01_Gets_0, t_ref01_Gets_0, c, decide_true, cond_true, rget_is l hB hl, obind_some, e0, vgets, pb]
  cases h : vget l with
  | none => rfl
  | some x =>
   obtain ⟨a, r⟩ := x
   obtain ⟨h1, h2, h3⟩ := vget_in hB h
   have c2 : acc.length + [a].length ≤ 4294967296 := by simp; omega
   have w : IntKind.wrap .i64 (((i : Nat) : Int) + 1) = ((i + 1 : Nat) : Int) := by rw [wrap_i64 _ (by omega) (by omega)]; omega
   simp only [bne_self_eq_false, cond_false, c2, decide_true, cond_true, w]
   rw [ih m (i + 1) (acc ++ [a]) r (by omega) (by omega) (by simp [ha]) h2 (by omega)]
   cases vgets j r with
   | none => rfl
   | some y => simp only [pr, List.append_assoc, List.cons_append, List.nil_append]
theorem nums6_is (n : Nat) (hn : n ≤ 100) (l : List Int) (hB : Byt l) (hl : l.length ≤ 1000000) : ref06_numbers (bytesStr l) ((n : Nat) : Int) = toldP [] (vgets n l) := by
 rw [ref06_numbers_eq, b_ref06_numbers, ref01_Gets_eq, b_ref01_Gets, ref01_Gets_0'_eq, b_ref01_Gets_0']
 have := gets_loop n hn n (Int.toNat (((n : Nat) : Int) - 0) + 2) 0 [] l (by omega) (by omega) rfl hB hl
 rw [show (((0 : Nat) : Int)) = 0 from rfl] at this
 rw [this]
 simp only [obind_some, toldP]
 cases vgets n l with
 | none => rfl
 | some x => rfl
noncomputable def endM (s : ByteArray) (d : D_frame_Frame) : Option (Bool × Unit) := t_ref06_May_0 (fun _ _ _ _ => none) s 0 d []
def okM (l : List Int) (d : D_frame_Frame) : Bool :=
 !decide (l = []) && (!d.2.2.2.2.2.2.2.2.1 || decide ((102 : Int) ∈ l)) && (decide (d.2.2.2.2.2.2.2.2.2.1 = eB) || decide ((100 : Int) ∈ l)) && (decide (d.2.2.2.2.2.2.2.2.2.2.1 = eB) || decide ((110 : Int) ∈ l)) &&
 (decide (d.2.2.2.2.2.2.2.2.2.2.2.1 = eB) || decide ((116 : Int) ∈ l)) && (decide (d.2.2.2.2.2.2.2.2.2.2.2.2.1.length = 0) || decide ((115 : Int) ∈ l))
theorem endM_is (l : List Int) (hB : Byt l) (hl : l.length ≤ 100) (d : D_frame_Frame) : endM (bytesStr l) d = bif okM l d then ref06_May_3 d else some (false, ()) := by
 have e0 : ByteArray.mk (List.toArray ([] : List UInt8)) = eB := rfl
 have I : ∀ x, ref06_in (bytesStr l) x = some (decide (x ∈ l), ()) := fun x => by rw [in_is _ _ (by rw [bytesStr_size]; omega), strBytes_bs hB]
 have s0 : decide (bytesStr l = eB) = decide (l = []) := decide_eq_decide.mpr ⟨fun e => by
  have := congrArg ByteArray.size e
  rw [bytesStr_size] at this
  exact List.eq_nil_of_length_eq_zero this, fun e => by subst e; rfl⟩
 have n0 : decide ((((d.2.2.2.2.2.2.2.2.2.2.2.2.1.length : Nat) : Int)) > 0) = !decide (d.2.2.2.2.2.2.2.2.2.2.2.2.1.length = 0) := by
  by_cases h : d.2.2.2.2.2.2.2.2.2.2.2.2.1.length = 0
  · simp [h]
  ·
   have : (((d.2.2.2.2.2.2.2.2.2.2.2.2.1.length : Nat) : Int)) > 0 := by omega
   simp only [h, this, decide_true, decide_false, Bool.not_false]
 unfold endM okM
 simp only [t_ref06_May_0, List.length_nil, e0, toList_beq, s0, I, obind_some, n0]
 rw [show decide ((0 : Int) < ((0 : Nat) : Int)) = false from rfl]
 simp only [cond_false]
 generalize decide (l = []) = b0
 generalize d.2.2.2.2.2.2.2.2.1 = f1
 generalize decide (d.2.2.2.2.2.2.2.2.2.1 = eB) = f2
 generalize decide (d.2.2.2.2.2.2.2.2.2.2.1 = eB) = f3
 generalize decide (d.2.2.2.2.2.2.2.2.2.2.2.1 = eB) = f4
 generalize decide (d.2.2.2.2.2.2.2.2.2.2.2.2.1.length = 0) = f5
 generalize decide ((102 : Int) ∈ l) = t1
 generalize decide ((100 : Int) ∈ l) = t2
 generalize decide ((110 : Int) ∈ l) = t3
 generalize decide ((116 : Int) ∈ l) = t4
 generalize decide ((115 : Int) ∈ l) = t5
 generalize ref06_May_3 d = R
 cases b0
 · cases f1 <;> cases t1 <;> (try rfl) <;> cases f2 <;> cases t2 <;> (try rfl) <;> cases f3 <;> cases t3 <;> (try rfl) <;> cases f4 <;> cases t4 <;> (try rfl) <;> cases f5 <;> cases t5 <;> rfl
 · rfl
def letL : List Int := [105, 111, 109, 99, 113, 112, 101]
theorem let_is : strBytes (ByteArray.mk (List.toArray ((105 : UInt8) :: ((111 : UInt8) :: ((109 : UInt8) :: ((99 : UInt8) :: ((113 : UInt8) :: ((112 : UInt8) :: ((101 : UInt8) :: ([] : List UInt8)))))))))) = letL := rfl
def okNs (l : List Int) : Nat → List Int → Bool
 | _, [] => true
 | i, x :: r => decide (x ≤ 4611686018427387903) && (x == 0 || decide (letL.getD i 0 ∈ l)) && okNs l (i + 1) r
theorem num6_loop (l : List Int) (hB : Byt l) (hl : l.length ≤ 100) (d : D_frame_Frame) : ∀ (suf pre : List Int) (m : Nat), suf.length < m → (pre ++ suf).length = 7 →
  ref06_May_0 m (bytesStr l) ((pre.length : Nat) : Int) d (pre ++ suf) = bif okNs l pre.length suf then endM (bytesStr l) d else some (false, ()) := by
 have I : ∀ x, ref06_in (bytesStr l) x = some (decide (x ∈ l), ()) := fun x => by rw [in_is _ _ (by rw [bytesStr_size]; omega), strBytes_bs hB]
 intro suf
 induction suf with
 | nil =>
  intro pre m hm h7
  obtain ⟨m, rfl⟩ : ∃ k, m = k + 1 := ⟨m - 1, by omega⟩
  unfold endM
  rw [ref06_May_0]
  simp only [t_ref06_May_0, mid_end, decide_false, cond_false, okNs, cond_true, List.length_nil]
  rw [show decide ((0 : Int) < ((0 : Nat) : Int)) = false from rfl]
  simp only [cond_false]
 | cons x suf ih =>
  intro pre m hm h7
  obtain ⟨m, rfl⟩ : ∃ k, m = k + 1 := ⟨m - 1, by omega⟩
  have c7 : ((pre.length : Nat) : Int) < 7 := by simp at h7; omega
  have hn : (pre ++ x :: suf).length ≤ 4294967296 := by omega
  have e : byteAt (ByteArray.mk (List.toArray ((105 : UInt8) :: ((111 : UInt8) :: ((109 : UInt8) :: ((99 : UInt8) :: ((113 : UInt8) :: ((112 : UInt8) :: ((101 : UInt8) :: ([] : List UInt8)))))))))) ((pre.length : Nat) : Int) = letL.getD pre.length 0 := by
   rw [byteAt_is, let_is, Int.toNat_natCast]
  rw [ref06_May_0]
  unfold t_ref06_May_0
  simp only [mid_lt, nn, and_true, decide_true, cond_true, toNat_len, getD_mid, okNs]
  have next : ref06_May_2 (ref06_May_0 m) (bytesStr l) ((pre.length : Nat) : Int) d (pre ++ x :: suf) = bif okNs l (pre.length + 1) suf then endM (bytesStr l) d else some (false, ()) := by
   rw [ref06_May_2_eq, b_ref06_May_2]
   rw [mid_next pre x x suf hn, snoc_app pre x suf, ih (pre ++ [x]) m (by simp at hm; omega) (by simpa using h7)]
   simp
  by_cases c1 : x ≤ 4611686018427387903
  ·
   have c2 : ¬ x > 4611686018427387903 := by omega
   simp only [c1, c2, decide_true, decide_false, cond_false, Bool.true_and]
   by_cases c3 : x = 0
   ·
    subst c3
    simp only [bne_self_eq_false, cond_false, beq_self_eq_true, Bool.true_or, Bool.true_and]
    exact next
   ·
    have c4 : (x != 0) = true := by simpa using c3
    simp only [c4, cond_true, beq_false_of_ne c3, Bool.false_or, c7, decide_true, e, I, obind_some]
    cases decide (letL.getD pre.length 0 ∈ l) with
    | false => rfl
    | true => simp only [Bool.not_true, cond_false, Bool.true_and]; exact next
  ·
   have c2 : x > 4611686018427387903 := by omega
   simp only [c1, c2, decide_true, decide_false, cond_true, Bool.false_and, cond_false]
def m3 (f : D_frame_Frame) : Bool :=
 let k := f.1
 bif k == 2 then mayR 0 f.2.2.2.2.2.2.2.2.2.2.2.2.1 && decide (1 ≤ f.2.2.2.2.2.2.2.2.2.2.2.2.1.length) && decide (f.2.2.2.2.2.2.2.2.2.2.2.2.1.length ≤ 32) && decide (lastHi f.2.2.2.2.2.2.2.2.2.2.2.2.1 ≤ 4611686018427387903)
 else bif k == 6 || k == 8 then decide (f.2.2.2.2.2.2.2.2.2.1.size ≤ 1200) && decide (f.2.2.1 + ((f.2.2.2.2.2.2.2.2.2.1.size : Nat) : Int) ≤ 4611686018427387903)
 else bif k == 28 || k == 29 then decide (f.2.2.2.2.2.2.2.2.2.1.size ≤ 1200)
 else bif k == 24 then decide (f.2.2.2.2.2.2.1 ≤ f.2.2.2.2.2.1) && (((f.2.2.2.2.2.2.2.2.2.2.1.size : Nat) : Int) == 8) && (((f.2.2.2.2.2.2.2.2.2.2.2.1.size : Nat) : Int) == 16)
 else bif k == 26 || k == 27 then (((f.2.2.2.2.2.2.2.2.2.2.2.1.size : Nat) : Int) == 8)
 else bif k == 18 || k == 19 || k == 22 || k == 23 then decide (f.2.2.2.1 ≤ 1152921504606846976)
 else true
theorem sums_is (f : D_frame_Frame) (hk : kindB f.1 = true) : (okNs (shapeL f.1) 0 [f.2.1, f.2.2.1, f.2.2.2.1, f.2.2.2.2.1, f.2.2.2.2.2.1, f.2.2.2.2.2.2.1, f.2.2.2.2.2.2.2.1] && (okM (shapeL f.1) f && m3 f)) = mayFr f := by
 obtain ⟨k, id, off, mx, code, seq, prior, delay, fin, data, cid, tok, set, ⟨⟩⟩ := f
 simp only at hk ⊢
 have hd : data = ⟨#[]⟩ → data.size = 0 := by rintro rfl; rfl
 have hc : cid = ⟨#[]⟩ → cid.size = 0 := by rintro rfl; rfl
 have ht : tok = ⟨#[]⟩ → tok.size = 0 := by rintro rfl; rfl
 rcases kinds hk with rfl | rfl | rfl | rfl | rfl | rfl | rfl | rfl | rfl | rfl | rfl | rfl | rfl | rfl | rfl | rfl | rfl | rfl | rfl | rfl | rfl | rfl
 all_goals
  rw [Bool.eq_iff_iff]
  simp [okNs, okM, shapeL, letL, m3, mayFr, kindB, onlyF, hasId, hasOff, hasMax, hasCode, hasSeq, hasPrior, hasDelay, hasFin, hasData, hasCid, hasToken, hasSet, numsOk, extraF]
  try grind
theorem shapeL_none {k : Int} (h : kindB k = false) : shapeL k = [] := by
 obtain ⟨h0, h1, h2, h4, h5, h6, h8, h16, h17, h18, h19, h20, h21, h22, h23, h24, h25, h26, h27, h28, h29, h30⟩ := nokind h
 simp only [shapeL, h0, h1, h2, h4, h5, h6, h8, h16, h17, h18, h19, h20, h21, h22, h23, h24, h25, h26, h27, h28, h29, h30, or_self, if_false]
theorem shapeL_byt (k : Int) : Byt (shapeL k) ∧ (shapeL k).length ≤ 100 := by
 cases h : kindB k with
 | true =>
  unfold Byt
  rcases kinds h with rfl | rfl | rfl | rfl | rfl | rfl | rfl | rfl | rfl | rfl | rfl | rfl | rfl | rfl | rfl | rfl | rfl | rfl | rfl | rfl | rfl | rfl <;> decide
 | false => rw [shapeL_none h]; exact ⟨Byt.nil, by simp⟩
theorem may3_loop : ∀ (suf pre : List D_ranges_Range) (e : Int) (m : Nat), suf.length < m → (pre ++ suf).length ≤ 9223372036854775807 → (∀ r ∈ suf, 0 ≤ r.1 ∧ 0 ≤ r.2.1) →
  ((pre = [] ∧ e = 0) ∨ ∃ p y, pre = p ++ [y] ∧ e = y.2.1 + 2 ∧ 0 ≤ y.2.1 ∧ y.2.1 < 9223372036854775808) →
  ref03_May_0 m (pre ++ suf) ((pre.length : Nat) : Int) = some (mayR e suf, ()) := by
 intro suf
 induction suf with
 | nil =>
  intro pre e m hm _ _ _
  obtain ⟨m, rfl⟩ : ∃ k, m = k + 1 := ⟨m - 1, by omega⟩
  simp only [ref03_May_0, t_ref03_May_0, mid_end, decide_false, cond_false, mayR]
 | cons x suf ih =>
  intro pre e m hm hl hr he
  obtain ⟨m, rfl⟩ : ∃ k, m = k + 1 := ⟨m - 1, by omega⟩
  have hx := hr x (by simp)
  simp only [ref03_May_0, t_ref03_May_0, mid_lt, nn, and_true, decide_true, cond_true, toNat_len, getD_mid, mayR]
  have next : x.2.1 < 9223372036854775808 → ref03_May_1 (ref03_May_0 m) (pre ++ x :: suf) ((pre.length : Nat) : Int) = some (mayR (x.2.1 + 2) suf, ()) := by
   intro h2
   rw [ref03_May_1_eq, b_ref03_May_1]
   rw [mid_next' pre x x suf hl, snoc_app pre x suf, ih (pre ++ [x]) (x.2.1 + 2) m (by simp at hm; omega) (by simpa using hl) (fun r h => hr r (by simp [h])) (.inr ⟨pre, x, rfl, rfl, hx.2, h2⟩)]
  by_cases h1 : x.2.1 < x.1
  ·
   have : ¬ x.1 ≤ x.2.1 := by omega
   simp only [h1, this, decide_true, cond_true, decide_false, Bool.false_and]
  ·
   have h1' : x.1 ≤ x.2.1 := by omega
   simp only [h1, h1', decide_false, cond_false, decide_true, Bool.true_and]
   by_cases h2 : x.2.1 < 9223372036854775808
   ·
    have : ¬ x.2.1 ≥ 9223372036854775808 := by omega
    simp only [h2, this, decide_false, cond_false, decide_true, Bool.true_and]
    rcases he with ⟨rfl, rfl⟩ | ⟨p, y, rfl, rfl, y0, y1⟩
    ·
     have c : ¬ ((([] : List D_ranges_Range).length : Nat) : Int) > 0 := by simp
     simp only [c, decide_false, cond_false, next h2, hx.1, decide_true, Bool.true_and]
    ·
     have c : (((p ++ [y]).length : Nat) : Int) > 0 := by simp <;> omega
     have w : IntKind.wrap .i64 ((((p ++ [y]).length : Nat) : Int) - 1) = ((p.length : Nat) : Int) := by
      simp at hl; rw [wrap_i64 _ (by simp <;> omega) (by simp <;> omega)]; simp
     have c2 : ((p.length : Nat) : Int) < ((((p ++ [y]) ++ x :: suf).length : Nat) : Int) := by simp; omega
     have g : ((p ++ [y]) ++ x :: suf).getD p.length (Ty.dflt T_ranges_Range) = y := by rw [← snoc_app, getD_mid]
     have w2 : IntKind.wrap .u64 (y.2.1 + 2) = y.2.1 + 2 := wrap_u64 _ (by omega) (by omega)
     simp only [c, decide_true, cond_true, w, nn, c2, and_self, Int.toNat_natCast, g, w2]
     by_cases h3 : x.1 < y.2.1 + 2
     ·
      have : ¬ y.2.1 + 2 ≤ x.1 := by omega
      simp only [h3, this, decide_true, decide_false, cond_true, Bool.false_and]
     ·
      have h3' : y.2.1 + 2 ≤ x.1 := by omega
      simp only [h3, h3', decide_true, decide_false, cond_false, Bool.true_and, next h2]
   ·
    have : x.2.1 ≥ 9223372036854775808 := by omega
    simp only [h2, this, decide_true, cond_true, decide_false, Bool.false_and]
theorem may3_is (l : List D_ranges_Range) (hl : l.length ≤ 9223372036854775807) (hr : ∀ r ∈ l, 0 ≤ r.1 ∧ 0 ≤ r.2.1) : ref03_May l = some (mayR 0 l, ()) := by
 rw [ref03_May_eq, b_ref03_May, ref03_May_0'_eq, b_ref03_May_0']
 exact may3_loop l [] 0 _ (by simp) (by simpa using hl) hr (.inl ⟨rfl, rfl⟩)
theorem pick3 (b6 b8 b28 b29 b24 b26 b27 b18 b19 b22 b23 q1 q2 q3 q4 q5 q6 q7 : Bool) :
  (bif b6 then (some (q1, ()) : Option (Bool × Unit)) else bif b8 then some (q1, ()) else bif b28 then some (q2, ()) else bif b29 then some (q2, ()) else bif b24 then bif q3 then bif q4 then some (q5, ()) else some (false, ()) else some (false, ()) else
   bif b26 then some (q6, ()) else bif b27 then some (q6, ()) else bif b18 then some (q7, ()) else bif b19 then some (q7, ()) else bif b22 then some (q7, ()) else bif b23 then some (q7, ()) else some (true, ())) =
  some (bif b6 || b8 then q1 else bif b28 || b29 then q2 else bif b24 then q3 && q4 && q5 else bif b26 || b27 then q6 else bif b18 || b19 || b22 || b23 then q7 else true, ()) := by
 cases b6
 ·
  cases b8
  ·
   cases b28
   ·
    cases b29
    ·
     cases b24
     ·
      cases b26
      ·
       cases b27
       ·
        cases b18
        ·
         cases b19
         ·
          cases b22
          · cases b23 <;> rfl
          · rfl
         · rfl
        · rfl
       · rfl
      · rfl
     · exact three _ _ _
    · rfl
   · rfl
  · rfl
 · rfl
theorem m3_is (f : D_frame_Frame) (h : FrOk f) (ho : f.2.2.1 ≤ 4611686018427387903) : ref06_May_3 f = some (m3 f, ()) := by
 have hfew := h.few
 have hoff := h.off
 rw [ref06_May_3_eq, b_ref06_May_3, may3_is _ hfew (fun r hr => ⟨(h.set r hr).1.1, (h.set r hr).2.1⟩)]
 simp only [ref06_May_4_eq, b_ref06_May_4, ref06_May_5_eq, b_ref06_May_5, ref06_May_6_eq, b_ref06_May_6, ref06_May_7_eq, b_ref06_May_7, obind_some, m3]
 have dsz : decide (((f.2.2.2.2.2.2.2.2.2.1.size : Nat) : Int) ≤ 1200) = decide (f.2.2.2.2.2.2.2.2.2.1.size ≤ 1200) := decide_eq_decide.mpr (by omega)
 by_cases e2 : f.1 = 2
 ·
  simp only [e2, beq_self_eq_true, cond_true]
  cases mayR 0 f.2.2.2.2.2.2.2.2.2.2.2.2.1 with
  | false => simp only [cond_false, Bool.false_and]
  | true =>
   simp only [cond_true, Bool.true_and]
   unfold lastHi
   generalize f.2.2.2.2.2.2.2.2.2.2.2.2.1 = l at *
   by_cases l0 : 1 ≤ l.length
   ·
    by_cases l1 : l.length ≤ 32
    ·
     have c0 : ((l.length : Nat) : Int) ≥ 1 := by omega
     have c1 : ((l.length : Nat) : Int) ≤ 32 := by omega
     have c2 : IntKind.wrap .i64 (((l.length : Nat) : Int) - 1) = ((l.length - 1 : Nat) : Int) := by rw [wrap_i64 _ (by omega) (by omega)]; omega
     have c3 : (0 : Int) ≤ ((l.length - 1 : Nat) : Int) ∧ ((l.length - 1 : Nat) : Int) < ((l.length : Nat) : Int) := by omega
     simp only [c0, c1, c2, c3, and_self, l0, l1, decide_true, cond_true, Bool.true_and, Int.toNat_natCast]
    ·
     have c0 : ((l.length : Nat) : Int) ≥ 1 := by omega
     have c1 : ¬ ((l.length : Nat) : Int) ≤ 32 := by omega
     simp only [c0, c1, l0, l1, decide_true, decide_false, cond_true, cond_false, Bool.true_and, Bool.false_and]
   ·
    have c0 : ¬ ((l.length : Nat) : Int) ≥ 1 := by omega
    simp only [c0, l0, decide_false, cond_false, Bool.false_and]
 ·
  simp only [beq_false_of_ne e2, cond_false, dsz]
  by_cases d : f.2.2.2.2.2.2.2.2.2.1.size ≤ 1200
  ·
   have w1 : IntKind.wrap .u64 ((f.2.2.2.2.2.2.2.2.2.1.size : Nat) : Int) = ((f.2.2.2.2.2.2.2.2.2.1.size : Nat) : Int) := wrap_u64 _ (by omega) (by omega)
   have w2 : IntKind.wrap .u64 (f.2.2.1 + ((f.2.2.2.2.2.2.2.2.2.1.size : Nat) : Int)) = f.2.2.1 + ((f.2.2.2.2.2.2.2.2.2.1.size : Nat) : Int) := wrap_u64 _ (by omega) (by omega)
   simp only [d, decide_true, cond_true, w1, w2, Bool.true_and]
   exact pick3 _ _ _ _ _ _ _ _ _ _ _ _ _ _ _ _ _ _
  ·
   simp only [d, decide_false, cond_false, Bool.false_and]
   exact pick3 _ _ _ _ _ _ _ _ _ _ _ _ _ _ _ _ _ _
theorem may6_is (f : D_frame_Frame) (h : FrOk f) : ref06_May f = some (mayFr f, ()) := by
 obtain ⟨hB, hl⟩ := shapeL_byt f.1
 rw [ref06_May_eq, b_ref06_May, shape_is]
 simp only [obind_some]
 rw [ref06_May_0'_eq, b_ref06_May_0']
 have e := num6_loop (shapeL f.1) hB hl f [f.2.1, f.2.2.1, f.2.2.2.1, f.2.2.2.2.1, f.2.2.2.2.2.1, f.2.2.2.2.2.2.1, f.2.2.2.2.2.2.2.1] [] (Int.toNat ((([f.2.1, f.2.2.1, f.2.2.2.1, f.2.2.2.2.1, f.2.2.2.2.2.1, f.2.2.2.2.2.2.1, f.2.2.2.2.2.2.2.1].length : Nat) : Int) - 0) + 2) (by simp) rfl
 rw [List.nil_append] at e
 rw [show ((([] : List Int).length : Nat) : Int) = 0 from rfl] at e
 rw [e, endM_is _ hB hl]
 have hlen : ([] : List Int).length = 0 := rfl
 rw [hlen]
 cases hk : kindB f.1 with
 | false =>
  have e1 : okM (shapeL f.1) f = false := by simp [okM, shapeL_none hk]
  have e2 : mayFr f = false := by simp [mayFr, hk]
  rw [e1, e2]
  simp only [cond_false]
  cases okNs (shapeL f.1) 0 [f.2.1, f.2.2.1, f.2.2.2.1, f.2.2.2.2.1, f.2.2.2.2.2.1, f.2.2.2.2.2.2.1, f.2.2.2.2.2.2.2.1] <;> rfl
 | true =>
  rw [← sums_is f hk]
  cases hn : okNs (shapeL f.1) 0 [f.2.1, f.2.2.1, f.2.2.2.1, f.2.2.2.2.1, f.2.2.2.2.2.1, f.2.2.2.2.2.2.1, f.2.2.2.2.2.2.2.1] with
  | false => simp only [cond_false, Bool.false_and]
  | true =>
   have ho : f.2.2.1 ≤ 4611686018427387903 := by
    simp only [okNs, Bool.and_eq_true, decide_eq_true_eq] at hn
    exact hn.2.1.1
   simp only [cond_true, m3_is f h ho, Bool.true_and]
   cases okM (shapeL f.1) f <;> rfl
end Go.Proofs.YtjdjlijjolibkaaDoor.V
namespace Go.Proofs.YtjdjlijjolibkaaDoor.V
open Go.RowKit Go.Proofs.Tryd
set_option maxRecDepth 100000
set_option linter.unusedVariables false
/-! ### domino/dominoref06.Elicits -/
end Go.Proofs.YtjdjlijjolibkaaDoor.V
namespace Go.Proofs.YtjdjlijjolibkaaDoor.V
open Go.RowKit
set_option linter.unusedVariables false
end Go.Proofs.YtjdjlijjolibkaaDoor.V
namespace Go.Proofs.YtjdjlijjolibkaaDoor.V
open Go.RowKit Go.Proofs.Tryd
set_option maxRecDepth 100000
set_option linter.unusedVariables false
noncomputable def m_ref06_getAck : Mach prog Inv gInv := mach bas [(131, f131)] ⟨ok131, trivial⟩ [(132, c_ref06_numbers)] ⟨⟨c_ref06_numbers_ok, FnOk.callable ok132⟩, trivial⟩ [] trivial [] trivial
/-! ### domino/dominoref06.getAck -/
@[reducible] def r_ref06_getAck : List Ty := [T_frame_Frame, .str, .bool]
def ks_ref06_getAck : List Nat := [131]
abbrev H_ref06_getAck (base : Base) (S0 : Nat → Prop) := base.n = 0 ∧ FinOk (finR r_ref06_getAck) base S0 (Post r_ref06_getAck S0)
abbrev J_ref06_getAck (base : Base) (S0 : Nat → Prop) (cs0 : List Go.Frame) (p : CPat) (J : denC p → Option (denL r_ref06_getAck)) := JSound m_ref06_getAck base S0 cs0 (Post r_ref06_getAck S0) p J
abbrev O_ref06_getAck (base : Base) (S0 : Nat → Prop) (cs0 : List Go.Frame) (X : Cfg → Option (Option (denL r_ref06_getAck))) := OSound m_ref06_getAck base S0 cs0 (Post r_ref06_getAck S0) X
@[reducible] noncomputable def p_ref06_getAck_0 : CPat := ⟨⟨131, [1, 1, 1, 1, 0, 1, 0], none, [.any, .any, .ptr 0 0, .any, .any, .rows (.int .u64) false, .str, .any, .ptr 1 0, .int .u64], 107⟩, [], [.dat 60 T_frame_Frame, .cells 60 [.intC .u64 (2), .intC .u64 (0), .intC .u64 (0), .intC .u64 (0), .intC .u64 (0), .intC .u64 (0), .intC .u64 (0), .int .u64, .boolC false, .str, .str, .str, .all 2], .row T_ranges_Range], 0⟩
@[reducible] noncomputable def u_ref06_getAck_0 (k : (List Int) → ByteArray → Int → D_frame_Frame → Int → ByteArray → ByteArray → ByteArray → (List D_ranges_Range) → Option (D_frame_Frame × ByteArray × Bool × Unit)) : denC p_ref06_getAck_0 → Option (D_frame_Frame × ByteArray × Bool × Unit) := fun x => k x.1.2.2.2.2.2.1 x.1.2.2.2.2.2.2.1 x.1.2.2.2.2.2.2.2.2.2.1 x.2.2.1 x.2.2.2.1.2.2.2.2.2.2.2.1 x.2.2.2.1.2.2.2.2.2.2.2.2.2.1 x.2.2.2.1.2.2.2.2.2.2.2.2.2.2.1 x.2.2.2.1.2.2.2.2.2.2.2.2.2.2.2.1 x.2.2.2.2.1
noncomputable def t_ref06_getAck_0 (k0 : (List Int) → ByteArray → Int → D_frame_Frame → Int → ByteArray → ByteArray → ByteArray → (List D_ranges_Range) → Option (D_frame_Frame × ByteArray × Bool × Unit)) (l62 : (List Int)) (s63 : ByteArray) (i64 : Int) (d65 : D_frame_Frame) (i66 : Int) (s67 : ByteArray) (s68 : ByteArray) (s69 : ByteArray) (l70 : (List D_ranges_Range)) : Option (D_frame_Frame × ByteArray × Bool × Unit) :=
 bif (decide (((0 : Int) ≤ (2 : Int)) ∧ ((2 : Int) < (((List.length l62) : Nat) : Int)))) then
  let x71 : Int := (List.getD l62 2 (0 : Int))
  let b72 : Bool := (decide (i64 < x71))
  bif b72 then
   obind (ref06_numbers s63 (2 : Int)) fun y73 =>
   bif (decide (((0 : Int) ≤ (0 : Int)) ∧ ((0 : Int) < (((List.length l70) : Nat) : Int)))) then
    let n74 : Int := (List.getD l70 0 (Ty.dflt T_ranges_Range)).1
    let b75 : Bool := (!y73.2.2.1)
    bif b75 then
     let s90 : ByteArray := (ByteArray.mk (List.toArray ([] : List UInt8)))
     let s91 : ByteArray := (ByteArray.mk (List.toArray ([] : List UInt8)))
     some (((0 : Int), ((0 : Int), ((0 : Int), ((0 : Int), ((0 : Int), ((0 : Int), ((0 : Int), ((0 : Int), (false, (s90, (s90, (s90, (([] : List D_ranges_Range), ()))))))))))))), (s91, (false, ())))
    else
     bif (decide (((0 : Int) ≤ (0 : Int)) ∧ ((0 : Int) < (((List.length y73.1) : Nat) : Int)))) then
      let x76 : Int := (List.getD y73.1 0 (0 : Int))
      let n77 : Int := (Go.IntKind.wrap Go.IntKind.u64 (x76 + (2 : Int)))
      let b78 : Bool := (decide (n74 < n77))
      bif b78 then
       let s88 : ByteArray := (ByteArray.mk (List.toArray ([] : List UInt8)))
       let s89 : ByteArray := (ByteArray.mk (List.toArray ([] : List UInt8)))
       some (((0 : Int), ((0 : Int), ((0 : Int), ((0 : Int), ((0 : Int), ((0 : Int), ((0 : Int), ((0 : Int), (false, (s88, (s88, (s88, (([] : List D_ranges_Range), ()))))))))))))), (s89, (false, ())))
      else
       bif (decide (((0 : Int) ≤ (0 : Int)) ∧ ((0 : Int) < (((List.length y73.1) : Nat) : Int)))) then
        let x79 : Int := (List.getD y73.1 0 (0 : Int))
        let n80 : Int := (Go.IntKind.wrap Go.IntKind.u64 (n74 - x79))
        let n81 : Int := (Go.IntKind.wrap Go.IntKind.u64 (n80 - (2 : Int)))
        bif (decide (((0 : Int) ≤ (1 : Int)) ∧ ((1 : Int) < (((List.length y73.1) : Nat) : Int)))) then
         let x82 : Int := (List.getD y73.1 1 (0 : Int))
         let b83 : Bool := (decide (n81 < x82))
         bif b83 then
          let s86 : ByteArray := (ByteArray.mk (List.toArray ([] : List UInt8)))
          let s87 : ByteArray := (ByteArray.mk (List.toArray ([] : List UInt8)))
          some (((0 : Int), ((0 : Int), ((0 : Int), ((0 : Int), ((0 : Int), ((0 : Int), ((0 : Int), ((0 : Int), (false, (s86, (s86, (s86, (([] : List D_ranges_Range), ()))))))))))))), (s87, (false, ())))
         else
          bif (decide (((0 : Int) ≤ (0 : Int)) ∧ ((0 : Int) < (((List.length y73.1) : Nat) : Int)))) then
           let x92 : Int := (List.getD y73.1 0 (0 : Int))
           let n93 : Int := (Go.IntKind.wrap Go.IntKind.u64 (n74 - x92))
           let n94 : Int := (Go.IntKind.wrap Go.IntKind.u64 (n93 - (2 : Int)))
           bif (decide (((0 : Int) ≤ (1 : Int)) ∧ ((1 : Int) < (((List.length y73.1) : Nat) : Int)))) then
            let x95 : Int := (List.getD y73.1 1 (0 : Int))
            let n96 : Int := (Go.IntKind.wrap Go.IntKind.u64 (n94 - x95))
            let e97 : (Int × (Int × Unit)) := (n96, (n94, ()))
            bif (decide (((List.length (e97 :: ([] : List D_ranges_Range))) + (List.length l70)) ≤ 4294967296)) then
             let l98 : (List D_ranges_Range) := ((e97 :: ([] : List D_ranges_Range)) ++ l70)
             let n99 : Int := (Go.IntKind.wrap Go.IntKind.u64 (i64 + (1 : Int)))
             k0 l62 y73.2.1 n99 d65 i66 s67 s68 s69 l98
            else none
           else none
          else none
        else none
       else none
     else none
   else none
  else
   some (((2 : Int), ((0 : Int), ((0 : Int), ((0 : Int), ((0 : Int), ((0 : Int), ((0 : Int), (i66, (false, (s67, (s68, (s69, (l70, ()))))))))))))), (s63, (true, ())))
 else none
noncomputable def ref06_getAck_0 : Nat → (List Int) → ByteArray → Int → D_frame_Frame → Int → ByteArray → ByteArray → ByteArray → (List D_ranges_Range) → Option (D_frame_Frame × ByteArray × Bool × Unit)
 | 0 => fun _ _ _ _ _ _ _ _ _ => none
 | m + 1 => t_ref06_getAck_0 (ref06_getAck_0 m)
noncomputable def b_ref06_getAck_0' (l62 : (List Int)) (s63 : ByteArray) (i64 : Int) (d65 : D_frame_Frame) (i66 : Int) (s67 : ByteArray) (s68 : ByteArray) (s69 : ByteArray) (l70 : (List D_ranges_Range)) : Option (D_frame_Frame × ByteArray × Bool × Unit) := ref06_getAck_0 (Int.toNat ((List.getD l62 2 (0 : Int)) - i64) + 2) l62 s63 i64 d65 i66 s67 s68 s69 l70
theorem ex_ref06_getAck_0' : ∃ f, f = @b_ref06_getAck_0' := ⟨_, rfl⟩
noncomputable def ref06_getAck_0' := Classical.choose ex_ref06_getAck_0'
theorem ref06_getAck_0'_eq : @ref06_getAck_0' = @b_ref06_getAck_0' := Classical.choose_spec ex_ref06_getAck_0'
theorem s_ref06_getAck_0 {base S0 cs0} (hfin : H_ref06_getAck base S0) : ∀ m, J_ref06_getAck base S0 cs0 p_ref06_getAck_0 (u_ref06_getAck_0 (ref06_getAck_0 m)) :=
 JSound.loop' hfin.2 ks_ref06_getAck 100000 u_ref06_getAck_0 (fun k0 => cut p_ref06_getAck_0 (u_ref06_getAck_0 k0) (nowhere)) (fun k0 h0 => OSound.cut (OSound.nowhere) (Nat.le_of_eq hfin.1) h0) (ref06_getAck_0) (by intro x; rfl) (by intro m x; kernel_rfl)
theorem s_ref06_getAck_0' {base S0 cs0} (hfin : H_ref06_getAck base S0) : J_ref06_getAck base S0 cs0 p_ref06_getAck_0 (u_ref06_getAck_0 (ref06_getAck_0')) := by
 rw [ref06_getAck_0'_eq]; exact fun x r hx => s_ref06_getAck_0 hfin _ x r hx
noncomputable def x_ref06_getAck_0 : Cfg → Option (Option (D_frame_Frame × ByteArray × Bool × Unit)) := cut p_ref06_getAck_0 (u_ref06_getAck_0 (ref06_getAck_0')) (nowhere)
theorem o_ref06_getAck_0 {base S0 cs0} (hfin : H_ref06_getAck base S0) : O_ref06_getAck base S0 cs0 (x_ref06_getAck_0) := OSound.cut (OSound.nowhere) (Nat.le_of_eq hfin.1) (s_ref06_getAck_0' hfin)
noncomputable def b_ref06_getAck (a0 : ByteArray) : Option (D_frame_Frame × ByteArray × Bool × Unit) :=
 let s1 : ByteArray := (ByteArray.mk (List.toArray ([] : List UInt8)))
 let s2 : ByteArray := (ByteArray.mk (List.toArray ([] : List UInt8)))
 obind (ref06_numbers a0 (4 : Int)) fun y3 =>
 let b4 : Bool := (!y3.2.2.1)
 bif b4 then
  let s16 : ByteArray := (ByteArray.mk (List.toArray ([] : List UInt8)))
  let s17 : ByteArray := (ByteArray.mk (List.toArray ([] : List UInt8)))
  some (((0 : Int), ((0 : Int), ((0 : Int), ((0 : Int), ((0 : Int), ((0 : Int), ((0 : Int), ((0 : Int), (false, (s16, (s16, (s16, (([] : List D_ranges_Range), ()))))))))))))), (s17, (false, ())))
 else
  bif (decide (((0 : Int) ≤ (2 : Int)) ∧ ((2 : Int) < (((List.length y3.1) : Nat) : Int)))) then
   let x5 : Int := (List.getD y3.1 2 (0 : Int))
   let b6 : Bool := (decide (x5 > (31 : Int)))
   bif b6 then
    let s14 : ByteArray := (ByteArray.mk (List.toArray ([] : List UInt8)))
    let s15 : ByteArray := (ByteArray.mk (List.toArray ([] : List UInt8)))
    some (((0 : Int), ((0 : Int), ((0 : Int), ((0 : Int), ((0 : Int), ((0 : Int), ((0 : Int), ((0 : Int), (false, (s14, (s14, (s14, (([] : List D_ranges_Range), ()))))))))))))), (s15, (false, ())))
   else
    bif (decide (((0 : Int) ≤ (3 : Int)) ∧ ((3 : Int) < (((List.length y3.1) : Nat) : Int)))) then
     let x7 : Int := (List.getD y3.1 3 (0 : Int))
     bif (decide (((0 : Int) ≤ (0 : Int)) ∧ ((0 : Int) < (((List.length y3.1) : Nat) : Int)))) then
      let x8 : Int := (List.getD y3.1 0 (0 : Int))
      let b9 : Bool := (decide (x7 > x8))
      bif b9 then
       let s12 : ByteArray := (ByteArray.mk (List.toArray ([] : List UInt8)))
       let s13 : ByteArray := (ByteArray.mk (List.toArray ([] : List UInt8)))
       some (((0 : Int), ((0 : Int), ((0 : Int), ((0 : Int), ((0 : Int), ((0 : Int), ((0 : Int), ((0 : Int), (false, (s12, (s12, (s12, (([] : List D_ranges_Range), ()))))))))))))), (s13, (false, ())))
      else
       bif (decide (((0 : Int) ≤ (1 : Int)) ∧ ((1 : Int) < (((List.length y3.1) : Nat) : Int)))) then
        let x18 : Int := (List.getD y3.1 1 (0 : Int))
        bif (decide (((0 : Int) ≤ (0 : Int)) ∧ ((0 : Int) < (((List.length y3.1) : Nat) : Int)))) then
         let x19 : Int := (List.getD y3.1 0 (0 : Int))
         bif (decide (((0 : Int) ≤ (3 : Int)) ∧ ((3 : Int) < (((List.length y3.1) : Nat) : Int)))) then
          let x20 : Int := (List.getD y3.1 3 (0 : Int))
          let n21 : Int := (Go.IntKind.wrap Go.IntKind.u64 (x19 - x20))
          bif (decide (((0 : Int) ≤ (0 : Int)) ∧ ((0 : Int) < (((List.length y3.1) : Nat) : Int)))) then
           let x22 : Int := (List.getD y3.1 0 (0 : Int))
           let e23 : (Int × (Int × Unit)) := (n21, (x22, ()))
           let s24 : ByteArray := (ByteArray.mk (List.toArray ([] : List UInt8)))
           let s25 : ByteArray := (ByteArray.mk (List.toArray ([] : List UInt8)))
           ref06_getAck_0' y3.1 y3.2.1 (0 : Int) ((0 : Int), ((0 : Int), ((0 : Int), ((0 : Int), ((0 : Int), ((0 : Int), ((0 : Int), ((0 : Int), (false, (s1, (s1, (s1, (([] : List D_ranges_Range), ()))))))))))))) x18 s24 s24 s24 (e23 :: ([] : List D_ranges_Range))
          else none
         else none
        else none
       else none
     else none
    else none
  else none
theorem ex_ref06_getAck : ∃ f, f = @b_ref06_getAck := ⟨_, rfl⟩
noncomputable def ref06_getAck := Classical.choose ex_ref06_getAck
theorem ref06_getAck_eq : @ref06_getAck = @b_ref06_getAck := Classical.choose_spec ex_ref06_getAck
noncomputable def cb_ref06_getAck : Con := ⟨[.str], r_ref06_getAck, fun x => b_ref06_getAck x.1⟩
noncomputable def c_ref06_getAck : Con := ⟨[.str], r_ref06_getAck, fun x => ref06_getAck x.1⟩
theorem cb_ref06_getAck_ok : cb_ref06_getAck.Sound prog Inv gInv 131 :=
 con_run (M := m_ref06_getAck) inv_g (f := f131) rfl ks_ref06_getAck 100000 (X := x_ref06_getAck_0) (fun base S0 cs0 hn hf => have hfin : H_ref06_getAck base S0 := ⟨hn, hf⟩; o_ref06_getAck_0 hfin) (by intro x; kernel_rfl)
theorem c_ref06_getAck_ok : c_ref06_getAck.Sound prog Inv gInv 131 := by
 have e : c_ref06_getAck = cb_ref06_getAck := by unfold c_ref06_getAck cb_ref06_getAck; rw [ref06_getAck_eq]
 rw [e]; exact cb_ref06_getAck_ok
noncomputable def m_ref06_parts : Mach prog Inv gInv := mach bas [(94, f94)] ⟨ok94, trivial⟩ [(83, c_ref06_shape), (92, c_ref06_number), (131, c_ref06_getAck), (132, c_ref06_numbers), (133, c_ref06_long), (134, c_ref06_take)] ⟨⟨c_ref06_shape_ok, FnOk.callable ok83⟩, ⟨c_ref06_number_ok, FnOk.callable ok92⟩, ⟨c_ref06_getAck_ok, FnOk.callable ok131⟩, ⟨c_ref06_numbers_ok, FnOk.callable ok132⟩, ⟨c_ref06_long_ok, FnOk.callable ok133⟩, ⟨c_ref06_take_ok, FnOk.callable ok134⟩, trivial⟩ [] trivial [] trivial
/-! ### domino/dominoref06.parts -/
@[reducible] def r_ref06_parts : List Ty := [T_frame_Frame, .str, .bool]
def ks_ref06_parts : List Nat := [94]
abbrev H_ref06_parts (base : Base) (S0 : Nat → Prop) := base.n = 0 ∧ FinOk (finR r_ref06_parts) base S0 (Post r_ref06_parts S0)
abbrev J_ref06_parts (base : Base) (S0 : Nat → Prop) (cs0 : List Go.Frame) (p : CPat) (J : denC p → Option (denL r_ref06_parts)) := JSound m_ref06_parts base S0 cs0 (Post r_ref06_parts S0) p J
abbrev O_ref06_parts (base : Base) (S0 : Nat → Prop) (cs0 : List Go.Frame) (X : Cfg → Option (Option (denL r_ref06_parts))) := OSound m_ref06_parts base S0 cs0 (Post r_ref06_parts S0) X
@[reducible] noncomputable def p_ref06_parts_5 : CPat := ⟨⟨94, [1, 1, 1, 1, 0, 0, 1, 1, 1, 1, 1, 1, 1, 1, 1, 1, 1, 1, 1, 1, 1, 1, 1, 1, 1, 1, 1, 0], none, [.any, .str, .any, .any, .ptr 0 0, .any, .any, .ptr 1 0], 270⟩, [], [.dat 60 T_frame_Frame, .dat 60 T_frame_Frame], 0⟩
@[reducible] noncomputable def u_ref06_parts_5 (k : ByteArray → D_frame_Frame → D_frame_Frame → Option (D_frame_Frame × ByteArray × Bool × Unit)) : denC p_ref06_parts_5 → Option (D_frame_Frame × ByteArray × Bool × Unit) := fun x => k x.1.2.1 x.2.2.1 x.2.2.2.1
noncomputable def b_ref06_parts_5 (s88 : ByteArray) (d89 : D_frame_Frame) (d90 : D_frame_Frame) : Option (D_frame_Frame × ByteArray × Bool × Unit) :=
 obind (ref06_take s88 (8 : Int)) fun y91 =>
 some ((d90.1, (d90.2.1, (d90.2.2.1, (d90.2.2.2.1, (d90.2.2.2.2.1, (d90.2.2.2.2.2.1, (d90.2.2.2.2.2.2.1, (d90.2.2.2.2.2.2.2.1, (d90.2.2.2.2.2.2.2.2.1, (d90.2.2.2.2.2.2.2.2.2.1, (d90.2.2.2.2.2.2.2.2.2.2.1, (y91.1, d90.2.2.2.2.2.2.2.2.2.2.2.2)))))))))))), y91.2)
theorem ex_ref06_parts_5 : ∃ f, f = @b_ref06_parts_5 := ⟨_, rfl⟩
noncomputable def ref06_parts_5 := Classical.choose ex_ref06_parts_5
theorem ref06_parts_5_eq : @ref06_parts_5 = @b_ref06_parts_5 := Classical.choose_spec ex_ref06_parts_5
theorem s_ref06_parts_5 {base S0 cs0} (hfin : H_ref06_parts base S0) : J_ref06_parts base S0 cs0 p_ref06_parts_5 (u_ref06_parts_5 (ref06_parts_5)) :=
 JSound.join hfin.2 (OSound.nowhere) ks_ref06_parts 100000 (by rw [ref06_parts_5_eq]; intro x; kernel_rfl)
noncomputable def x_ref06_parts_5 : Cfg → Option (Option (D_frame_Frame × ByteArray × Bool × Unit)) := cut p_ref06_parts_5 (u_ref06_parts_5 (ref06_parts_5)) (nowhere)
theorem o_ref06_parts_5 {base S0 cs0} (hfin : H_ref06_parts base S0) : O_ref06_parts base S0 cs0 (x_ref06_parts_5) := OSound.cut (OSound.nowhere) (Nat.le_of_eq hfin.1) (s_ref06_parts_5 hfin)
@[reducible] noncomputable def p_ref06_parts_4 : CPat := ⟨⟨94, [1, 1, 1, 1, 0, 0, 1, 1, 1, 1, 1, 1, 1, 1, 1, 1, 1, 1, 1, 1, 1, 1, 1, 0, 1, 1], none, [.any, .str, .any, .any, .ptr 0 0, .any, .any, .ptr 1 0, .any, .bool], 268⟩, [], [.dat 60 T_frame_Frame, .dat 60 T_frame_Frame], 0⟩
@[reducible] noncomputable def u_ref06_parts_4 (k : ByteArray → Bool → D_frame_Frame → D_frame_Frame → Option (D_frame_Frame × ByteArray × Bool × Unit)) : denC p_ref06_parts_4 → Option (D_frame_Frame × ByteArray × Bool × Unit) := fun x => k x.1.2.1 x.1.2.2.2.2.2.2.2.2.2.1 x.2.2.1 x.2.2.2.1
noncomputable def b_ref06_parts_4 (s76 : ByteArray) (b77 : Bool) (d78 : D_frame_Frame) (d79 : D_frame_Frame) : Option (D_frame_Frame × ByteArray × Bool × Unit) :=
 bif b77 then
  bif (decide (((0 : Int) ≤ (1 : Int)) ∧ (((1 : Int) ≤ (9 : Int)) ∧ ((9 : Int) ≤ (((ByteArray.size s76) : Nat) : Int))))) then
   let s80 : ByteArray := (ByteArray.extract s76 1 (Int.toNat (9 : Int)))
   bif (decide (((0 : Int) ≤ (9 : Int)) ∧ (((9 : Int) ≤ (25 : Int)) ∧ ((25 : Int) ≤ (((ByteArray.size s76) : Nat) : Int))))) then
    let s81 : ByteArray := (ByteArray.extract s76 9 (Int.toNat (25 : Int)))
    bif (decide (((0 : Int) ≤ (25 : Int)) ∧ (((25 : Int) ≤ (((ByteArray.size s76) : Nat) : Int)) ∧ ((((ByteArray.size s76) : Nat) : Int) ≤ (((ByteArray.size s76) : Nat) : Int))))) then
     let s82 : ByteArray := (ByteArray.extract s76 25 (Int.toNat (((ByteArray.size s76) : Nat) : Int)))
     some ((d79.1, (d79.2.1, (d79.2.2.1, (d79.2.2.2.1, (d79.2.2.2.2.1, (d79.2.2.2.2.2.1, (d79.2.2.2.2.2.2.1, (d79.2.2.2.2.2.2.2.1, (d79.2.2.2.2.2.2.2.2.1, (d79.2.2.2.2.2.2.2.2.2.1, (s80, (s81, d79.2.2.2.2.2.2.2.2.2.2.2.2)))))))))))), (s82, (b77, ())))
    else none
   else none
  else none
 else
  some (d79, (s76, (b77, ())))
theorem ex_ref06_parts_4 : ∃ f, f = @b_ref06_parts_4 := ⟨_, rfl⟩
noncomputable def ref06_parts_4 := Classical.choose ex_ref06_parts_4
theorem ref06_parts_4_eq : @ref06_parts_4 = @b_ref06_parts_4 := Classical.choose_spec ex_ref06_parts_4
theorem s_ref06_parts_4 {base S0 cs0} (hfin : H_ref06_parts base S0) : J_ref06_parts base S0 cs0 p_ref06_parts_4 (u_ref06_parts_4 (ref06_parts_4)) :=
 JSound.join hfin.2 (o_ref06_parts_5 hfin) ks_ref06_parts 100000 (by rw [ref06_parts_4_eq]; intro x; kernel_rfl)
noncomputable def x_ref06_parts_4 : Cfg → Option (Option (D_frame_Frame × ByteArray × Bool × Unit)) := cut p_ref06_parts_4 (u_ref06_parts_4 (ref06_parts_4)) (x_ref06_parts_5)
theorem o_ref06_parts_4 {base S0 cs0} (hfin : H_ref06_parts base S0) : O_ref06_parts base S0 cs0 (x_ref06_parts_4) := OSound.cut (o_ref06_parts_5 hfin) (Nat.le_of_eq hfin.1) (s_ref06_parts_4 hfin)
@[reducible] noncomputable def p_ref06_parts_3 : CPat := ⟨⟨94, [1, 1, 1, 1, 0, 0, 1, 1, 1, 1, 1, 1, 1, 1, 1, 1, 1, 1], none, [.int .u64, .str, .any, .any, .ptr 0 0, .any, .any, .ptr 1 0], 270⟩, [], [.dat 60 T_frame_Frame, .dat 60 T_frame_Frame], 0⟩
@[reducible] noncomputable def u_ref06_parts_3 (k : Int → ByteArray → D_frame_Frame → D_frame_Frame → Option (D_frame_Frame × ByteArray × Bool × Unit)) : denC p_ref06_parts_3 → Option (D_frame_Frame × ByteArray × Bool × Unit) := fun x => k x.1.1 x.1.2.1 x.2.2.1 x.2.2.2.1
noncomputable def b_ref06_parts_3 (i56 : Int) (s57 : ByteArray) (d58 : D_frame_Frame) (d59 : D_frame_Frame) : Option (D_frame_Frame × ByteArray × Bool × Unit) :=
 obind (ref06_shape i56) fun y60 =>
 let b61 : Bool := ((ByteArray.toList y60.1) == (ByteArray.toList (ByteArray.mk (List.toArray ((109 : UInt8) :: ([] : List UInt8))))))
 bif b61 then
  obind (ref06_number s57) fun y62 =>
  some ((d59.1, (d59.2.1, (d59.2.2.1, (y62.1, d59.2.2.2.2)))), y62.2)
 else
  obind (ref06_shape i56) fun y63 =>
  let b64 : Bool := ((ByteArray.toList y63.1) == (ByteArray.toList (ByteArray.mk (List.toArray ((105 : UInt8) :: ((109 : UInt8) :: ([] : List UInt8)))))))
  bif b64 then
   obind (ref06_numbers s57 (2 : Int)) fun y65 =>
   bif y65.2.2.1 then
    bif (decide (((0 : Int) ≤ (0 : Int)) ∧ ((0 : Int) < (((List.length y65.1) : Nat) : Int)))) then
     let x66 : Int := (List.getD y65.1 0 (0 : Int))
     bif (decide (((0 : Int) ≤ (1 : Int)) ∧ ((1 : Int) < (((List.length y65.1) : Nat) : Int)))) then
      let x67 : Int := (List.getD y65.1 1 (0 : Int))
      some ((d59.1, (x66, (d59.2.2.1, (x67, d59.2.2.2.2)))), y65.2)
     else none
    else none
   else
    some (d59, y65.2)
  else
   let b68 : Bool := (i56 == (24 : Int))
   bif b68 then
    obind (ref06_numbers s57 (2 : Int)) fun y69 =>
    bif y69.2.2.1 then
     bif (decide (((0 : Int) ≤ (0 : Int)) ∧ ((0 : Int) < (((List.length y69.1) : Nat) : Int)))) then
      let x70 : Int := (List.getD y69.1 0 (0 : Int))
      bif (decide (((0 : Int) ≤ (1 : Int)) ∧ ((1 : Int) < (((List.length y69.1) : Nat) : Int)))) then
       let x71 : Int := (List.getD y69.1 1 (0 : Int))
       let n72 : Int := (((ByteArray.size y69.2.1) : Nat) : Int)
       let b73 : Bool := (decide (n72 ≥ (25 : Int)))
       bif b73 then
        bif (decide (((0 : Int) ≤ (0 : Int)) ∧ ((0 : Int) < (((ByteArray.size y69.2.1) : Nat) : Int)))) then
         let n74 : Int := (byteAt y69.2.1 (0 : Int))
         let b75 : Bool := (n74 == (8 : Int))
         ref06_parts_4 y69.2.1 b75 d58 (d59.1, (d59.2.1, (d59.2.2.1, (d59.2.2.2.1, (d59.2.2.2.2.1, (x70, (x71, d59.2.2.2.2.2.2.2)))))))
        else none
       else
        ref06_parts_4 y69.2.1 false d58 (d59.1, (d59.2.1, (d59.2.2.1, (d59.2.2.2.1, (d59.2.2.2.2.1, (x70, (x71, d59.2.2.2.2.2.2.2)))))))
      else none
     else none
    else
     ref06_parts_4 y69.2.1 y69.2.2.1 d58 d59
   else
    let b83 : Bool := (i56 == (25 : Int))
    bif b83 then
     obind (ref06_number s57) fun y84 =>
     some ((d59.1, (d59.2.1, (d59.2.2.1, (d59.2.2.2.1, (d59.2.2.2.2.1, (y84.1, d59.2.2.2.2.2.2)))))), y84.2)
    else
     let b85 : Bool := (i56 == (26 : Int))
     bif b85 then
      ref06_parts_5 s57 d58 d59
     else
      let b86 : Bool := (i56 == (27 : Int))
      bif b86 then
       ref06_parts_5 s57 d58 d59
      else
       let b92 : Bool := (i56 == (28 : Int))
       bif b92 then
        obind (ref06_numbers s57 (2 : Int)) fun y93 =>
        bif y93.2.2.1 then
         bif (decide (((0 : Int) ≤ (0 : Int)) ∧ ((0 : Int) < (((List.length y93.1) : Nat) : Int)))) then
          let x94 : Int := (List.getD y93.1 0 (0 : Int))
          bif (decide (((0 : Int) ≤ (1 : Int)) ∧ ((1 : Int) < (((List.length y93.1) : Nat) : Int)))) then
           let x95 : Int := (List.getD y93.1 1 (0 : Int))
           obind (ref06_long y93.2.1) fun y96 =>
           some ((d59.1, (d59.2.1, (d59.2.2.1, (d59.2.2.2.1, (x94, (d59.2.2.2.2.2.1, (d59.2.2.2.2.2.2.1, (x95, (d59.2.2.2.2.2.2.2.2.1, (y96.1, d59.2.2.2.2.2.2.2.2.2.2)))))))))), y96.2)
          else none
         else none
        else
         some (d59, y93.2)
       else
        let b97 : Bool := (i56 == (29 : Int))
        bif b97 then
         obind (ref06_number s57) fun y98 =>
         bif y98.2.2.1 then
          obind (ref06_long y98.2.1) fun y99 =>
          some ((d59.1, (d59.2.1, (d59.2.2.1, (d59.2.2.2.1, (y98.1, (d59.2.2.2.2.2.1, (d59.2.2.2.2.2.2.1, (d59.2.2.2.2.2.2.2.1, (d59.2.2.2.2.2.2.2.2.1, (y99.1, d59.2.2.2.2.2.2.2.2.2.2)))))))))), y99.2)
         else
          some ((d59.1, (d59.2.1, (d59.2.2.1, (d59.2.2.2.1, (y98.1, d59.2.2.2.2.2))))), y98.2)
        else
         let s100 : ByteArray := (ByteArray.mk (List.toArray ([] : List UInt8)))
         some (d59, (s100, (false, ())))
theorem ex_ref06_parts_3 : ∃ f, f = @b_ref06_parts_3 := ⟨_, rfl⟩
noncomputable def ref06_parts_3 := Classical.choose ex_ref06_parts_3
theorem ref06_parts_3_eq : @ref06_parts_3 = @b_ref06_parts_3 := Classical.choose_spec ex_ref06_parts_3
theorem s_ref06_parts_3 {base S0 cs0} (hfin : H_ref06_parts base S0) : J_ref06_parts base S0 cs0 p_ref06_parts_3 (u_ref06_parts_3 (ref06_parts_3)) :=
 JSound.join hfin.2 (o_ref06_parts_4 hfin) ks_ref06_parts 100000 (by rw [ref06_parts_3_eq]; intro x; kernel_rfl)
noncomputable def x_ref06_parts_3 : Cfg → Option (Option (D_frame_Frame × ByteArray × Bool × Unit)) := cut p_ref06_parts_3 (u_ref06_parts_3 (ref06_parts_3)) (x_ref06_parts_4)
theorem o_ref06_parts_3 {base S0 cs0} (hfin : H_ref06_parts base S0) : O_ref06_parts base S0 cs0 (x_ref06_parts_3) := OSound.cut (o_ref06_parts_4 hfin) (Nat.le_of_eq hfin.1) (s_ref06_parts_3 hfin)
@[reducible] noncomputable def p_ref06_parts_2 : CPat := ⟨⟨94, [1, 1, 1, 1, 0, 0, 1, 1, 1, 1, 1, 1, 1, 1, 1, 1, 1, 0, 1, 1, 1, 1, 1, 1], none, [.any, .str, .any, .any, .ptr 0 0, .any, .any, .ptr 1 0, .any, .bool], 268⟩, [], [.dat 60 T_frame_Frame, .dat 60 T_frame_Frame], 0⟩
@[reducible] noncomputable def u_ref06_parts_2 (k : ByteArray → Bool → D_frame_Frame → D_frame_Frame → Option (D_frame_Frame × ByteArray × Bool × Unit)) : denC p_ref06_parts_2 → Option (D_frame_Frame × ByteArray × Bool × Unit) := fun x => k x.1.2.1 x.1.2.2.2.2.2.2.2.2.2.1 x.2.2.1 x.2.2.2.1
noncomputable def b_ref06_parts_2 (s49 : ByteArray) (b50 : Bool) (d51 : D_frame_Frame) (d52 : D_frame_Frame) : Option (D_frame_Frame × ByteArray × Bool × Unit) :=
 bif b50 then
  let s53 : ByteArray := (ByteArray.mk (List.toArray ([] : List UInt8)))
  some ((d52.1, (d52.2.1, (d52.2.2.1, (d52.2.2.2.1, (d52.2.2.2.2.1, (d52.2.2.2.2.2.1, (d52.2.2.2.2.2.2.1, (d52.2.2.2.2.2.2.2.1, (d52.2.2.2.2.2.2.2.2.1, (s49, d52.2.2.2.2.2.2.2.2.2.2)))))))))), (s53, (b50, ())))
 else
  some (d52, (s49, (b50, ())))
theorem ex_ref06_parts_2 : ∃ f, f = @b_ref06_parts_2 := ⟨_, rfl⟩
noncomputable def ref06_parts_2 := Classical.choose ex_ref06_parts_2
theorem ref06_parts_2_eq : @ref06_parts_2 = @b_ref06_parts_2 := Classical.choose_spec ex_ref06_parts_2
theorem s_ref06_parts_2 {base S0 cs0} (hfin : H_ref06_parts base S0) : J_ref06_parts base S0 cs0 p_ref06_parts_2 (u_ref06_parts_2 (ref06_parts_2)) :=
 JSound.join hfin.2 (o_ref06_parts_3 hfin) ks_ref06_parts 100000 (by rw [ref06_parts_2_eq]; intro x; kernel_rfl)
noncomputable def x_ref06_parts_2 : Cfg → Option (Option (D_frame_Frame × ByteArray × Bool × Unit)) := cut p_ref06_parts_2 (u_ref06_parts_2 (ref06_parts_2)) (x_ref06_parts_3)
theorem o_ref06_parts_2 {base S0 cs0} (hfin : H_ref06_parts base S0) : O_ref06_parts base S0 cs0 (x_ref06_parts_2) := OSound.cut (o_ref06_parts_3 hfin) (Nat.le_of_eq hfin.1) (s_ref06_parts_2 hfin)
@[reducible] noncomputable def p_ref06_parts_1 : CPat := ⟨⟨94, [1, 1, 1, 1, 0, 0, 1, 1, 1, 1, 1, 1, 1, 1, 1, 1, 1, 0, 1, 1, 1, 1], none, [.int .u64, .str, .any, .any, .ptr 0 0, .any, .any, .ptr 1 0, .any, .bool], 268⟩, [], [.dat 60 T_frame_Frame, .dat 60 T_frame_Frame], 0⟩
@[reducible] noncomputable def u_ref06_parts_1 (k : Int → ByteArray → Bool → D_frame_Frame → D_frame_Frame → Option (D_frame_Frame × ByteArray × Bool × Unit)) : denC p_ref06_parts_1 → Option (D_frame_Frame × ByteArray × Bool × Unit) := fun x => k x.1.1 x.1.2.1 x.1.2.2.2.2.2.2.2.2.2.1 x.2.2.1 x.2.2.2.1
noncomputable def b_ref06_parts_1 (i40 : Int) (s41 : ByteArray) (b42 : Bool) (d43 : D_frame_Frame) (d44 : D_frame_Frame) : Option (D_frame_Frame × ByteArray × Bool × Unit) :=
 bif b42 then
  let n45 : Int := (Go.IntKind.wrap Go.IntKind.u64 (Int.tdiv i40 (2 : Int)))
  let n46 : Int := (Int.tmod n45 (2 : Int))
  let b47 : Bool := (n46 == (1 : Int))
  bif b47 then
   obind (ref06_long s41) fun y48 =>
   some ((d44.1, (d44.2.1, (d44.2.2.1, (d44.2.2.2.1, (d44.2.2.2.2.1, (d44.2.2.2.2.2.1, (d44.2.2.2.2.2.2.1, (d44.2.2.2.2.2.2.2.1, (d44.2.2.2.2.2.2.2.2.1, (y48.1, d44.2.2.2.2.2.2.2.2.2.2)))))))))), y48.2)
  else
   ref06_parts_2 s41 b42 d43 d44
 else
  ref06_parts_2 s41 b42 d43 d44
theorem ex_ref06_parts_1 : ∃ f, f = @b_ref06_parts_1 := ⟨_, rfl⟩
noncomputable def ref06_parts_1 := Classical.choose ex_ref06_parts_1
theorem ref06_parts_1_eq : @ref06_parts_1 = @b_ref06_parts_1 := Classical.choose_spec ex_ref06_parts_1
theorem s_ref06_parts_1 {base S0 cs0} (hfin : H_ref06_parts base S0) : J_ref06_parts base S0 cs0 p_ref06_parts_1 (u_ref06_parts_1 (ref06_parts_1)) :=
 JSound.join hfin.2 (o_ref06_parts_2 hfin) ks_ref06_parts 100000 (by rw [ref06_parts_1_eq]; intro x; kernel_rfl)
noncomputable def x_ref06_parts_1 : Cfg → Option (Option (D_frame_Frame × ByteArray × Bool × Unit)) := cut p_ref06_parts_1 (u_ref06_parts_1 (ref06_parts_1)) (x_ref06_parts_2)
theorem o_ref06_parts_1 {base S0 cs0} (hfin : H_ref06_parts base S0) : O_ref06_parts base S0 cs0 (x_ref06_parts_1) := OSound.cut (o_ref06_parts_2 hfin) (Nat.le_of_eq hfin.1) (s_ref06_parts_1 hfin)
@[reducible] noncomputable def p_ref06_parts_0 : CPat := ⟨⟨94, [1, 1, 1, 1, 0, 0, 1, 1, 1, 1, 1, 1, 1, 1, 1, 1, 1, 0, 1, 1, 1, 0, 1, 1], none, [.int .u64, .str, .any, .any, .ptr 0 0, .any, .any, .ptr 1 0, .any, .bool], 268⟩, [], [.dat 60 T_frame_Frame, .dat 60 T_frame_Frame], 0⟩
@[reducible] noncomputable def u_ref06_parts_0 (k : Int → ByteArray → Bool → D_frame_Frame → D_frame_Frame → Option (D_frame_Frame × ByteArray × Bool × Unit)) : denC p_ref06_parts_0 → Option (D_frame_Frame × ByteArray × Bool × Unit) := fun x => k x.1.1 x.1.2.1 x.1.2.2.2.2.2.2.2.2.2.1 x.2.2.1 x.2.2.2.1
noncomputable def b_ref06_parts_0 (i32 : Int) (s33 : ByteArray) (b34 : Bool) (d35 : D_frame_Frame) (d36 : D_frame_Frame) : Option (D_frame_Frame × ByteArray × Bool × Unit) :=
 ref06_parts_1 i32 s33 b34 d35 d36
theorem ex_ref06_parts_0 : ∃ f, f = @b_ref06_parts_0 := ⟨_, rfl⟩
noncomputable def ref06_parts_0 := Classical.choose ex_ref06_parts_0
theorem ref06_parts_0_eq : @ref06_parts_0 = @b_ref06_parts_0 := Classical.choose_spec ex_ref06_parts_0
theorem s_ref06_parts_0 {base S0 cs0} (hfin : H_ref06_parts base S0) : J_ref06_parts base S0 cs0 p_ref06_parts_0 (u_ref06_parts_0 (ref06_parts_0)) :=
 JSound.join hfin.2 (o_ref06_parts_1 hfin) ks_ref06_parts 100000 (by rw [ref06_parts_0_eq]; intro x; kernel_rfl)
noncomputable def x_ref06_parts_0 : Cfg → Option (Option (D_frame_Frame × ByteArray × Bool × Unit)) := cut p_ref06_parts_0 (u_ref06_parts_0 (ref06_parts_0)) (x_ref06_parts_1)
theorem o_ref06_parts_0 {base S0 cs0} (hfin : H_ref06_parts base S0) : O_ref06_parts base S0 cs0 (x_ref06_parts_0) := OSound.cut (o_ref06_parts_1 hfin) (Nat.le_of_eq hfin.1) (s_ref06_parts_0 hfin)
noncomputable def b_ref06_parts (a0 : Int) (a1 : ByteArray) : Option (D_frame_Frame × ByteArray × Bool × Unit) :=
 let s2 : ByteArray := (ByteArray.mk (List.toArray ([] : List UInt8)))
 let s3 : ByteArray := (ByteArray.mk (List.toArray ([] : List UInt8)))
 let s4 : ByteArray := (ByteArray.mk (List.toArray ([] : List UInt8)))
 let s5 : ByteArray := (ByteArray.mk (List.toArray ([] : List UInt8)))
 let b6 : Bool := (a0 == (0 : Int))
 bif b6 then
  some ((a0, ((0 : Int), ((0 : Int), ((0 : Int), ((0 : Int), ((0 : Int), ((0 : Int), ((0 : Int), (false, (s4, (s4, (s4, (([] : List D_ranges_Range), ()))))))))))))), (a1, (true, ())))
 else
  let b7 : Bool := (a0 == (1 : Int))
  bif b7 then
   some ((a0, ((0 : Int), ((0 : Int), ((0 : Int), ((0 : Int), ((0 : Int), ((0 : Int), ((0 : Int), (false, (s4, (s4, (s4, (([] : List D_ranges_Range), ()))))))))))))), (a1, (true, ())))
  else
   let b8 : Bool := (a0 == (30 : Int))
   bif b8 then
    some ((a0, ((0 : Int), ((0 : Int), ((0 : Int), ((0 : Int), ((0 : Int), ((0 : Int), ((0 : Int), (false, (s4, (s4, (s4, (([] : List D_ranges_Range), ()))))))))))))), (a1, (true, ())))
   else
    let b9 : Bool := (a0 == (2 : Int))
    bif b9 then
     obind (ref06_getAck a1) fun y10 =>
     some y10
    else
     let b11 : Bool := (a0 == (4 : Int))
     bif b11 then
      obind (ref06_numbers a1 (3 : Int)) fun y12 =>
      bif y12.2.2.1 then
       bif (decide (((0 : Int) ≤ (0 : Int)) ∧ ((0 : Int) < (((List.length y12.1) : Nat) : Int)))) then
        let x13 : Int := (List.getD y12.1 0 (0 : Int))
        bif (decide (((0 : Int) ≤ (1 : Int)) ∧ ((1 : Int) < (((List.length y12.1) : Nat) : Int)))) then
         let x14 : Int := (List.getD y12.1 1 (0 : Int))
         bif (decide (((0 : Int) ≤ (2 : Int)) ∧ ((2 : Int) < (((List.length y12.1) : Nat) : Int)))) then
          let x15 : Int := (List.getD y12.1 2 (0 : Int))
          some ((a0, (x13, ((0 : Int), (x15, (x14, ((0 : Int), ((0 : Int), ((0 : Int), (false, (s4, (s4, (s4, (([] : List D_ranges_Range), ()))))))))))))), y12.2)
         else none
        else none
       else none
      else
       some ((a0, ((0 : Int), ((0 : Int), ((0 : Int), ((0 : Int), ((0 : Int), ((0 : Int), ((0 : Int), (false, (s4, (s4, (s4, (([] : List D_ranges_Range), ()))))))))))))), y12.2)
     else
      let b16 : Bool := (a0 == (5 : Int))
      bif b16 then
       obind (ref06_numbers a1 (2 : Int)) fun y17 =>
       bif y17.2.2.1 then
        bif (decide (((0 : Int) ≤ (0 : Int)) ∧ ((0 : Int) < (((List.length y17.1) : Nat) : Int)))) then
         let x18 : Int := (List.getD y17.1 0 (0 : Int))
         bif (decide (((0 : Int) ≤ (1 : Int)) ∧ ((1 : Int) < (((List.length y17.1) : Nat) : Int)))) then
          let x19 : Int := (List.getD y17.1 1 (0 : Int))
          some ((a0, (x18, ((0 : Int), ((0 : Int), (x19, ((0 : Int), ((0 : Int), ((0 : Int), (false, (s4, (s4, (s4, (([] : List D_ranges_Range), ()))))))))))))), y17.2)
         else none
        else none
       else
        some ((a0, ((0 : Int), ((0 : Int), ((0 : Int), ((0 : Int), ((0 : Int), ((0 : Int), ((0 : Int), (false, (s4, (s4, (s4, (([] : List D_ranges_Range), ()))))))))))))), y17.2)
      else
       let b20 : Bool := (a0 == (6 : Int))
       bif b20 then
        obind (ref06_number a1) fun y21 =>
        bif y21.2.2.1 then
         obind (ref06_long y21.2.1) fun y22 =>
         some ((a0, ((0 : Int), (y21.1, ((0 : Int), ((0 : Int), ((0 : Int), ((0 : Int), ((0 : Int), (false, (y22.1, (s4, (s4, (([] : List D_ranges_Range), ()))))))))))))), y22.2)
        else
         some ((a0, ((0 : Int), (y21.1, ((0 : Int), ((0 : Int), ((0 : Int), ((0 : Int), ((0 : Int), (false, (s4, (s4, (s4, (([] : List D_ranges_Range), ()))))))))))))), y21.2)
       else
        let b23 : Bool := (decide (a0 ≥ (8 : Int)))
        bif b23 then
         let b24 : Bool := (decide (a0 ≤ (15 : Int)))
         bif b24 then
          let n25 : Int := (Int.tmod a0 (2 : Int))
          let b26 : Bool := (n25 == (1 : Int))
          obind (ref06_number a1) fun y27 =>
          bif y27.2.2.1 then
           let n28 : Int := (Go.IntKind.wrap Go.IntKind.u64 (Int.tdiv a0 (4 : Int)))
           let n29 : Int := (Int.tmod n28 (2 : Int))
           let b30 : Bool := (n29 == (1 : Int))
           bif b30 then
            obind (ref06_number y27.2.1) fun y31 =>
            ref06_parts_1 a0 y31.2.1 y31.2.2.1 ((0 : Int), ((0 : Int), ((0 : Int), ((0 : Int), ((0 : Int), ((0 : Int), ((0 : Int), ((0 : Int), (false, (s2, (s2, (s2, (([] : List D_ranges_Range), ()))))))))))))) ((8 : Int), (y27.1, (y31.1, ((0 : Int), ((0 : Int), ((0 : Int), ((0 : Int), ((0 : Int), (b26, (s4, (s4, (s4, (([] : List D_ranges_Range), ())))))))))))))
           else
            ref06_parts_0 a0 y27.2.1 y27.2.2.1 ((0 : Int), ((0 : Int), ((0 : Int), ((0 : Int), ((0 : Int), ((0 : Int), ((0 : Int), ((0 : Int), (false, (s2, (s2, (s2, (([] : List D_ranges_Range), ()))))))))))))) ((8 : Int), (y27.1, ((0 : Int), ((0 : Int), ((0 : Int), ((0 : Int), ((0 : Int), ((0 : Int), (b26, (s4, (s4, (s4, (([] : List D_ranges_Range), ())))))))))))))
          else
           ref06_parts_0 a0 y27.2.1 y27.2.2.1 ((0 : Int), ((0 : Int), ((0 : Int), ((0 : Int), ((0 : Int), ((0 : Int), ((0 : Int), ((0 : Int), (false, (s2, (s2, (s2, (([] : List D_ranges_Range), ()))))))))))))) ((8 : Int), (y27.1, ((0 : Int), ((0 : Int), ((0 : Int), ((0 : Int), ((0 : Int), ((0 : Int), (b26, (s4, (s4, (s4, (([] : List D_ranges_Range), ())))))))))))))
         else
          ref06_parts_3 a0 a1 ((0 : Int), ((0 : Int), ((0 : Int), ((0 : Int), ((0 : Int), ((0 : Int), ((0 : Int), ((0 : Int), (false, (s2, (s2, (s2, (([] : List D_ranges_Range), ()))))))))))))) (a0, ((0 : Int), ((0 : Int), ((0 : Int), ((0 : Int), ((0 : Int), ((0 : Int), ((0 : Int), (false, (s4, (s4, (s4, (([] : List D_ranges_Range), ())))))))))))))
        else
         ref06_parts_3 a0 a1 ((0 : Int), ((0 : Int), ((0 : Int), ((0 : Int), ((0 : Int), ((0 : Int), ((0 : Int), ((0 : Int), (false, (s2, (s2, (s2, (([] : List D_ranges_Range), ()))))))))))))) (a0, ((0 : Int), ((0 : Int), ((0 : Int), ((0 : Int), ((0 : Int), ((0 : Int), ((0 : Int), (false, (s4, (s4, (s4, (([] : List D_ranges_Range), ())))))))))))))
theorem ex_ref06_parts : ∃ f, f = @b_ref06_parts := ⟨_, rfl⟩
noncomputable def ref06_parts := Classical.choose ex_ref06_parts
theorem ref06_parts_eq : @ref06_parts = @b_ref06_parts := Classical.choose_spec ex_ref06_parts
noncomputable def cb_ref06_parts : Con := ⟨[(.int .u64), .str], r_ref06_parts, fun x => b_ref06_parts x.1 x.2.1⟩
noncomputable def c_ref06_parts : Con := ⟨[(.int .u64), .str], r_ref06_parts, fun x => ref06_parts x.1 x.2.1⟩
theorem cb_ref06_parts_ok : cb_ref06_parts.Sound prog Inv gInv 94 :=
 con_run (M := m_ref06_parts) inv_g (f := f94) rfl ks_ref06_parts 100000 (X := x_ref06_parts_0) (fun base S0 cs0 hn hf => have hfin : H_ref06_parts base S0 := ⟨hn, hf⟩; o_ref06_parts_0 hfin) (by intro x; kernel_rfl)
theorem c_ref06_parts_ok : c_ref06_parts.Sound prog Inv gInv 94 := by
 have e : c_ref06_parts = cb_ref06_parts := by unfold c_ref06_parts cb_ref06_parts; rw [ref06_parts_eq]
 rw [e]; exact cb_ref06_parts_ok
noncomputable def m_ref06_Get : Mach prog Inv gInv := mach bas [(41, f41)] ⟨ok41, trivial⟩ [(35, c_ref06_May), (92, c_ref06_number), (93, c_ref01_Size), (94, c_ref06_parts)] ⟨⟨c_ref06_May_ok, FnOk.callable ok35⟩, ⟨c_ref06_number_ok, FnOk.callable ok92⟩, ⟨c_ref01_Size_ok, FnOk.callable ok93⟩, ⟨c_ref06_parts_ok, FnOk.callable ok94⟩, trivial⟩ [] trivial [] trivial
/-! ### domino/dominoref06.Get -/
@[reducible] def r_ref06_Get : List Ty := [T_frame_Frame, .str, (.int .i64)]
def ks_ref06_Get : List Nat := [41]
noncomputable def b_ref06_Get (a0 : ByteArray) : Option (D_frame_Frame × ByteArray × Int × Unit) :=
 let s1 : ByteArray := (ByteArray.mk (List.toArray ([] : List UInt8)))
 let s2 : ByteArray := (ByteArray.mk (List.toArray ([] : List UInt8)))
 obind (ref06_number a0) fun y3 =>
 let b4 : Bool := (!y3.2.2.1)
 bif b4 then
  let s14 : ByteArray := (ByteArray.mk (List.toArray ([] : List UInt8)))
  let s15 : ByteArray := (ByteArray.mk (List.toArray ([] : List UInt8)))
  some (((0 : Int), ((0 : Int), ((0 : Int), ((0 : Int), ((0 : Int), ((0 : Int), ((0 : Int), ((0 : Int), (false, (s14, (s14, (s14, (([] : List D_ranges_Range), ()))))))))))))), (s15, ((60 : Int), ())))
 else
  let n5 : Int := (((ByteArray.size a0) : Nat) : Int)
  let n6 : Int := (((ByteArray.size y3.2.1) : Nat) : Int)
  let n7 : Int := (Go.IntKind.wrap Go.IntKind.i64 (n5 - n6))
  obind (ref01_Size y3.1) fun y8 =>
  let b9 : Bool := (n7 != y8.1)
  bif b9 then
   let s12 : ByteArray := (ByteArray.mk (List.toArray ([] : List UInt8)))
   let s13 : ByteArray := (ByteArray.mk (List.toArray ([] : List UInt8)))
   some (((0 : Int), ((0 : Int), ((0 : Int), ((0 : Int), ((0 : Int), ((0 : Int), ((0 : Int), ((0 : Int), (false, (s12, (s12, (s12, (([] : List D_ranges_Range), ()))))))))))))), (s13, ((60 : Int), ())))
  else
   obind (ref06_parts y3.1 y3.2.1) fun y16 =>
   let s17 : ByteArray := (ByteArray.mk (List.toArray ([] : List UInt8)))
   let b18 : Bool := (!y16.2.2.1)
   bif b18 then
    let s25 : ByteArray := (ByteArray.mk (List.toArray ([] : List UInt8)))
    let s26 : ByteArray := (ByteArray.mk (List.toArray ([] : List UInt8)))
    some (((0 : Int), ((0 : Int), ((0 : Int), ((0 : Int), ((0 : Int), ((0 : Int), ((0 : Int), ((0 : Int), (false, (s25, (s25, (s25, (([] : List D_ranges_Range), ()))))))))))))), (s26, ((60 : Int), ())))
   else
    obind (ref06_May y16.1) fun y19 =>
    let b20 : Bool := (!y19.1)
    bif b20 then
     let s23 : ByteArray := (ByteArray.mk (List.toArray ([] : List UInt8)))
     let s24 : ByteArray := (ByteArray.mk (List.toArray ([] : List UInt8)))
     some (((0 : Int), ((0 : Int), ((0 : Int), ((0 : Int), ((0 : Int), ((0 : Int), ((0 : Int), ((0 : Int), (false, (s23, (s23, (s23, (([] : List D_ranges_Range), ()))))))))))))), (s24, ((60 : Int), ())))
    else
     some (y16.1, (y16.2.1, ((0 : Int), ())))
theorem ex_ref06_Get : ∃ f, f = @b_ref06_Get := ⟨_, rfl⟩
noncomputable def ref06_Get := Classical.choose ex_ref06_Get
theorem ref06_Get_eq : @ref06_Get = @b_ref06_Get := Classical.choose_spec ex_ref06_Get
noncomputable def cb_ref06_Get : Con := ⟨[.str], r_ref06_Get, fun x => b_ref06_Get x.1⟩
noncomputable def c_ref06_Get : Con := ⟨[.str], r_ref06_Get, fun x => ref06_Get x.1⟩
theorem cb_ref06_Get_ok : cb_ref06_Get.Sound prog Inv gInv 41 :=
 con_run (M := m_ref06_Get) inv_g (f := f41) rfl ks_ref06_Get 100000 (X := nowhere) (fun base S0 cs0 hn hf => OSound.nowhere) (by intro x; kernel_rfl)
theorem c_ref06_Get_ok : c_ref06_Get.Sound prog Inv gInv 41 := by
 have e : c_ref06_Get = cb_ref06_Get := by unfold c_ref06_Get cb_ref06_Get; rw [ref06_Get_eq]
 rw [e]; exact cb_ref06_Get_ok
end Go.Proofs.YtjdjlijjolibkaaDoor.V
namespace Go.Proofs.YtjdjlijjolibkaaDoor.V
open Go.RowKit
set_option linter.unusedVariables false
theorem gaps6_loop (L : List Int) (hL : L.length = 4) (cnt : Nat) (hc : L.getD 2 0 = ((cnt : Nat) : Int)) (h31 : cnt ≤ 31) (d : D_frame_Frame) (delay : Int) : ∀ (j m i : Nat) (l : List Int) (lo h : Int) (tail : List D_ranges_Range), j < m → i + j = cnt → Byt l → l.length ≤ 1000000 → In62 lo → tail.length + j ≤ 100 →
  ref06_getAck_0 m L (bytesStr l) ((i : Nat) : Int) d delay eB eB eB ((lo, h, ()) :: tail) =
   some (match gapsP j lo l with | some (rs, r) => ((2, 0, 0, 0, 0, 0, 0, delay, false, eB, eB, eB, rs.reverse ++ (lo, h, ()) :: tail, ()), bytesStr r, true, ()) | none => (zF 0, eB, false, ())) := by
 intro j
 induction j with
 | zero =>
  intro m i l lo h tail hm hi hB hl h62 ht
  obtain ⟨m, rfl⟩ : ∃ k, m = k + 1 := ⟨m - 1, by omega⟩
  have c : ¬ ((i : Nat) : Int) < ((cnt : Nat) : Int) := by omega
  simp only [ref06_getAck_0, t_ref06_getAck_0, hL, hc, c, decide_false, cond_false, gapsP, pr]
  rfl
 | succ j ih =>
  intro m i l lo h tail hm hi hB hl h62 ht
  obtain ⟨m, rfl⟩ : ∃ k, m = k + 1 := ⟨m - 1, by omega⟩
  have c : ((i : Nat) : Int) < ((cnt : Nat) : Int) := by omega
  have e0 : ByteArray.mk (List.toArray ([] : List UInt8)) = eB := rfl
  have k4 : ((0 : Int) ≤ 2 ∧ (2 : Int) < ((4 : Nat) : Int)) := by omega
  have k0 : (0 : Int) ≤ 0 ∧ (0 : Int) < (((((lo, h, ()) : D_ranges_Range) :: tail).length : Nat) : Int) := by simp
  have hn := nums6_is 2 (by omega) l hB hl
  simp only [show ((2 : Nat) : Int) = 2 from rfl] at hn
  obtain ⟨o0, o1⟩ := h62
  cases g1 : vget l with
  | none =>
   have hv : vgets 2 l = none := by simp only [vgets, pb, g1]
   rw [hv] at hn
   simp only [ref06_getAck_0, t_ref06_getAck_0, hL, hc, c, k4, and_self, decide_true, cond_true, hn, toldP, obind_some, k0, e0, List.getD_cons_zero, gapsP, pb, g1, Bool.not_false]
  | some x1 =>
   obtain ⟨gap, r1⟩ := x1
   obtain ⟨⟨a0, a1⟩, b1, b2⟩ := vget_in hB g1
   cases g2 : vget r1 with
   | none =>
    have hv : vgets 2 l = none := by simp only [vgets, pb, g1, g2]
    rw [hv] at hn
    simp only [ref06_getAck_0, t_ref06_getAck_0, hL, hc, c, k4, and_self, decide_true, cond_true, hn, toldP, obind_some, k0, e0, List.getD_cons_zero, gapsP, pb, g1, g2, Bool.not_false]
   | some x2 =>
    obtain ⟨len, r2⟩ := x2
    obtain ⟨⟨a2, a3⟩, b3, b4⟩ := vget_in b1 g2
    have hv : vgets 2 l = some ([gap, len], r2) := by simp only [vgets, pb, pr, g1, g2]
    rw [hv] at hn
    simp only [ref06_getAck_0, t_ref06_getAck_0, hL, hc, c, k4, and_self, decide_true, cond_true, hn, toldP, obind_some, k0, e0, List.getD_cons_zero, gapsP, pb, g1, g2, pg, pr]
    have w1 : IntKind.wrap .u64 (gap + 2) = gap + 2 := wrap_u64 _ (by omega) (by omega)
    have q0 : (0 : Int) ≤ 0 ∧ (0 : Int) < ((([gap, len] : List Int).length : Nat) : Int) := by simp
    have q1 : (0 : Int) ≤ 1 ∧ (1 : Int) < ((([gap, len] : List Int).length : Nat) : Int) := by simp
    simp only [Bool.not_true, cond_false, q0, q1, and_self, decide_true, cond_true, List.getD_cons_zero, List.getD_cons_succ, w1]
    by_cases c1 : gap + 2 ≤ lo
    ·
     have c1' : ¬ lo < gap + 2 := by omega
     have w2 : IntKind.wrap .u64 (lo - gap) = lo - gap := wrap_u64 _ (by omega) (by omega)
     have w3 : IntKind.wrap .u64 (lo - gap - 2) = lo - gap - 2 := wrap_u64 _ (by omega) (by omega)
     simp only [c1, c1', decide_true, decide_false, cond_false, w2, w3, Bool.true_and]
     by_cases c2 : len ≤ lo - gap - 2
     ·
      have c2' : ¬ lo - gap - 2 < len := by omega
      have w4 : IntKind.wrap .u64 (lo - gap - 2 - len) = lo - gap - 2 - len := wrap_u64 _ (by omega) (by omega)
      have w5 : IntKind.wrap .u64 (((i : Nat) : Int) + 1) = ((i + 1 : Nat) : Int) := by rw [wrap_u64 _ (by omega) (by omega)]; omega
      have c3 : ([((lo - gap - 2 - len, lo - gap - 2, ()) : D_ranges_Range)]).length + ((((lo, h, ()) : D_ranges_Range) :: tail).length) ≤ 4294967296 := by simp; omega
      simp only [c2, c2', decide_true, decide_false, cond_true, cond_false, w4, w5, c3, List.cons_append, List.nil_append]
      rw [ih m (i + 1) r2 (lo - gap - 2 - len) (lo - gap - 2) ((lo, h, ()) :: tail) (by omega) (by omega) b3 (by omega) ⟨by omega, by omega⟩ (by simp; omega)]
      cases gapsP j (lo - gap - 2 - len) r2 with
      | none => rfl
      | some y => simp
     ·
      have c2' : lo - gap - 2 < len := by omega
      simp only [c2, c2', decide_true, decide_false, cond_true, cond_false]
    ·
     have c1' : lo < gap + 2 := by omega
     simp only [c1, c1', decide_true, decide_false, cond_true, cond_false, Bool.false_and]
theorem getAck6_is (l : List Int) (hB : Byt l) (hl : l.length ≤ 1000000) : ref06_getAck (bytesStr l) = toldP (zF 0) (ackP l) := by
 rw [ref06_getAck_eq, b_ref06_getAck]
 have hn := nums6_is 4 (by omega) l hB hl
 simp only [show ((4 : Nat) : Int) = 4 from rfl] at hn
 have e0 : ByteArray.mk (List.toArray ([] : List UInt8)) = eB := rfl
 cases g1 : vget l with
 | none =>
  have hv : vgets 4 l = none := by simp only [vgets, pb, g1]
  rw [hv] at hn
  simp only [hn, toldP, obind_some, ackP, pb, g1, e0, Bool.not_false, cond_true]
 | some x1 =>
  obtain ⟨hi, r1⟩ := x1
  obtain ⟨⟨a0, a1⟩, b1, b2⟩ := vget_in hB g1
  cases g2 : vget r1 with
  | none =>
   have hv : vgets 4 l = none := by simp only [vgets, pb, g1, g2]
   rw [hv] at hn
   simp only [hn, toldP, obind_some, ackP, pb, g1, g2, e0, Bool.not_false, cond_true]
  | some x2 =>
   obtain ⟨delay, r2⟩ := x2
   obtain ⟨⟨a2, a3⟩, b3, b4⟩ := vget_in b1 g2
   cases g3 : vget r2 with
   | none =>
    have hv : vgets 4 l = none := by simp only [vgets, pb, g1, g2, g3]
    rw [hv] at hn
    simp only [hn, toldP, obind_some, ackP, pb, g1, g2, g3, e0, Bool.not_false, cond_true]
   | some x3 =>
    obtain ⟨cnt, r3⟩ := x3
    obtain ⟨⟨a4, a5⟩, b5, b6⟩ := vget_in b3 g3
    cases g4 : vget r3 with
    | none =>
     have hv : vgets 4 l = none := by simp only [vgets, pb, g1, g2, g3, g4]
     rw [hv] at hn
     simp only [hn, toldP, obind_some, ackP, pb, g1, g2, g3, g4, e0, Bool.not_false, cond_true]
    | some x4 =>
     obtain ⟨first, r4⟩ := x4
     obtain ⟨⟨a6, a7⟩, b7, b8⟩ := vget_in b5 g4
     have hv : vgets 4 l = some ([hi, delay, cnt, first], r4) := by simp only [vgets, pb, pr, g1, g2, g3, g4]
     rw [hv] at hn
     simp only [hn, toldP, obind_some, ackP, pb, pg, pr, g1, g2, g3, g4, e0]
     have q0 : (0 : Int) ≤ 0 ∧ (0 : Int) < ((([hi, delay, cnt, first] : List Int).length : Nat) : Int) := by simp
     have q1 : (0 : Int) ≤ 1 ∧ (1 : Int) < ((([hi, delay, cnt, first] : List Int).length : Nat) : Int) := by simp
     have q2 : (0 : Int) ≤ 2 ∧ (2 : Int) < ((([hi, delay, cnt, first] : List Int).length : Nat) : Int) := by simp
     have q3 : (0 : Int) ≤ 3 ∧ (3 : Int) < ((([hi, delay, cnt, first] : List Int).length : Nat) : Int) := by simp
     simp only [Bool.not_true, cond_false, q0, q1, q2, q3, and_self, decide_true, cond_true, List.getD_cons_zero, List.getD_cons_succ]
     by_cases c1 : cnt < 32
     ·
      have c1' : ¬ cnt > 31 := by omega
      simp only [c1, c1', decide_true, decide_false, cond_false, Bool.true_and]
      by_cases c2 : first ≤ hi
      ·
       have c2' : ¬ first > hi := by omega
       have w : IntKind.wrap .u64 (hi - first) = hi - first := wrap_u64 _ (by omega) (by omega)
       simp only [c2, c2', decide_true, decide_false, cond_true, cond_false, w]
       rw [ref06_getAck_0'_eq, b_ref06_getAck_0']
       have := gaps6_loop [hi, delay, cnt, first] rfl cnt.toNat (by simp <;> omega) (by omega) (0, 0, 0, 0, 0, 0, 0, 0, false, eB, eB, eB, [], ()) delay cnt.toNat (Int.toNat (([hi, delay, cnt, first] : List Int).getD 2 0 - 0) + 2) 0 r4 (hi - first) hi [] (by simp <;> omega) (by omega) b7 (by omega) ⟨by omega, by omega⟩ (by simp <;> omega)
       rw [show (((0 : Nat) : Int)) = 0 from rfl] at this
       rw [this]
       cases gapsP cnt.toNat (hi - first) r4 with
       | none => rfl
       | some y => simp
      ·
       have c2' : first > hi := by omega
       simp only [c2, c2', decide_true, decide_false, cond_true, cond_false]
     ·
      have c1' : cnt > 31 := by omega
      simp only [c1, c1', decide_true, decide_false, cond_true, cond_false, Bool.false_and]
end Go.Proofs.YtjdjlijjolibkaaDoor.V
