-- PRINTED BY print.sh 35421559b90ae4d0a3588c463048766b98c2df88dd9212a6774a882060cdf62d: not written by this session
import Derived.Test.YtecjkkofoafhaaaPRttBetweenx0
import Derived.Test.YtecjkkofoafhaaaPRttBetweenx1
namespace Go.Proofs.Ytecjkkofoafhaaa.PRttBetween
open Go.RowKit Go.Proofs.YtecjkkofoafhaaaW.PrintWords Go.Proofs.YtecjkkofoafhaaaW.PrintLast Go.Proofs.YtecjkkofoafhaaaW.PrintMore
attribute [local go_sem] max2_int min2_int max_two min_two max_three min_three max_four min_four   -- for this text's walks alone
set_option linter.unusedVariables false
set_option linter.unusedSimpArgs false

/-! ### dominolaw11_RttBetween: function 4 -/
mutual
def dominolaw11_RttBetween.j0 : Nat → List Int → List Int → Int → Bool → Option (Bool)
  | 0, _, _, _, _ => none
  | k + 1, x0, x1, x2, x23 => if x23 = true then ((dominolaw11_shown.f).bind fun t134 => (some t134)) else ((rtt_New.f).bind fun bt135 => (if 0 < (x0.length : Int) then (dominolaw11_RttBetween.l0 k x0 x1 x2 (wrap64 (rd x0 0)) (wrap64 (rd x0 0)) 0 bt135.1 bt135.2.1 bt135.2.2.1 bt135.2.2.2.1 bt135.2.2.2.2) else (none)))
def dominolaw11_RttBetween.l0 : Nat → List Int → List Int → Int → Int → Int → Int → Bool → Int → Int → Int → Int → Option (Bool)
  | 0, _, _, _, _, _, _, _, _, _, _, _ => none
  | k + 1, x0, x1, x2, x8, x9, x10, x141000, x141001, x141002, x141003, x141004 => if x10 < (x0.length : Int) then (if x10 < (x1.length : Int) then (if 0 ≤ x10 then (dominolaw11_RttBetween.j2 k x0 x1 x2 x8 x9 x10 (wrap64 (rd x1 x10)) x141000 x141001 x141002 x141003 x141004) else (none)) else (dominolaw11_RttBetween.j2 k x0 x1 x2 x8 x9 x10 0 x141000 x141001 x141002 x141003 x141004)) else (some true)
def dominolaw11_RttBetween.j2 : Nat → List Int → List Int → Int → Int → Int → Int → Int → Bool → Int → Int → Int → Int → Option (Bool)
  | 0, _, _, _, _, _, _, _, _, _, _, _, _ => none
  | k + 1, x0, x1, x2, x8, x9, x10, x11, x141000, x141001, x141002, x141003, x141004 => if 0 ≤ x10 then (if x10 < (x0.length : Int) then ((rtt_Sample.f x141000 x141001 x141002 x141003 x141004 (wrap64 (rd x0 x10)) x11 (wrap64 (x2))).bind fun bt145 => (if bt145.2.2.2.2 = (mn x8 (wrap64 (rd x0 x10))) then (if bt145.2.2.1 < (mn x8 (wrap64 (rd x0 x10))) then (some false) else (if bt145.2.2.1 > (mx x9 (wrap64 (rd x0 x10))) then (some false) else (if bt145.2.2.2.1 < 0 then (some false) else (if bt145.2.2.2.1 > 65535 then (some false) else ((rtt_Threshold.f bt145.1 bt145.2.1 bt145.2.2.1 bt145.2.2.2.1 bt145.2.2.2.2).bind fun t152 => (if t152 < 1 then (some false) else ((rtt_Pto.f bt145.1 bt145.2.1 bt145.2.2.1 bt145.2.2.2.1 bt145.2.2.2.2 0 0).bind fun t153 => (if t153 < 1 then (some false) else (dominolaw11_RttBetween.l0 k x0 x1 x2 (mn x8 (wrap64 (rd x0 x10))) (mx x9 (wrap64 (rd x0 x10))) (wrap64 (x10 + 1)) bt145.1 bt145.2.1 bt145.2.2.1 bt145.2.2.2.1 bt145.2.2.2.2))))))))) else (some false))) else (none)) else (none)
end
def dominolaw11_RttBetween.f (k : Nat) (l0 : List Int) (l1 : List Int) (a2 : Int) : Option (Bool) := if (l0.length : Int) > 100 then (dominolaw11_RttBetween.j0 k l0 l1 a2 true) else (if (l0.length : Int) = 0 then (dominolaw11_RttBetween.j0 k l0 l1 a2 true) else ((dominolaw11_shown.f).bind fun t133 => (dominolaw11_RttBetween.j0 k l0 l1 a2 (!t133))))
theorem dominolaw11_RttBetween.mono_l : ∀ k, (∀ y0 y1 y2 y3, LeO (dominolaw11_RttBetween.j0 k y0 y1 y2 y3) (dominolaw11_RttBetween.j0 (k + 1) y0 y1 y2 y3)) ∧ (∀ y0 y1 y2 y3 y4 y5 y6 y7 y8 y9 y10, LeO (dominolaw11_RttBetween.l0 k y0 y1 y2 y3 y4 y5 y6 y7 y8 y9 y10) (dominolaw11_RttBetween.l0 (k + 1) y0 y1 y2 y3 y4 y5 y6 y7 y8 y9 y10)) ∧ (∀ y0 y1 y2 y3 y4 y5 y6 y7 y8 y9 y10 y11, LeO (dominolaw11_RttBetween.j2 k y0 y1 y2 y3 y4 y5 y6 y7 y8 y9 y10 y11) (dominolaw11_RttBetween.j2 (k + 1) y0 y1 y2 y3 y4 y5 y6 y7 y8 y9 y10 y11))
  | 0 => ⟨fun _ _ _ _ r h => by simp [dominolaw11_RttBetween.j0] at h, fun _ _ _ _ _ _ _ _ _ _ _ r h => by simp [dominolaw11_RttBetween.l0] at h, fun _ _ _ _ _ _ _ _ _ _ _ _ r h => by simp [dominolaw11_RttBetween.j2] at h⟩
  | k + 1 => by
    obtain ⟨ih0, ih1, ih2⟩ := dominolaw11_RttBetween.mono_l k
    refine ⟨?_, ?_, ?_⟩
    · intro y0 y1 y2 y3
      unfold dominolaw11_RttBetween.j0
      repeat' first
      | (with_reducible exact ih0 _ _ _ _)
      | (with_reducible exact ih1 _ _ _ _ _ _ _ _ _ _ _)
      | (with_reducible exact ih2 _ _ _ _ _ _ _ _ _ _ _ _)
      | (with_reducible exact LeO.refl _)
      | (with_reducible exact LeO.none _)
      | (with_reducible refine LeO.ite ?_ ?_)
      | (with_reducible refine LeO.bind ?_ (fun _ => ?_))
      | exact ih0 _ _ _ _
      | exact ih1 _ _ _ _ _ _ _ _ _ _ _
      | exact ih2 _ _ _ _ _ _ _ _ _ _ _ _
      | exact LeO.none _
      | refine LeO.ite ?_ ?_
      | refine LeO.bind ?_ (fun _ => ?_)
    · intro y0 y1 y2 y3 y4 y5 y6 y7 y8 y9 y10
      unfold dominolaw11_RttBetween.l0
      repeat' first
      | (with_reducible exact ih0 _ _ _ _)
      | (with_reducible exact ih1 _ _ _ _ _ _ _ _ _ _ _)
      | (with_reducible exact ih2 _ _ _ _ _ _ _ _ _ _ _ _)
      | (with_reducible exact LeO.refl _)
      | (with_reducible exact LeO.none _)
      | (with_reducible refine LeO.ite ?_ ?_)
      | (with_reducible refine LeO.bind ?_ (fun _ => ?_))
      | exact ih0 _ _ _ _
      | exact ih1 _ _ _ _ _ _ _ _ _ _ _
      | exact ih2 _ _ _ _ _ _ _ _ _ _ _ _
      | exact LeO.none _
      | refine LeO.ite ?_ ?_
      | refine LeO.bind ?_ (fun _ => ?_)
    · intro y0 y1 y2 y3 y4 y5 y6 y7 y8 y9 y10 y11
      unfold dominolaw11_RttBetween.j2
      repeat' first
      | (with_reducible exact ih0 _ _ _ _)
      | (with_reducible exact ih1 _ _ _ _ _ _ _ _ _ _ _)
      | (with_reducible exact ih2 _ _ _ _ _ _ _ _ _ _ _ _)
      | (with_reducible exact LeO.refl _)
      | (with_reducible exact LeO.none _)
      | (with_reducible refine LeO.ite ?_ ?_)
      | (with_reducible refine LeO.bind ?_ (fun _ => ?_))
      | exact ih0 _ _ _ _
      | exact ih1 _ _ _ _ _ _ _ _ _ _ _
      | exact ih2 _ _ _ _ _ _ _ _ _ _ _ _
      | exact LeO.none _
      | refine LeO.ite ?_ ?_
      | refine LeO.bind ?_ (fun _ => ?_)
theorem dominolaw11_RttBetween.mono : ∀ a0 a1 a2 k, LeO (dominolaw11_RttBetween.f k a0 a1 a2) (dominolaw11_RttBetween.f (k + 1) a0 a1 a2) := by
  intro a0 a1 a2 k
  obtain ⟨ih0, ih1, ih2⟩ := dominolaw11_RttBetween.mono_l k
  unfold dominolaw11_RttBetween.f
  repeat' first
      | (with_reducible exact ih0 _ _ _ _)
      | (with_reducible exact ih1 _ _ _ _ _ _ _ _ _ _ _)
      | (with_reducible exact ih2 _ _ _ _ _ _ _ _ _ _ _ _)
      | (with_reducible exact LeO.refl _)
      | (with_reducible exact LeO.none _)
      | (with_reducible refine LeO.ite ?_ ?_)
      | (with_reducible refine LeO.bind ?_ (fun _ => ?_))
      | exact ih0 _ _ _ _
      | exact ih1 _ _ _ _ _ _ _ _ _ _ _
      | exact ih2 _ _ _ _ _ _ _ _ _ _ _ _
      | exact LeO.none _
      | refine LeO.ite ?_ ?_
      | refine LeO.bind ?_ (fun _ => ?_)
def dominolaw11_RttBetween.T12 : Bool × List (List Nat × List Nat) := (true, [([], []), ([], []), ([], []), ([1, 2], [1, 2]), ([3], [3]), ([4], [4]), ([], []), ([], []), ([7], [7]), ([0, 5, 6, 8], [0, 5, 6, 8]), ([9, 9, 0, 1, 2, 3, 4, 5, 6, 7, 8, 9], [9])])
def dominolaw11_RttBetween.B12 : List Nat := [0, 0, 0, 6, 14, 30, 0, 0, 128, 511, 1023]
theorem dominolaw11_RttBetween.tab12 : rtab .any (opsOf Try.f4 12) = dominolaw11_RttBetween.T12 := by kernel_rfl
theorem dominolaw11_RttBetween.bits12 : waitsOk dominolaw11_RttBetween.T12.2 dominolaw11_RttBetween.B12 = true := by kernel_rfl
set_option maxHeartbeats 8000000 in
set_option maxRecDepth 100000 in
theorem dominolaw11_RttBetween.calls (k : Nat) (A0 : Option Addr) (c0 : Nat) (l0 : List Int) (A1 : Option Addr) (c1 : Nat) (l1 : List Int) (a2 : Int) (r : Bool) (w : World) (hr0 : Kd.C (Kd.int .u16) w A0 l0.length l0) (hc0 : l0.length ≤ c0) (hr1 : Kd.C (Kd.int .u8) w A1 l1.length l1) (hc1 : l1.length ≤ c1) (h : dominolaw11_RttBetween.f k l0 l1 a2 = some r) :
    Calls Try.prog 4 #[.slice A0 l0.length c0, .slice A1 l1.length c1, .int .u8 a2] w fun e w' => e = .returned (.bool r) ∧ Below w.heap.size w w' := by
  have hu25 := Try.underlying25
  have HR0 := Aside0.mk hr0
  have HC0 := Aside0.mk hc0
  clear hr0 hc0
  have HR1 := Aside0.mk hr1
  have HC1 := Aside0.mk hc1
  clear hr1 hc1
  have HB := Aside0.mk (Below.refl w.heap.size w)
  have H : (if (l0.length : Int) > 100 then (dominolaw11_RttBetween.j0 k l0 l1 a2 true) else (if (l0.length : Int) = 0 then (dominolaw11_RttBetween.j0 k l0 l1 a2 true) else ((dominolaw11_shown.f).bind fun t133 => (dominolaw11_RttBetween.j0 k l0 l1 a2 (!t133))))) = some r := h
  clear h
  have HC4 := Aside0.mk H
  clear H
  go_enter Try.func4, Try.ntmps4
  go_upto_region 1 with (fail)
  go_cut [23] (fun v23 wc => ∃ (kq : Nat) (x23_3 : Bool), v23 = .bool x23_3 ∧ Aside0 (dominolaw11_RttBetween.j0 kq l0 l1 a2 x23_3 = some r) ∧ Aside0 (kq ≤ k) ∧ Aside0 (Below w.heap.size w wc))
  case first =>
    have H := HC4.out
    clear HC4
    by_cases c5 : (l0.length : Int) > 100
    · rw [if_pos c5] at H
      have c5b0 : decide (100 < (l0.length : Int)) = true := decide_eq_true c5
      have c5b1 : decide (100 < l0.length) = true := decide_eq_true (by omega)
      clear c5
      (first | rw [c5b0] | (simp only [i64_w, i32_w]; rw [c5b0]) | skip)
      have H' := Aside0.mk H
      clear H
      go_wp2
      go_meet
      case rel => exact ⟨_, (true), (by first | rfl | (simp; done) | (simp [*]; done)), H', ⟨by first | omega | exact Nat.le_refl _⟩, ⟨by repeat (first | (with_reducible first | exact HB.out | apply below_alloc | apply pw_below_drewN | apply below_drew1) | exact HB.out)⟩⟩
    · rw [if_neg c5] at H
      have c5b0 : decide (100 < (l0.length : Int)) = false := decide_eq_false c5
      have c5b1 : decide (100 < l0.length) = false := decide_eq_false (by omega)
      clear c5
      (first | rw [c5b0] | (simp only [i64_w, i32_w]; rw [c5b0]) | skip)
      by_cases c6 : (l0.length : Int) = 0
      · rw [if_pos c6] at H
        have c6b0 : ((l0.length : Int) == 0) = true := beq_iff_eq.mpr c6
        have c6b1 : ((l0.length : Int) != 0) = false := bne_eq_false_iff_eq.mpr c6
        clear c6
        have H' := Aside0.mk H
        clear H
        go_wp2
        go_meet
        case rel => exact ⟨_, (true), (by first | rfl | (simp; done) | (simp [*]; done)), H', ⟨by first | omega | exact Nat.le_refl _⟩, ⟨by repeat (first | (with_reducible first | exact HB.out | apply below_alloc | apply pw_below_drewN | apply below_drew1) | exact HB.out)⟩⟩
      · rw [if_neg c6] at H
        have c6b0 : ((l0.length : Int) == 0) = false := beq_eq_false_iff_ne.mpr c6
        have c6b1 : ((l0.length : Int) != 0) = true := bne_iff_ne.mpr c6
        have c6b2 : ¬ (l0 = []) := fun h_ => c6 (by rw [h_]; rfl)
        replace H := Option.bind_eq_some_iff.mp H
        obtain ⟨t133, A70, H⟩ := H
        replace H : (dominolaw11_RttBetween.j0 k l0 l1 a2 (!t133)) = some r := H
        have A7 := Aside0.mk A70
        clear A70
        have H' := Aside0.mk H
        clear H
        go_wp2_with (first | (go_at_call 8; (with_reducible refine (dominolaw11_shown.calls  t133 _ A7.out).mono ?_); rintro e w8 ⟨rfl, hb⟩; have n0_ := Aside0.mk (below_step (by repeat (first | (with_reducible first | exact HB.out | apply below_alloc | apply pw_below_drewN | apply below_drew1) | exact HB.out)) hb); clear HB; have HB := n0_; clear n0_; (try clear hb); (try clear hb2); (try clear hk); (try clear hi)))
        go_meet
        case rel => exact ⟨_, (!t133), (by first | rfl | (simp; done) | (simp [*]; done)), H', ⟨by first | omega | exact Nat.le_refl _⟩, ⟨by repeat (first | (with_reducible first | exact HB.out | apply below_alloc | apply pw_below_drewN | apply below_drew1) | exact HB.out)⟩⟩
  case rest =>
    clear HC4
    try clear c1
    try clear p2
    try clear c4
    try clear c5
    try clear c5b0
    try clear c5b1
    try clear c6
    try clear c6b0
    try clear c6b1
    try clear c6b2
    obtain ⟨kq, x23_3, rfl, HA, HJ3, HB⟩ := hcut
    cases kq with
    | zero => exact absurd HA.out (by simp [dominolaw11_RttBetween.j0])
    | succ kj3 =>
      have H := HA.out
      clear HA
      simp only [dominolaw11_RttBetween.j0] at H
      by_cases c9 : x23_3 = true
      · subst c9
        have H1 : ((dominolaw11_shown.f).bind fun t134 => (some t134)) = some r := by rw [if_pos rfl] at H; exact H
        clear H
        have H := H1
        clear H1
        replace H := Option.bind_eq_some_iff.mp H
        obtain ⟨t134, A100, H⟩ := H
        replace H : (some t134) = some r := H
        have A10 := Aside0.mk A100
        clear A100
        obtain rfl := Option.some.inj H
        go_wp2_with (first | ((with_reducible refine gate_callee (f := 8) rfl ?_); refine goesL_ (some 24) rfl rfl Try.func8 (by kernel_rfl) rfl #[] rfl (by (try simp only [List.map_toArray, List.map_cons, List.map_nil]); first | done | rfl | (simp only [List.length_drop, List.length_take]; rfl)) ?_; (with_reducible refine (dominolaw11_shown.calls  t134 _ A10.out).mono ?_); rintro e w11 ⟨rfl, hb⟩; refine ⟨_, rfl, ?_⟩; have n0_ := Aside0.mk (below_step (by repeat (first | (with_reducible first | exact HB.out | apply below_alloc | apply pw_below_drewN | apply below_drew1) | exact HB.out)) hb); clear HB; have HB := n0_; clear n0_; (try clear hb); (try clear hb2); (try clear hk); (try clear hi)))
        go_ret
        exact ⟨by first | rfl | (simp [errW_none, errW_some] <;> rfl) | (simp [*, errW_none, errW_some] <;> rfl), by repeat (first | (with_reducible first | exact HB.out | apply below_alloc | apply pw_below_drewN | apply below_drew1) | exact HB.out)⟩
      · replace c9 := Bool.eq_false_iff.mpr c9
        subst c9
        have H1 : ((rtt_New.f).bind fun bt135 => (if 0 < (l0.length : Int) then (dominolaw11_RttBetween.l0 kj3 l0 l1 a2 (wrap64 (rd l0 0)) (wrap64 (rd l0 0)) 0 bt135.1 bt135.2.1 bt135.2.2.1 bt135.2.2.2.1 bt135.2.2.2.2) else (none))) = some r := by rw [if_neg (show ¬ (false = true) by decide)] at H; exact H
        clear H
        have H := H1
        clear H1
        replace H := Option.bind_eq_some_iff.mp H
        obtain ⟨⟨t135, t136, t137, t138, t139⟩, A120, H⟩ := H
        replace H : (if 0 < (l0.length : Int) then (dominolaw11_RttBetween.l0 kj3 l0 l1 a2 (wrap64 (rd l0 0)) (wrap64 (rd l0 0)) 0 t135 t136 t137 t138 t139) else (none)) = some r := H
        have A12 := Aside0.mk A120
        clear A120
        by_cases c13 : 0 < (l0.length : Int)
        · rw [if_pos c13] at H
          have c13b0 : decide (0 < (l0.length : Int)) = true := decide_eq_true c13
          have c13b1 : decide (0 < l0.length) = true := decide_eq_true (by omega)
          clear c13
          have H' := Aside0.mk H
          clear H
          go_wp2_with (first | ((with_reducible refine gate_callee (f := 9) rfl ?_); refine goesL_ (some 25) rfl rfl Try.func9 (by kernel_rfl) rfl #[] rfl (by (try simp only [List.map_toArray, List.map_cons, List.map_nil]); first | done | rfl | (simp only [List.length_drop, List.length_take]; rfl)) ?_; (with_reducible refine (rtt_New.calls  t135 t136 t137 t138 t139 _ A12.out).mono ?_); rintro e w14 ⟨rfl, hb⟩; refine ⟨_, rfl, ?_⟩; have n0_ := Aside0.mk (below_step (by repeat (first | (with_reducible first | exact HB.out | apply below_alloc | apply pw_below_drewN | apply below_drew1) | exact HB.out)) hb); clear HB; have HB := n0_; clear n0_; (try clear hb); (try clear hb2); (try clear hk); (try clear hi)) | ((with_reducible refine gate_dst (N := 7) rfl ?_); (try (refine gate_guard (by rfl) ?_; dsimp only)); refine box_event ?hg (N := 7) ?hd (cs := #[.bool false, .int .i64 0, .int .i64 0, .int .i64 0, .int .i64 0]) (t := 25) ?hr ?_; (case hd => rfl); (case hg => rfl); (case hr => first | (go_simp; done) | (go_simp; rfl)); intro gb140 hg w15 hbox hb; have n0_ := Aside0.mk (below_step (by repeat (first | (with_reducible first | exact HB.out | apply below_alloc | apply pw_below_drewN | apply below_drew1) | exact HB.out)) hb); have n1_ := Aside0.mk (hbox); have n2_ := Aside0.mk ((by rw [hg]; exact (below_size (by repeat (first | (with_reducible first | exact HB.out | apply below_alloc | apply pw_below_drewN | apply below_drew1) | exact HB.out))) : w.heap.size ≤ gb140)); have n3_ := Aside0.mk ((by rw [hg]; exact (below_size (by repeat (first | (with_reducible first | exact HB.out | apply below_alloc | apply pw_below_drewN | apply below_drew1) | exact HB.out))) : w.heap.size ≤ gb140)); clear HB; have HB := n0_; have BK140 := n1_; have GW140 := n2_; have GE140 := n3_; clear n0_ n1_ n2_ n3_; clear hb hbox hg; have hcz16_0 : w15.cell? ⟨gb140, 0, none⟩ = some (.bool false) := (blk_cell BK140.out 0).trans rfl; have hcz16_1 : w15.cell? ⟨gb140, 1, none⟩ = some (.int .i64 0) := (blk_cell BK140.out 1).trans rfl; have hcz16_2 : w15.cell? ⟨gb140, 2, none⟩ = some (.int .i64 0) := (blk_cell BK140.out 2).trans rfl; have hcz16_3 : w15.cell? ⟨gb140, 3, none⟩ = some (.int .i64 0) := (blk_cell BK140.out 3).trans rfl; have hcz16_4 : w15.cell? ⟨gb140, 4, none⟩ = some (.int .i64 0) := (blk_cell BK140.out 4).trans rfl; have hfz16_0 := blk_frozen BK140.out 0; have hfz16_1 := blk_frozen BK140.out 1; have hfz16_2 := blk_frozen BK140.out 2; have hfz16_3 := blk_frozen BK140.out 3; have hfz16_4 := blk_frozen BK140.out 4; have p141 : 0 ≤ (0 : Int) := (by omega); have q141 : 0 < (l0.length : Int) := of_decide_eq_true (by first | (with_reducible assumption) | assumption); obtain ⟨ad141, e141, hx141_0⟩ := Kd.at_int HR0.out 0 p141 q141; cases e141; have qi141 : (0 < l0.length) = True := eq_true (by omega); (try rw [show ((0 : Int)).toNat = 0 from rfl] at hx141_0); (try rw [Addr.add_zero'] at hx141_0); have hn141_0 : ad141.block ≠ gb140 := Nat.ne_of_lt (Nat.lt_of_lt_of_le (by have := World.block_lt_of_cell? _ _ hx141_0; first | rwa [add_block] at this | exact this) GW140.out); have hn141_1 : ad141.block ≠ gb140 := Nat.ne_of_lt (Nat.lt_of_lt_of_le (by have := World.block_lt_of_cell? _ _ hx141_0; first | rwa [add_block] at this | exact this) GW140.out); have hn141_2 : ad141.block ≠ gb140 := Nat.ne_of_lt (Nat.lt_of_lt_of_le (by have := World.block_lt_of_cell? _ _ hx141_0; first | rwa [add_block] at this | exact this) GW140.out); have hn141_3 : ad141.block ≠ gb140 := Nat.ne_of_lt (Nat.lt_of_lt_of_le (by have := World.block_lt_of_cell? _ _ hx141_0; first | rwa [add_block] at this | exact this) GW140.out); have hn141_4 : ad141.block ≠ gb140 := Nat.ne_of_lt (Nat.lt_of_lt_of_le (by have := World.block_lt_of_cell? _ _ hx141_0; first | rwa [add_block] at this | exact this) GW140.out); replace hx141_0 := (HB.out.cell (World.block_lt_of_cell? w _ hx141_0)).trans hx141_0; replace hx141_0 := (cell_far (p := ⟨gb140, 0, none⟩) (by first | (rw [add_block]; exact hn141_0) | (show (Addr.add _ _).block ≠ _; rw [add_block]; exact hn141_0) | exact hn141_0) (.bool t135)).trans hx141_0; replace hx141_0 := (cell_far (p := ⟨gb140, 1, none⟩) (by first | (rw [add_block]; exact hn141_1) | (show (Addr.add _ _).block ≠ _; rw [add_block]; exact hn141_1) | exact hn141_1) (.int .i64 t136)).trans hx141_0; replace hx141_0 := (cell_far (p := ⟨gb140, 2, none⟩) (by first | (rw [add_block]; exact hn141_2) | (show (Addr.add _ _).block ≠ _; rw [add_block]; exact hn141_2) | exact hn141_2) (.int .i64 t137)).trans hx141_0; replace hx141_0 := (cell_far (p := ⟨gb140, 3, none⟩) (by first | (rw [add_block]; exact hn141_3) | (show (Addr.add _ _).block ≠ _; rw [add_block]; exact hn141_3) | exact hn141_3) (.int .i64 t138)).trans hx141_0; replace hx141_0 := (cell_far (p := ⟨gb140, 4, none⟩) (by first | (rw [add_block]; exact hn141_4) | (show (Addr.add _ _).block ≠ _; rw [add_block]; exact hn141_4) | exact hn141_4) (.int .i64 t139)).trans hx141_0; clear hn141_0; clear hn141_1; clear hn141_2; clear hn141_3; clear hn141_4; replace p141 := eq_true p141; replace q141 := eq_true q141; have p142 : 0 ≤ (0 : Int) := (by omega); have q142 : 0 < (l0.length : Int) := of_decide_eq_true (by first | (with_reducible assumption) | assumption); obtain ⟨ad142, e142, hx142_0⟩ := Kd.at_int HR0.out 0 p142 q142; obtain rfl : ad141 = ad142 := (by injection e142); have qi142 : (0 < l0.length) = True := eq_true (by omega); (try rw [show ((0 : Int)).toNat = 0 from rfl] at hx142_0); (try rw [Addr.add_zero'] at hx142_0); have hn142_0 : ad141.block ≠ gb140 := Nat.ne_of_lt (Nat.lt_of_lt_of_le (by have := World.block_lt_of_cell? _ _ hx142_0; first | rwa [add_block] at this | exact this) GW140.out); have hn142_1 : ad141.block ≠ gb140 := Nat.ne_of_lt (Nat.lt_of_lt_of_le (by have := World.block_lt_of_cell? _ _ hx142_0; first | rwa [add_block] at this | exact this) GW140.out); have hn142_2 : ad141.block ≠ gb140 := Nat.ne_of_lt (Nat.lt_of_lt_of_le (by have := World.block_lt_of_cell? _ _ hx142_0; first | rwa [add_block] at this | exact this) GW140.out); have hn142_3 : ad141.block ≠ gb140 := Nat.ne_of_lt (Nat.lt_of_lt_of_le (by have := World.block_lt_of_cell? _ _ hx142_0; first | rwa [add_block] at this | exact this) GW140.out); have hn142_4 : ad141.block ≠ gb140 := Nat.ne_of_lt (Nat.lt_of_lt_of_le (by have := World.block_lt_of_cell? _ _ hx142_0; first | rwa [add_block] at this | exact this) GW140.out); replace hx142_0 := (HB.out.cell (World.block_lt_of_cell? w _ hx142_0)).trans hx142_0; replace hx142_0 := (cell_far (p := ⟨gb140, 0, none⟩) (by first | (rw [add_block]; exact hn142_0) | (show (Addr.add _ _).block ≠ _; rw [add_block]; exact hn142_0) | exact hn142_0) (.bool t135)).trans hx142_0; replace hx142_0 := (cell_far (p := ⟨gb140, 1, none⟩) (by first | (rw [add_block]; exact hn142_1) | (show (Addr.add _ _).block ≠ _; rw [add_block]; exact hn142_1) | exact hn142_1) (.int .i64 t136)).trans hx142_0; replace hx142_0 := (cell_far (p := ⟨gb140, 2, none⟩) (by first | (rw [add_block]; exact hn142_2) | (show (Addr.add _ _).block ≠ _; rw [add_block]; exact hn142_2) | exact hn142_2) (.int .i64 t137)).trans hx142_0; replace hx142_0 := (cell_far (p := ⟨gb140, 3, none⟩) (by first | (rw [add_block]; exact hn142_3) | (show (Addr.add _ _).block ≠ _; rw [add_block]; exact hn142_3) | exact hn142_3) (.int .i64 t138)).trans hx142_0; replace hx142_0 := (cell_far (p := ⟨gb140, 4, none⟩) (by first | (rw [add_block]; exact hn142_4) | (show (Addr.add _ _).block ≠ _; rw [add_block]; exact hn142_4) | exact hn142_4) (.int .i64 t139)).trans hx142_0; clear hn142_0; clear hn142_1; clear hn142_2; clear hn142_3; clear hn142_4; replace p142 := eq_true p142; replace q142 := eq_true q142))
          go_loopg [8, 9, 10] kj3 (fun kq v8 v9 v10 w' => ∃ (x8_2 : Int) (x9_2 : Int) (x10_2 : Int) (x141000_2 : Bool) (x141001_2 : Int) (x141002_2 : Int) (x141003_2 : Int) (x141004_2 : Int), v8 = .int .i64 x8_2 ∧ v9 = .int .i64 x9_2 ∧ v10 = .int .i64 x10_2 ∧ Aside0 (dominolaw11_RttBetween.l0 kq l0 l1 a2 x8_2 x9_2 x10_2 x141000_2 x141001_2 x141002_2 x141003_2 x141004_2 = some r) ∧ Aside0 (kq ≤ kj3) ∧ Aside0 (w'.heap[gb140]? = some (.cells #[.bool x141000_2, .int .i64 x141001_2, .int .i64 x141002_2, .int .i64 x141003_2, .int .i64 x141004_2] 25 (0, 0))) ∧ Aside0 (Below w.heap.size w w'))
          case atStart => exact ⟨(wrap64 (rd l0 0)), (wrap64 (rd l0 0)), (0), (t135), (t136), (t137), (t138), (t139), (by first | rfl | (simp; done) | (simp [*]; done)), (by first | rfl | (simp; done) | (simp [*]; done)), (by first | rfl | (simp; done) | (simp [*]; done)), H', ⟨Nat.le_refl _⟩, ⟨by (with_reducible repeat (first | refine blk_drewN ?_ _ | refine blk_drew ?_ | refine blk_alloc ?_ _)); refine blk_put (cs := #[.bool t135, .int .i64 t136, .int .i64 t137, .int .i64 t138, .int .i64 0]) ?_ 4 _ rfl; (with_reducible repeat (first | refine blk_drewN ?_ _ | refine blk_drew ?_ | refine blk_alloc ?_ _)); refine blk_put (cs := #[.bool t135, .int .i64 t136, .int .i64 t137, .int .i64 0, .int .i64 0]) ?_ 3 _ rfl; (with_reducible repeat (first | refine blk_drewN ?_ _ | refine blk_drew ?_ | refine blk_alloc ?_ _)); refine blk_put (cs := #[.bool t135, .int .i64 t136, .int .i64 0, .int .i64 0, .int .i64 0]) ?_ 2 _ rfl; (with_reducible repeat (first | refine blk_drewN ?_ _ | refine blk_drew ?_ | refine blk_alloc ?_ _)); refine blk_put (cs := #[.bool t135, .int .i64 0, .int .i64 0, .int .i64 0, .int .i64 0]) ?_ 1 _ rfl; (with_reducible repeat (first | refine blk_drewN ?_ _ | refine blk_drew ?_ | refine blk_alloc ?_ _)); refine blk_put (cs := #[.bool false, .int .i64 0, .int .i64 0, .int .i64 0, .int .i64 0]) ?_ 0 _ rfl; (with_reducible repeat (first | refine blk_drewN ?_ _ | refine blk_drew ?_ | refine blk_alloc ?_ _)); exact BK140.out⟩, ⟨by repeat (first | (with_reducible first | exact HB.out | apply below_alloc | apply pw_below_drewN | apply below_drew1 | refine below_set ?_ GE140.out) | exact HB.out)⟩⟩
          case round =>
            clear H'
            try clear c1
            try clear p1
            try clear q1
            try clear hx1
            try clear qi1
            try clear p2
            try clear c4
            try clear c5
            try clear c5b0
            try clear c5b1
            try clear c6
            try clear c6b0
            try clear c6b1
            try clear c6b2
            try clear p6
            try clear c8
            try clear c9
            try clear c13
            try clear c13b0
            try clear c13b1
            try clear p14
            try clear q14
            try clear hx14
            try clear qi14
            try clear hcz16_0
            try clear hcz16_1
            try clear hcz16_2
            try clear hcz16_3
            try clear hcz16_4
            try clear hfz16_0
            try clear hfz16_1
            try clear hfz16_2
            try clear hfz16_3
            try clear hfz16_4
            try clear hx141_0
            try clear hx142_0
            try clear p141
            try clear p142
            try clear p2
            try clear q141
            try clear q142
            obtain ⟨x8_2, x9_2, x10_2, x141000_2, x141001_2, x141002_2, x141003_2, x141004_2, rfl, rfl, rfl, HA, HK2, BK140, HB⟩ := hrel
            cases gk with
            | zero => exact absurd HA.out (by simp [dominolaw11_RttBetween.l0])
            | succ k2 =>
              have H := HA.out
              clear HA
              simp only [dominolaw11_RttBetween.l0] at H
              by_cases c17 : x10_2 < (l0.length : Int)
              · rw [if_pos c17] at H
                have c17b0 : decide (x10_2 < (l0.length : Int)) = true := decide_eq_true c17
                clear c17
                have HC18 := Aside0.mk H
                clear H
                go_upto_if 43 with (fail)
                go_cut [11] (fun v11 wc => ∃ (kq : Nat) (x11_17 : Int), v11 = .int .i64 x11_17 ∧ Aside0 (dominolaw11_RttBetween.j2 kq l0 l1 a2 x8_2 x9_2 x10_2 x11_17 x141000_2 x141001_2 x141002_2 x141003_2 x141004_2 = some r) ∧ Aside0 (kq ≤ k2) ∧ Aside0 (wc.heap[gb140]? = some (.cells #[.bool x141000_2, .int .i64 x141001_2, .int .i64 x141002_2, .int .i64 x141003_2, .int .i64 x141004_2] 25 (0, 0))) ∧ Aside0 (Below w.heap.size w wc))
                case first =>
                  have H := HC18.out
                  clear HC18
                  by_cases c19 : x10_2 < (l1.length : Int)
                  · rw [if_pos c19] at H
                    have c19b0 : decide (x10_2 < (l1.length : Int)) = true := decide_eq_true c19
                    clear c19
                    (first | rw [c19b0] | (simp only [i64_w, i32_w]; rw [c19b0]) | skip)
                    by_cases c20 : 0 ≤ x10_2
                    · rw [if_pos c20] at H
                      have c20b0 : decide (0 ≤ x10_2) = true := decide_eq_true c20
                      clear c20
                      have H' := Aside0.mk H
                      clear H
                      have p143 : 0 ≤ (x10_2 : Int) := of_decide_eq_true (by first | (with_reducible assumption) | assumption)
                      have q143 : x10_2 < (l1.length : Int) := of_decide_eq_true (by first | (with_reducible assumption) | assumption)
                      obtain ⟨ad143, e143, hx143_0⟩ := Kd.at_int HR1.out x10_2 p143 q143
                      cases e143
                      replace hx143_0 := (HB.out.cell (World.block_lt_of_cell? w _ hx143_0)).trans hx143_0
                      replace p143 := eq_true p143
                      replace q143 := eq_true q143
                      go_wp2
                      go_meet
                      case rel => exact ⟨_, (wrap64 (rd l1 x10_2)), (by first | rfl | (simp; done) | (simp [*]; done)), H', ⟨by have := HJ3.out; have := HK2.out; first | omega | exact Nat.le_refl _⟩, ⟨by (with_reducible repeat (first | refine blk_drewN ?_ _ | refine blk_drew ?_ | refine blk_alloc ?_ _)); exact BK140.out⟩, ⟨by repeat (first | (with_reducible first | exact HB.out | apply below_alloc | apply pw_below_drewN | apply below_drew1 | refine below_set ?_ GE140.out) | exact HB.out)⟩⟩
                    · rw [if_neg c20] at H
                      exact absurd H (by simp)
                  · rw [if_neg c19] at H
                    have c19b0 : decide (x10_2 < (l1.length : Int)) = false := decide_eq_false c19
                    clear c19
                    (first | rw [c19b0] | (simp only [i64_w, i32_w]; rw [c19b0]) | skip)
                    have H' := Aside0.mk H
                    clear H
                    go_wp2
                    go_meet
                    case rel => exact ⟨_, (0), (by first | rfl | (simp; done) | (simp [*]; done)), H', ⟨by have := HJ3.out; have := HK2.out; first | omega | exact Nat.le_refl _⟩, ⟨by (with_reducible repeat (first | refine blk_drewN ?_ _ | refine blk_drew ?_ | refine blk_alloc ?_ _)); exact BK140.out⟩, ⟨by repeat (first | (with_reducible first | exact HB.out | apply below_alloc | apply pw_below_drewN | apply below_drew1 | refine below_set ?_ GE140.out) | exact HB.out)⟩⟩
                case rest =>
                  clear HC18
                  try clear c1
                  try clear p1
                  try clear q1
                  try clear hx1
                  try clear qi1
                  try clear c2
                  try clear p2
                  try clear c4
                  try clear c5
                  try clear c5b0
                  try clear c5b1
                  try clear c6
                  try clear c6b0
                  try clear c6b1
                  try clear c6b2
                  try clear p6
                  try clear c8
                  try clear c9
                  try clear c13
                  try clear c13b0
                  try clear c13b1
                  try clear p14
                  try clear q14
                  try clear hx14
                  try clear qi14
                  try clear c17
                  try clear c17b0
                  try clear c19
                  try clear c19b0
                  try clear c20
                  try clear c20b0
                  try clear hcz16_0
                  try clear hcz16_1
                  try clear hcz16_2
                  try clear hcz16_3
                  try clear hcz16_4
                  try clear hfz16_0
                  try clear hfz16_1
                  try clear hfz16_2
                  try clear hfz16_3
                  try clear hfz16_4
                  try clear hx141_0
                  try clear hx142_0
                  try clear hx143_0
                  try clear p1
                  try clear p14
                  try clear p141
                  try clear p142
                  try clear p143
                  try clear p2
                  try clear p6
                  try clear q1
                  try clear q14
                  try clear q141
                  try clear q142
                  try clear q143
                  obtain ⟨kq, x11_17, rfl, HA, HJ17, BK140, HB⟩ := hcut
                  cases kq with
                  | zero => exact absurd HA.out (by simp [dominolaw11_RttBetween.j2])
                  | succ kj17 =>
                    have H := HA.out
                    clear HA
                    simp only [dominolaw11_RttBetween.j2] at H
                    by_cases c21 : 0 ≤ x10_2
                    · rw [if_pos c21] at H
                      have c21b0 : decide (0 ≤ x10_2) = true := decide_eq_true c21
                      clear c21
                      by_cases c22 : x10_2 < (l0.length : Int)
                      · rw [if_pos c22] at H
                        have c22b0 : decide (x10_2 < (l0.length : Int)) = true := decide_eq_true c22
                        clear c22
                        replace H := Option.bind_eq_some_iff.mp H
                        obtain ⟨⟨t145, t146, t147, t148, t149⟩, A230, H⟩ := H
                        replace H : (if t149 = (mn x8_2 (wrap64 (rd l0 x10_2))) then (if t147 < (mn x8_2 (wrap64 (rd l0 x10_2))) then (some false) else (if t147 > (mx x9_2 (wrap64 (rd l0 x10_2))) then (some false) else (if t148 < 0 then (some false) else (if t148 > 65535 then (some false) else ((rtt_Threshold.f t145 t146 t147 t148 t149).bind fun t152 => (if t152 < 1 then (some false) else ((rtt_Pto.f t145 t146 t147 t148 t149 0 0).bind fun t153 => (if t153 < 1 then (some false) else (dominolaw11_RttBetween.l0 kj17 l0 l1 a2 (mn x8_2 (wrap64 (rd l0 x10_2))) (mx x9_2 (wrap64 (rd l0 x10_2))) (wrap64 (x10_2 + 1)) t145 t146 t147 t148 t149))))))))) else (some false)) = some r := H
                        have A23 := Aside0.mk A230
                        clear A230
                        obtain ⟨ji24, hji24⟩ : ∃ j_ : Int, (mn x8_2 (wrap64 (rd l0 x10_2))) = j_ := ⟨_, rfl⟩
                        replace H : (if t149 = (ji24) then (if t147 < (ji24) then (some false) else (if t147 > (mx x9_2 (wrap64 (rd l0 x10_2))) then (some false) else (if t148 < 0 then (some false) else (if t148 > 65535 then (some false) else ((rtt_Threshold.f t145 t146 t147 t148 t149).bind fun t152 => (if t152 < 1 then (some false) else ((rtt_Pto.f t145 t146 t147 t148 t149 0 0).bind fun t153 => (if t153 < 1 then (some false) else (dominolaw11_RttBetween.l0 kj17 l0 l1 a2 ji24 (mx x9_2 (wrap64 (rd l0 x10_2))) (wrap64 (x10_2 + 1)) t145 t146 t147 t148 t149))))))))) else (some false)) = some r := by first | (rw [hji24] at H; exact H) | (simp only [hji24] at H ⊢; exact H)
                        (try rw [hji24] at A23)
                        have hji24_ : (if (wrap64 (rd l0 x10_2)) < x8_2 then (wrap64 (rd l0 x10_2)) else x8_2) = ji24 := hji24
                        obtain ⟨ji25, hji25⟩ : ∃ j_ : Int, (mx x9_2 (wrap64 (rd l0 x10_2))) = j_ := ⟨_, rfl⟩
                        replace H : (if t149 = (ji24) then (if t147 < (ji24) then (some false) else (if t147 > (ji25) then (some false) else (if t148 < 0 then (some false) else (if t148 > 65535 then (some false) else ((rtt_Threshold.f t145 t146 t147 t148 t149).bind fun t152 => (if t152 < 1 then (some false) else ((rtt_Pto.f t145 t146 t147 t148 t149 0 0).bind fun t153 => (if t153 < 1 then (some false) else (dominolaw11_RttBetween.l0 kj17 l0 l1 a2 ji24 ji25 (wrap64 (x10_2 + 1)) t145 t146 t147 t148 t149))))))))) else (some false)) = some r := by first | (rw [hji25] at H; exact H) | (simp only [hji25] at H ⊢; exact H)
                        (try rw [hji25] at A23)
                        have hji25_ : (if x9_2 < (wrap64 (rd l0 x10_2)) then (wrap64 (rd l0 x10_2)) else x9_2) = ji25 := hji25
                        by_cases c26 : t149 = (ji24)
                        · rw [if_pos c26] at H
                          have c26b0 : (t149 == (ji24)) = true := beq_iff_eq.mpr c26
                          have c26b1 : (t149 != (ji24)) = false := bne_eq_false_iff_eq.mpr c26
                          clear c26
                          by_cases c27 : t147 < (ji24)
                          · rw [if_pos c27] at H
                            have c27b0 : decide (t147 < (ji24)) = true := decide_eq_true c27
                            clear c27
                            obtain rfl := Option.some.inj H
                            try go_wp2
                            have n0_ := Aside0.mk (blk_drew BK140.out)
                            have n1_ := Aside0.mk (below_drew1 HB.out)
                            clear BK140
                            clear HB
                            have BK140 := n0_
                            have HB := n1_
                            clear n0_ n1_
                            have p144 : 0 ≤ (x10_2 : Int) := of_decide_eq_true (by first | (with_reducible assumption) | assumption)
                            have q144 : x10_2 < (l0.length : Int) := of_decide_eq_true (by first | (with_reducible assumption) | assumption)
                            obtain ⟨ad144, e144, hx144_0⟩ := Kd.at_int HR0.out x10_2 p144 q144
                            have hw144_0 := hx144_0
                            obtain rfl : ad141 = ad144 := (by injection e144)
                            replace hx144_0 := (HB.out.cell (World.block_lt_of_cell? w _ hx144_0)).trans hx144_0
                            replace p144 := eq_true p144
                            replace q144 := eq_true q144
                            refine start_ (n := 11) (S := fun w' => w'.cell? ⟨gb140, 0, none⟩ = some (.bool x141000_2) ∧ w'.cell? ⟨gb140, 1, none⟩ = some (.int .i64 x141001_2) ∧ w'.cell? ⟨gb140, 2, none⟩ = some (.int .i64 x141002_2) ∧ w'.cell? ⟨gb140, 3, none⟩ = some (.int .i64 x141003_2) ∧ w'.cell? ⟨gb140, 4, none⟩ = some (.int .i64 x141004_2) ∧ w'.cell? (ad141.add (x10_2).toNat) = some (.int .u16 (rd l0 x10_2))) (ds := [10]) #[false, false, false, false, false, false, false, false, false, false, false] (by kernel_rfl) rfl rfl ⟨(blk_cell BK140.out 0).trans rfl, (blk_cell BK140.out 1).trans rfl, (blk_cell BK140.out 2).trans rfl, (blk_cell BK140.out 3).trans rfl, (blk_cell BK140.out 4).trans rfl, ((HB.out.cell (World.block_lt_of_cell? w _ hw144_0)).trans hw144_0)⟩ (fun hHeld => ?_); refine with_tabW dominolaw11_RttBetween.tab12 dominolaw11_RttBetween.bits12 (fun HT_ HW_ => ?_)
                            generalize wc.drew = w28 at BK140 HB hx144_0 hHeld ⊢
                            refine pure_ (i := 1) (N := some 50) (v := ?_) (a' := ?_) #[false, true, false, false, false, false, false, false, false, false, false] rfl rfl (any_of HT_.out (by kernel_rfl)) (fun _ _ _ h => h) (Or.inl ⟨by rfl, ?_⟩) ?_ ?_
                            rotate_left
                            · intro w'
                              go_simp
                              with_reducible rfl
                            rotate_left
                            · simp only [Act.put, List.setIfInBounds_toArray, List.set_cons_zero, List.set_cons_succ, i64_w, i32_w]
                              rfl
                            refine pure_ (i := 2) (N := some 51) (v := ?_) (a' := ?_) #[false, true, true, false, false, false, false, false, false, false, false] rfl rfl (any_of HT_.out (by kernel_rfl)) (fun _ _ _ h => h) (Or.inl ⟨by rfl, ?_⟩) ?_ ?_
                            rotate_left
                            · intro w'
                              go_simp
                              with_reducible rfl
                            rotate_left
                            · simp only [Act.put, List.setIfInBounds_toArray, List.set_cons_zero, List.set_cons_succ, i64_w, i32_w]
                              rfl
                            refine pure_ (i := 3) (N := some 52) (v := ?_) (a' := ?_) #[false, true, true, true, false, false, false, false, false, false, false] rfl rfl (any_of HT_.out (by kernel_rfl)) (fun _ _ _ h => h) (Or.inl ⟨by rfl, ?_⟩) ?_ ?_
                            rotate_left
                            · intro w'
                              go_simp
                              with_reducible rfl
                            rotate_left
                            · simp only [Act.put, List.setIfInBounds_toArray, List.set_cons_zero, List.set_cons_succ, i64_w, i32_w]
                              rfl
                            refine pure_ (i := 6) (N := some 55) (v := ?_) (a' := ?_) #[false, true, true, true, false, false, true, false, false, false, false] rfl rfl (any_of HT_.out (by kernel_rfl)) (fun _ _ _ h => h) (Or.inl ⟨by rfl, ?_⟩) ?_ ?_
                            rotate_left
                            · intro w'
                              go_simp
                              with_reducible rfl
                            rotate_left
                            · simp only [Act.put, List.setIfInBounds_toArray, List.set_cons_zero, List.set_cons_succ, i64_w, i32_w]
                              rfl
                            refine pure_ (i := 7) (N := some 56) (v := ?_) (a' := ?_) #[false, true, true, true, false, false, true, true, false, false, false] rfl rfl (any_of HT_.out (by kernel_rfl)) (fun _ _ _ h => h) (Or.inl ⟨by rfl, ?_⟩) ?_ ?_
                            rotate_left
                            · intro w'
                              go_simp
                              with_reducible rfl
                            rotate_left
                            · simp only [Act.put, List.setIfInBounds_toArray, List.set_cons_zero, List.set_cons_succ, i64_w, i32_w]
                              rfl
                            refine pure_ (i := 8) (N := some 57) (v := ?_) (a' := ?_) #[false, true, true, true, false, false, true, true, true, false, false] rfl rfl (any_of HT_.out (by kernel_rfl)) (fun _ _ _ h => h) (Or.inl ⟨by rfl, ?_⟩) ?_ ?_
                            rotate_left
                            · intro w'
                              go_simp
                              with_reducible rfl
                            rotate_left
                            · simp only [Act.put, List.setIfInBounds_toArray, List.set_cons_zero, List.set_cons_succ, i64_w, i32_w]
                              rfl
                            refine take_ (i := 0) (N := some 49) (v := ?_) (a' := ?_) #[true, true, true, true, false, false, true, true, true, false, false] rfl rfl (take_ofW HT_.out HW_.out (by kernel_rfl)) (fun _ _ _ h => h) (Or.inl ⟨by rfl, ?_⟩) hHeld ?_ ?_
                            rotate_left
                            · rintro w' ⟨s0, s1, s2, s3, s4, s5⟩
                              go_simp
                              with_reducible rfl
                            rotate_left
                            · simp only [Act.put, List.setIfInBounds_toArray, List.set_cons_zero, List.set_cons_succ, i64_w, i32_w]
                              rfl
                            refine take_ (i := 4) (N := some 53) (v := ?_) (a' := ?_) #[true, true, true, true, true, false, true, true, true, false, false] rfl rfl (take_ofW HT_.out HW_.out (by kernel_rfl)) (fun _ _ _ h => h) (Or.inl ⟨by rfl, ?_⟩) hHeld ?_ ?_
                            rotate_left
                            · rintro w' ⟨s0, s1, s2, s3, s4, s5⟩
                              go_simp
                              with_reducible rfl
                            rotate_left
                            · simp only [Act.put, List.setIfInBounds_toArray, List.set_cons_zero, List.set_cons_succ, i64_w, i32_w]
                              rfl
                            refine pure_ (i := 5) (N := some 54) (v := ?_) (a' := ?_) #[true, true, true, true, true, true, true, true, true, false, false] rfl rfl (any_of HT_.out (by kernel_rfl)) (fun _ _ _ h => h) (Or.inl ⟨by rfl, ?_⟩) ?_ ?_
                            rotate_left
                            · intro w'
                              go_simp
                              with_reducible rfl
                            rotate_left
                            · simp only [Act.put, List.setIfInBounds_toArray, List.set_cons_zero, List.set_cons_succ, i64_w, i32_w]
                              rfl
                            refine one_ (i := 9) (N := some 58) #[true, true, true, true, true, true, true, true, true, true, false] rfl rfl (one_of HT_.out (by kernel_rfl)) (by decide) (fun K hK => ?_)
                            refine goes_ Try.func15 (by kernel_rfl) rfl #[.agg #[.bool x141000_2, .int .i64 x141001_2, .int .i64 x141002_2, .int .i64 x141003_2, .int .i64 x141004_2], .int .i64 (wrap64 (rd l0 x10_2)), .int .i64 x11_17, .int .i64 (wrap64 (a2))] (by rfl) rfl rfl (by (try simp only [List.map_toArray, List.map_cons, List.map_nil]); first | done | rfl | (simp only [List.length_drop, List.length_take]; rfl)) ?_
                            with_reducible refine (rtt_Sample.calls x141000_2 x141001_2 x141002_2 x141003_2 x141004_2 (wrap64 (rd l0 x10_2)) x11_17 (wrap64 (a2)) t145 t146 t147 t148 t149 _ A23.out).mono ?_
                            rintro e w29 ⟨rfl, hb⟩
                            refine ⟨_, rfl, ?_⟩
                            have n0_ := Aside0.mk (blk_below (g := gb140) (o := .cells #[.bool x141000_2, .int .i64 x141001_2, .int .i64 x141002_2, .int .i64 x141003_2, .int .i64 x141004_2] 25 (0, 0)) (by (with_reducible repeat (first | refine blk_drewN ?_ _ | refine blk_drew ?_ | refine blk_alloc ?_ _)); exact BK140.out) hb)
                            have n1_ := Aside0.mk (below_step (by repeat (first | (with_reducible first | exact HB.out | apply below_alloc | apply pw_below_drewN | apply below_drew1 | refine below_set ?_ GE140.out) | exact HB.out)) hb)
                            clear BK140
                            clear HB
                            have BK140 := n0_
                            have HB := n1_
                            clear n0_ n1_
                            (try clear hb)
                            (try clear hb2)
                            (try clear hk)
                            (try clear hi)
                            refine hK.out _ _ ⟨(blk_cell BK140.out 0).trans rfl, (blk_cell BK140.out 1).trans rfl, (blk_cell BK140.out 2).trans rfl, (blk_cell BK140.out 3).trans rfl, (blk_cell BK140.out 4).trans rfl, ((HB.out.cell (World.block_lt_of_cell? w _ hw144_0)).trans hw144_0)⟩ (fun hHeld => ?_)
                            clear hK K
                            refine norm_ (a' := ?_) ?_ ?_
                            rotate_left
                            · show Act.put _ (some 58) _ = _
                              simp only [Act.put, List.setIfInBounds_toArray, List.set_cons_zero, List.set_cons_succ, i64_w, i32_w]
                              rfl
                            refine last_ (i := 10) (N := none) #[true, true, true, true, true, true, true, true, true, true, true] rfl rfl (one_of HT_.out (by kernel_rfl)) (by decide) (fun K hK => ?_)
                            have hs30 : w29.cell? ⟨gb140, 0, none⟩ = some (.bool x141000_2) := (blk_cell BK140.out 0).trans rfl
                            have hfs30 := blk_frozen BK140.out 0
                            have hs31 : w29.cell? ⟨gb140, 1, none⟩ = some (.int .i64 x141001_2) := (blk_cell BK140.out 1).trans rfl
                            have hfs31 := blk_frozen BK140.out 1
                            have hs32 : w29.cell? ⟨gb140, 2, none⟩ = some (.int .i64 x141002_2) := (blk_cell BK140.out 2).trans rfl
                            have hfs32 := blk_frozen BK140.out 2
                            have hs33 : w29.cell? ⟨gb140, 3, none⟩ = some (.int .i64 x141003_2) := (blk_cell BK140.out 3).trans rfl
                            have hfs33 := blk_frozen BK140.out 3
                            have hs34 : w29.cell? ⟨gb140, 4, none⟩ = some (.int .i64 x141004_2) := (blk_cell BK140.out 4).trans rfl
                            have hfs34 := blk_frozen BK140.out 4
                            refine skip_ (w1 := ?_) (by rfl) rfl ?_ ?_
                            rotate_left
                            · go_simp
                              rfl
                            refine hK.out _ _ ?_
                            clear hK K
                            refine done_ (done_of HT_.out (by kernel_rfl)) ?_
                            have p150 : 0 ≤ (x10_2 : Int) := of_decide_eq_true (by first | (with_reducible assumption) | assumption)
                            have q150 : x10_2 < (l0.length : Int) := of_decide_eq_true (by first | (with_reducible assumption) | assumption)
                            obtain ⟨ad150, e150, hx150_0⟩ := Kd.at_int HR0.out x10_2 p150 q150
                            obtain rfl : ad141 = ad150 := (by injection e150)
                            have hn150_0 : ad141.block ≠ gb140 := Nat.ne_of_lt (Nat.lt_of_lt_of_le (by have := World.block_lt_of_cell? _ _ hx150_0; first | rwa [add_block] at this | exact this) GW140.out)
                            have hn150_1 : ad141.block ≠ gb140 := Nat.ne_of_lt (Nat.lt_of_lt_of_le (by have := World.block_lt_of_cell? _ _ hx150_0; first | rwa [add_block] at this | exact this) GW140.out)
                            have hn150_2 : ad141.block ≠ gb140 := Nat.ne_of_lt (Nat.lt_of_lt_of_le (by have := World.block_lt_of_cell? _ _ hx150_0; first | rwa [add_block] at this | exact this) GW140.out)
                            have hn150_3 : ad141.block ≠ gb140 := Nat.ne_of_lt (Nat.lt_of_lt_of_le (by have := World.block_lt_of_cell? _ _ hx150_0; first | rwa [add_block] at this | exact this) GW140.out)
                            have hn150_4 : ad141.block ≠ gb140 := Nat.ne_of_lt (Nat.lt_of_lt_of_le (by have := World.block_lt_of_cell? _ _ hx150_0; first | rwa [add_block] at this | exact this) GW140.out)
                            replace hx150_0 := (HB.out.cell (World.block_lt_of_cell? w _ hx150_0)).trans hx150_0
                            replace hx150_0 := (cell_far (p := ⟨gb140, 0, none⟩) (by first | (rw [add_block]; exact hn150_0) | (show (Addr.add _ _).block ≠ _; rw [add_block]; exact hn150_0) | exact hn150_0) (.bool t145)).trans hx150_0
                            replace hx150_0 := (cell_far (p := ⟨gb140, 1, none⟩) (by first | (rw [add_block]; exact hn150_1) | (show (Addr.add _ _).block ≠ _; rw [add_block]; exact hn150_1) | exact hn150_1) (.int .i64 t146)).trans hx150_0
                            replace hx150_0 := (cell_far (p := ⟨gb140, 2, none⟩) (by first | (rw [add_block]; exact hn150_2) | (show (Addr.add _ _).block ≠ _; rw [add_block]; exact hn150_2) | exact hn150_2) (.int .i64 t147)).trans hx150_0
                            replace hx150_0 := (cell_far (p := ⟨gb140, 3, none⟩) (by first | (rw [add_block]; exact hn150_3) | (show (Addr.add _ _).block ≠ _; rw [add_block]; exact hn150_3) | exact hn150_3) (.int .i64 t148)).trans hx150_0
                            replace hx150_0 := (cell_far (p := ⟨gb140, 4, none⟩) (by first | (rw [add_block]; exact hn150_4) | (show (Addr.add _ _).block ≠ _; rw [add_block]; exact hn150_4) | exact hn150_4) (.int .i64 t149)).trans hx150_0
                            clear hn150_0
                            clear hn150_1
                            clear hn150_2
                            clear hn150_3
                            clear hn150_4
                            replace p150 := eq_true p150
                            replace q150 := eq_true q150
                            have p151 : 0 ≤ (x10_2 : Int) := of_decide_eq_true (by first | (with_reducible assumption) | assumption)
                            have q151 : x10_2 < (l0.length : Int) := of_decide_eq_true (by first | (with_reducible assumption) | assumption)
                            obtain ⟨ad151, e151, hx151_0⟩ := Kd.at_int HR0.out x10_2 p151 q151
                            obtain rfl : ad141 = ad151 := (by injection e151)
                            have hn151_0 : ad141.block ≠ gb140 := Nat.ne_of_lt (Nat.lt_of_lt_of_le (by have := World.block_lt_of_cell? _ _ hx151_0; first | rwa [add_block] at this | exact this) GW140.out)
                            have hn151_1 : ad141.block ≠ gb140 := Nat.ne_of_lt (Nat.lt_of_lt_of_le (by have := World.block_lt_of_cell? _ _ hx151_0; first | rwa [add_block] at this | exact this) GW140.out)
                            have hn151_2 : ad141.block ≠ gb140 := Nat.ne_of_lt (Nat.lt_of_lt_of_le (by have := World.block_lt_of_cell? _ _ hx151_0; first | rwa [add_block] at this | exact this) GW140.out)
                            have hn151_3 : ad141.block ≠ gb140 := Nat.ne_of_lt (Nat.lt_of_lt_of_le (by have := World.block_lt_of_cell? _ _ hx151_0; first | rwa [add_block] at this | exact this) GW140.out)
                            have hn151_4 : ad141.block ≠ gb140 := Nat.ne_of_lt (Nat.lt_of_lt_of_le (by have := World.block_lt_of_cell? _ _ hx151_0; first | rwa [add_block] at this | exact this) GW140.out)
                            replace hx151_0 := (HB.out.cell (World.block_lt_of_cell? w _ hx151_0)).trans hx151_0
                            replace hx151_0 := (cell_far (p := ⟨gb140, 0, none⟩) (by first | (rw [add_block]; exact hn151_0) | (show (Addr.add _ _).block ≠ _; rw [add_block]; exact hn151_0) | exact hn151_0) (.bool t145)).trans hx151_0
                            replace hx151_0 := (cell_far (p := ⟨gb140, 1, none⟩) (by first | (rw [add_block]; exact hn151_1) | (show (Addr.add _ _).block ≠ _; rw [add_block]; exact hn151_1) | exact hn151_1) (.int .i64 t146)).trans hx151_0
                            replace hx151_0 := (cell_far (p := ⟨gb140, 2, none⟩) (by first | (rw [add_block]; exact hn151_2) | (show (Addr.add _ _).block ≠ _; rw [add_block]; exact hn151_2) | exact hn151_2) (.int .i64 t147)).trans hx151_0
                            replace hx151_0 := (cell_far (p := ⟨gb140, 3, none⟩) (by first | (rw [add_block]; exact hn151_3) | (show (Addr.add _ _).block ≠ _; rw [add_block]; exact hn151_3) | exact hn151_3) (.int .i64 t148)).trans hx151_0
                            replace hx151_0 := (cell_far (p := ⟨gb140, 4, none⟩) (by first | (rw [add_block]; exact hn151_4) | (show (Addr.add _ _).block ≠ _; rw [add_block]; exact hn151_4) | exact hn151_4) (.int .i64 t149)).trans hx151_0
                            clear hn151_0
                            clear hn151_1
                            clear hn151_2
                            clear hn151_3
                            clear hn151_4
                            replace p151 := eq_true p151
                            replace q151 := eq_true q151
                            have hcz35_0 : w29.cell? ⟨gb140, 0, none⟩ = some (.bool x141000_2) := (blk_cell BK140.out 0).trans rfl
                            have hcz35_1 : w29.cell? ⟨gb140, 1, none⟩ = some (.int .i64 x141001_2) := (blk_cell BK140.out 1).trans rfl
                            have hcz35_2 : w29.cell? ⟨gb140, 2, none⟩ = some (.int .i64 x141002_2) := (blk_cell BK140.out 2).trans rfl
                            have hcz35_3 : w29.cell? ⟨gb140, 3, none⟩ = some (.int .i64 x141003_2) := (blk_cell BK140.out 3).trans rfl
                            have hcz35_4 : w29.cell? ⟨gb140, 4, none⟩ = some (.int .i64 x141004_2) := (blk_cell BK140.out 4).trans rfl
                            have hfz35_0 := blk_frozen BK140.out 0
                            have hfz35_1 := blk_frozen BK140.out 1
                            have hfz35_2 := blk_frozen BK140.out 2
                            have hfz35_3 := blk_frozen BK140.out 3
                            have hfz35_4 := blk_frozen BK140.out 4
                            try go_wp2
                            go_ret
                            exact ⟨by first | rfl | (simp [errW_none, errW_some] <;> rfl) | (simp only [← hji24, ← hji25]; first | rfl | (simp [errW_none, errW_some] <;> rfl)) | (simp [*, errW_none, errW_some] <;> rfl), by repeat (first | (with_reducible first | exact HB.out | apply below_alloc | apply pw_below_drewN | apply below_drew1 | refine below_set ?_ GE140.out) | exact HB.out)⟩
                          · rw [if_neg c27] at H
                            have c27b0 : decide (t147 < (ji24)) = false := decide_eq_false c27
                            clear c27
                            by_cases c36 : t147 > (ji25)
                            · rw [if_pos c36] at H
                              have c36b0 : decide ((ji25) < t147) = true := decide_eq_true c36
                              clear c36
                              obtain rfl := Option.some.inj H
                              try go_wp2
                              have n0_ := Aside0.mk (blk_drew BK140.out)
                              have n1_ := Aside0.mk (below_drew1 HB.out)
                              clear BK140
                              clear HB
                              have BK140 := n0_
                              have HB := n1_
                              clear n0_ n1_
                              have p144 : 0 ≤ (x10_2 : Int) := of_decide_eq_true (by first | (with_reducible assumption) | assumption)
                              have q144 : x10_2 < (l0.length : Int) := of_decide_eq_true (by first | (with_reducible assumption) | assumption)
                              obtain ⟨ad144, e144, hx144_0⟩ := Kd.at_int HR0.out x10_2 p144 q144
                              have hw144_0 := hx144_0
                              obtain rfl : ad141 = ad144 := (by injection e144)
                              replace hx144_0 := (HB.out.cell (World.block_lt_of_cell? w _ hx144_0)).trans hx144_0
                              replace p144 := eq_true p144
                              replace q144 := eq_true q144
                              refine start_ (n := 11) (S := fun w' => w'.cell? ⟨gb140, 0, none⟩ = some (.bool x141000_2) ∧ w'.cell? ⟨gb140, 1, none⟩ = some (.int .i64 x141001_2) ∧ w'.cell? ⟨gb140, 2, none⟩ = some (.int .i64 x141002_2) ∧ w'.cell? ⟨gb140, 3, none⟩ = some (.int .i64 x141003_2) ∧ w'.cell? ⟨gb140, 4, none⟩ = some (.int .i64 x141004_2) ∧ w'.cell? (ad141.add (x10_2).toNat) = some (.int .u16 (rd l0 x10_2))) (ds := [10]) #[false, false, false, false, false, false, false, false, false, false, false] (by kernel_rfl) rfl rfl ⟨(blk_cell BK140.out 0).trans rfl, (blk_cell BK140.out 1).trans rfl, (blk_cell BK140.out 2).trans rfl, (blk_cell BK140.out 3).trans rfl, (blk_cell BK140.out 4).trans rfl, ((HB.out.cell (World.block_lt_of_cell? w _ hw144_0)).trans hw144_0)⟩ (fun hHeld => ?_); refine with_tabW dominolaw11_RttBetween.tab12 dominolaw11_RttBetween.bits12 (fun HT_ HW_ => ?_)
                              generalize wc.drew = w37 at BK140 HB hx144_0 hHeld ⊢
                              refine pure_ (i := 1) (N := some 50) (v := ?_) (a' := ?_) #[false, true, false, false, false, false, false, false, false, false, false] rfl rfl (any_of HT_.out (by kernel_rfl)) (fun _ _ _ h => h) (Or.inl ⟨by rfl, ?_⟩) ?_ ?_
                              rotate_left
                              · intro w'
                                go_simp
                                with_reducible rfl
                              rotate_left
                              · simp only [Act.put, List.setIfInBounds_toArray, List.set_cons_zero, List.set_cons_succ, i64_w, i32_w]
                                rfl
                              refine pure_ (i := 2) (N := some 51) (v := ?_) (a' := ?_) #[false, true, true, false, false, false, false, false, false, false, false] rfl rfl (any_of HT_.out (by kernel_rfl)) (fun _ _ _ h => h) (Or.inl ⟨by rfl, ?_⟩) ?_ ?_
                              rotate_left
                              · intro w'
                                go_simp
                                with_reducible rfl
                              rotate_left
                              · simp only [Act.put, List.setIfInBounds_toArray, List.set_cons_zero, List.set_cons_succ, i64_w, i32_w]
                                rfl
                              refine pure_ (i := 3) (N := some 52) (v := ?_) (a' := ?_) #[false, true, true, true, false, false, false, false, false, false, false] rfl rfl (any_of HT_.out (by kernel_rfl)) (fun _ _ _ h => h) (Or.inl ⟨by rfl, ?_⟩) ?_ ?_
                              rotate_left
                              · intro w'
                                go_simp
                                with_reducible rfl
                              rotate_left
                              · simp only [Act.put, List.setIfInBounds_toArray, List.set_cons_zero, List.set_cons_succ, i64_w, i32_w]
                                rfl
                              refine pure_ (i := 6) (N := some 55) (v := ?_) (a' := ?_) #[false, true, true, true, false, false, true, false, false, false, false] rfl rfl (any_of HT_.out (by kernel_rfl)) (fun _ _ _ h => h) (Or.inl ⟨by rfl, ?_⟩) ?_ ?_
                              rotate_left
                              · intro w'
                                go_simp
                                with_reducible rfl
                              rotate_left
                              · simp only [Act.put, List.setIfInBounds_toArray, List.set_cons_zero, List.set_cons_succ, i64_w, i32_w]
                                rfl
                              refine pure_ (i := 7) (N := some 56) (v := ?_) (a' := ?_) #[false, true, true, true, false, false, true, true, false, false, false] rfl rfl (any_of HT_.out (by kernel_rfl)) (fun _ _ _ h => h) (Or.inl ⟨by rfl, ?_⟩) ?_ ?_
                              rotate_left
                              · intro w'
                                go_simp
                                with_reducible rfl
                              rotate_left
                              · simp only [Act.put, List.setIfInBounds_toArray, List.set_cons_zero, List.set_cons_succ, i64_w, i32_w]
                                rfl
                              refine pure_ (i := 8) (N := some 57) (v := ?_) (a' := ?_) #[false, true, true, true, false, false, true, true, true, false, false] rfl rfl (any_of HT_.out (by kernel_rfl)) (fun _ _ _ h => h) (Or.inl ⟨by rfl, ?_⟩) ?_ ?_
                              rotate_left
                              · intro w'
                                go_simp
                                with_reducible rfl
                              rotate_left
                              · simp only [Act.put, List.setIfInBounds_toArray, List.set_cons_zero, List.set_cons_succ, i64_w, i32_w]
                                rfl
                              refine take_ (i := 0) (N := some 49) (v := ?_) (a' := ?_) #[true, true, true, true, false, false, true, true, true, false, false] rfl rfl (take_ofW HT_.out HW_.out (by kernel_rfl)) (fun _ _ _ h => h) (Or.inl ⟨by rfl, ?_⟩) hHeld ?_ ?_
                              rotate_left
                              · rintro w' ⟨s0, s1, s2, s3, s4, s5⟩
                                go_simp
                                with_reducible rfl
                              rotate_left
                              · simp only [Act.put, List.setIfInBounds_toArray, List.set_cons_zero, List.set_cons_succ, i64_w, i32_w]
                                rfl
                              refine take_ (i := 4) (N := some 53) (v := ?_) (a' := ?_) #[true, true, true, true, true, false, true, true, true, false, false] rfl rfl (take_ofW HT_.out HW_.out (by kernel_rfl)) (fun _ _ _ h => h) (Or.inl ⟨by rfl, ?_⟩) hHeld ?_ ?_
                              rotate_left
                              · rintro w' ⟨s0, s1, s2, s3, s4, s5⟩
                                go_simp
                                with_reducible rfl
                              rotate_left
                              · simp only [Act.put, List.setIfInBounds_toArray, List.set_cons_zero, List.set_cons_succ, i64_w, i32_w]
                                rfl
                              refine pure_ (i := 5) (N := some 54) (v := ?_) (a' := ?_) #[true, true, true, true, true, true, true, true, true, false, false] rfl rfl (any_of HT_.out (by kernel_rfl)) (fun _ _ _ h => h) (Or.inl ⟨by rfl, ?_⟩) ?_ ?_
                              rotate_left
                              · intro w'
                                go_simp
                                with_reducible rfl
                              rotate_left
                              · simp only [Act.put, List.setIfInBounds_toArray, List.set_cons_zero, List.set_cons_succ, i64_w, i32_w]
                                rfl
                              refine one_ (i := 9) (N := some 58) #[true, true, true, true, true, true, true, true, true, true, false] rfl rfl (one_of HT_.out (by kernel_rfl)) (by decide) (fun K hK => ?_)
                              refine goes_ Try.func15 (by kernel_rfl) rfl #[.agg #[.bool x141000_2, .int .i64 x141001_2, .int .i64 x141002_2, .int .i64 x141003_2, .int .i64 x141004_2], .int .i64 (wrap64 (rd l0 x10_2)), .int .i64 x11_17, .int .i64 (wrap64 (a2))] (by rfl) rfl rfl (by (try simp only [List.map_toArray, List.map_cons, List.map_nil]); first | done | rfl | (simp only [List.length_drop, List.length_take]; rfl)) ?_
                              with_reducible refine (rtt_Sample.calls x141000_2 x141001_2 x141002_2 x141003_2 x141004_2 (wrap64 (rd l0 x10_2)) x11_17 (wrap64 (a2)) t145 t146 t147 t148 t149 _ A23.out).mono ?_
                              rintro e w38 ⟨rfl, hb⟩
                              refine ⟨_, rfl, ?_⟩
                              have n0_ := Aside0.mk (blk_below (g := gb140) (o := .cells #[.bool x141000_2, .int .i64 x141001_2, .int .i64 x141002_2, .int .i64 x141003_2, .int .i64 x141004_2] 25 (0, 0)) (by (with_reducible repeat (first | refine blk_drewN ?_ _ | refine blk_drew ?_ | refine blk_alloc ?_ _)); exact BK140.out) hb)
                              have n1_ := Aside0.mk (below_step (by repeat (first | (with_reducible first | exact HB.out | apply below_alloc | apply pw_below_drewN | apply below_drew1 | refine below_set ?_ GE140.out) | exact HB.out)) hb)
                              clear BK140
                              clear HB
                              have BK140 := n0_
                              have HB := n1_
                              clear n0_ n1_
                              (try clear hb)
                              (try clear hb2)
                              (try clear hk)
                              (try clear hi)
                              refine hK.out _ _ ⟨(blk_cell BK140.out 0).trans rfl, (blk_cell BK140.out 1).trans rfl, (blk_cell BK140.out 2).trans rfl, (blk_cell BK140.out 3).trans rfl, (blk_cell BK140.out 4).trans rfl, ((HB.out.cell (World.block_lt_of_cell? w _ hw144_0)).trans hw144_0)⟩ (fun hHeld => ?_)
                              clear hK K
                              refine norm_ (a' := ?_) ?_ ?_
                              rotate_left
                              · show Act.put _ (some 58) _ = _
                                simp only [Act.put, List.setIfInBounds_toArray, List.set_cons_zero, List.set_cons_succ, i64_w, i32_w]
                                rfl
                              refine last_ (i := 10) (N := none) #[true, true, true, true, true, true, true, true, true, true, true] rfl rfl (one_of HT_.out (by kernel_rfl)) (by decide) (fun K hK => ?_)
                              have hs39 : w38.cell? ⟨gb140, 0, none⟩ = some (.bool x141000_2) := (blk_cell BK140.out 0).trans rfl
                              have hfs39 := blk_frozen BK140.out 0
                              have hs40 : w38.cell? ⟨gb140, 1, none⟩ = some (.int .i64 x141001_2) := (blk_cell BK140.out 1).trans rfl
                              have hfs40 := blk_frozen BK140.out 1
                              have hs41 : w38.cell? ⟨gb140, 2, none⟩ = some (.int .i64 x141002_2) := (blk_cell BK140.out 2).trans rfl
                              have hfs41 := blk_frozen BK140.out 2
                              have hs42 : w38.cell? ⟨gb140, 3, none⟩ = some (.int .i64 x141003_2) := (blk_cell BK140.out 3).trans rfl
                              have hfs42 := blk_frozen BK140.out 3
                              have hs43 : w38.cell? ⟨gb140, 4, none⟩ = some (.int .i64 x141004_2) := (blk_cell BK140.out 4).trans rfl
                              have hfs43 := blk_frozen BK140.out 4
                              refine skip_ (w1 := ?_) (by rfl) rfl ?_ ?_
                              rotate_left
                              · go_simp
                                rfl
                              refine hK.out _ _ ?_
                              clear hK K
                              refine done_ (done_of HT_.out (by kernel_rfl)) ?_
                              have p150 : 0 ≤ (x10_2 : Int) := of_decide_eq_true (by first | (with_reducible assumption) | assumption)
                              have q150 : x10_2 < (l0.length : Int) := of_decide_eq_true (by first | (with_reducible assumption) | assumption)
                              obtain ⟨ad150, e150, hx150_0⟩ := Kd.at_int HR0.out x10_2 p150 q150
                              obtain rfl : ad141 = ad150 := (by injection e150)
                              have hn150_0 : ad141.block ≠ gb140 := Nat.ne_of_lt (Nat.lt_of_lt_of_le (by have := World.block_lt_of_cell? _ _ hx150_0; first | rwa [add_block] at this | exact this) GW140.out)
                              have hn150_1 : ad141.block ≠ gb140 := Nat.ne_of_lt (Nat.lt_of_lt_of_le (by have := World.block_lt_of_cell? _ _ hx150_0; first | rwa [add_block] at this | exact this) GW140.out)
                              have hn150_2 : ad141.block ≠ gb140 := Nat.ne_of_lt (Nat.lt_of_lt_of_le (by have := World.block_lt_of_cell? _ _ hx150_0; first | rwa [add_block] at this | exact this) GW140.out)
                              have hn150_3 : ad141.block ≠ gb140 := Nat.ne_of_lt (Nat.lt_of_lt_of_le (by have := World.block_lt_of_cell? _ _ hx150_0; first | rwa [add_block] at this | exact this) GW140.out)
                              have hn150_4 : ad141.block ≠ gb140 := Nat.ne_of_lt (Nat.lt_of_lt_of_le (by have := World.block_lt_of_cell? _ _ hx150_0; first | rwa [add_block] at this | exact this) GW140.out)
                              replace hx150_0 := (HB.out.cell (World.block_lt_of_cell? w _ hx150_0)).trans hx150_0
                              replace hx150_0 := (cell_far (p := ⟨gb140, 0, none⟩) (by first | (rw [add_block]; exact hn150_0) | (show (Addr.add _ _).block ≠ _; rw [add_block]; exact hn150_0) | exact hn150_0) (.bool t145)).trans hx150_0
                              replace hx150_0 := (cell_far (p := ⟨gb140, 1, none⟩) (by first | (rw [add_block]; exact hn150_1) | (show (Addr.add _ _).block ≠ _; rw [add_block]; exact hn150_1) | exact hn150_1) (.int .i64 t146)).trans hx150_0
                              replace hx150_0 := (cell_far (p := ⟨gb140, 2, none⟩) (by first | (rw [add_block]; exact hn150_2) | (show (Addr.add _ _).block ≠ _; rw [add_block]; exact hn150_2) | exact hn150_2) (.int .i64 t147)).trans hx150_0
                              replace hx150_0 := (cell_far (p := ⟨gb140, 3, none⟩) (by first | (rw [add_block]; exact hn150_3) | (show (Addr.add _ _).block ≠ _; rw [add_block]; exact hn150_3) | exact hn150_3) (.int .i64 t148)).trans hx150_0
                              replace hx150_0 := (cell_far (p := ⟨gb140, 4, none⟩) (by first | (rw [add_block]; exact hn150_4) | (show (Addr.add _ _).block ≠ _; rw [add_block]; exact hn150_4) | exact hn150_4) (.int .i64 t149)).trans hx150_0
                              clear hn150_0
                              clear hn150_1
                              clear hn150_2
                              clear hn150_3
                              clear hn150_4
                              replace p150 := eq_true p150
                              replace q150 := eq_true q150
                              have p151 : 0 ≤ (x10_2 : Int) := of_decide_eq_true (by first | (with_reducible assumption) | assumption)
                              have q151 : x10_2 < (l0.length : Int) := of_decide_eq_true (by first | (with_reducible assumption) | assumption)
                              obtain ⟨ad151, e151, hx151_0⟩ := Kd.at_int HR0.out x10_2 p151 q151
                              obtain rfl : ad141 = ad151 := (by injection e151)
                              have hn151_0 : ad141.block ≠ gb140 := Nat.ne_of_lt (Nat.lt_of_lt_of_le (by have := World.block_lt_of_cell? _ _ hx151_0; first | rwa [add_block] at this | exact this) GW140.out)
                              have hn151_1 : ad141.block ≠ gb140 := Nat.ne_of_lt (Nat.lt_of_lt_of_le (by have := World.block_lt_of_cell? _ _ hx151_0; first | rwa [add_block] at this | exact this) GW140.out)
                              have hn151_2 : ad141.block ≠ gb140 := Nat.ne_of_lt (Nat.lt_of_lt_of_le (by have := World.block_lt_of_cell? _ _ hx151_0; first | rwa [add_block] at this | exact this) GW140.out)
                              have hn151_3 : ad141.block ≠ gb140 := Nat.ne_of_lt (Nat.lt_of_lt_of_le (by have := World.block_lt_of_cell? _ _ hx151_0; first | rwa [add_block] at this | exact this) GW140.out)
                              have hn151_4 : ad141.block ≠ gb140 := Nat.ne_of_lt (Nat.lt_of_lt_of_le (by have := World.block_lt_of_cell? _ _ hx151_0; first | rwa [add_block] at this | exact this) GW140.out)
                              replace hx151_0 := (HB.out.cell (World.block_lt_of_cell? w _ hx151_0)).trans hx151_0
                              replace hx151_0 := (cell_far (p := ⟨gb140, 0, none⟩) (by first | (rw [add_block]; exact hn151_0) | (show (Addr.add _ _).block ≠ _; rw [add_block]; exact hn151_0) | exact hn151_0) (.bool t145)).trans hx151_0
                              replace hx151_0 := (cell_far (p := ⟨gb140, 1, none⟩) (by first | (rw [add_block]; exact hn151_1) | (show (Addr.add _ _).block ≠ _; rw [add_block]; exact hn151_1) | exact hn151_1) (.int .i64 t146)).trans hx151_0
                              replace hx151_0 := (cell_far (p := ⟨gb140, 2, none⟩) (by first | (rw [add_block]; exact hn151_2) | (show (Addr.add _ _).block ≠ _; rw [add_block]; exact hn151_2) | exact hn151_2) (.int .i64 t147)).trans hx151_0
                              replace hx151_0 := (cell_far (p := ⟨gb140, 3, none⟩) (by first | (rw [add_block]; exact hn151_3) | (show (Addr.add _ _).block ≠ _; rw [add_block]; exact hn151_3) | exact hn151_3) (.int .i64 t148)).trans hx151_0
                              replace hx151_0 := (cell_far (p := ⟨gb140, 4, none⟩) (by first | (rw [add_block]; exact hn151_4) | (show (Addr.add _ _).block ≠ _; rw [add_block]; exact hn151_4) | exact hn151_4) (.int .i64 t149)).trans hx151_0
                              clear hn151_0
                              clear hn151_1
                              clear hn151_2
                              clear hn151_3
                              clear hn151_4
                              replace p151 := eq_true p151
                              replace q151 := eq_true q151
                              have hcz44_0 : w38.cell? ⟨gb140, 0, none⟩ = some (.bool x141000_2) := (blk_cell BK140.out 0).trans rfl
                              have hcz44_1 : w38.cell? ⟨gb140, 1, none⟩ = some (.int .i64 x141001_2) := (blk_cell BK140.out 1).trans rfl
                              have hcz44_2 : w38.cell? ⟨gb140, 2, none⟩ = some (.int .i64 x141002_2) := (blk_cell BK140.out 2).trans rfl
                              have hcz44_3 : w38.cell? ⟨gb140, 3, none⟩ = some (.int .i64 x141003_2) := (blk_cell BK140.out 3).trans rfl
                              have hcz44_4 : w38.cell? ⟨gb140, 4, none⟩ = some (.int .i64 x141004_2) := (blk_cell BK140.out 4).trans rfl
                              have hfz44_0 := blk_frozen BK140.out 0
                              have hfz44_1 := blk_frozen BK140.out 1
                              have hfz44_2 := blk_frozen BK140.out 2
                              have hfz44_3 := blk_frozen BK140.out 3
                              have hfz44_4 := blk_frozen BK140.out 4
                              try go_wp2
                              go_ret
                              exact ⟨by first | rfl | (simp [errW_none, errW_some] <;> rfl) | (simp only [← hji24, ← hji25]; first | rfl | (simp [errW_none, errW_some] <;> rfl)) | (simp [*, errW_none, errW_some] <;> rfl), by repeat (first | (with_reducible first | exact HB.out | apply below_alloc | apply pw_below_drewN | apply below_drew1 | refine below_set ?_ GE140.out) | exact HB.out)⟩
                            · rw [if_neg c36] at H
                              have c36b0 : decide ((ji25) < t147) = false := decide_eq_false c36
                              clear c36
                              by_cases c45 : t148 < 0
                              · rw [if_pos c45] at H
                                have c45b0 : decide (t148 < 0) = true := decide_eq_true c45
                                clear c45
                                obtain rfl := Option.some.inj H
                                try go_wp2
                                have n0_ := Aside0.mk (blk_drew BK140.out)
                                have n1_ := Aside0.mk (below_drew1 HB.out)
                                clear BK140
                                clear HB
                                have BK140 := n0_
                                have HB := n1_
                                clear n0_ n1_
                                have p144 : 0 ≤ (x10_2 : Int) := of_decide_eq_true (by first | (with_reducible assumption) | assumption)
                                have q144 : x10_2 < (l0.length : Int) := of_decide_eq_true (by first | (with_reducible assumption) | assumption)
                                obtain ⟨ad144, e144, hx144_0⟩ := Kd.at_int HR0.out x10_2 p144 q144
                                have hw144_0 := hx144_0
                                obtain rfl : ad141 = ad144 := (by injection e144)
                                replace hx144_0 := (HB.out.cell (World.block_lt_of_cell? w _ hx144_0)).trans hx144_0
                                replace p144 := eq_true p144
                                replace q144 := eq_true q144
                                refine start_ (n := 11) (S := fun w' => w'.cell? ⟨gb140, 0, none⟩ = some (.bool x141000_2) ∧ w'.cell? ⟨gb140, 1, none⟩ = some (.int .i64 x141001_2) ∧ w'.cell? ⟨gb140, 2, none⟩ = some (.int .i64 x141002_2) ∧ w'.cell? ⟨gb140, 3, none⟩ = some (.int .i64 x141003_2) ∧ w'.cell? ⟨gb140, 4, none⟩ = some (.int .i64 x141004_2) ∧ w'.cell? (ad141.add (x10_2).toNat) = some (.int .u16 (rd l0 x10_2))) (ds := [10]) #[false, false, false, false, false, false, false, false, false, false, false] (by kernel_rfl) rfl rfl ⟨(blk_cell BK140.out 0).trans rfl, (blk_cell BK140.out 1).trans rfl, (blk_cell BK140.out 2).trans rfl, (blk_cell BK140.out 3).trans rfl, (blk_cell BK140.out 4).trans rfl, ((HB.out.cell (World.block_lt_of_cell? w _ hw144_0)).trans hw144_0)⟩ (fun hHeld => ?_); refine with_tabW dominolaw11_RttBetween.tab12 dominolaw11_RttBetween.bits12 (fun HT_ HW_ => ?_)
                                generalize wc.drew = w46 at BK140 HB hx144_0 hHeld ⊢
                                refine pure_ (i := 1) (N := some 50) (v := ?_) (a' := ?_) #[false, true, false, false, false, false, false, false, false, false, false] rfl rfl (any_of HT_.out (by kernel_rfl)) (fun _ _ _ h => h) (Or.inl ⟨by rfl, ?_⟩) ?_ ?_
                                rotate_left
                                · intro w'
                                  go_simp
                                  with_reducible rfl
                                rotate_left
                                · simp only [Act.put, List.setIfInBounds_toArray, List.set_cons_zero, List.set_cons_succ, i64_w, i32_w]
                                  rfl
                                refine pure_ (i := 2) (N := some 51) (v := ?_) (a' := ?_) #[false, true, true, false, false, false, false, false, false, false, false] rfl rfl (any_of HT_.out (by kernel_rfl)) (fun _ _ _ h => h) (Or.inl ⟨by rfl, ?_⟩) ?_ ?_
                                rotate_left
                                · intro w'
                                  go_simp
                                  with_reducible rfl
                                rotate_left
                                · simp only [Act.put, List.setIfInBounds_toArray, List.set_cons_zero, List.set_cons_succ, i64_w, i32_w]
                                  rfl
                                refine pure_ (i := 3) (N := some 52) (v := ?_) (a' := ?_) #[false, true, true, true, false, false, false, false, false, false, false] rfl rfl (any_of HT_.out (by kernel_rfl)) (fun _ _ _ h => h) (Or.inl ⟨by rfl, ?_⟩) ?_ ?_
                                rotate_left
                                · intro w'
                                  go_simp
                                  with_reducible rfl
                                rotate_left
                                · simp only [Act.put, List.setIfInBounds_toArray, List.set_cons_zero, List.set_cons_succ, i64_w, i32_w]
                                  rfl
                                refine pure_ (i := 6) (N := some 55) (v := ?_) (a' := ?_) #[false, true, true, true, false, false, true, false, false, false, false] rfl rfl (any_of HT_.out (by kernel_rfl)) (fun _ _ _ h => h) (Or.inl ⟨by rfl, ?_⟩) ?_ ?_
                                rotate_left
                                · intro w'
                                  go_simp
                                  with_reducible rfl
                                rotate_left
                                · simp only [Act.put, List.setIfInBounds_toArray, List.set_cons_zero, List.set_cons_succ, i64_w, i32_w]
                                  rfl
                                refine pure_ (i := 7) (N := some 56) (v := ?_) (a' := ?_) #[false, true, true, true, false, false, true, true, false, false, false] rfl rfl (any_of HT_.out (by kernel_rfl)) (fun _ _ _ h => h) (Or.inl ⟨by rfl, ?_⟩) ?_ ?_
                                rotate_left
                                · intro w'
                                  go_simp
                                  with_reducible rfl
                                rotate_left
                                · simp only [Act.put, List.setIfInBounds_toArray, List.set_cons_zero, List.set_cons_succ, i64_w, i32_w]
                                  rfl
                                refine pure_ (i := 8) (N := some 57) (v := ?_) (a' := ?_) #[false, true, true, true, false, false, true, true, true, false, false] rfl rfl (any_of HT_.out (by kernel_rfl)) (fun _ _ _ h => h) (Or.inl ⟨by rfl, ?_⟩) ?_ ?_
                                rotate_left
                                · intro w'
                                  go_simp
                                  with_reducible rfl
                                rotate_left
                                · simp only [Act.put, List.setIfInBounds_toArray, List.set_cons_zero, List.set_cons_succ, i64_w, i32_w]
                                  rfl
                                refine take_ (i := 0) (N := some 49) (v := ?_) (a' := ?_) #[true, true, true, true, false, false, true, true, true, false, false] rfl rfl (take_ofW HT_.out HW_.out (by kernel_rfl)) (fun _ _ _ h => h) (Or.inl ⟨by rfl, ?_⟩) hHeld ?_ ?_
                                rotate_left
                                · rintro w' ⟨s0, s1, s2, s3, s4, s5⟩
                                  go_simp
                                  with_reducible rfl
                                rotate_left
                                · simp only [Act.put, List.setIfInBounds_toArray, List.set_cons_zero, List.set_cons_succ, i64_w, i32_w]
                                  rfl
                                refine take_ (i := 4) (N := some 53) (v := ?_) (a' := ?_) #[true, true, true, true, true, false, true, true, true, false, false] rfl rfl (take_ofW HT_.out HW_.out (by kernel_rfl)) (fun _ _ _ h => h) (Or.inl ⟨by rfl, ?_⟩) hHeld ?_ ?_
                                rotate_left
                                · rintro w' ⟨s0, s1, s2, s3, s4, s5⟩
                                  go_simp
                                  with_reducible rfl
                                rotate_left
                                · simp only [Act.put, List.setIfInBounds_toArray, List.set_cons_zero, List.set_cons_succ, i64_w, i32_w]
                                  rfl
                                refine pure_ (i := 5) (N := some 54) (v := ?_) (a' := ?_) #[true, true, true, true, true, true, true, true, true, false, false] rfl rfl (any_of HT_.out (by kernel_rfl)) (fun _ _ _ h => h) (Or.inl ⟨by rfl, ?_⟩) ?_ ?_
                                rotate_left
                                · intro w'
                                  go_simp
                                  with_reducible rfl
                                rotate_left
                                · simp only [Act.put, List.setIfInBounds_toArray, List.set_cons_zero, List.set_cons_succ, i64_w, i32_w]
                                  rfl
                                refine one_ (i := 9) (N := some 58) #[true, true, true, true, true, true, true, true, true, true, false] rfl rfl (one_of HT_.out (by kernel_rfl)) (by decide) (fun K hK => ?_)
                                refine goes_ Try.func15 (by kernel_rfl) rfl #[.agg #[.bool x141000_2, .int .i64 x141001_2, .int .i64 x141002_2, .int .i64 x141003_2, .int .i64 x141004_2], .int .i64 (wrap64 (rd l0 x10_2)), .int .i64 x11_17, .int .i64 (wrap64 (a2))] (by rfl) rfl rfl (by (try simp only [List.map_toArray, List.map_cons, List.map_nil]); first | done | rfl | (simp only [List.length_drop, List.length_take]; rfl)) ?_
                                with_reducible refine (rtt_Sample.calls x141000_2 x141001_2 x141002_2 x141003_2 x141004_2 (wrap64 (rd l0 x10_2)) x11_17 (wrap64 (a2)) t145 t146 t147 t148 t149 _ A23.out).mono ?_
                                rintro e w47 ⟨rfl, hb⟩
                                refine ⟨_, rfl, ?_⟩
                                have n0_ := Aside0.mk (blk_below (g := gb140) (o := .cells #[.bool x141000_2, .int .i64 x141001_2, .int .i64 x141002_2, .int .i64 x141003_2, .int .i64 x141004_2] 25 (0, 0)) (by (with_reducible repeat (first | refine blk_drewN ?_ _ | refine blk_drew ?_ | refine blk_alloc ?_ _)); exact BK140.out) hb)
                                have n1_ := Aside0.mk (below_step (by repeat (first | (with_reducible first | exact HB.out | apply below_alloc | apply pw_below_drewN | apply below_drew1 | refine below_set ?_ GE140.out) | exact HB.out)) hb)
                                clear BK140
                                clear HB
                                have BK140 := n0_
                                have HB := n1_
                                clear n0_ n1_
                                (try clear hb)
                                (try clear hb2)
                                (try clear hk)
                                (try clear hi)
                                refine hK.out _ _ ⟨(blk_cell BK140.out 0).trans rfl, (blk_cell BK140.out 1).trans rfl, (blk_cell BK140.out 2).trans rfl, (blk_cell BK140.out 3).trans rfl, (blk_cell BK140.out 4).trans rfl, ((HB.out.cell (World.block_lt_of_cell? w _ hw144_0)).trans hw144_0)⟩ (fun hHeld => ?_)
                                clear hK K
                                refine norm_ (a' := ?_) ?_ ?_
                                rotate_left
                                · show Act.put _ (some 58) _ = _
                                  simp only [Act.put, List.setIfInBounds_toArray, List.set_cons_zero, List.set_cons_succ, i64_w, i32_w]
                                  rfl
                                refine last_ (i := 10) (N := none) #[true, true, true, true, true, true, true, true, true, true, true] rfl rfl (one_of HT_.out (by kernel_rfl)) (by decide) (fun K hK => ?_)
                                have hs48 : w47.cell? ⟨gb140, 0, none⟩ = some (.bool x141000_2) := (blk_cell BK140.out 0).trans rfl
                                have hfs48 := blk_frozen BK140.out 0
                                have hs49 : w47.cell? ⟨gb140, 1, none⟩ = some (.int .i64 x141001_2) := (blk_cell BK140.out 1).trans rfl
                                have hfs49 := blk_frozen BK140.out 1
                                have hs50 : w47.cell? ⟨gb140, 2, none⟩ = some (.int .i64 x141002_2) := (blk_cell BK140.out 2).trans rfl
                                have hfs50 := blk_frozen BK140.out 2
                                have hs51 : w47.cell? ⟨gb140, 3, none⟩ = some (.int .i64 x141003_2) := (blk_cell BK140.out 3).trans rfl
                                have hfs51 := blk_frozen BK140.out 3
                                have hs52 : w47.cell? ⟨gb140, 4, none⟩ = some (.int .i64 x141004_2) := (blk_cell BK140.out 4).trans rfl
                                have hfs52 := blk_frozen BK140.out 4
                                refine skip_ (w1 := ?_) (by rfl) rfl ?_ ?_
                                rotate_left
                                · go_simp
                                  rfl
                                refine hK.out _ _ ?_
                                clear hK K
                                refine done_ (done_of HT_.out (by kernel_rfl)) ?_
                                have p150 : 0 ≤ (x10_2 : Int) := of_decide_eq_true (by first | (with_reducible assumption) | assumption)
                                have q150 : x10_2 < (l0.length : Int) := of_decide_eq_true (by first | (with_reducible assumption) | assumption)
                                obtain ⟨ad150, e150, hx150_0⟩ := Kd.at_int HR0.out x10_2 p150 q150
                                obtain rfl : ad141 = ad150 := (by injection e150)
                                have hn150_0 : ad141.block ≠ gb140 := Nat.ne_of_lt (Nat.lt_of_lt_of_le (by have := World.block_lt_of_cell? _ _ hx150_0; first | rwa [add_block] at this | exact this) GW140.out)
                                have hn150_1 : ad141.block ≠ gb140 := Nat.ne_of_lt (Nat.lt_of_lt_of_le (by have := World.block_lt_of_cell? _ _ hx150_0; first | rwa [add_block] at this | exact this) GW140.out)
                                have hn150_2 : ad141.block ≠ gb140 := Nat.ne_of_lt (Nat.lt_of_lt_of_le (by have := World.block_lt_of_cell? _ _ hx150_0; first | rwa [add_block] at this | exact this) GW140.out)
                                have hn150_3 : ad141.block ≠ gb140 := Nat.ne_of_lt (Nat.lt_of_lt_of_le (by have := World.block_lt_of_cell? _ _ hx150_0; first | rwa [add_block] at this | exact this) GW140.out)
                                have hn150_4 : ad141.block ≠ gb140 := Nat.ne_of_lt (Nat.lt_of_lt_of_le (by have := World.block_lt_of_cell? _ _ hx150_0; first | rwa [add_block] at this | exact this) GW140.out)
                                replace hx150_0 := (HB.out.cell (World.block_lt_of_cell? w _ hx150_0)).trans hx150_0
                                replace hx150_0 := (cell_far (p := ⟨gb140, 0, none⟩) (by first | (rw [add_block]; exact hn150_0) | (show (Addr.add _ _).block ≠ _; rw [add_block]; exact hn150_0) | exact hn150_0) (.bool t145)).trans hx150_0
                                replace hx150_0 := (cell_far (p := ⟨gb140, 1, none⟩) (by first | (rw [add_block]; exact hn150_1) | (show (Addr.add _ _).block ≠ _; rw [add_block]; exact hn150_1) | exact hn150_1) (.int .i64 t146)).trans hx150_0
                                replace hx150_0 := (cell_far (p := ⟨gb140, 2, none⟩) (by first | (rw [add_block]; exact hn150_2) | (show (Addr.add _ _).block ≠ _; rw [add_block]; exact hn150_2) | exact hn150_2) (.int .i64 t147)).trans hx150_0
                                replace hx150_0 := (cell_far (p := ⟨gb140, 3, none⟩) (by first | (rw [add_block]; exact hn150_3) | (show (Addr.add _ _).block ≠ _; rw [add_block]; exact hn150_3) | exact hn150_3) (.int .i64 t148)).trans hx150_0
                                replace hx150_0 := (cell_far (p := ⟨gb140, 4, none⟩) (by first | (rw [add_block]; exact hn150_4) | (show (Addr.add _ _).block ≠ _; rw [add_block]; exact hn150_4) | exact hn150_4) (.int .i64 t149)).trans hx150_0
                                clear hn150_0
                                clear hn150_1
                                clear hn150_2
                                clear hn150_3
                                clear hn150_4
                                replace p150 := eq_true p150
                                replace q150 := eq_true q150
                                have p151 : 0 ≤ (x10_2 : Int) := of_decide_eq_true (by first | (with_reducible assumption) | assumption)
                                have q151 : x10_2 < (l0.length : Int) := of_decide_eq_true (by first | (with_reducible assumption) | assumption)
                                obtain ⟨ad151, e151, hx151_0⟩ := Kd.at_int HR0.out x10_2 p151 q151
                                obtain rfl : ad141 = ad151 := (by injection e151)
                                have hn151_0 : ad141.block ≠ gb140 := Nat.ne_of_lt (Nat.lt_of_lt_of_le (by have := World.block_lt_of_cell? _ _ hx151_0; first | rwa [add_block] at this | exact this) GW140.out)
                                have hn151_1 : ad141.block ≠ gb140 := Nat.ne_of_lt (Nat.lt_of_lt_of_le (by have := World.block_lt_of_cell? _ _ hx151_0; first | rwa [add_block] at this | exact this) GW140.out)
                                have hn151_2 : ad141.block ≠ gb140 := Nat.ne_of_lt (Nat.lt_of_lt_of_le (by have := World.block_lt_of_cell? _ _ hx151_0; first | rwa [add_block] at this | exact this) GW140.out)
                                have hn151_3 : ad141.block ≠ gb140 := Nat.ne_of_lt (Nat.lt_of_lt_of_le (by have := World.block_lt_of_cell? _ _ hx151_0; first | rwa [add_block] at this | exact this) GW140.out)
                                have hn151_4 : ad141.block ≠ gb140 := Nat.ne_of_lt (Nat.lt_of_lt_of_le (by have := World.block_lt_of_cell? _ _ hx151_0; first | rwa [add_block] at this | exact this) GW140.out)
                                replace hx151_0 := (HB.out.cell (World.block_lt_of_cell? w _ hx151_0)).trans hx151_0
                                replace hx151_0 := (cell_far (p := ⟨gb140, 0, none⟩) (by first | (rw [add_block]; exact hn151_0) | (show (Addr.add _ _).block ≠ _; rw [add_block]; exact hn151_0) | exact hn151_0) (.bool t145)).trans hx151_0
                                replace hx151_0 := (cell_far (p := ⟨gb140, 1, none⟩) (by first | (rw [add_block]; exact hn151_1) | (show (Addr.add _ _).block ≠ _; rw [add_block]; exact hn151_1) | exact hn151_1) (.int .i64 t146)).trans hx151_0
                                replace hx151_0 := (cell_far (p := ⟨gb140, 2, none⟩) (by first | (rw [add_block]; exact hn151_2) | (show (Addr.add _ _).block ≠ _; rw [add_block]; exact hn151_2) | exact hn151_2) (.int .i64 t147)).trans hx151_0
                                replace hx151_0 := (cell_far (p := ⟨gb140, 3, none⟩) (by first | (rw [add_block]; exact hn151_3) | (show (Addr.add _ _).block ≠ _; rw [add_block]; exact hn151_3) | exact hn151_3) (.int .i64 t148)).trans hx151_0
                                replace hx151_0 := (cell_far (p := ⟨gb140, 4, none⟩) (by first | (rw [add_block]; exact hn151_4) | (show (Addr.add _ _).block ≠ _; rw [add_block]; exact hn151_4) | exact hn151_4) (.int .i64 t149)).trans hx151_0
                                clear hn151_0
                                clear hn151_1
                                clear hn151_2
                                clear hn151_3
                                clear hn151_4
                                replace p151 := eq_true p151
                                replace q151 := eq_true q151
                                have hcz53_0 : w47.cell? ⟨gb140, 0, none⟩ = some (.bool x141000_2) := (blk_cell BK140.out 0).trans rfl
                                have hcz53_1 : w47.cell? ⟨gb140, 1, none⟩ = some (.int .i64 x141001_2) := (blk_cell BK140.out 1).trans rfl
                                have hcz53_2 : w47.cell? ⟨gb140, 2, none⟩ = some (.int .i64 x141002_2) := (blk_cell BK140.out 2).trans rfl
                                have hcz53_3 : w47.cell? ⟨gb140, 3, none⟩ = some (.int .i64 x141003_2) := (blk_cell BK140.out 3).trans rfl
                                have hcz53_4 : w47.cell? ⟨gb140, 4, none⟩ = some (.int .i64 x141004_2) := (blk_cell BK140.out 4).trans rfl
                                have hfz53_0 := blk_frozen BK140.out 0
                                have hfz53_1 := blk_frozen BK140.out 1
                                have hfz53_2 := blk_frozen BK140.out 2
                                have hfz53_3 := blk_frozen BK140.out 3
                                have hfz53_4 := blk_frozen BK140.out 4
                                try go_wp2
                                go_ret
                                exact ⟨by first | rfl | (simp [errW_none, errW_some] <;> rfl) | (simp only [← hji24, ← hji25]; first | rfl | (simp [errW_none, errW_some] <;> rfl)) | (simp [*, errW_none, errW_some] <;> rfl), by repeat (first | (with_reducible first | exact HB.out | apply below_alloc | apply pw_below_drewN | apply below_drew1 | refine below_set ?_ GE140.out) | exact HB.out)⟩
                              · rw [if_neg c45] at H
                                have c45b0 : decide (t148 < 0) = false := decide_eq_false c45
                                clear c45
                                by_cases c54 : t148 > 65535
                                · rw [if_pos c54] at H
                                  have c54b0 : decide (65535 < t148) = true := decide_eq_true c54
                                  clear c54
                                  obtain rfl := Option.some.inj H
                                  try go_wp2
                                  have n0_ := Aside0.mk (blk_drew BK140.out)
                                  have n1_ := Aside0.mk (below_drew1 HB.out)
                                  clear BK140
                                  clear HB
                                  have BK140 := n0_
                                  have HB := n1_
                                  clear n0_ n1_
                                  have p144 : 0 ≤ (x10_2 : Int) := of_decide_eq_true (by first | (with_reducible assumption) | assumption)
                                  have q144 : x10_2 < (l0.length : Int) := of_decide_eq_true (by first | (with_reducible assumption) | assumption)
                                  obtain ⟨ad144, e144, hx144_0⟩ := Kd.at_int HR0.out x10_2 p144 q144
                                  have hw144_0 := hx144_0
                                  obtain rfl : ad141 = ad144 := (by injection e144)
                                  replace hx144_0 := (HB.out.cell (World.block_lt_of_cell? w _ hx144_0)).trans hx144_0
                                  replace p144 := eq_true p144
                                  replace q144 := eq_true q144
                                  refine start_ (n := 11) (S := fun w' => w'.cell? ⟨gb140, 0, none⟩ = some (.bool x141000_2) ∧ w'.cell? ⟨gb140, 1, none⟩ = some (.int .i64 x141001_2) ∧ w'.cell? ⟨gb140, 2, none⟩ = some (.int .i64 x141002_2) ∧ w'.cell? ⟨gb140, 3, none⟩ = some (.int .i64 x141003_2) ∧ w'.cell? ⟨gb140, 4, none⟩ = some (.int .i64 x141004_2) ∧ w'.cell? (ad141.add (x10_2).toNat) = some (.int .u16 (rd l0 x10_2))) (ds := [10]) #[false, false, false, false, false, false, false, false, false, false, false] (by kernel_rfl) rfl rfl ⟨(blk_cell BK140.out 0).trans rfl, (blk_cell BK140.out 1).trans rfl, (blk_cell BK140.out 2).trans rfl, (blk_cell BK140.out 3).trans rfl, (blk_cell BK140.out 4).trans rfl, ((HB.out.cell (World.block_lt_of_cell? w _ hw144_0)).trans hw144_0)⟩ (fun hHeld => ?_); refine with_tabW dominolaw11_RttBetween.tab12 dominolaw11_RttBetween.bits12 (fun HT_ HW_ => ?_)
                                  generalize wc.drew = w55 at BK140 HB hx144_0 hHeld ⊢
                                  refine pure_ (i := 1) (N := some 50) (v := ?_) (a' := ?_) #[false, true, false, false, false, false, false, false, false, false, false] rfl rfl (any_of HT_.out (by kernel_rfl)) (fun _ _ _ h => h) (Or.inl ⟨by rfl, ?_⟩) ?_ ?_
                                  rotate_left
                                  · intro w'
                                    go_simp
                                    with_reducible rfl
                                  rotate_left
                                  · simp only [Act.put, List.setIfInBounds_toArray, List.set_cons_zero, List.set_cons_succ, i64_w, i32_w]
                                    rfl
                                  refine pure_ (i := 2) (N := some 51) (v := ?_) (a' := ?_) #[false, true, true, false, false, false, false, false, false, false, false] rfl rfl (any_of HT_.out (by kernel_rfl)) (fun _ _ _ h => h) (Or.inl ⟨by rfl, ?_⟩) ?_ ?_
                                  rotate_left
                                  · intro w'
                                    go_simp
                                    with_reducible rfl
                                  rotate_left
                                  · simp only [Act.put, List.setIfInBounds_toArray, List.set_cons_zero, List.set_cons_succ, i64_w, i32_w]
                                    rfl
                                  refine pure_ (i := 3) (N := some 52) (v := ?_) (a' := ?_) #[false, true, true, true, false, false, false, false, false, false, false] rfl rfl (any_of HT_.out (by kernel_rfl)) (fun _ _ _ h => h) (Or.inl ⟨by rfl, ?_⟩) ?_ ?_
                                  rotate_left
                                  · intro w'
                                    go_simp
                                    with_reducible rfl
                                  rotate_left
                                  · simp only [Act.put, List.setIfInBounds_toArray, List.set_cons_zero, List.set_cons_succ, i64_w, i32_w]
                                    rfl
                                  refine pure_ (i := 6) (N := some 55) (v := ?_) (a' := ?_) #[false, true, true, true, false, false, true, false, false, false, false] rfl rfl (any_of HT_.out (by kernel_rfl)) (fun _ _ _ h => h) (Or.inl ⟨by rfl, ?_⟩) ?_ ?_
                                  rotate_left
                                  · intro w'
                                    go_simp
                                    with_reducible rfl
                                  rotate_left
                                  · simp only [Act.put, List.setIfInBounds_toArray, List.set_cons_zero, List.set_cons_succ, i64_w, i32_w]
                                    rfl
                                  refine pure_ (i := 7) (N := some 56) (v := ?_) (a' := ?_) #[false, true, true, true, false, false, true, true, false, false, false] rfl rfl (any_of HT_.out (by kernel_rfl)) (fun _ _ _ h => h) (Or.inl ⟨by rfl, ?_⟩) ?_ ?_
                                  rotate_left
                                  · intro w'
                                    go_simp
                                    with_reducible rfl
                                  rotate_left
                                  · simp only [Act.put, List.setIfInBounds_toArray, List.set_cons_zero, List.set_cons_succ, i64_w, i32_w]
                                    rfl
                                  refine pure_ (i := 8) (N := some 57) (v := ?_) (a' := ?_) #[false, true, true, true, false, false, true, true, true, false, false] rfl rfl (any_of HT_.out (by kernel_rfl)) (fun _ _ _ h => h) (Or.inl ⟨by rfl, ?_⟩) ?_ ?_
                                  rotate_left
                                  · intro w'
                                    go_simp
                                    with_reducible rfl
                                  rotate_left
                                  · simp only [Act.put, List.setIfInBounds_toArray, List.set_cons_zero, List.set_cons_succ, i64_w, i32_w]
                                    rfl
                                  refine take_ (i := 0) (N := some 49) (v := ?_) (a' := ?_) #[true, true, true, true, false, false, true, true, true, false, false] rfl rfl (take_ofW HT_.out HW_.out (by kernel_rfl)) (fun _ _ _ h => h) (Or.inl ⟨by rfl, ?_⟩) hHeld ?_ ?_
                                  rotate_left
                                  · rintro w' ⟨s0, s1, s2, s3, s4, s5⟩
                                    go_simp
                                    with_reducible rfl
                                  rotate_left
                                  · simp only [Act.put, List.setIfInBounds_toArray, List.set_cons_zero, List.set_cons_succ, i64_w, i32_w]
                                    rfl
                                  refine take_ (i := 4) (N := some 53) (v := ?_) (a' := ?_) #[true, true, true, true, true, false, true, true, true, false, false] rfl rfl (take_ofW HT_.out HW_.out (by kernel_rfl)) (fun _ _ _ h => h) (Or.inl ⟨by rfl, ?_⟩) hHeld ?_ ?_
                                  rotate_left
                                  · rintro w' ⟨s0, s1, s2, s3, s4, s5⟩
                                    go_simp
                                    with_reducible rfl
                                  rotate_left
                                  · simp only [Act.put, List.setIfInBounds_toArray, List.set_cons_zero, List.set_cons_succ, i64_w, i32_w]
                                    rfl
                                  refine pure_ (i := 5) (N := some 54) (v := ?_) (a' := ?_) #[true, true, true, true, true, true, true, true, true, false, false] rfl rfl (any_of HT_.out (by kernel_rfl)) (fun _ _ _ h => h) (Or.inl ⟨by rfl, ?_⟩) ?_ ?_
                                  rotate_left
                                  · intro w'
                                    go_simp
                                    with_reducible rfl
                                  rotate_left
                                  · simp only [Act.put, List.setIfInBounds_toArray, List.set_cons_zero, List.set_cons_succ, i64_w, i32_w]
                                    rfl
                                  refine one_ (i := 9) (N := some 58) #[true, true, true, true, true, true, true, true, true, true, false] rfl rfl (one_of HT_.out (by kernel_rfl)) (by decide) (fun K hK => ?_)
                                  refine goes_ Try.func15 (by kernel_rfl) rfl #[.agg #[.bool x141000_2, .int .i64 x141001_2, .int .i64 x141002_2, .int .i64 x141003_2, .int .i64 x141004_2], .int .i64 (wrap64 (rd l0 x10_2)), .int .i64 x11_17, .int .i64 (wrap64 (a2))] (by rfl) rfl rfl (by (try simp only [List.map_toArray, List.map_cons, List.map_nil]); first | done | rfl | (simp only [List.length_drop, List.length_take]; rfl)) ?_
                                  with_reducible refine (rtt_Sample.calls x141000_2 x141001_2 x141002_2 x141003_2 x141004_2 (wrap64 (rd l0 x10_2)) x11_17 (wrap64 (a2)) t145 t146 t147 t148 t149 _ A23.out).mono ?_
                                  rintro e w56 ⟨rfl, hb⟩
                                  refine ⟨_, rfl, ?_⟩
                                  have n0_ := Aside0.mk (blk_below (g := gb140) (o := .cells #[.bool x141000_2, .int .i64 x141001_2, .int .i64 x141002_2, .int .i64 x141003_2, .int .i64 x141004_2] 25 (0, 0)) (by (with_reducible repeat (first | refine blk_drewN ?_ _ | refine blk_drew ?_ | refine blk_alloc ?_ _)); exact BK140.out) hb)
                                  have n1_ := Aside0.mk (below_step (by repeat (first | (with_reducible first | exact HB.out | apply below_alloc | apply pw_below_drewN | apply below_drew1 | refine below_set ?_ GE140.out) | exact HB.out)) hb)
                                  clear BK140
                                  clear HB
                                  have BK140 := n0_
                                  have HB := n1_
                                  clear n0_ n1_
                                  (try clear hb)
                                  (try clear hb2)
                                  (try clear hk)
                                  (try clear hi)
                                  refine hK.out _ _ ⟨(blk_cell BK140.out 0).trans rfl, (blk_cell BK140.out 1).trans rfl, (blk_cell BK140.out 2).trans rfl, (blk_cell BK140.out 3).trans rfl, (blk_cell BK140.out 4).trans rfl, ((HB.out.cell (World.block_lt_of_cell? w _ hw144_0)).trans hw144_0)⟩ (fun hHeld => ?_)
                                  clear hK K
                                  refine norm_ (a' := ?_) ?_ ?_
                                  rotate_left
                                  · show Act.put _ (some 58) _ = _
                                    simp only [Act.put, List.setIfInBounds_toArray, List.set_cons_zero, List.set_cons_succ, i64_w, i32_w]
                                    rfl
                                  refine last_ (i := 10) (N := none) #[true, true, true, true, true, true, true, true, true, true, true] rfl rfl (one_of HT_.out (by kernel_rfl)) (by decide) (fun K hK => ?_)
                                  have hs57 : w56.cell? ⟨gb140, 0, none⟩ = some (.bool x141000_2) := (blk_cell BK140.out 0).trans rfl
                                  have hfs57 := blk_frozen BK140.out 0
                                  have hs58 : w56.cell? ⟨gb140, 1, none⟩ = some (.int .i64 x141001_2) := (blk_cell BK140.out 1).trans rfl
                                  have hfs58 := blk_frozen BK140.out 1
                                  have hs59 : w56.cell? ⟨gb140, 2, none⟩ = some (.int .i64 x141002_2) := (blk_cell BK140.out 2).trans rfl
                                  have hfs59 := blk_frozen BK140.out 2
                                  have hs60 : w56.cell? ⟨gb140, 3, none⟩ = some (.int .i64 x141003_2) := (blk_cell BK140.out 3).trans rfl
                                  have hfs60 := blk_frozen BK140.out 3
                                  have hs61 : w56.cell? ⟨gb140, 4, none⟩ = some (.int .i64 x141004_2) := (blk_cell BK140.out 4).trans rfl
                                  have hfs61 := blk_frozen BK140.out 4
                                  refine skip_ (w1 := ?_) (by rfl) rfl ?_ ?_
                                  rotate_left
                                  · go_simp
                                    rfl
                                  refine hK.out _ _ ?_
                                  clear hK K
                                  refine done_ (done_of HT_.out (by kernel_rfl)) ?_
                                  have p150 : 0 ≤ (x10_2 : Int) := of_decide_eq_true (by first | (with_reducible assumption) | assumption)
                                  have q150 : x10_2 < (l0.length : Int) := of_decide_eq_true (by first | (with_reducible assumption) | assumption)
                                  obtain ⟨ad150, e150, hx150_0⟩ := Kd.at_int HR0.out x10_2 p150 q150
                                  obtain rfl : ad141 = ad150 := (by injection e150)
                                  have hn150_0 : ad141.block ≠ gb140 := Nat.ne_of_lt (Nat.lt_of_lt_of_le (by have := World.block_lt_of_cell? _ _ hx150_0; first | rwa [add_block] at this | exact this) GW140.out)
                                  have hn150_1 : ad141.block ≠ gb140 := Nat.ne_of_lt (Nat.lt_of_lt_of_le (by have := World.block_lt_of_cell? _ _ hx150_0; first | rwa [add_block] at this | exact this) GW140.out)
                                  have hn150_2 : ad141.block ≠ gb140 := Nat.ne_of_lt (Nat.lt_of_lt_of_le (by have := World.block_lt_of_cell? _ _ hx150_0; first | rwa [add_block] at this | exact this) GW140.out)
                                  have hn150_3 : ad141.block ≠ gb140 := Nat.ne_of_lt (Nat.lt_of_lt_of_le (by have := World.block_lt_of_cell? _ _ hx150_0; first | rwa [add_block] at this | exact this) GW140.out)
                                  have hn150_4 : ad141.block ≠ gb140 := Nat.ne_of_lt (Nat.lt_of_lt_of_le (by have := World.block_lt_of_cell? _ _ hx150_0; first | rwa [add_block] at this | exact this) GW140.out)
                                  replace hx150_0 := (HB.out.cell (World.block_lt_of_cell? w _ hx150_0)).trans hx150_0
                                  replace hx150_0 := (cell_far (p := ⟨gb140, 0, none⟩) (by first | (rw [add_block]; exact hn150_0) | (show (Addr.add _ _).block ≠ _; rw [add_block]; exact hn150_0) | exact hn150_0) (.bool t145)).trans hx150_0
                                  replace hx150_0 := (cell_far (p := ⟨gb140, 1, none⟩) (by first | (rw [add_block]; exact hn150_1) | (show (Addr.add _ _).block ≠ _; rw [add_block]; exact hn150_1) | exact hn150_1) (.int .i64 t146)).trans hx150_0
                                  replace hx150_0 := (cell_far (p := ⟨gb140, 2, none⟩) (by first | (rw [add_block]; exact hn150_2) | (show (Addr.add _ _).block ≠ _; rw [add_block]; exact hn150_2) | exact hn150_2) (.int .i64 t147)).trans hx150_0
                                  replace hx150_0 := (cell_far (p := ⟨gb140, 3, none⟩) (by first | (rw [add_block]; exact hn150_3) | (show (Addr.add _ _).block ≠ _; rw [add_block]; exact hn150_3) | exact hn150_3) (.int .i64 t148)).trans hx150_0
                                  replace hx150_0 := (cell_far (p := ⟨gb140, 4, none⟩) (by first | (rw [add_block]; exact hn150_4) | (show (Addr.add _ _).block ≠ _; rw [add_block]; exact hn150_4) | exact hn150_4) (.int .i64 t149)).trans hx150_0
                                  clear hn150_0
                                  clear hn150_1
                                  clear hn150_2
                                  clear hn150_3
                                  clear hn150_4
                                  replace p150 := eq_true p150
                                  replace q150 := eq_true q150
                                  have p151 : 0 ≤ (x10_2 : Int) := of_decide_eq_true (by first | (with_reducible assumption) | assumption)
                                  have q151 : x10_2 < (l0.length : Int) := of_decide_eq_true (by first | (with_reducible assumption) | assumption)
                                  obtain ⟨ad151, e151, hx151_0⟩ := Kd.at_int HR0.out x10_2 p151 q151
                                  obtain rfl : ad141 = ad151 := (by injection e151)
                                  have hn151_0 : ad141.block ≠ gb140 := Nat.ne_of_lt (Nat.lt_of_lt_of_le (by have := World.block_lt_of_cell? _ _ hx151_0; first | rwa [add_block] at this | exact this) GW140.out)
                                  have hn151_1 : ad141.block ≠ gb140 := Nat.ne_of_lt (Nat.lt_of_lt_of_le (by have := World.block_lt_of_cell? _ _ hx151_0; first | rwa [add_block] at this | exact this) GW140.out)
                                  have hn151_2 : ad141.block ≠ gb140 := Nat.ne_of_lt (Nat.lt_of_lt_of_le (by have := World.block_lt_of_cell? _ _ hx151_0; first | rwa [add_block] at this | exact this) GW140.out)
                                  have hn151_3 : ad141.block ≠ gb140 := Nat.ne_of_lt (Nat.lt_of_lt_of_le (by have := World.block_lt_of_cell? _ _ hx151_0; first | rwa [add_block] at this | exact this) GW140.out)
                                  have hn151_4 : ad141.block ≠ gb140 := Nat.ne_of_lt (Nat.lt_of_lt_of_le (by have := World.block_lt_of_cell? _ _ hx151_0; first | rwa [add_block] at this | exact this) GW140.out)
                                  replace hx151_0 := (HB.out.cell (World.block_lt_of_cell? w _ hx151_0)).trans hx151_0
                                  replace hx151_0 := (cell_far (p := ⟨gb140, 0, none⟩) (by first | (rw [add_block]; exact hn151_0) | (show (Addr.add _ _).block ≠ _; rw [add_block]; exact hn151_0) | exact hn151_0) (.bool t145)).trans hx151_0
                                  replace hx151_0 := (cell_far (p := ⟨gb140, 1, none⟩) (by first | (rw [add_block]; exact hn151_1) | (show (Addr.add _ _).block ≠ _; rw [add_block]; exact hn151_1) | exact hn151_1) (.int .i64 t146)).trans hx151_0
                                  replace hx151_0 := (cell_far (p := ⟨gb140, 2, none⟩) (by first | (rw [add_block]; exact hn151_2) | (show (Addr.add _ _).block ≠ _; rw [add_block]; exact hn151_2) | exact hn151_2) (.int .i64 t147)).trans hx151_0
                                  replace hx151_0 := (cell_far (p := ⟨gb140, 3, none⟩) (by first | (rw [add_block]; exact hn151_3) | (show (Addr.add _ _).block ≠ _; rw [add_block]; exact hn151_3) | exact hn151_3) (.int .i64 t148)).trans hx151_0
                                  replace hx151_0 := (cell_far (p := ⟨gb140, 4, none⟩) (by first | (rw [add_block]; exact hn151_4) | (show (Addr.add _ _).block ≠ _; rw [add_block]; exact hn151_4) | exact hn151_4) (.int .i64 t149)).trans hx151_0
                                  clear hn151_0
                                  clear hn151_1
                                  clear hn151_2
                                  clear hn151_3
                                  clear hn151_4
                                  replace p151 := eq_true p151
                                  replace q151 := eq_true q151
                                  have hcz62_0 : w56.cell? ⟨gb140, 0, none⟩ = some (.bool x141000_2) := (blk_cell BK140.out 0).trans rfl
                                  have hcz62_1 : w56.cell? ⟨gb140, 1, none⟩ = some (.int .i64 x141001_2) := (blk_cell BK140.out 1).trans rfl
                                  have hcz62_2 : w56.cell? ⟨gb140, 2, none⟩ = some (.int .i64 x141002_2) := (blk_cell BK140.out 2).trans rfl
                                  have hcz62_3 : w56.cell? ⟨gb140, 3, none⟩ = some (.int .i64 x141003_2) := (blk_cell BK140.out 3).trans rfl
                                  have hcz62_4 : w56.cell? ⟨gb140, 4, none⟩ = some (.int .i64 x141004_2) := (blk_cell BK140.out 4).trans rfl
                                  have hfz62_0 := blk_frozen BK140.out 0
                                  have hfz62_1 := blk_frozen BK140.out 1
                                  have hfz62_2 := blk_frozen BK140.out 2
                                  have hfz62_3 := blk_frozen BK140.out 3
                                  have hfz62_4 := blk_frozen BK140.out 4
                                  try go_wp2
                                  go_ret
                                  exact ⟨by first | rfl | (simp [errW_none, errW_some] <;> rfl) | (simp only [← hji24, ← hji25]; first | rfl | (simp [errW_none, errW_some] <;> rfl)) | (simp [*, errW_none, errW_some] <;> rfl), by repeat (first | (with_reducible first | exact HB.out | apply below_alloc | apply pw_below_drewN | apply below_drew1 | refine below_set ?_ GE140.out) | exact HB.out)⟩
                                · rw [if_neg c54] at H
                                  have c54b0 : decide (65535 < t148) = false := decide_eq_false c54
                                  clear c54
                                  replace H := Option.bind_eq_some_iff.mp H
                                  obtain ⟨t152, A630, H⟩ := H
                                  replace H : (if t152 < 1 then (some false) else ((rtt_Pto.f t145 t146 t147 t148 t149 0 0).bind fun t153 => (if t153 < 1 then (some false) else (dominolaw11_RttBetween.l0 kj17 l0 l1 a2 ji24 ji25 (wrap64 (x10_2 + 1)) t145 t146 t147 t148 t149)))) = some r := H
                                  have A63 := Aside0.mk A630
                                  clear A630
                                  by_cases c64 : t152 < 1
                                  · rw [if_pos c64] at H
                                    have c64b0 : decide (t152 < 1) = true := decide_eq_true c64
                                    clear c64
                                    obtain rfl := Option.some.inj H
                                    try go_wp2
                                    have n0_ := Aside0.mk (blk_drew BK140.out)
                                    have n1_ := Aside0.mk (below_drew1 HB.out)
                                    clear BK140
                                    clear HB
                                    have BK140 := n0_
                                    have HB := n1_
                                    clear n0_ n1_
                                    have p144 : 0 ≤ (x10_2 : Int) := of_decide_eq_true (by first | (with_reducible assumption) | assumption)
                                    have q144 : x10_2 < (l0.length : Int) := of_decide_eq_true (by first | (with_reducible assumption) | assumption)
                                    obtain ⟨ad144, e144, hx144_0⟩ := Kd.at_int HR0.out x10_2 p144 q144
                                    have hw144_0 := hx144_0
                                    obtain rfl : ad141 = ad144 := (by injection e144)
                                    replace hx144_0 := (HB.out.cell (World.block_lt_of_cell? w _ hx144_0)).trans hx144_0
                                    replace p144 := eq_true p144
                                    replace q144 := eq_true q144
                                    refine start_ (n := 11) (S := fun w' => w'.cell? ⟨gb140, 0, none⟩ = some (.bool x141000_2) ∧ w'.cell? ⟨gb140, 1, none⟩ = some (.int .i64 x141001_2) ∧ w'.cell? ⟨gb140, 2, none⟩ = some (.int .i64 x141002_2) ∧ w'.cell? ⟨gb140, 3, none⟩ = some (.int .i64 x141003_2) ∧ w'.cell? ⟨gb140, 4, none⟩ = some (.int .i64 x141004_2) ∧ w'.cell? (ad141.add (x10_2).toNat) = some (.int .u16 (rd l0 x10_2))) (ds := [10]) #[false, false, false, false, false, false, false, false, false, false, false] (by kernel_rfl) rfl rfl ⟨(blk_cell BK140.out 0).trans rfl, (blk_cell BK140.out 1).trans rfl, (blk_cell BK140.out 2).trans rfl, (blk_cell BK140.out 3).trans rfl, (blk_cell BK140.out 4).trans rfl, ((HB.out.cell (World.block_lt_of_cell? w _ hw144_0)).trans hw144_0)⟩ (fun hHeld => ?_); refine with_tabW dominolaw11_RttBetween.tab12 dominolaw11_RttBetween.bits12 (fun HT_ HW_ => ?_)
                                    generalize wc.drew = w65 at BK140 HB hx144_0 hHeld ⊢
                                    refine pure_ (i := 1) (N := some 50) (v := ?_) (a' := ?_) #[false, true, false, false, false, false, false, false, false, false, false] rfl rfl (any_of HT_.out (by kernel_rfl)) (fun _ _ _ h => h) (Or.inl ⟨by rfl, ?_⟩) ?_ ?_
                                    rotate_left
                                    · intro w'
                                      go_simp
                                      with_reducible rfl
                                    rotate_left
                                    · simp only [Act.put, List.setIfInBounds_toArray, List.set_cons_zero, List.set_cons_succ, i64_w, i32_w]
                                      rfl
                                    refine pure_ (i := 2) (N := some 51) (v := ?_) (a' := ?_) #[false, true, true, false, false, false, false, false, false, false, false] rfl rfl (any_of HT_.out (by kernel_rfl)) (fun _ _ _ h => h) (Or.inl ⟨by rfl, ?_⟩) ?_ ?_
                                    rotate_left
                                    · intro w'
                                      go_simp
                                      with_reducible rfl
                                    rotate_left
                                    · simp only [Act.put, List.setIfInBounds_toArray, List.set_cons_zero, List.set_cons_succ, i64_w, i32_w]
                                      rfl
                                    refine pure_ (i := 3) (N := some 52) (v := ?_) (a' := ?_) #[false, true, true, true, false, false, false, false, false, false, false] rfl rfl (any_of HT_.out (by kernel_rfl)) (fun _ _ _ h => h) (Or.inl ⟨by rfl, ?_⟩) ?_ ?_
                                    rotate_left
                                    · intro w'
                                      go_simp
                                      with_reducible rfl
                                    rotate_left
                                    · simp only [Act.put, List.setIfInBounds_toArray, List.set_cons_zero, List.set_cons_succ, i64_w, i32_w]
                                      rfl
                                    refine pure_ (i := 6) (N := some 55) (v := ?_) (a' := ?_) #[false, true, true, true, false, false, true, false, false, false, false] rfl rfl (any_of HT_.out (by kernel_rfl)) (fun _ _ _ h => h) (Or.inl ⟨by rfl, ?_⟩) ?_ ?_
                                    rotate_left
                                    · intro w'
                                      go_simp
                                      with_reducible rfl
                                    rotate_left
                                    · simp only [Act.put, List.setIfInBounds_toArray, List.set_cons_zero, List.set_cons_succ, i64_w, i32_w]
                                      rfl
                                    refine pure_ (i := 7) (N := some 56) (v := ?_) (a' := ?_) #[false, true, true, true, false, false, true, true, false, false, false] rfl rfl (any_of HT_.out (by kernel_rfl)) (fun _ _ _ h => h) (Or.inl ⟨by rfl, ?_⟩) ?_ ?_
                                    rotate_left
                                    · intro w'
                                      go_simp
                                      with_reducible rfl
                                    rotate_left
                                    · simp only [Act.put, List.setIfInBounds_toArray, List.set_cons_zero, List.set_cons_succ, i64_w, i32_w]
                                      rfl
                                    refine pure_ (i := 8) (N := some 57) (v := ?_) (a' := ?_) #[false, true, true, true, false, false, true, true, true, false, false] rfl rfl (any_of HT_.out (by kernel_rfl)) (fun _ _ _ h => h) (Or.inl ⟨by rfl, ?_⟩) ?_ ?_
                                    rotate_left
                                    · intro w'
                                      go_simp
                                      with_reducible rfl
                                    rotate_left
                                    · simp only [Act.put, List.setIfInBounds_toArray, List.set_cons_zero, List.set_cons_succ, i64_w, i32_w]
                                      rfl
                                    refine take_ (i := 0) (N := some 49) (v := ?_) (a' := ?_) #[true, true, true, true, false, false, true, true, true, false, false] rfl rfl (take_ofW HT_.out HW_.out (by kernel_rfl)) (fun _ _ _ h => h) (Or.inl ⟨by rfl, ?_⟩) hHeld ?_ ?_
                                    rotate_left
                                    · rintro w' ⟨s0, s1, s2, s3, s4, s5⟩
                                      go_simp
                                      with_reducible rfl
                                    rotate_left
                                    · simp only [Act.put, List.setIfInBounds_toArray, List.set_cons_zero, List.set_cons_succ, i64_w, i32_w]
                                      rfl
                                    refine take_ (i := 4) (N := some 53) (v := ?_) (a' := ?_) #[true, true, true, true, true, false, true, true, true, false, false] rfl rfl (take_ofW HT_.out HW_.out (by kernel_rfl)) (fun _ _ _ h => h) (Or.inl ⟨by rfl, ?_⟩) hHeld ?_ ?_
                                    rotate_left
                                    · rintro w' ⟨s0, s1, s2, s3, s4, s5⟩
                                      go_simp
                                      with_reducible rfl
                                    rotate_left
                                    · simp only [Act.put, List.setIfInBounds_toArray, List.set_cons_zero, List.set_cons_succ, i64_w, i32_w]
                                      rfl
                                    refine pure_ (i := 5) (N := some 54) (v := ?_) (a' := ?_) #[true, true, true, true, true, true, true, true, true, false, false] rfl rfl (any_of HT_.out (by kernel_rfl)) (fun _ _ _ h => h) (Or.inl ⟨by rfl, ?_⟩) ?_ ?_
                                    rotate_left
                                    · intro w'
                                      go_simp
                                      with_reducible rfl
                                    rotate_left
                                    · simp only [Act.put, List.setIfInBounds_toArray, List.set_cons_zero, List.set_cons_succ, i64_w, i32_w]
                                      rfl
                                    refine one_ (i := 9) (N := some 58) #[true, true, true, true, true, true, true, true, true, true, false] rfl rfl (one_of HT_.out (by kernel_rfl)) (by decide) (fun K hK => ?_)
                                    refine goes_ Try.func15 (by kernel_rfl) rfl #[.agg #[.bool x141000_2, .int .i64 x141001_2, .int .i64 x141002_2, .int .i64 x141003_2, .int .i64 x141004_2], .int .i64 (wrap64 (rd l0 x10_2)), .int .i64 x11_17, .int .i64 (wrap64 (a2))] (by rfl) rfl rfl (by (try simp only [List.map_toArray, List.map_cons, List.map_nil]); first | done | rfl | (simp only [List.length_drop, List.length_take]; rfl)) ?_
                                    with_reducible refine (rtt_Sample.calls x141000_2 x141001_2 x141002_2 x141003_2 x141004_2 (wrap64 (rd l0 x10_2)) x11_17 (wrap64 (a2)) t145 t146 t147 t148 t149 _ A23.out).mono ?_
                                    rintro e w66 ⟨rfl, hb⟩
                                    refine ⟨_, rfl, ?_⟩
                                    have n0_ := Aside0.mk (blk_below (g := gb140) (o := .cells #[.bool x141000_2, .int .i64 x141001_2, .int .i64 x141002_2, .int .i64 x141003_2, .int .i64 x141004_2] 25 (0, 0)) (by (with_reducible repeat (first | refine blk_drewN ?_ _ | refine blk_drew ?_ | refine blk_alloc ?_ _)); exact BK140.out) hb)
                                    have n1_ := Aside0.mk (below_step (by repeat (first | (with_reducible first | exact HB.out | apply below_alloc | apply pw_below_drewN | apply below_drew1 | refine below_set ?_ GE140.out) | exact HB.out)) hb)
                                    clear BK140
                                    clear HB
                                    have BK140 := n0_
                                    have HB := n1_
                                    clear n0_ n1_
                                    (try clear hb)
                                    (try clear hb2)
                                    (try clear hk)
                                    (try clear hi)
                                    refine hK.out _ _ ⟨(blk_cell BK140.out 0).trans rfl, (blk_cell BK140.out 1).trans rfl, (blk_cell BK140.out 2).trans rfl, (blk_cell BK140.out 3).trans rfl, (blk_cell BK140.out 4).trans rfl, ((HB.out.cell (World.block_lt_of_cell? w _ hw144_0)).trans hw144_0)⟩ (fun hHeld => ?_)
                                    clear hK K
                                    refine norm_ (a' := ?_) ?_ ?_
                                    rotate_left
                                    · show Act.put _ (some 58) _ = _
                                      simp only [Act.put, List.setIfInBounds_toArray, List.set_cons_zero, List.set_cons_succ, i64_w, i32_w]
                                      rfl
                                    refine last_ (i := 10) (N := none) #[true, true, true, true, true, true, true, true, true, true, true] rfl rfl (one_of HT_.out (by kernel_rfl)) (by decide) (fun K hK => ?_)
                                    have hs67 : w66.cell? ⟨gb140, 0, none⟩ = some (.bool x141000_2) := (blk_cell BK140.out 0).trans rfl
                                    have hfs67 := blk_frozen BK140.out 0
                                    have hs68 : w66.cell? ⟨gb140, 1, none⟩ = some (.int .i64 x141001_2) := (blk_cell BK140.out 1).trans rfl
                                    have hfs68 := blk_frozen BK140.out 1
                                    have hs69 : w66.cell? ⟨gb140, 2, none⟩ = some (.int .i64 x141002_2) := (blk_cell BK140.out 2).trans rfl
                                    have hfs69 := blk_frozen BK140.out 2
                                    have hs70 : w66.cell? ⟨gb140, 3, none⟩ = some (.int .i64 x141003_2) := (blk_cell BK140.out 3).trans rfl
                                    have hfs70 := blk_frozen BK140.out 3
                                    have hs71 : w66.cell? ⟨gb140, 4, none⟩ = some (.int .i64 x141004_2) := (blk_cell BK140.out 4).trans rfl
                                    have hfs71 := blk_frozen BK140.out 4
                                    refine skip_ (w1 := ?_) (by rfl) rfl ?_ ?_
                                    rotate_left
                                    · go_simp
                                      rfl
                                    refine hK.out _ _ ?_
                                    clear hK K
                                    refine done_ (done_of HT_.out (by kernel_rfl)) ?_
                                    have p150 : 0 ≤ (x10_2 : Int) := of_decide_eq_true (by first | (with_reducible assumption) | assumption)
                                    have q150 : x10_2 < (l0.length : Int) := of_decide_eq_true (by first | (with_reducible assumption) | assumption)
                                    obtain ⟨ad150, e150, hx150_0⟩ := Kd.at_int HR0.out x10_2 p150 q150
                                    obtain rfl : ad141 = ad150 := (by injection e150)
                                    have hn150_0 : ad141.block ≠ gb140 := Nat.ne_of_lt (Nat.lt_of_lt_of_le (by have := World.block_lt_of_cell? _ _ hx150_0; first | rwa [add_block] at this | exact this) GW140.out)
                                    have hn150_1 : ad141.block ≠ gb140 := Nat.ne_of_lt (Nat.lt_of_lt_of_le (by have := World.block_lt_of_cell? _ _ hx150_0; first | rwa [add_block] at this | exact this) GW140.out)
                                    have hn150_2 : ad141.block ≠ gb140 := Nat.ne_of_lt (Nat.lt_of_lt_of_le (by have := World.block_lt_of_cell? _ _ hx150_0; first | rwa [add_block] at this | exact this) GW140.out)
                                    have hn150_3 : ad141.block ≠ gb140 := Nat.ne_of_lt (Nat.lt_of_lt_of_le (by have := World.block_lt_of_cell? _ _ hx150_0; first | rwa [add_block] at this | exact this) GW140.out)
                                    have hn150_4 : ad141.block ≠ gb140 := Nat.ne_of_lt (Nat.lt_of_lt_of_le (by have := World.block_lt_of_cell? _ _ hx150_0; first | rwa [add_block] at this | exact this) GW140.out)
                                    replace hx150_0 := (HB.out.cell (World.block_lt_of_cell? w _ hx150_0)).trans hx150_0
                                    replace hx150_0 := (cell_far (p := ⟨gb140, 0, none⟩) (by first | (rw [add_block]; exact hn150_0) | (show (Addr.add _ _).block ≠ _; rw [add_block]; exact hn150_0) | exact hn150_0) (.bool t145)).trans hx150_0
                                    replace hx150_0 := (cell_far (p := ⟨gb140, 1, none⟩) (by first | (rw [add_block]; exact hn150_1) | (show (Addr.add _ _).block ≠ _; rw [add_block]; exact hn150_1) | exact hn150_1) (.int .i64 t146)).trans hx150_0
                                    replace hx150_0 := (cell_far (p := ⟨gb140, 2, none⟩) (by first | (rw [add_block]; exact hn150_2) | (show (Addr.add _ _).block ≠ _; rw [add_block]; exact hn150_2) | exact hn150_2) (.int .i64 t147)).trans hx150_0
                                    replace hx150_0 := (cell_far (p := ⟨gb140, 3, none⟩) (by first | (rw [add_block]; exact hn150_3) | (show (Addr.add _ _).block ≠ _; rw [add_block]; exact hn150_3) | exact hn150_3) (.int .i64 t148)).trans hx150_0
                                    replace hx150_0 := (cell_far (p := ⟨gb140, 4, none⟩) (by first | (rw [add_block]; exact hn150_4) | (show (Addr.add _ _).block ≠ _; rw [add_block]; exact hn150_4) | exact hn150_4) (.int .i64 t149)).trans hx150_0
                                    clear hn150_0
                                    clear hn150_1
                                    clear hn150_2
                                    clear hn150_3
                                    clear hn150_4
                                    replace p150 := eq_true p150
                                    replace q150 := eq_true q150
                                    have p151 : 0 ≤ (x10_2 : Int) := of_decide_eq_true (by first | (with_reducible assumption) | assumption)
                                    have q151 : x10_2 < (l0.length : Int) := of_decide_eq_true (by first | (with_reducible assumption) | assumption)
                                    obtain ⟨ad151, e151, hx151_0⟩ := Kd.at_int HR0.out x10_2 p151 q151
                                    obtain rfl : ad141 = ad151 := (by injection e151)
                                    have hn151_0 : ad141.block ≠ gb140 := Nat.ne_of_lt (Nat.lt_of_lt_of_le (by have := World.block_lt_of_cell? _ _ hx151_0; first | rwa [add_block] at this | exact this) GW140.out)
                                    have hn151_1 : ad141.block ≠ gb140 := Nat.ne_of_lt (Nat.lt_of_lt_of_le (by have := World.block_lt_of_cell? _ _ hx151_0; first | rwa [add_block] at this | exact this) GW140.out)
                                    have hn151_2 : ad141.block ≠ gb140 := Nat.ne_of_lt (Nat.lt_of_lt_of_le (by have := World.block_lt_of_cell? _ _ hx151_0; first | rwa [add_block] at this | exact this) GW140.out)
                                    have hn151_3 : ad141.block ≠ gb140 := Nat.ne_of_lt (Nat.lt_of_lt_of_le (by have := World.block_lt_of_cell? _ _ hx151_0; first | rwa [add_block] at this | exact this) GW140.out)
                                    have hn151_4 : ad141.block ≠ gb140 := Nat.ne_of_lt (Nat.lt_of_lt_of_le (by have := World.block_lt_of_cell? _ _ hx151_0; first | rwa [add_block] at this | exact this) GW140.out)
                                    replace hx151_0 := (HB.out.cell (World.block_lt_of_cell? w _ hx151_0)).trans hx151_0
                                    replace hx151_0 := (cell_far (p := ⟨gb140, 0, none⟩) (by first | (rw [add_block]; exact hn151_0) | (show (Addr.add _ _).block ≠ _; rw [add_block]; exact hn151_0) | exact hn151_0) (.bool t145)).trans hx151_0
                                    replace hx151_0 := (cell_far (p := ⟨gb140, 1, none⟩) (by first | (rw [add_block]; exact hn151_1) | (show (Addr.add _ _).block ≠ _; rw [add_block]; exact hn151_1) | exact hn151_1) (.int .i64 t146)).trans hx151_0
                                    replace hx151_0 := (cell_far (p := ⟨gb140, 2, none⟩) (by first | (rw [add_block]; exact hn151_2) | (show (Addr.add _ _).block ≠ _; rw [add_block]; exact hn151_2) | exact hn151_2) (.int .i64 t147)).trans hx151_0
                                    replace hx151_0 := (cell_far (p := ⟨gb140, 3, none⟩) (by first | (rw [add_block]; exact hn151_3) | (show (Addr.add _ _).block ≠ _; rw [add_block]; exact hn151_3) | exact hn151_3) (.int .i64 t148)).trans hx151_0
                                    replace hx151_0 := (cell_far (p := ⟨gb140, 4, none⟩) (by first | (rw [add_block]; exact hn151_4) | (show (Addr.add _ _).block ≠ _; rw [add_block]; exact hn151_4) | exact hn151_4) (.int .i64 t149)).trans hx151_0
                                    clear hn151_0
                                    clear hn151_1
                                    clear hn151_2
                                    clear hn151_3
                                    clear hn151_4
                                    replace p151 := eq_true p151
                                    replace q151 := eq_true q151
                                    have hcz72_0 : w66.cell? ⟨gb140, 0, none⟩ = some (.bool x141000_2) := (blk_cell BK140.out 0).trans rfl
                                    have hcz72_1 : w66.cell? ⟨gb140, 1, none⟩ = some (.int .i64 x141001_2) := (blk_cell BK140.out 1).trans rfl
                                    have hcz72_2 : w66.cell? ⟨gb140, 2, none⟩ = some (.int .i64 x141002_2) := (blk_cell BK140.out 2).trans rfl
                                    have hcz72_3 : w66.cell? ⟨gb140, 3, none⟩ = some (.int .i64 x141003_2) := (blk_cell BK140.out 3).trans rfl
                                    have hcz72_4 : w66.cell? ⟨gb140, 4, none⟩ = some (.int .i64 x141004_2) := (blk_cell BK140.out 4).trans rfl
                                    have hfz72_0 := blk_frozen BK140.out 0
                                    have hfz72_1 := blk_frozen BK140.out 1
                                    have hfz72_2 := blk_frozen BK140.out 2
                                    have hfz72_3 := blk_frozen BK140.out 3
                                    have hfz72_4 := blk_frozen BK140.out 4
                                    try go_wp2_with (first | (go_at_call 13; (with_reducible refine (rtt_Threshold.calls t145 t146 t147 t148 t149 t152 _ A63.out).mono ?_); rintro e w73 ⟨rfl, hb⟩; have n0_ := Aside0.mk (blk_below (g := gb140) (o := .cells #[.bool t145, .int .i64 t146, .int .i64 t147, .int .i64 t148, .int .i64 t149] 25 (0, 0)) (by (with_reducible repeat (first | refine blk_drewN ?_ _ | refine blk_drew ?_ | refine blk_alloc ?_ _)); refine blk_put (cs := #[.bool t145, .int .i64 t146, .int .i64 t147, .int .i64 t148, .int .i64 x141004_2]) ?_ 4 _ rfl; (with_reducible repeat (first | refine blk_drewN ?_ _ | refine blk_drew ?_ | refine blk_alloc ?_ _)); refine blk_put (cs := #[.bool t145, .int .i64 t146, .int .i64 t147, .int .i64 x141003_2, .int .i64 x141004_2]) ?_ 3 _ rfl; (with_reducible repeat (first | refine blk_drewN ?_ _ | refine blk_drew ?_ | refine blk_alloc ?_ _)); refine blk_put (cs := #[.bool t145, .int .i64 t146, .int .i64 x141002_2, .int .i64 x141003_2, .int .i64 x141004_2]) ?_ 2 _ rfl; (with_reducible repeat (first | refine blk_drewN ?_ _ | refine blk_drew ?_ | refine blk_alloc ?_ _)); refine blk_put (cs := #[.bool t145, .int .i64 x141001_2, .int .i64 x141002_2, .int .i64 x141003_2, .int .i64 x141004_2]) ?_ 1 _ rfl; (with_reducible repeat (first | refine blk_drewN ?_ _ | refine blk_drew ?_ | refine blk_alloc ?_ _)); refine blk_put (cs := #[.bool x141000_2, .int .i64 x141001_2, .int .i64 x141002_2, .int .i64 x141003_2, .int .i64 x141004_2]) ?_ 0 _ rfl; (with_reducible repeat (first | refine blk_drewN ?_ _ | refine blk_drew ?_ | refine blk_alloc ?_ _)); exact BK140.out) hb); have n1_ := Aside0.mk (below_step (by repeat (first | (with_reducible first | exact HB.out | apply below_alloc | apply pw_below_drewN | apply below_drew1 | refine below_set ?_ GE140.out) | exact HB.out)) hb); clear BK140; clear HB; have BK140 := n0_; have HB := n1_; clear n0_ n1_; (try clear hb); (try clear hb2); (try clear hk); (try clear hi)))
                                    go_ret
                                    exact ⟨by first | rfl | (simp [errW_none, errW_some] <;> rfl) | (simp only [← hji24, ← hji25]; first | rfl | (simp [errW_none, errW_some] <;> rfl)) | (simp [*, errW_none, errW_some] <;> rfl), by repeat (first | (with_reducible first | exact HB.out | apply below_alloc | apply pw_below_drewN | apply below_drew1 | refine below_set ?_ GE140.out) | exact HB.out)⟩
                                  · rw [if_neg c64] at H
                                    have c64b0 : decide (t152 < 1) = false := decide_eq_false c64
                                    clear c64
                                    replace H := Option.bind_eq_some_iff.mp H
                                    obtain ⟨t153, A740, H⟩ := H
                                    replace H : (if t153 < 1 then (some false) else (dominolaw11_RttBetween.l0 kj17 l0 l1 a2 ji24 ji25 (wrap64 (x10_2 + 1)) t145 t146 t147 t148 t149)) = some r := H
                                    have A74 := Aside0.mk A740
                                    clear A740
                                    by_cases c75 : t153 < 1
                                    · rw [if_pos c75] at H
                                      have c75b0 : decide (t153 < 1) = true := decide_eq_true c75
                                      clear c75
                                      obtain rfl := Option.some.inj H
                                      try go_wp2
                                      have n0_ := Aside0.mk (blk_drew BK140.out)
                                      have n1_ := Aside0.mk (below_drew1 HB.out)
                                      clear BK140
                                      clear HB
                                      have BK140 := n0_
                                      have HB := n1_
                                      clear n0_ n1_
                                      have p144 : 0 ≤ (x10_2 : Int) := of_decide_eq_true (by first | (with_reducible assumption) | assumption)
                                      have q144 : x10_2 < (l0.length : Int) := of_decide_eq_true (by first | (with_reducible assumption) | assumption)
                                      obtain ⟨ad144, e144, hx144_0⟩ := Kd.at_int HR0.out x10_2 p144 q144
                                      have hw144_0 := hx144_0
                                      obtain rfl : ad141 = ad144 := (by injection e144)
                                      replace hx144_0 := (HB.out.cell (World.block_lt_of_cell? w _ hx144_0)).trans hx144_0
                                      replace p144 := eq_true p144
                                      replace q144 := eq_true q144
                                      refine start_ (n := 11) (S := fun w' => w'.cell? ⟨gb140, 0, none⟩ = some (.bool x141000_2) ∧ w'.cell? ⟨gb140, 1, none⟩ = some (.int .i64 x141001_2) ∧ w'.cell? ⟨gb140, 2, none⟩ = some (.int .i64 x141002_2) ∧ w'.cell? ⟨gb140, 3, none⟩ = some (.int .i64 x141003_2) ∧ w'.cell? ⟨gb140, 4, none⟩ = some (.int .i64 x141004_2) ∧ w'.cell? (ad141.add (x10_2).toNat) = some (.int .u16 (rd l0 x10_2))) (ds := [10]) #[false, false, false, false, false, false, false, false, false, false, false] (by kernel_rfl) rfl rfl ⟨(blk_cell BK140.out 0).trans rfl, (blk_cell BK140.out 1).trans rfl, (blk_cell BK140.out 2).trans rfl, (blk_cell BK140.out 3).trans rfl, (blk_cell BK140.out 4).trans rfl, ((HB.out.cell (World.block_lt_of_cell? w _ hw144_0)).trans hw144_0)⟩ (fun hHeld => ?_); refine with_tabW dominolaw11_RttBetween.tab12 dominolaw11_RttBetween.bits12 (fun HT_ HW_ => ?_)
                                      generalize wc.drew = w76 at BK140 HB hx144_0 hHeld ⊢
                                      refine pure_ (i := 1) (N := some 50) (v := ?_) (a' := ?_) #[false, true, false, false, false, false, false, false, false, false, false] rfl rfl (any_of HT_.out (by kernel_rfl)) (fun _ _ _ h => h) (Or.inl ⟨by rfl, ?_⟩) ?_ ?_
                                      rotate_left
                                      · intro w'
                                        go_simp
                                        with_reducible rfl
                                      rotate_left
                                      · simp only [Act.put, List.setIfInBounds_toArray, List.set_cons_zero, List.set_cons_succ, i64_w, i32_w]
                                        rfl
                                      refine pure_ (i := 2) (N := some 51) (v := ?_) (a' := ?_) #[false, true, true, false, false, false, false, false, false, false, false] rfl rfl (any_of HT_.out (by kernel_rfl)) (fun _ _ _ h => h) (Or.inl ⟨by rfl, ?_⟩) ?_ ?_
                                      rotate_left
                                      · intro w'
                                        go_simp
                                        with_reducible rfl
                                      rotate_left
                                      · simp only [Act.put, List.setIfInBounds_toArray, List.set_cons_zero, List.set_cons_succ, i64_w, i32_w]
                                        rfl
                                      refine pure_ (i := 3) (N := some 52) (v := ?_) (a' := ?_) #[false, true, true, true, false, false, false, false, false, false, false] rfl rfl (any_of HT_.out (by kernel_rfl)) (fun _ _ _ h => h) (Or.inl ⟨by rfl, ?_⟩) ?_ ?_
                                      rotate_left
                                      · intro w'
                                        go_simp
                                        with_reducible rfl
                                      rotate_left
                                      · simp only [Act.put, List.setIfInBounds_toArray, List.set_cons_zero, List.set_cons_succ, i64_w, i32_w]
                                        rfl
                                      refine pure_ (i := 6) (N := some 55) (v := ?_) (a' := ?_) #[false, true, true, true, false, false, true, false, false, false, false] rfl rfl (any_of HT_.out (by kernel_rfl)) (fun _ _ _ h => h) (Or.inl ⟨by rfl, ?_⟩) ?_ ?_
                                      rotate_left
                                      · intro w'
                                        go_simp
                                        with_reducible rfl
                                      rotate_left
                                      · simp only [Act.put, List.setIfInBounds_toArray, List.set_cons_zero, List.set_cons_succ, i64_w, i32_w]
                                        rfl
                                      refine pure_ (i := 7) (N := some 56) (v := ?_) (a' := ?_) #[false, true, true, true, false, false, true, true, false, false, false] rfl rfl (any_of HT_.out (by kernel_rfl)) (fun _ _ _ h => h) (Or.inl ⟨by rfl, ?_⟩) ?_ ?_
                                      rotate_left
                                      · intro w'
                                        go_simp
                                        with_reducible rfl
                                      rotate_left
                                      · simp only [Act.put, List.setIfInBounds_toArray, List.set_cons_zero, List.set_cons_succ, i64_w, i32_w]
                                        rfl
                                      refine pure_ (i := 8) (N := some 57) (v := ?_) (a' := ?_) #[false, true, true, true, false, false, true, true, true, false, false] rfl rfl (any_of HT_.out (by kernel_rfl)) (fun _ _ _ h => h) (Or.inl ⟨by rfl, ?_⟩) ?_ ?_
                                      rotate_left
                                      · intro w'
                                        go_simp
                                        with_reducible rfl
                                      rotate_left
                                      · simp only [Act.put, List.setIfInBounds_toArray, List.set_cons_zero, List.set_cons_succ, i64_w, i32_w]
                                        rfl
                                      refine take_ (i := 0) (N := some 49) (v := ?_) (a' := ?_) #[true, true, true, true, false, false, true, true, true, false, false] rfl rfl (take_ofW HT_.out HW_.out (by kernel_rfl)) (fun _ _ _ h => h) (Or.inl ⟨by rfl, ?_⟩) hHeld ?_ ?_
                                      rotate_left
                                      · rintro w' ⟨s0, s1, s2, s3, s4, s5⟩
                                        go_simp
                                        with_reducible rfl
                                      rotate_left
                                      · simp only [Act.put, List.setIfInBounds_toArray, List.set_cons_zero, List.set_cons_succ, i64_w, i32_w]
                                        rfl
                                      refine take_ (i := 4) (N := some 53) (v := ?_) (a' := ?_) #[true, true, true, true, true, false, true, true, true, false, false] rfl rfl (take_ofW HT_.out HW_.out (by kernel_rfl)) (fun _ _ _ h => h) (Or.inl ⟨by rfl, ?_⟩) hHeld ?_ ?_
                                      rotate_left
                                      · rintro w' ⟨s0, s1, s2, s3, s4, s5⟩
                                        go_simp
                                        with_reducible rfl
                                      rotate_left
                                      · simp only [Act.put, List.setIfInBounds_toArray, List.set_cons_zero, List.set_cons_succ, i64_w, i32_w]
                                        rfl
                                      refine pure_ (i := 5) (N := some 54) (v := ?_) (a' := ?_) #[true, true, true, true, true, true, true, true, true, false, false] rfl rfl (any_of HT_.out (by kernel_rfl)) (fun _ _ _ h => h) (Or.inl ⟨by rfl, ?_⟩) ?_ ?_
                                      rotate_left
                                      · intro w'
                                        go_simp
                                        with_reducible rfl
                                      rotate_left
                                      · simp only [Act.put, List.setIfInBounds_toArray, List.set_cons_zero, List.set_cons_succ, i64_w, i32_w]
                                        rfl
                                      refine one_ (i := 9) (N := some 58) #[true, true, true, true, true, true, true, true, true, true, false] rfl rfl (one_of HT_.out (by kernel_rfl)) (by decide) (fun K hK => ?_)
                                      refine goes_ Try.func15 (by kernel_rfl) rfl #[.agg #[.bool x141000_2, .int .i64 x141001_2, .int .i64 x141002_2, .int .i64 x141003_2, .int .i64 x141004_2], .int .i64 (wrap64 (rd l0 x10_2)), .int .i64 x11_17, .int .i64 (wrap64 (a2))] (by rfl) rfl rfl (by (try simp only [List.map_toArray, List.map_cons, List.map_nil]); first | done | rfl | (simp only [List.length_drop, List.length_take]; rfl)) ?_
                                      with_reducible refine (rtt_Sample.calls x141000_2 x141001_2 x141002_2 x141003_2 x141004_2 (wrap64 (rd l0 x10_2)) x11_17 (wrap64 (a2)) t145 t146 t147 t148 t149 _ A23.out).mono ?_
                                      rintro e w77 ⟨rfl, hb⟩
                                      refine ⟨_, rfl, ?_⟩
                                      have n0_ := Aside0.mk (blk_below (g := gb140) (o := .cells #[.bool x141000_2, .int .i64 x141001_2, .int .i64 x141002_2, .int .i64 x141003_2, .int .i64 x141004_2] 25 (0, 0)) (by (with_reducible repeat (first | refine blk_drewN ?_ _ | refine blk_drew ?_ | refine blk_alloc ?_ _)); exact BK140.out) hb)
                                      have n1_ := Aside0.mk (below_step (by repeat (first | (with_reducible first | exact HB.out | apply below_alloc | apply pw_below_drewN | apply below_drew1 | refine below_set ?_ GE140.out) | exact HB.out)) hb)
                                      clear BK140
                                      clear HB
                                      have BK140 := n0_
                                      have HB := n1_
                                      clear n0_ n1_
                                      (try clear hb)
                                      (try clear hb2)
                                      (try clear hk)
                                      (try clear hi)
                                      refine hK.out _ _ ⟨(blk_cell BK140.out 0).trans rfl, (blk_cell BK140.out 1).trans rfl, (blk_cell BK140.out 2).trans rfl, (blk_cell BK140.out 3).trans rfl, (blk_cell BK140.out 4).trans rfl, ((HB.out.cell (World.block_lt_of_cell? w _ hw144_0)).trans hw144_0)⟩ (fun hHeld => ?_)
                                      clear hK K
                                      refine norm_ (a' := ?_) ?_ ?_
                                      rotate_left
                                      · show Act.put _ (some 58) _ = _
                                        simp only [Act.put, List.setIfInBounds_toArray, List.set_cons_zero, List.set_cons_succ, i64_w, i32_w]
                                        rfl
                                      refine last_ (i := 10) (N := none) #[true, true, true, true, true, true, true, true, true, true, true] rfl rfl (one_of HT_.out (by kernel_rfl)) (by decide) (fun K hK => ?_)
                                      have hs78 : w77.cell? ⟨gb140, 0, none⟩ = some (.bool x141000_2) := (blk_cell BK140.out 0).trans rfl
                                      have hfs78 := blk_frozen BK140.out 0
                                      have hs79 : w77.cell? ⟨gb140, 1, none⟩ = some (.int .i64 x141001_2) := (blk_cell BK140.out 1).trans rfl
                                      have hfs79 := blk_frozen BK140.out 1
                                      have hs80 : w77.cell? ⟨gb140, 2, none⟩ = some (.int .i64 x141002_2) := (blk_cell BK140.out 2).trans rfl
                                      have hfs80 := blk_frozen BK140.out 2
                                      have hs81 : w77.cell? ⟨gb140, 3, none⟩ = some (.int .i64 x141003_2) := (blk_cell BK140.out 3).trans rfl
                                      have hfs81 := blk_frozen BK140.out 3
                                      have hs82 : w77.cell? ⟨gb140, 4, none⟩ = some (.int .i64 x141004_2) := (blk_cell BK140.out 4).trans rfl
                                      have hfs82 := blk_frozen BK140.out 4
                                      refine skip_ (w1 := ?_) (by rfl) rfl ?_ ?_
                                      rotate_left
                                      · go_simp
                                        rfl
                                      refine hK.out _ _ ?_
                                      clear hK K
                                      refine done_ (done_of HT_.out (by kernel_rfl)) ?_
                                      have p150 : 0 ≤ (x10_2 : Int) := of_decide_eq_true (by first | (with_reducible assumption) | assumption)
                                      have q150 : x10_2 < (l0.length : Int) := of_decide_eq_true (by first | (with_reducible assumption) | assumption)
                                      obtain ⟨ad150, e150, hx150_0⟩ := Kd.at_int HR0.out x10_2 p150 q150
                                      obtain rfl : ad141 = ad150 := (by injection e150)
                                      have hn150_0 : ad141.block ≠ gb140 := Nat.ne_of_lt (Nat.lt_of_lt_of_le (by have := World.block_lt_of_cell? _ _ hx150_0; first | rwa [add_block] at this | exact this) GW140.out)
                                      have hn150_1 : ad141.block ≠ gb140 := Nat.ne_of_lt (Nat.lt_of_lt_of_le (by have := World.block_lt_of_cell? _ _ hx150_0; first | rwa [add_block] at this | exact this) GW140.out)
                                      have hn150_2 : ad141.block ≠ gb140 := Nat.ne_of_lt (Nat.lt_of_lt_of_le (by have := World.block_lt_of_cell? _ _ hx150_0; first | rwa [add_block] at this | exact this) GW140.out)
                                      have hn150_3 : ad141.block ≠ gb140 := Nat.ne_of_lt (Nat.lt_of_lt_of_le (by have := World.block_lt_of_cell? _ _ hx150_0; first | rwa [add_block] at this | exact this) GW140.out)
                                      have hn150_4 : ad141.block ≠ gb140 := Nat.ne_of_lt (Nat.lt_of_lt_of_le (by have := World.block_lt_of_cell? _ _ hx150_0; first | rwa [add_block] at this | exact this) GW140.out)
                                      replace hx150_0 := (HB.out.cell (World.block_lt_of_cell? w _ hx150_0)).trans hx150_0
                                      replace hx150_0 := (cell_far (p := ⟨gb140, 0, none⟩) (by first | (rw [add_block]; exact hn150_0) | (show (Addr.add _ _).block ≠ _; rw [add_block]; exact hn150_0) | exact hn150_0) (.bool t145)).trans hx150_0
                                      replace hx150_0 := (cell_far (p := ⟨gb140, 1, none⟩) (by first | (rw [add_block]; exact hn150_1) | (show (Addr.add _ _).block ≠ _; rw [add_block]; exact hn150_1) | exact hn150_1) (.int .i64 t146)).trans hx150_0
                                      replace hx150_0 := (cell_far (p := ⟨gb140, 2, none⟩) (by first | (rw [add_block]; exact hn150_2) | (show (Addr.add _ _).block ≠ _; rw [add_block]; exact hn150_2) | exact hn150_2) (.int .i64 t147)).trans hx150_0
                                      replace hx150_0 := (cell_far (p := ⟨gb140, 3, none⟩) (by first | (rw [add_block]; exact hn150_3) | (show (Addr.add _ _).block ≠ _; rw [add_block]; exact hn150_3) | exact hn150_3) (.int .i64 t148)).trans hx150_0
                                      replace hx150_0 := (cell_far (p := ⟨gb140, 4, none⟩) (by first | (rw [add_block]; exact hn150_4) | (show (Addr.add _ _).block ≠ _; rw [add_block]; exact hn150_4) | exact hn150_4) (.int .i64 t149)).trans hx150_0
                                      clear hn150_0
                                      clear hn150_1
                                      clear hn150_2
                                      clear hn150_3
                                      clear hn150_4
                                      replace p150 := eq_true p150
                                      replace q150 := eq_true q150
                                      have p151 : 0 ≤ (x10_2 : Int) := of_decide_eq_true (by first | (with_reducible assumption) | assumption)
                                      have q151 : x10_2 < (l0.length : Int) := of_decide_eq_true (by first | (with_reducible assumption) | assumption)
                                      obtain ⟨ad151, e151, hx151_0⟩ := Kd.at_int HR0.out x10_2 p151 q151
                                      obtain rfl : ad141 = ad151 := (by injection e151)
                                      have hn151_0 : ad141.block ≠ gb140 := Nat.ne_of_lt (Nat.lt_of_lt_of_le (by have := World.block_lt_of_cell? _ _ hx151_0; first | rwa [add_block] at this | exact this) GW140.out)
                                      have hn151_1 : ad141.block ≠ gb140 := Nat.ne_of_lt (Nat.lt_of_lt_of_le (by have := World.block_lt_of_cell? _ _ hx151_0; first | rwa [add_block] at this | exact this) GW140.out)
                                      have hn151_2 : ad141.block ≠ gb140 := Nat.ne_of_lt (Nat.lt_of_lt_of_le (by have := World.block_lt_of_cell? _ _ hx151_0; first | rwa [add_block] at this | exact this) GW140.out)
                                      have hn151_3 : ad141.block ≠ gb140 := Nat.ne_of_lt (Nat.lt_of_lt_of_le (by have := World.block_lt_of_cell? _ _ hx151_0; first | rwa [add_block] at this | exact this) GW140.out)
                                      have hn151_4 : ad141.block ≠ gb140 := Nat.ne_of_lt (Nat.lt_of_lt_of_le (by have := World.block_lt_of_cell? _ _ hx151_0; first | rwa [add_block] at this | exact this) GW140.out)
                                      replace hx151_0 := (HB.out.cell (World.block_lt_of_cell? w _ hx151_0)).trans hx151_0
                                      replace hx151_0 := (cell_far (p := ⟨gb140, 0, none⟩) (by first | (rw [add_block]; exact hn151_0) | (show (Addr.add _ _).block ≠ _; rw [add_block]; exact hn151_0) | exact hn151_0) (.bool t145)).trans hx151_0
                                      replace hx151_0 := (cell_far (p := ⟨gb140, 1, none⟩) (by first | (rw [add_block]; exact hn151_1) | (show (Addr.add _ _).block ≠ _; rw [add_block]; exact hn151_1) | exact hn151_1) (.int .i64 t146)).trans hx151_0
                                      replace hx151_0 := (cell_far (p := ⟨gb140, 2, none⟩) (by first | (rw [add_block]; exact hn151_2) | (show (Addr.add _ _).block ≠ _; rw [add_block]; exact hn151_2) | exact hn151_2) (.int .i64 t147)).trans hx151_0
                                      replace hx151_0 := (cell_far (p := ⟨gb140, 3, none⟩) (by first | (rw [add_block]; exact hn151_3) | (show (Addr.add _ _).block ≠ _; rw [add_block]; exact hn151_3) | exact hn151_3) (.int .i64 t148)).trans hx151_0
                                      replace hx151_0 := (cell_far (p := ⟨gb140, 4, none⟩) (by first | (rw [add_block]; exact hn151_4) | (show (Addr.add _ _).block ≠ _; rw [add_block]; exact hn151_4) | exact hn151_4) (.int .i64 t149)).trans hx151_0
                                      clear hn151_0
                                      clear hn151_1
                                      clear hn151_2
                                      clear hn151_3
                                      clear hn151_4
                                      replace p151 := eq_true p151
                                      replace q151 := eq_true q151
                                      have hcz83_0 : w77.cell? ⟨gb140, 0, none⟩ = some (.bool x141000_2) := (blk_cell BK140.out 0).trans rfl
                                      have hcz83_1 : w77.cell? ⟨gb140, 1, none⟩ = some (.int .i64 x141001_2) := (blk_cell BK140.out 1).trans rfl
                                      have hcz83_2 : w77.cell? ⟨gb140, 2, none⟩ = some (.int .i64 x141002_2) := (blk_cell BK140.out 2).trans rfl
                                      have hcz83_3 : w77.cell? ⟨gb140, 3, none⟩ = some (.int .i64 x141003_2) := (blk_cell BK140.out 3).trans rfl
                                      have hcz83_4 : w77.cell? ⟨gb140, 4, none⟩ = some (.int .i64 x141004_2) := (blk_cell BK140.out 4).trans rfl
                                      have hfz83_0 := blk_frozen BK140.out 0
                                      have hfz83_1 := blk_frozen BK140.out 1
                                      have hfz83_2 := blk_frozen BK140.out 2
                                      have hfz83_3 := blk_frozen BK140.out 3
                                      have hfz83_4 := blk_frozen BK140.out 4
                                      try go_wp2_with (first | (go_at_call 13; (with_reducible refine (rtt_Threshold.calls t145 t146 t147 t148 t149 t152 _ A63.out).mono ?_); rintro e w84 ⟨rfl, hb⟩; have n0_ := Aside0.mk (blk_below (g := gb140) (o := .cells #[.bool t145, .int .i64 t146, .int .i64 t147, .int .i64 t148, .int .i64 t149] 25 (0, 0)) (by (with_reducible repeat (first | refine blk_drewN ?_ _ | refine blk_drew ?_ | refine blk_alloc ?_ _)); refine blk_put (cs := #[.bool t145, .int .i64 t146, .int .i64 t147, .int .i64 t148, .int .i64 x141004_2]) ?_ 4 _ rfl; (with_reducible repeat (first | refine blk_drewN ?_ _ | refine blk_drew ?_ | refine blk_alloc ?_ _)); refine blk_put (cs := #[.bool t145, .int .i64 t146, .int .i64 t147, .int .i64 x141003_2, .int .i64 x141004_2]) ?_ 3 _ rfl; (with_reducible repeat (first | refine blk_drewN ?_ _ | refine blk_drew ?_ | refine blk_alloc ?_ _)); refine blk_put (cs := #[.bool t145, .int .i64 t146, .int .i64 x141002_2, .int .i64 x141003_2, .int .i64 x141004_2]) ?_ 2 _ rfl; (with_reducible repeat (first | refine blk_drewN ?_ _ | refine blk_drew ?_ | refine blk_alloc ?_ _)); refine blk_put (cs := #[.bool t145, .int .i64 x141001_2, .int .i64 x141002_2, .int .i64 x141003_2, .int .i64 x141004_2]) ?_ 1 _ rfl; (with_reducible repeat (first | refine blk_drewN ?_ _ | refine blk_drew ?_ | refine blk_alloc ?_ _)); refine blk_put (cs := #[.bool x141000_2, .int .i64 x141001_2, .int .i64 x141002_2, .int .i64 x141003_2, .int .i64 x141004_2]) ?_ 0 _ rfl; (with_reducible repeat (first | refine blk_drewN ?_ _ | refine blk_drew ?_ | refine blk_alloc ?_ _)); exact BK140.out) hb); have n1_ := Aside0.mk (below_step (by repeat (first | (with_reducible first | exact HB.out | apply below_alloc | apply pw_below_drewN | apply below_drew1 | refine below_set ?_ GE140.out) | exact HB.out)) hb); clear BK140; clear HB; have BK140 := n0_; have HB := n1_; clear n0_ n1_; (try clear hb); (try clear hb2); (try clear hk); (try clear hi); have hcz85_0 : w84.cell? ⟨gb140, 0, none⟩ = some (.bool t145) := (blk_cell BK140.out 0).trans rfl; have hcz85_1 : w84.cell? ⟨gb140, 1, none⟩ = some (.int .i64 t146) := (blk_cell BK140.out 1).trans rfl; have hcz85_2 : w84.cell? ⟨gb140, 2, none⟩ = some (.int .i64 t147) := (blk_cell BK140.out 2).trans rfl; have hcz85_3 : w84.cell? ⟨gb140, 3, none⟩ = some (.int .i64 t148) := (blk_cell BK140.out 3).trans rfl; have hcz85_4 : w84.cell? ⟨gb140, 4, none⟩ = some (.int .i64 t149) := (blk_cell BK140.out 4).trans rfl; have hfz85_0 := blk_frozen BK140.out 0; have hfz85_1 := blk_frozen BK140.out 1; have hfz85_2 := blk_frozen BK140.out 2; have hfz85_3 := blk_frozen BK140.out 3; have hfz85_4 := blk_frozen BK140.out 4) | (go_at_call 11; (with_reducible refine (rtt_Pto.calls t145 t146 t147 t148 t149 0 0 t153 _ A74.out).mono ?_); rintro e w86 ⟨rfl, hb⟩; have n0_ := Aside0.mk (blk_below (g := gb140) (o := .cells #[.bool t145, .int .i64 t146, .int .i64 t147, .int .i64 t148, .int .i64 t149] 25 (0, 0)) (by (with_reducible repeat (first | refine blk_drewN ?_ _ | refine blk_drew ?_ | refine blk_alloc ?_ _)); exact BK140.out) hb); have n1_ := Aside0.mk (below_step (by repeat (first | (with_reducible first | exact HB.out | apply below_alloc | apply pw_below_drewN | apply below_drew1 | refine below_set ?_ GE140.out) | exact HB.out)) hb); clear BK140; clear HB; have BK140 := n0_; have HB := n1_; clear n0_ n1_; (try clear hb); (try clear hb2); (try clear hk); (try clear hi)))
                                      go_ret
                                      exact ⟨by first | rfl | (simp [errW_none, errW_some] <;> rfl) | (simp only [← hji24, ← hji25]; first | rfl | (simp [errW_none, errW_some] <;> rfl)) | (simp [*, errW_none, errW_some] <;> rfl), by repeat (first | (with_reducible first | exact HB.out | apply below_alloc | apply pw_below_drewN | apply below_drew1 | refine below_set ?_ GE140.out) | exact HB.out)⟩
                                    · rw [if_neg c75] at H
                                      have c75b0 : decide (t153 < 1) = false := decide_eq_false c75
                                      clear c75
                                      have H' := Aside0.mk H
                                      clear H
                                      try go_wp2
                                      have n0_ := Aside0.mk (blk_drew BK140.out)
                                      have n1_ := Aside0.mk (below_drew1 HB.out)
                                      clear BK140
                                      clear HB
                                      have BK140 := n0_
                                      have HB := n1_
                                      clear n0_ n1_
                                      have p144 : 0 ≤ (x10_2 : Int) := of_decide_eq_true (by first | (with_reducible assumption) | assumption)
                                      have q144 : x10_2 < (l0.length : Int) := of_decide_eq_true (by first | (with_reducible assumption) | assumption)
                                      obtain ⟨ad144, e144, hx144_0⟩ := Kd.at_int HR0.out x10_2 p144 q144
                                      have hw144_0 := hx144_0
                                      obtain rfl : ad141 = ad144 := (by injection e144)
                                      replace hx144_0 := (HB.out.cell (World.block_lt_of_cell? w _ hx144_0)).trans hx144_0
                                      replace p144 := eq_true p144
                                      replace q144 := eq_true q144
                                      refine start_ (n := 11) (S := fun w' => w'.cell? ⟨gb140, 0, none⟩ = some (.bool x141000_2) ∧ w'.cell? ⟨gb140, 1, none⟩ = some (.int .i64 x141001_2) ∧ w'.cell? ⟨gb140, 2, none⟩ = some (.int .i64 x141002_2) ∧ w'.cell? ⟨gb140, 3, none⟩ = some (.int .i64 x141003_2) ∧ w'.cell? ⟨gb140, 4, none⟩ = some (.int .i64 x141004_2) ∧ w'.cell? (ad141.add (x10_2).toNat) = some (.int .u16 (rd l0 x10_2))) (ds := [10]) #[false, false, false, false, false, false, false, false, false, false, false] (by kernel_rfl) rfl rfl ⟨(blk_cell BK140.out 0).trans rfl, (blk_cell BK140.out 1).trans rfl, (blk_cell BK140.out 2).trans rfl, (blk_cell BK140.out 3).trans rfl, (blk_cell BK140.out 4).trans rfl, ((HB.out.cell (World.block_lt_of_cell? w _ hw144_0)).trans hw144_0)⟩ (fun hHeld => ?_); refine with_tabW dominolaw11_RttBetween.tab12 dominolaw11_RttBetween.bits12 (fun HT_ HW_ => ?_)
                                      generalize wc.drew = w87 at BK140 HB hx144_0 hHeld ⊢
                                      refine pure_ (i := 1) (N := some 50) (v := ?_) (a' := ?_) #[false, true, false, false, false, false, false, false, false, false, false] rfl rfl (any_of HT_.out (by kernel_rfl)) (fun _ _ _ h => h) (Or.inl ⟨by rfl, ?_⟩) ?_ ?_
                                      rotate_left
                                      · intro w'
                                        go_simp
                                        with_reducible rfl
                                      rotate_left
                                      · simp only [Act.put, List.setIfInBounds_toArray, List.set_cons_zero, List.set_cons_succ, i64_w, i32_w]
                                        rfl
                                      refine pure_ (i := 2) (N := some 51) (v := ?_) (a' := ?_) #[false, true, true, false, false, false, false, false, false, false, false] rfl rfl (any_of HT_.out (by kernel_rfl)) (fun _ _ _ h => h) (Or.inl ⟨by rfl, ?_⟩) ?_ ?_
                                      rotate_left
                                      · intro w'
                                        go_simp
                                        with_reducible rfl
                                      rotate_left
                                      · simp only [Act.put, List.setIfInBounds_toArray, List.set_cons_zero, List.set_cons_succ, i64_w, i32_w]
                                        rfl
                                      refine pure_ (i := 3) (N := some 52) (v := ?_) (a' := ?_) #[false, true, true, true, false, false, false, false, false, false, false] rfl rfl (any_of HT_.out (by kernel_rfl)) (fun _ _ _ h => h) (Or.inl ⟨by rfl, ?_⟩) ?_ ?_
                                      rotate_left
                                      · intro w'
                                        go_simp
                                        with_reducible rfl
                                      rotate_left
                                      · simp only [Act.put, List.setIfInBounds_toArray, List.set_cons_zero, List.set_cons_succ, i64_w, i32_w]
                                        rfl
                                      refine pure_ (i := 6) (N := some 55) (v := ?_) (a' := ?_) #[false, true, true, true, false, false, true, false, false, false, false] rfl rfl (any_of HT_.out (by kernel_rfl)) (fun _ _ _ h => h) (Or.inl ⟨by rfl, ?_⟩) ?_ ?_
                                      rotate_left
                                      · intro w'
                                        go_simp
                                        with_reducible rfl
                                      rotate_left
                                      · simp only [Act.put, List.setIfInBounds_toArray, List.set_cons_zero, List.set_cons_succ, i64_w, i32_w]
                                        rfl
                                      refine pure_ (i := 7) (N := some 56) (v := ?_) (a' := ?_) #[false, true, true, true, false, false, true, true, false, false, false] rfl rfl (any_of HT_.out (by kernel_rfl)) (fun _ _ _ h => h) (Or.inl ⟨by rfl, ?_⟩) ?_ ?_
                                      rotate_left
                                      · intro w'
                                        go_simp
                                        with_reducible rfl
                                      rotate_left
                                      · simp only [Act.put, List.setIfInBounds_toArray, List.set_cons_zero, List.set_cons_succ, i64_w, i32_w]
                                        rfl
                                      refine pure_ (i := 8) (N := some 57) (v := ?_) (a' := ?_) #[false, true, true, true, false, false, true, true, true, false, false] rfl rfl (any_of HT_.out (by kernel_rfl)) (fun _ _ _ h => h) (Or.inl ⟨by rfl, ?_⟩) ?_ ?_
                                      rotate_left
                                      · intro w'
                                        go_simp
                                        with_reducible rfl
                                      rotate_left
                                      · simp only [Act.put, List.setIfInBounds_toArray, List.set_cons_zero, List.set_cons_succ, i64_w, i32_w]
                                        rfl
                                      refine take_ (i := 0) (N := some 49) (v := ?_) (a' := ?_) #[true, true, true, true, false, false, true, true, true, false, false] rfl rfl (take_ofW HT_.out HW_.out (by kernel_rfl)) (fun _ _ _ h => h) (Or.inl ⟨by rfl, ?_⟩) hHeld ?_ ?_
                                      rotate_left
                                      · rintro w' ⟨s0, s1, s2, s3, s4, s5⟩
                                        go_simp
                                        with_reducible rfl
                                      rotate_left
                                      · simp only [Act.put, List.setIfInBounds_toArray, List.set_cons_zero, List.set_cons_succ, i64_w, i32_w]
                                        rfl
                                      refine take_ (i := 4) (N := some 53) (v := ?_) (a' := ?_) #[true, true, true, true, true, false, true, true, true, false, false] rfl rfl (take_ofW HT_.out HW_.out (by kernel_rfl)) (fun _ _ _ h => h) (Or.inl ⟨by rfl, ?_⟩) hHeld ?_ ?_
                                      rotate_left
                                      · rintro w' ⟨s0, s1, s2, s3, s4, s5⟩
                                        go_simp
                                        with_reducible rfl
                                      rotate_left
                                      · simp only [Act.put, List.setIfInBounds_toArray, List.set_cons_zero, List.set_cons_succ, i64_w, i32_w]
                                        rfl
                                      refine pure_ (i := 5) (N := some 54) (v := ?_) (a' := ?_) #[true, true, true, true, true, true, true, true, true, false, false] rfl rfl (any_of HT_.out (by kernel_rfl)) (fun _ _ _ h => h) (Or.inl ⟨by rfl, ?_⟩) ?_ ?_
                                      rotate_left
                                      · intro w'
                                        go_simp
                                        with_reducible rfl
                                      rotate_left
                                      · simp only [Act.put, List.setIfInBounds_toArray, List.set_cons_zero, List.set_cons_succ, i64_w, i32_w]
                                        rfl
                                      refine one_ (i := 9) (N := some 58) #[true, true, true, true, true, true, true, true, true, true, false] rfl rfl (one_of HT_.out (by kernel_rfl)) (by decide) (fun K hK => ?_)
                                      refine goes_ Try.func15 (by kernel_rfl) rfl #[.agg #[.bool x141000_2, .int .i64 x141001_2, .int .i64 x141002_2, .int .i64 x141003_2, .int .i64 x141004_2], .int .i64 (wrap64 (rd l0 x10_2)), .int .i64 x11_17, .int .i64 (wrap64 (a2))] (by rfl) rfl rfl (by (try simp only [List.map_toArray, List.map_cons, List.map_nil]); first | done | rfl | (simp only [List.length_drop, List.length_take]; rfl)) ?_
                                      with_reducible refine (rtt_Sample.calls x141000_2 x141001_2 x141002_2 x141003_2 x141004_2 (wrap64 (rd l0 x10_2)) x11_17 (wrap64 (a2)) t145 t146 t147 t148 t149 _ A23.out).mono ?_
                                      rintro e w88 ⟨rfl, hb⟩
                                      refine ⟨_, rfl, ?_⟩
                                      have n0_ := Aside0.mk (blk_below (g := gb140) (o := .cells #[.bool x141000_2, .int .i64 x141001_2, .int .i64 x141002_2, .int .i64 x141003_2, .int .i64 x141004_2] 25 (0, 0)) (by (with_reducible repeat (first | refine blk_drewN ?_ _ | refine blk_drew ?_ | refine blk_alloc ?_ _)); exact BK140.out) hb)
                                      have n1_ := Aside0.mk (below_step (by repeat (first | (with_reducible first | exact HB.out | apply below_alloc | apply pw_below_drewN | apply below_drew1 | refine below_set ?_ GE140.out) | exact HB.out)) hb)
                                      clear BK140
                                      clear HB
                                      have BK140 := n0_
                                      have HB := n1_
                                      clear n0_ n1_
                                      (try clear hb)
                                      (try clear hb2)
                                      (try clear hk)
                                      (try clear hi)
                                      refine hK.out _ _ ⟨(blk_cell BK140.out 0).trans rfl, (blk_cell BK140.out 1).trans rfl, (blk_cell BK140.out 2).trans rfl, (blk_cell BK140.out 3).trans rfl, (blk_cell BK140.out 4).trans rfl, ((HB.out.cell (World.block_lt_of_cell? w _ hw144_0)).trans hw144_0)⟩ (fun hHeld => ?_)
                                      clear hK K
                                      refine norm_ (a' := ?_) ?_ ?_
                                      rotate_left
                                      · show Act.put _ (some 58) _ = _
                                        simp only [Act.put, List.setIfInBounds_toArray, List.set_cons_zero, List.set_cons_succ, i64_w, i32_w]
                                        rfl
                                      refine last_ (i := 10) (N := none) #[true, true, true, true, true, true, true, true, true, true, true] rfl rfl (one_of HT_.out (by kernel_rfl)) (by decide) (fun K hK => ?_)
                                      have hs89 : w88.cell? ⟨gb140, 0, none⟩ = some (.bool x141000_2) := (blk_cell BK140.out 0).trans rfl
                                      have hfs89 := blk_frozen BK140.out 0
                                      have hs90 : w88.cell? ⟨gb140, 1, none⟩ = some (.int .i64 x141001_2) := (blk_cell BK140.out 1).trans rfl
                                      have hfs90 := blk_frozen BK140.out 1
                                      have hs91 : w88.cell? ⟨gb140, 2, none⟩ = some (.int .i64 x141002_2) := (blk_cell BK140.out 2).trans rfl
                                      have hfs91 := blk_frozen BK140.out 2
                                      have hs92 : w88.cell? ⟨gb140, 3, none⟩ = some (.int .i64 x141003_2) := (blk_cell BK140.out 3).trans rfl
                                      have hfs92 := blk_frozen BK140.out 3
                                      have hs93 : w88.cell? ⟨gb140, 4, none⟩ = some (.int .i64 x141004_2) := (blk_cell BK140.out 4).trans rfl
                                      have hfs93 := blk_frozen BK140.out 4
                                      refine skip_ (w1 := ?_) (by rfl) rfl ?_ ?_
                                      rotate_left
                                      · go_simp
                                        rfl
                                      refine hK.out _ _ ?_
                                      clear hK K
                                      refine done_ (done_of HT_.out (by kernel_rfl)) ?_
                                      have p150 : 0 ≤ (x10_2 : Int) := of_decide_eq_true (by first | (with_reducible assumption) | assumption)
                                      have q150 : x10_2 < (l0.length : Int) := of_decide_eq_true (by first | (with_reducible assumption) | assumption)
                                      obtain ⟨ad150, e150, hx150_0⟩ := Kd.at_int HR0.out x10_2 p150 q150
                                      obtain rfl : ad141 = ad150 := (by injection e150)
                                      have hn150_0 : ad141.block ≠ gb140 := Nat.ne_of_lt (Nat.lt_of_lt_of_le (by have := World.block_lt_of_cell? _ _ hx150_0; first | rwa [add_block] at this | exact this) GW140.out)
                                      have hn150_1 : ad141.block ≠ gb140 := Nat.ne_of_lt (Nat.lt_of_lt_of_le (by have := World.block_lt_of_cell? _ _ hx150_0; first | rwa [add_block] at this | exact this) GW140.out)
                                      have hn150_2 : ad141.block ≠ gb140 := Nat.ne_of_lt (Nat.lt_of_lt_of_le (by have := World.block_lt_of_cell? _ _ hx150_0; first | rwa [add_block] at this | exact this) GW140.out)
                                      have hn150_3 : ad141.block ≠ gb140 := Nat.ne_of_lt (Nat.lt_of_lt_of_le (by have := World.block_lt_of_cell? _ _ hx150_0; first | rwa [add_block] at this | exact this) GW140.out)
                                      have hn150_4 : ad141.block ≠ gb140 := Nat.ne_of_lt (Nat.lt_of_lt_of_le (by have := World.block_lt_of_cell? _ _ hx150_0; first | rwa [add_block] at this | exact this) GW140.out)
                                      replace hx150_0 := (HB.out.cell (World.block_lt_of_cell? w _ hx150_0)).trans hx150_0
                                      replace hx150_0 := (cell_far (p := ⟨gb140, 0, none⟩) (by first | (rw [add_block]; exact hn150_0) | (show (Addr.add _ _).block ≠ _; rw [add_block]; exact hn150_0) | exact hn150_0) (.bool t145)).trans hx150_0
                                      replace hx150_0 := (cell_far (p := ⟨gb140, 1, none⟩) (by first | (rw [add_block]; exact hn150_1) | (show (Addr.add _ _).block ≠ _; rw [add_block]; exact hn150_1) | exact hn150_1) (.int .i64 t146)).trans hx150_0
                                      replace hx150_0 := (cell_far (p := ⟨gb140, 2, none⟩) (by first | (rw [add_block]; exact hn150_2) | (show (Addr.add _ _).block ≠ _; rw [add_block]; exact hn150_2) | exact hn150_2) (.int .i64 t147)).trans hx150_0
                                      replace hx150_0 := (cell_far (p := ⟨gb140, 3, none⟩) (by first | (rw [add_block]; exact hn150_3) | (show (Addr.add _ _).block ≠ _; rw [add_block]; exact hn150_3) | exact hn150_3) (.int .i64 t148)).trans hx150_0
                                      replace hx150_0 := (cell_far (p := ⟨gb140, 4, none⟩) (by first | (rw [add_block]; exact hn150_4) | (show (Addr.add _ _).block ≠ _; rw [add_block]; exact hn150_4) | exact hn150_4) (.int .i64 t149)).trans hx150_0
                                      clear hn150_0
                                      clear hn150_1
                                      clear hn150_2
                                      clear hn150_3
                                      clear hn150_4
                                      replace p150 := eq_true p150
                                      replace q150 := eq_true q150
                                      have p151 : 0 ≤ (x10_2 : Int) := of_decide_eq_true (by first | (with_reducible assumption) | assumption)
                                      have q151 : x10_2 < (l0.length : Int) := of_decide_eq_true (by first | (with_reducible assumption) | assumption)
                                      obtain ⟨ad151, e151, hx151_0⟩ := Kd.at_int HR0.out x10_2 p151 q151
                                      obtain rfl : ad141 = ad151 := (by injection e151)
                                      have hn151_0 : ad141.block ≠ gb140 := Nat.ne_of_lt (Nat.lt_of_lt_of_le (by have := World.block_lt_of_cell? _ _ hx151_0; first | rwa [add_block] at this | exact this) GW140.out)
                                      have hn151_1 : ad141.block ≠ gb140 := Nat.ne_of_lt (Nat.lt_of_lt_of_le (by have := World.block_lt_of_cell? _ _ hx151_0; first | rwa [add_block] at this | exact this) GW140.out)
                                      have hn151_2 : ad141.block ≠ gb140 := Nat.ne_of_lt (Nat.lt_of_lt_of_le (by have := World.block_lt_of_cell? _ _ hx151_0; first | rwa [add_block] at this | exact this) GW140.out)
                                      have hn151_3 : ad141.block ≠ gb140 := Nat.ne_of_lt (Nat.lt_of_lt_of_le (by have := World.block_lt_of_cell? _ _ hx151_0; first | rwa [add_block] at this | exact this) GW140.out)
                                      have hn151_4 : ad141.block ≠ gb140 := Nat.ne_of_lt (Nat.lt_of_lt_of_le (by have := World.block_lt_of_cell? _ _ hx151_0; first | rwa [add_block] at this | exact this) GW140.out)
                                      replace hx151_0 := (HB.out.cell (World.block_lt_of_cell? w _ hx151_0)).trans hx151_0
                                      replace hx151_0 := (cell_far (p := ⟨gb140, 0, none⟩) (by first | (rw [add_block]; exact hn151_0) | (show (Addr.add _ _).block ≠ _; rw [add_block]; exact hn151_0) | exact hn151_0) (.bool t145)).trans hx151_0
                                      replace hx151_0 := (cell_far (p := ⟨gb140, 1, none⟩) (by first | (rw [add_block]; exact hn151_1) | (show (Addr.add _ _).block ≠ _; rw [add_block]; exact hn151_1) | exact hn151_1) (.int .i64 t146)).trans hx151_0
                                      replace hx151_0 := (cell_far (p := ⟨gb140, 2, none⟩) (by first | (rw [add_block]; exact hn151_2) | (show (Addr.add _ _).block ≠ _; rw [add_block]; exact hn151_2) | exact hn151_2) (.int .i64 t147)).trans hx151_0
                                      replace hx151_0 := (cell_far (p := ⟨gb140, 3, none⟩) (by first | (rw [add_block]; exact hn151_3) | (show (Addr.add _ _).block ≠ _; rw [add_block]; exact hn151_3) | exact hn151_3) (.int .i64 t148)).trans hx151_0
                                      replace hx151_0 := (cell_far (p := ⟨gb140, 4, none⟩) (by first | (rw [add_block]; exact hn151_4) | (show (Addr.add _ _).block ≠ _; rw [add_block]; exact hn151_4) | exact hn151_4) (.int .i64 t149)).trans hx151_0
                                      clear hn151_0
                                      clear hn151_1
                                      clear hn151_2
                                      clear hn151_3
                                      clear hn151_4
                                      replace p151 := eq_true p151
                                      replace q151 := eq_true q151
                                      have hcz94_0 : w88.cell? ⟨gb140, 0, none⟩ = some (.bool x141000_2) := (blk_cell BK140.out 0).trans rfl
                                      have hcz94_1 : w88.cell? ⟨gb140, 1, none⟩ = some (.int .i64 x141001_2) := (blk_cell BK140.out 1).trans rfl
                                      have hcz94_2 : w88.cell? ⟨gb140, 2, none⟩ = some (.int .i64 x141002_2) := (blk_cell BK140.out 2).trans rfl
                                      have hcz94_3 : w88.cell? ⟨gb140, 3, none⟩ = some (.int .i64 x141003_2) := (blk_cell BK140.out 3).trans rfl
                                      have hcz94_4 : w88.cell? ⟨gb140, 4, none⟩ = some (.int .i64 x141004_2) := (blk_cell BK140.out 4).trans rfl
                                      have hfz94_0 := blk_frozen BK140.out 0
                                      have hfz94_1 := blk_frozen BK140.out 1
                                      have hfz94_2 := blk_frozen BK140.out 2
                                      have hfz94_3 := blk_frozen BK140.out 3
                                      have hfz94_4 := blk_frozen BK140.out 4
                                      try go_wp2_with (first | (go_at_call 13; (with_reducible refine (rtt_Threshold.calls t145 t146 t147 t148 t149 t152 _ A63.out).mono ?_); rintro e w95 ⟨rfl, hb⟩; have n0_ := Aside0.mk (blk_below (g := gb140) (o := .cells #[.bool t145, .int .i64 t146, .int .i64 t147, .int .i64 t148, .int .i64 t149] 25 (0, 0)) (by (with_reducible repeat (first | refine blk_drewN ?_ _ | refine blk_drew ?_ | refine blk_alloc ?_ _)); refine blk_put (cs := #[.bool t145, .int .i64 t146, .int .i64 t147, .int .i64 t148, .int .i64 x141004_2]) ?_ 4 _ rfl; (with_reducible repeat (first | refine blk_drewN ?_ _ | refine blk_drew ?_ | refine blk_alloc ?_ _)); refine blk_put (cs := #[.bool t145, .int .i64 t146, .int .i64 t147, .int .i64 x141003_2, .int .i64 x141004_2]) ?_ 3 _ rfl; (with_reducible repeat (first | refine blk_drewN ?_ _ | refine blk_drew ?_ | refine blk_alloc ?_ _)); refine blk_put (cs := #[.bool t145, .int .i64 t146, .int .i64 x141002_2, .int .i64 x141003_2, .int .i64 x141004_2]) ?_ 2 _ rfl; (with_reducible repeat (first | refine blk_drewN ?_ _ | refine blk_drew ?_ | refine blk_alloc ?_ _)); refine blk_put (cs := #[.bool t145, .int .i64 x141001_2, .int .i64 x141002_2, .int .i64 x141003_2, .int .i64 x141004_2]) ?_ 1 _ rfl; (with_reducible repeat (first | refine blk_drewN ?_ _ | refine blk_drew ?_ | refine blk_alloc ?_ _)); refine blk_put (cs := #[.bool x141000_2, .int .i64 x141001_2, .int .i64 x141002_2, .int .i64 x141003_2, .int .i64 x141004_2]) ?_ 0 _ rfl; (with_reducible repeat (first | refine blk_drewN ?_ _ | refine blk_drew ?_ | refine blk_alloc ?_ _)); exact BK140.out) hb); have n1_ := Aside0.mk (below_step (by repeat (first | (with_reducible first | exact HB.out | apply below_alloc | apply pw_below_drewN | apply below_drew1 | refine below_set ?_ GE140.out) | exact HB.out)) hb); clear BK140; clear HB; have BK140 := n0_; have HB := n1_; clear n0_ n1_; (try clear hb); (try clear hb2); (try clear hk); (try clear hi); have hcz96_0 : w95.cell? ⟨gb140, 0, none⟩ = some (.bool t145) := (blk_cell BK140.out 0).trans rfl; have hcz96_1 : w95.cell? ⟨gb140, 1, none⟩ = some (.int .i64 t146) := (blk_cell BK140.out 1).trans rfl; have hcz96_2 : w95.cell? ⟨gb140, 2, none⟩ = some (.int .i64 t147) := (blk_cell BK140.out 2).trans rfl; have hcz96_3 : w95.cell? ⟨gb140, 3, none⟩ = some (.int .i64 t148) := (blk_cell BK140.out 3).trans rfl; have hcz96_4 : w95.cell? ⟨gb140, 4, none⟩ = some (.int .i64 t149) := (blk_cell BK140.out 4).trans rfl; have hfz96_0 := blk_frozen BK140.out 0; have hfz96_1 := blk_frozen BK140.out 1; have hfz96_2 := blk_frozen BK140.out 2; have hfz96_3 := blk_frozen BK140.out 3; have hfz96_4 := blk_frozen BK140.out 4) | (go_at_call 11; (with_reducible refine (rtt_Pto.calls t145 t146 t147 t148 t149 0 0 t153 _ A74.out).mono ?_); rintro e w97 ⟨rfl, hb⟩; have n0_ := Aside0.mk (blk_below (g := gb140) (o := .cells #[.bool t145, .int .i64 t146, .int .i64 t147, .int .i64 t148, .int .i64 t149] 25 (0, 0)) (by (with_reducible repeat (first | refine blk_drewN ?_ _ | refine blk_drew ?_ | refine blk_alloc ?_ _)); exact BK140.out) hb); have n1_ := Aside0.mk (below_step (by repeat (first | (with_reducible first | exact HB.out | apply below_alloc | apply pw_below_drewN | apply below_drew1 | refine below_set ?_ GE140.out) | exact HB.out)) hb); clear BK140; clear HB; have BK140 := n0_; have HB := n1_; clear n0_ n1_; (try clear hb); (try clear hb2); (try clear hk); (try clear hi)))
                                      go_roundg kj17
                                      case measure => have := HJ3.out; have := HK2.out; have := HJ17.out; omega
                                      case rel => exact ⟨(ji24), (ji25), (wrap64 (x10_2 + 1)), (t145), (t146), (t147), (t148), (t149), (by first | rfl | (simp; done) | (simp only [← hji24] <;> (first | rfl | simp)) | (simp [*]; done)), (by first | rfl | (simp; done) | (simp only [← hji25] <;> (first | rfl | simp)) | (simp [*]; done)), (by first | rfl | (simp; done) | (simp [*]; done)), H', ⟨by have := HJ3.out; have := HK2.out; have := HJ17.out; omega⟩, ⟨by (with_reducible repeat (first | refine blk_drewN ?_ _ | refine blk_drew ?_ | refine blk_alloc ?_ _)); exact BK140.out⟩, ⟨by repeat (first | (with_reducible first | exact HB.out | apply below_alloc | apply pw_below_drewN | apply below_drew1 | refine below_set ?_ GE140.out) | exact HB.out)⟩⟩
                        · rw [if_neg c26] at H
                          have c26b0 : (t149 == (ji24)) = false := beq_eq_false_iff_ne.mpr c26
                          have c26b1 : (t149 != (ji24)) = true := bne_iff_ne.mpr c26
                          obtain rfl := Option.some.inj H
                          try go_wp2
                          have n0_ := Aside0.mk (blk_drew BK140.out)
                          have n1_ := Aside0.mk (below_drew1 HB.out)
                          clear BK140
                          clear HB
                          have BK140 := n0_
                          have HB := n1_
                          clear n0_ n1_
                          have p144 : 0 ≤ (x10_2 : Int) := of_decide_eq_true (by first | (with_reducible assumption) | assumption)
                          have q144 : x10_2 < (l0.length : Int) := of_decide_eq_true (by first | (with_reducible assumption) | assumption)
                          obtain ⟨ad144, e144, hx144_0⟩ := Kd.at_int HR0.out x10_2 p144 q144
                          have hw144_0 := hx144_0
                          obtain rfl : ad141 = ad144 := (by injection e144)
                          replace hx144_0 := (HB.out.cell (World.block_lt_of_cell? w _ hx144_0)).trans hx144_0
                          replace p144 := eq_true p144
                          replace q144 := eq_true q144
                          refine start_ (n := 11) (S := fun w' => w'.cell? ⟨gb140, 0, none⟩ = some (.bool x141000_2) ∧ w'.cell? ⟨gb140, 1, none⟩ = some (.int .i64 x141001_2) ∧ w'.cell? ⟨gb140, 2, none⟩ = some (.int .i64 x141002_2) ∧ w'.cell? ⟨gb140, 3, none⟩ = some (.int .i64 x141003_2) ∧ w'.cell? ⟨gb140, 4, none⟩ = some (.int .i64 x141004_2) ∧ w'.cell? (ad141.add (x10_2).toNat) = some (.int .u16 (rd l0 x10_2))) (ds := [10]) #[false, false, false, false, false, false, false, false, false, false, false] (by kernel_rfl) rfl rfl ⟨(blk_cell BK140.out 0).trans rfl, (blk_cell BK140.out 1).trans rfl, (blk_cell BK140.out 2).trans rfl, (blk_cell BK140.out 3).trans rfl, (blk_cell BK140.out 4).trans rfl, ((HB.out.cell (World.block_lt_of_cell? w _ hw144_0)).trans hw144_0)⟩ (fun hHeld => ?_); refine with_tabW dominolaw11_RttBetween.tab12 dominolaw11_RttBetween.bits12 (fun HT_ HW_ => ?_)
                          generalize wc.drew = w98 at BK140 HB hx144_0 hHeld ⊢
                          refine pure_ (i := 1) (N := some 50) (v := ?_) (a' := ?_) #[false, true, false, false, false, false, false, false, false, false, false] rfl rfl (any_of HT_.out (by kernel_rfl)) (fun _ _ _ h => h) (Or.inl ⟨by rfl, ?_⟩) ?_ ?_
                          rotate_left
                          · intro w'
                            go_simp
                            with_reducible rfl
                          rotate_left
                          · simp only [Act.put, List.setIfInBounds_toArray, List.set_cons_zero, List.set_cons_succ, i64_w, i32_w]
                            rfl
                          refine pure_ (i := 2) (N := some 51) (v := ?_) (a' := ?_) #[false, true, true, false, false, false, false, false, false, false, false] rfl rfl (any_of HT_.out (by kernel_rfl)) (fun _ _ _ h => h) (Or.inl ⟨by rfl, ?_⟩) ?_ ?_
                          rotate_left
                          · intro w'
                            go_simp
                            with_reducible rfl
                          rotate_left
                          · simp only [Act.put, List.setIfInBounds_toArray, List.set_cons_zero, List.set_cons_succ, i64_w, i32_w]
                            rfl
                          refine pure_ (i := 3) (N := some 52) (v := ?_) (a' := ?_) #[false, true, true, true, false, false, false, false, false, false, false] rfl rfl (any_of HT_.out (by kernel_rfl)) (fun _ _ _ h => h) (Or.inl ⟨by rfl, ?_⟩) ?_ ?_
                          rotate_left
                          · intro w'
                            go_simp
                            with_reducible rfl
                          rotate_left
                          · simp only [Act.put, List.setIfInBounds_toArray, List.set_cons_zero, List.set_cons_succ, i64_w, i32_w]
                            rfl
                          refine pure_ (i := 6) (N := some 55) (v := ?_) (a' := ?_) #[false, true, true, true, false, false, true, false, false, false, false] rfl rfl (any_of HT_.out (by kernel_rfl)) (fun _ _ _ h => h) (Or.inl ⟨by rfl, ?_⟩) ?_ ?_
                          rotate_left
                          · intro w'
                            go_simp
                            with_reducible rfl
                          rotate_left
                          · simp only [Act.put, List.setIfInBounds_toArray, List.set_cons_zero, List.set_cons_succ, i64_w, i32_w]
                            rfl
                          refine pure_ (i := 7) (N := some 56) (v := ?_) (a' := ?_) #[false, true, true, true, false, false, true, true, false, false, false] rfl rfl (any_of HT_.out (by kernel_rfl)) (fun _ _ _ h => h) (Or.inl ⟨by rfl, ?_⟩) ?_ ?_
                          rotate_left
                          · intro w'
                            go_simp
                            with_reducible rfl
                          rotate_left
                          · simp only [Act.put, List.setIfInBounds_toArray, List.set_cons_zero, List.set_cons_succ, i64_w, i32_w]
                            rfl
                          refine pure_ (i := 8) (N := some 57) (v := ?_) (a' := ?_) #[false, true, true, true, false, false, true, true, true, false, false] rfl rfl (any_of HT_.out (by kernel_rfl)) (fun _ _ _ h => h) (Or.inl ⟨by rfl, ?_⟩) ?_ ?_
                          rotate_left
                          · intro w'
                            go_simp
                            with_reducible rfl
                          rotate_left
                          · simp only [Act.put, List.setIfInBounds_toArray, List.set_cons_zero, List.set_cons_succ, i64_w, i32_w]
                            rfl
                          refine take_ (i := 0) (N := some 49) (v := ?_) (a' := ?_) #[true, true, true, true, false, false, true, true, true, false, false] rfl rfl (take_ofW HT_.out HW_.out (by kernel_rfl)) (fun _ _ _ h => h) (Or.inl ⟨by rfl, ?_⟩) hHeld ?_ ?_
                          rotate_left
                          · rintro w' ⟨s0, s1, s2, s3, s4, s5⟩
                            go_simp
                            with_reducible rfl
                          rotate_left
                          · simp only [Act.put, List.setIfInBounds_toArray, List.set_cons_zero, List.set_cons_succ, i64_w, i32_w]
                            rfl
                          refine take_ (i := 4) (N := some 53) (v := ?_) (a' := ?_) #[true, true, true, true, true, false, true, true, true, false, false] rfl rfl (take_ofW HT_.out HW_.out (by kernel_rfl)) (fun _ _ _ h => h) (Or.inl ⟨by rfl, ?_⟩) hHeld ?_ ?_
                          rotate_left
                          · rintro w' ⟨s0, s1, s2, s3, s4, s5⟩
                            go_simp
                            with_reducible rfl
                          rotate_left
                          · simp only [Act.put, List.setIfInBounds_toArray, List.set_cons_zero, List.set_cons_succ, i64_w, i32_w]
                            rfl
                          refine pure_ (i := 5) (N := some 54) (v := ?_) (a' := ?_) #[true, true, true, true, true, true, true, true, true, false, false] rfl rfl (any_of HT_.out (by kernel_rfl)) (fun _ _ _ h => h) (Or.inl ⟨by rfl, ?_⟩) ?_ ?_
                          rotate_left
                          · intro w'
                            go_simp
                            with_reducible rfl
                          rotate_left
                          · simp only [Act.put, List.setIfInBounds_toArray, List.set_cons_zero, List.set_cons_succ, i64_w, i32_w]
                            rfl
                          refine one_ (i := 9) (N := some 58) #[true, true, true, true, true, true, true, true, true, true, false] rfl rfl (one_of HT_.out (by kernel_rfl)) (by decide) (fun K hK => ?_)
                          refine goes_ Try.func15 (by kernel_rfl) rfl #[.agg #[.bool x141000_2, .int .i64 x141001_2, .int .i64 x141002_2, .int .i64 x141003_2, .int .i64 x141004_2], .int .i64 (wrap64 (rd l0 x10_2)), .int .i64 x11_17, .int .i64 (wrap64 (a2))] (by rfl) rfl rfl (by (try simp only [List.map_toArray, List.map_cons, List.map_nil]); first | done | rfl | (simp only [List.length_drop, List.length_take]; rfl)) ?_
                          with_reducible refine (rtt_Sample.calls x141000_2 x141001_2 x141002_2 x141003_2 x141004_2 (wrap64 (rd l0 x10_2)) x11_17 (wrap64 (a2)) t145 t146 t147 t148 t149 _ A23.out).mono ?_
                          rintro e w99 ⟨rfl, hb⟩
                          refine ⟨_, rfl, ?_⟩
                          have n0_ := Aside0.mk (blk_below (g := gb140) (o := .cells #[.bool x141000_2, .int .i64 x141001_2, .int .i64 x141002_2, .int .i64 x141003_2, .int .i64 x141004_2] 25 (0, 0)) (by (with_reducible repeat (first | refine blk_drewN ?_ _ | refine blk_drew ?_ | refine blk_alloc ?_ _)); exact BK140.out) hb)
                          have n1_ := Aside0.mk (below_step (by repeat (first | (with_reducible first | exact HB.out | apply below_alloc | apply pw_below_drewN | apply below_drew1 | refine below_set ?_ GE140.out) | exact HB.out)) hb)
                          clear BK140
                          clear HB
                          have BK140 := n0_
                          have HB := n1_
                          clear n0_ n1_
                          (try clear hb)
                          (try clear hb2)
                          (try clear hk)
                          (try clear hi)
                          refine hK.out _ _ ⟨(blk_cell BK140.out 0).trans rfl, (blk_cell BK140.out 1).trans rfl, (blk_cell BK140.out 2).trans rfl, (blk_cell BK140.out 3).trans rfl, (blk_cell BK140.out 4).trans rfl, ((HB.out.cell (World.block_lt_of_cell? w _ hw144_0)).trans hw144_0)⟩ (fun hHeld => ?_)
                          clear hK K
                          refine norm_ (a' := ?_) ?_ ?_
                          rotate_left
                          · show Act.put _ (some 58) _ = _
                            simp only [Act.put, List.setIfInBounds_toArray, List.set_cons_zero, List.set_cons_succ, i64_w, i32_w]
                            rfl
                          refine last_ (i := 10) (N := none) #[true, true, true, true, true, true, true, true, true, true, true] rfl rfl (one_of HT_.out (by kernel_rfl)) (by decide) (fun K hK => ?_)
                          have hs100 : w99.cell? ⟨gb140, 0, none⟩ = some (.bool x141000_2) := (blk_cell BK140.out 0).trans rfl
                          have hfs100 := blk_frozen BK140.out 0
                          have hs101 : w99.cell? ⟨gb140, 1, none⟩ = some (.int .i64 x141001_2) := (blk_cell BK140.out 1).trans rfl
                          have hfs101 := blk_frozen BK140.out 1
                          have hs102 : w99.cell? ⟨gb140, 2, none⟩ = some (.int .i64 x141002_2) := (blk_cell BK140.out 2).trans rfl
                          have hfs102 := blk_frozen BK140.out 2
                          have hs103 : w99.cell? ⟨gb140, 3, none⟩ = some (.int .i64 x141003_2) := (blk_cell BK140.out 3).trans rfl
                          have hfs103 := blk_frozen BK140.out 3
                          have hs104 : w99.cell? ⟨gb140, 4, none⟩ = some (.int .i64 x141004_2) := (blk_cell BK140.out 4).trans rfl
                          have hfs104 := blk_frozen BK140.out 4
                          refine skip_ (w1 := ?_) (by rfl) rfl ?_ ?_
                          rotate_left
                          · go_simp
                            rfl
                          refine hK.out _ _ ?_
                          clear hK K
                          refine done_ (done_of HT_.out (by kernel_rfl)) ?_
                          have p150 : 0 ≤ (x10_2 : Int) := of_decide_eq_true (by first | (with_reducible assumption) | assumption)
                          have q150 : x10_2 < (l0.length : Int) := of_decide_eq_true (by first | (with_reducible assumption) | assumption)
                          obtain ⟨ad150, e150, hx150_0⟩ := Kd.at_int HR0.out x10_2 p150 q150
                          obtain rfl : ad141 = ad150 := (by injection e150)
                          have hn150_0 : ad141.block ≠ gb140 := Nat.ne_of_lt (Nat.lt_of_lt_of_le (by have := World.block_lt_of_cell? _ _ hx150_0; first | rwa [add_block] at this | exact this) GW140.out)
                          have hn150_1 : ad141.block ≠ gb140 := Nat.ne_of_lt (Nat.lt_of_lt_of_le (by have := World.block_lt_of_cell? _ _ hx150_0; first | rwa [add_block] at this | exact this) GW140.out)
                          have hn150_2 : ad141.block ≠ gb140 := Nat.ne_of_lt (Nat.lt_of_lt_of_le (by have := World.block_lt_of_cell? _ _ hx150_0; first | rwa [add_block] at this | exact this) GW140.out)
                          have hn150_3 : ad141.block ≠ gb140 := Nat.ne_of_lt (Nat.lt_of_lt_of_le (by have := World.block_lt_of_cell? _ _ hx150_0; first | rwa [add_block] at this | exact this) GW140.out)
                          have hn150_4 : ad141.block ≠ gb140 := Nat.ne_of_lt (Nat.lt_of_lt_of_le (by have := World.block_lt_of_cell? _ _ hx150_0; first | rwa [add_block] at this | exact this) GW140.out)
                          replace hx150_0 := (HB.out.cell (World.block_lt_of_cell? w _ hx150_0)).trans hx150_0
                          replace hx150_0 := (cell_far (p := ⟨gb140, 0, none⟩) (by first | (rw [add_block]; exact hn150_0) | (show (Addr.add _ _).block ≠ _; rw [add_block]; exact hn150_0) | exact hn150_0) (.bool t145)).trans hx150_0
                          replace hx150_0 := (cell_far (p := ⟨gb140, 1, none⟩) (by first | (rw [add_block]; exact hn150_1) | (show (Addr.add _ _).block ≠ _; rw [add_block]; exact hn150_1) | exact hn150_1) (.int .i64 t146)).trans hx150_0
                          replace hx150_0 := (cell_far (p := ⟨gb140, 2, none⟩) (by first | (rw [add_block]; exact hn150_2) | (show (Addr.add _ _).block ≠ _; rw [add_block]; exact hn150_2) | exact hn150_2) (.int .i64 t147)).trans hx150_0
                          replace hx150_0 := (cell_far (p := ⟨gb140, 3, none⟩) (by first | (rw [add_block]; exact hn150_3) | (show (Addr.add _ _).block ≠ _; rw [add_block]; exact hn150_3) | exact hn150_3) (.int .i64 t148)).trans hx150_0
                          replace hx150_0 := (cell_far (p := ⟨gb140, 4, none⟩) (by first | (rw [add_block]; exact hn150_4) | (show (Addr.add _ _).block ≠ _; rw [add_block]; exact hn150_4) | exact hn150_4) (.int .i64 t149)).trans hx150_0
                          clear hn150_0
                          clear hn150_1
                          clear hn150_2
                          clear hn150_3
                          clear hn150_4
                          replace p150 := eq_true p150
                          replace q150 := eq_true q150
                          have p151 : 0 ≤ (x10_2 : Int) := of_decide_eq_true (by first | (with_reducible assumption) | assumption)
                          have q151 : x10_2 < (l0.length : Int) := of_decide_eq_true (by first | (with_reducible assumption) | assumption)
                          obtain ⟨ad151, e151, hx151_0⟩ := Kd.at_int HR0.out x10_2 p151 q151
                          obtain rfl : ad141 = ad151 := (by injection e151)
                          have hn151_0 : ad141.block ≠ gb140 := Nat.ne_of_lt (Nat.lt_of_lt_of_le (by have := World.block_lt_of_cell? _ _ hx151_0; first | rwa [add_block] at this | exact this) GW140.out)
                          have hn151_1 : ad141.block ≠ gb140 := Nat.ne_of_lt (Nat.lt_of_lt_of_le (by have := World.block_lt_of_cell? _ _ hx151_0; first | rwa [add_block] at this | exact this) GW140.out)
                          have hn151_2 : ad141.block ≠ gb140 := Nat.ne_of_lt (Nat.lt_of_lt_of_le (by have := World.block_lt_of_cell? _ _ hx151_0; first | rwa [add_block] at this | exact this) GW140.out)
                          have hn151_3 : ad141.block ≠ gb140 := Nat.ne_of_lt (Nat.lt_of_lt_of_le (by have := World.block_lt_of_cell? _ _ hx151_0; first | rwa [add_block] at this | exact this) GW140.out)
                          have hn151_4 : ad141.block ≠ gb140 := Nat.ne_of_lt (Nat.lt_of_lt_of_le (by have := World.block_lt_of_cell? _ _ hx151_0; first | rwa [add_block] at this | exact this) GW140.out)
                          replace hx151_0 := (HB.out.cell (World.block_lt_of_cell? w _ hx151_0)).trans hx151_0
                          replace hx151_0 := (cell_far (p := ⟨gb140, 0, none⟩) (by first | (rw [add_block]; exact hn151_0) | (show (Addr.add _ _).block ≠ _; rw [add_block]; exact hn151_0) | exact hn151_0) (.bool t145)).trans hx151_0
                          replace hx151_0 := (cell_far (p := ⟨gb140, 1, none⟩) (by first | (rw [add_block]; exact hn151_1) | (show (Addr.add _ _).block ≠ _; rw [add_block]; exact hn151_1) | exact hn151_1) (.int .i64 t146)).trans hx151_0
                          replace hx151_0 := (cell_far (p := ⟨gb140, 2, none⟩) (by first | (rw [add_block]; exact hn151_2) | (show (Addr.add _ _).block ≠ _; rw [add_block]; exact hn151_2) | exact hn151_2) (.int .i64 t147)).trans hx151_0
                          replace hx151_0 := (cell_far (p := ⟨gb140, 3, none⟩) (by first | (rw [add_block]; exact hn151_3) | (show (Addr.add _ _).block ≠ _; rw [add_block]; exact hn151_3) | exact hn151_3) (.int .i64 t148)).trans hx151_0
                          replace hx151_0 := (cell_far (p := ⟨gb140, 4, none⟩) (by first | (rw [add_block]; exact hn151_4) | (show (Addr.add _ _).block ≠ _; rw [add_block]; exact hn151_4) | exact hn151_4) (.int .i64 t149)).trans hx151_0
                          clear hn151_0
                          clear hn151_1
                          clear hn151_2
                          clear hn151_3
                          clear hn151_4
                          replace p151 := eq_true p151
                          replace q151 := eq_true q151
                          have hcz105_0 : w99.cell? ⟨gb140, 0, none⟩ = some (.bool x141000_2) := (blk_cell BK140.out 0).trans rfl
                          have hcz105_1 : w99.cell? ⟨gb140, 1, none⟩ = some (.int .i64 x141001_2) := (blk_cell BK140.out 1).trans rfl
                          have hcz105_2 : w99.cell? ⟨gb140, 2, none⟩ = some (.int .i64 x141002_2) := (blk_cell BK140.out 2).trans rfl
                          have hcz105_3 : w99.cell? ⟨gb140, 3, none⟩ = some (.int .i64 x141003_2) := (blk_cell BK140.out 3).trans rfl
                          have hcz105_4 : w99.cell? ⟨gb140, 4, none⟩ = some (.int .i64 x141004_2) := (blk_cell BK140.out 4).trans rfl
                          have hfz105_0 := blk_frozen BK140.out 0
                          have hfz105_1 := blk_frozen BK140.out 1
                          have hfz105_2 := blk_frozen BK140.out 2
                          have hfz105_3 := blk_frozen BK140.out 3
                          have hfz105_4 := blk_frozen BK140.out 4
                          try go_wp2
                          go_ret
                          exact ⟨by first | rfl | (simp [errW_none, errW_some] <;> rfl) | (simp only [← hji24, ← hji25]; first | rfl | (simp [errW_none, errW_some] <;> rfl)) | (simp [*, errW_none, errW_some] <;> rfl), by repeat (first | (with_reducible first | exact HB.out | apply below_alloc | apply pw_below_drewN | apply below_drew1 | refine below_set ?_ GE140.out) | exact HB.out)⟩
                      · rw [if_neg c22] at H
                        exact absurd H (by simp)
                    · rw [if_neg c21] at H
                      exact absurd H (by simp)
              · rw [if_neg c17] at H
                have c17b0 : decide (x10_2 < (l0.length : Int)) = false := decide_eq_false c17
                clear c17
                obtain rfl := Option.some.inj H
                go_wp2
                go_ret
                exact ⟨by first | rfl | (simp [errW_none, errW_some] <;> rfl) | (simp [*, errW_none, errW_some] <;> rfl), by repeat (first | (with_reducible first | exact HB.out | apply below_alloc | apply pw_below_drewN | apply below_drew1 | refine below_set ?_ GE140.out) | exact HB.out)⟩
        · rw [if_neg c13] at H
          exact absurd H (by simp)

/-- THE ONE PURE STATEMENT of dominolaw11_RttBetween: yours. -/
def dominolaw11_RttBetween.Pure : Prop := ∀ (l0 : List Int) (l1 : List Int) (a2 : Int), l0.length ≤ maxLen → l0.length * 2 ≤ 140737488351232 → (∀ x ∈ l0, (Lit.int .u16 x).wf = true) → l1.length ≤ maxLen → l1.length * 1 ≤ 140737488351232 → (∀ x ∈ l1, (Lit.int .u8 x).wf = true) → (Lit.int .u8 a2).wf = true → ∃ k, dominolaw11_RttBetween.f k l0 l1 a2 = some true
theorem dominolaw11_RttBetween.walk (P : dominolaw11_RttBetween.Pure) (a0 : Option Addr) (len0 cap0 : Nat) (z0 : List Int) (a1 : Option Addr) (len1 cap1 : Nat) (z1 : List Int) (a2 : Int) (w : World) (w0 : (a0 = none ∧ len0 = 0 ∧ cap0 = 0 ∧ z0 = []) ∨ ∃ x, a0 = some x ∧ len0 ≤ cap0 ∧ cap0 ≤ maxLen ∧ z0.length = cap0 ∧ (∀ i, i < z0.length → w.cell? (x.add i) = some (.int .u16 (z0.getD i 0))) ∧ ∀ n ∈ z0, (Lit.int .u16 n).wf = true) (y0 : len0 * 2 ≤ 140737488351232) (w1 : (a1 = none ∧ len1 = 0 ∧ cap1 = 0 ∧ z1 = []) ∨ ∃ x, a1 = some x ∧ len1 ≤ cap1 ∧ cap1 ≤ maxLen ∧ z1.length = cap1 ∧ (∀ i, i < z1.length → w.cell? (x.add i) = some (.int .u8 (z1.getD i 0))) ∧ ∀ n ∈ z1, (Lit.int .u8 n).wf = true) (y1 : len1 * 1 ≤ 140737488351232) (w2 : (Lit.int .u8 a2).wf = true) :
    Calls Try.prog 4 #[.slice a0 len0 cap0, .slice a1 len1 cap1, .int .u8 a2] w fun e w' => e = .returned (.bool true) ∧ Below w.heap.size w w' := by
  obtain ⟨l0, rfl, hr0, hm0, hw0, hc0⟩ := ReadsInt.ofRowC w0
  obtain ⟨l1, rfl, hr1, hm1, hw1, hc1⟩ := ReadsInt.ofRowC w1
  obtain ⟨k, h⟩ := P l0 l1 a2 hm0 y0 hw0 hm1 y1 hw1 w2
  refine (dominolaw11_RttBetween.calls k _ _ l0 _ _ l1 a2 true w (Kd.C_of_reads (d := (0 : Int)) (h1 := fun _ => rfl) hr0) hc0 (Kd.C_of_reads (d := (0 : Int)) (h1 := fun _ => rfl) hr1) hc1 h).mono ?_
  rintro e w' ⟨rfl, hd⟩
  exact ⟨rfl, hd⟩

end Go.Proofs.Ytecjkkofoafhaaa.PRttBetween
