/- A part (G) of the proof that the law CyclicSizes returns true for every input: words on the printed functions, functions in plain Lean, and that the program's calls come to them. -/
import Derived.Test.YtindegbbcdloiaaZCyclicSizesF
section
namespace Go.Proofs.Ytindegbbcdloiaa.P
open Go.RowKit Go.Proofs.YtindegbbcdloiaaW.PrintWords Go.Proofs.YtindegbbcdloiaaW.PrintLast Go.Proofs.YtindegbbcdloiaaW.PrintMore
set_option linter.unusedVariables false
set_option linter.unusedSimpArgs false
/-! ### cyclic_Check: function 12 -/
mutual
noncomputable def cyclic_Check.j0 : Nat → List (S34) → Int → List (List Int) → Bool → Option (Bool)
 | 0, _, _, _, _ => none
 | k + 1, x0, x1, x2, x31 => if x31 = true then (some false) else (cyclic_Check.l0 k x0 x1 x2 (x2.length : Int) 0 M44.new)
noncomputable def cyclic_Check.l0 : Nat → List (S34) → Int → List (List Int) → Int → Int → M44 → Option (Bool)
 | 0, _, _, _, _, _, _ => none
 | k + 1, x0, x1, x33, x34, x35, m => if x35 < x34 then (if 0 ≤ x35 then (if x35 < (x33.length : Int) then (cyclic_Check.l1 k x0 x1 x35 0 x33 x34 x35 (rd_L6 x33 x35) ((rd_L6 x33 x35).length : Int) 0 m) else (none)) else (none)) else ((cyclic_works.f k x0).bind fun t110 => (cyclic_Check.l2 k t110 (t110.length : Int) 0 m))
noncomputable def cyclic_Check.l1 : Nat → List (S34) → Int → Int → Int → List (List Int) → Int → Int → List Int → Int → Int → M44 → Option (Bool)
 | 0, _, _, _, _, _, _, _, _, _, _, _ => none
 | k + 1, x0, x1, x8, x10, x33, x34, x35, x40, x41, x42, m => if x42 < x41 then (if 0 ≤ x42 then (if x42 < (x40.length : Int) then (if (rd x40 x42) < 0 then (cyclic_Check.j3 k x0 x1 x8 x10 (rd x40 x42) x33 x34 x35 x40 x41 x42 true m) else (cyclic_Check.j3 k x0 x1 x8 x10 (rd x40 x42) x33 x34 x35 x40 x41 x42 (decide ((rd x40 x42) ≥ (x0.length : Int))) m)) else (none)) else (none)) else (if x10 > x1 then (some false) else (cyclic_Check.l0 k x0 x1 x33 x34 (wrap64 (x35 + 1)) m))
noncomputable def cyclic_Check.j3 : Nat → List (S34) → Int → Int → Int → Int → List (List Int) → Int → Int → List Int → Int → Int → Bool → M44 → Option (Bool)
 | 0, _, _, _, _, _, _, _, _, _, _, _, _, _ => none
 | k + 1, x0, x1, x8, x10, x12, x33, x34, x35, x40, x41, x42, x53, m => if x53 = true then (some false) else (if 0 ≤ x12 then (if x12 < (x0.length : Int) then (if ((rd_T34 x0 x12).f1) = 0 then (none) else (if (IntKind.u64.wrap ((IntKind.u64.wrap ((IntKind.u64.wrap (x8)) * x1)) + x1)) > (IntKind.u64.wrap ((IntKind.u64.wrap ((IntKind.u64.wrap (Int.tdiv (IntKind.u64.wrap ((IntKind.u64.wrap (x8)) * x1)) ((rd_T34 x0 x12).f1))) * ((rd_T34 x0 x12).f1))) + ((rd_T34 x0 x12).f1))) then (some false) else (if m.2 < 1099511627776 then (if wf44 (⟨x12, (IntKind.u64.wrap ((IntKind.u64.wrap (Int.tdiv (IntKind.u64.wrap ((IntKind.u64.wrap (x8)) * x1)) ((rd_T34 x0 x12).f1))) * ((rd_T34 x0 x12).f1))), (IntKind.u64.wrap ((IntKind.u64.wrap ((IntKind.u64.wrap (Int.tdiv (IntKind.u64.wrap ((IntKind.u64.wrap (x8)) * x1)) ((rd_T34 x0 x12).f1))) * ((rd_T34 x0 x12).f1))) + ((rd_T34 x0 x12).f1)))⟩ : S44) = true then (cyclic_Check.l1 k x0 x1 x8 (IntKind.u64.wrap (x10 + ((rd_T34 x0 x12).f0))) x33 x34 x35 x40 x41 (wrap64 (x42 + 1)) (m.put (⟨x12, (IntKind.u64.wrap ((IntKind.u64.wrap (Int.tdiv (IntKind.u64.wrap ((IntKind.u64.wrap (x8)) * x1)) ((rd_T34 x0 x12).f1))) * ((rd_T34 x0 x12).f1))), (IntKind.u64.wrap ((IntKind.u64.wrap ((IntKind.u64.wrap (Int.tdiv (IntKind.u64.wrap ((IntKind.u64.wrap (x8)) * x1)) ((rd_T34 x0 x12).f1))) * ((rd_T34 x0 x12).f1))) + ((rd_T34 x0 x12).f1)))⟩ : S44) (wrap64 (m.1 (⟨x12, (IntKind.u64.wrap ((IntKind.u64.wrap (Int.tdiv (IntKind.u64.wrap ((IntKind.u64.wrap (x8)) * x1)) ((rd_T34 x0 x12).f1))) * ((rd_T34 x0 x12).f1))), (IntKind.u64.wrap ((IntKind.u64.wrap ((IntKind.u64.wrap (Int.tdiv (IntKind.u64.wrap ((IntKind.u64.wrap (x8)) * x1)) ((rd_T34 x0 x12).f1))) * ((rd_T34 x0 x12).f1))) + ((rd_T34 x0 x12).f1)))⟩ : S44) + 1)))) else (none)) else (none)))) else (none)) else (none))
noncomputable def cyclic_Check.l2 : Nat → List (S44) → Int → Int → M44 → Option (Bool)
 | 0, _, _, _, _ => none
 | k + 1, x106, x107, x108, m => if x108 < x107 then (if 0 ≤ x108 then (if x108 < (x106.length : Int) then (if wf44 (rd_T44 x106 x108) = true then (if m.1 (rd_T44 x106 x108) = 1 then (cyclic_Check.l2 k x106 x107 (wrap64 (x108 + 1)) m) else (some false)) else (none)) else (none)) else (none)) else (some true)
end
noncomputable def cyclic_Check.f (k : Nat) (l0 : List (S34)) (a1 : Int) (l2 : List (List Int)) : Option (Bool) := (cyclic_Suits.f k l0 a1).bind fun t101 => (if t101 = true then ((cyclic_whole.f k l0).bind fun t102 => (if a1 = 0 then (none) else (cyclic_Check.j0 k l0 a1 l2 ((IntKind.u64.wrap ((l2.length : Int))) != (IntKind.u64.wrap (Int.tdiv t102 a1)))))) else (cyclic_Check.j0 k l0 a1 l2 true))
set_option maxHeartbeats 8000000 in
set_option maxRecDepth 100000 in
theorem cyclic_Check.calls (k : Nat) (A0 : Option Addr) (c0 : Nat) (l0 : List (S34)) (a1 : Int) (A2 : Option Addr) (c2 : Nat) (l2 : List (List Int)) (r : Bool) (w : World) (hr0 : Kd.C k34 w A0 l0.length l0) (hc0 : l0.length ≤ c0) (hr2 : Kd.C (Kd.slice 3 (Kd.int .i64)) w A2 l2.length l2) (hc2 : l2.length ≤ c2) (h : cyclic_Check.f k l0 a1 l2 = some r) :
 Calls Try.prog 12 #[.slice A0 l0.length c0, .int .u64 a1, .slice A2 l2.length c2] w fun e w' => e = .returned (.bool r) ∧ Below w.heap.size w w' := by
 have hu44 := Try.underlying44
 have HR0 := Aside0.mk hr0
 have HC0 := Aside0.mk hc0
 clear hr0 hc0
 have HR2 := Aside0.mk hr2
 have HC2 := Aside0.mk hc2
 clear hr2 hc2
 have HB := Aside0.mk (Below.refl w.heap.size w)
 have H : ((cyclic_Suits.f k l0 a1).bind fun t101 => (if t101 = true then ((cyclic_whole.f k l0).bind fun t102 => (if a1 = 0 then (none) else (cyclic_Check.j0 k l0 a1 l2 ((IntKind.u64.wrap ((l2.length : Int))) != (IntKind.u64.wrap (Int.tdiv t102 a1)))))) else (cyclic_Check.j0 k l0 a1 l2 true))) = some r := h
 clear h
 have HC4 := Aside0.mk H
 clear H
 go_enter Try.func12, Try.ntmps12
 go_upto_region 1 with (fail)
 repeat (go_quiet (fail); go_upto_region 1 with (fail))
 go_cut [31] (fun v31 wc => ∃ (kq : Nat) (x31_3 : Bool), v31 = .bool x31_3 ∧ Aside0 (cyclic_Check.j0 kq l0 a1 l2 x31_3 = some r) ∧ Aside0 (kq ≤ k) ∧ Aside0 (Below w.heap.size w wc))
 case first =>
  have H := HC4.out
  clear HC4
  replace H := Option.bind_eq_some_iff.mp H
  obtain ⟨t101, A50, H⟩ := H
  replace H : (if t101 = true then ((cyclic_whole.f k l0).bind fun t102 => (if a1 = 0 then (none) else (cyclic_Check.j0 k l0 a1 l2 ((IntKind.u64.wrap ((l2.length : Int))) != (IntKind.u64.wrap (Int.tdiv t102 a1)))))) else (cyclic_Check.j0 k l0 a1 l2 true)) = some r := H
  have A5 := Aside0.mk A50
  clear A50
  by_cases c6 : t101 = true
  · subst c6
    have H1 : ((cyclic_whole.f k l0).bind fun t102 => (if a1 = 0 then (none) else (cyclic_Check.j0 k l0 a1 l2 ((IntKind.u64.wrap ((l2.length : Int))) != (IntKind.u64.wrap (Int.tdiv t102 a1)))))) = some r := by rw [if_pos rfl] at H; exact H
    clear H
    have H := H1
    clear H1
    replace H := Option.bind_eq_some_iff.mp H
    obtain ⟨t102, A70, H⟩ := H
    replace H : (if a1 = 0 then (none) else (cyclic_Check.j0 k l0 a1 l2 ((IntKind.u64.wrap ((l2.length : Int))) != (IntKind.u64.wrap (Int.tdiv t102 a1))))) = some r := H
    have A7 := Aside0.mk A70
    clear A70
    by_cases c8 : a1 = 0
    · rw [if_pos c8] at H
      exact absurd H (by simp)
    · rw [if_neg c8] at H
      have c8b0 : (a1 == 0) = false := beq_eq_false_iff_ne.mpr c8
      have c8b1 : (a1 != 0) = true := bne_iff_ne.mpr c8
      (first | rw [c8b0] | (simp only [i64_w, i32_w]; rw [c8b0]) | skip)
      have H' := Aside0.mk H
      clear H
      go_wp2_with (first | (go_at_call 7; (with_reducible refine (cyclic_Suits.calls k _ _ l0 a1 true _ ?side1 ?side2 A5.out).mono ?_); (case side1 => repeat (first | exact (Kd.C_below HR0.out HB.out) | (with_reducible refine Kd.C_alloc ?_ _) | (with_reducible refine Kd.C_drewN ?_ _) | (with_reducible refine Kd.C_drew ?_))); (case side2 => exact HC0.out); rintro e w9 ⟨rfl, hb⟩; have n0_ := Aside0.mk (below_step (by repeat (first | (with_reducible first | exact HB.out | apply below_alloc | apply pw_below_drewN | apply below_drew1) | exact HB.out)) hb); clear HB; have HB := n0_; clear n0_; (try clear hb); (try clear hb2); (try clear hk); (try clear hi)) | (go_at_call 13; (with_reducible refine (cyclic_whole.calls k _ _ l0 t102 _ ?side1 ?side2 A7.out).mono ?_); (case side1 => repeat (first | exact (Kd.C_below HR0.out HB.out) | (with_reducible refine Kd.C_alloc ?_ _) | (with_reducible refine Kd.C_drewN ?_ _) | (with_reducible refine Kd.C_drew ?_))); (case side2 => exact HC0.out); rintro e w10 ⟨rfl, hb⟩; have n0_ := Aside0.mk (below_step (by repeat (first | (with_reducible first | exact HB.out | apply below_alloc | apply pw_below_drewN | apply below_drew1) | exact HB.out)) hb); clear HB; have HB := n0_; clear n0_; (try clear hb); (try clear hb2); (try clear hk); (try clear hi)))
      repeat (go_quiet (first | (go_at_call 7; (with_reducible refine (cyclic_Suits.calls k _ _ l0 a1 true _ ?side1 ?side2 A5.out).mono ?_); (case side1 => repeat (first | exact (Kd.C_below HR0.out HB.out) | (with_reducible refine Kd.C_alloc ?_ _) | (with_reducible refine Kd.C_drewN ?_ _) | (with_reducible refine Kd.C_drew ?_))); (case side2 => exact HC0.out); rintro e w9 ⟨rfl, hb⟩; have n0_ := Aside0.mk (below_step (by repeat (first | (with_reducible first | exact HB.out | apply below_alloc | apply pw_below_drewN | apply below_drew1) | exact HB.out)) hb); clear HB; have HB := n0_; clear n0_; (try clear hb); (try clear hb2); (try clear hk); (try clear hi)) | (go_at_call 13; (with_reducible refine (cyclic_whole.calls k _ _ l0 t102 _ ?side1 ?side2 A7.out).mono ?_); (case side1 => repeat (first | exact (Kd.C_below HR0.out HB.out) | (with_reducible refine Kd.C_alloc ?_ _) | (with_reducible refine Kd.C_drewN ?_ _) | (with_reducible refine Kd.C_drew ?_))); (case side2 => exact HC0.out); rintro e w10 ⟨rfl, hb⟩; have n0_ := Aside0.mk (below_step (by repeat (first | (with_reducible first | exact HB.out | apply below_alloc | apply pw_below_drewN | apply below_drew1) | exact HB.out)) hb); clear HB; have HB := n0_; clear n0_; (try clear hb); (try clear hb2); (try clear hk); (try clear hi))); try go_wp2_with (first | (go_at_call 7; (with_reducible refine (cyclic_Suits.calls k _ _ l0 a1 true _ ?side1 ?side2 A5.out).mono ?_); (case side1 => repeat (first | exact (Kd.C_below HR0.out HB.out) | (with_reducible refine Kd.C_alloc ?_ _) | (with_reducible refine Kd.C_drewN ?_ _) | (with_reducible refine Kd.C_drew ?_))); (case side2 => exact HC0.out); rintro e w9 ⟨rfl, hb⟩; have n0_ := Aside0.mk (below_step (by repeat (first | (with_reducible first | exact HB.out | apply below_alloc | apply pw_below_drewN | apply below_drew1) | exact HB.out)) hb); clear HB; have HB := n0_; clear n0_; (try clear hb); (try clear hb2); (try clear hk); (try clear hi)) | (go_at_call 13; (with_reducible refine (cyclic_whole.calls k _ _ l0 t102 _ ?side1 ?side2 A7.out).mono ?_); (case side1 => repeat (first | exact (Kd.C_below HR0.out HB.out) | (with_reducible refine Kd.C_alloc ?_ _) | (with_reducible refine Kd.C_drewN ?_ _) | (with_reducible refine Kd.C_drew ?_))); (case side2 => exact HC0.out); rintro e w10 ⟨rfl, hb⟩; have n0_ := Aside0.mk (below_step (by repeat (first | (with_reducible first | exact HB.out | apply below_alloc | apply pw_below_drewN | apply below_drew1) | exact HB.out)) hb); clear HB; have HB := n0_; clear n0_; (try clear hb); (try clear hb2); (try clear hk); (try clear hi))))
      go_meet
      case rel => exact ⟨_, (((IntKind.u64.wrap ((l2.length : Int))) != (IntKind.u64.wrap (Int.tdiv t102 a1)))), (by first | rfl | (simp; done) | (simp [*]; done)), H', ⟨by first | omega | exact Nat.le_refl _⟩, ⟨by repeat (first | (with_reducible first | exact HB.out | apply below_alloc | apply pw_below_drewN | apply below_drew1) | exact HB.out)⟩⟩
  · replace c6 := Bool.eq_false_iff.mpr c6
    subst c6
    have H1 : (cyclic_Check.j0 k l0 a1 l2 true) = some r := by rw [if_neg (show ¬ (false = true) by decide)] at H; exact H
    clear H
    have H := H1
    clear H1
    have H' := Aside0.mk H
    clear H
    go_wp2_with (first | (go_at_call 7; (with_reducible refine (cyclic_Suits.calls k _ _ l0 a1 false _ ?side1 ?side2 A5.out).mono ?_); (case side1 => repeat (first | exact (Kd.C_below HR0.out HB.out) | (with_reducible refine Kd.C_alloc ?_ _) | (with_reducible refine Kd.C_drewN ?_ _) | (with_reducible refine Kd.C_drew ?_))); (case side2 => exact HC0.out); rintro e w11 ⟨rfl, hb⟩; have n0_ := Aside0.mk (below_step (by repeat (first | (with_reducible first | exact HB.out | apply below_alloc | apply pw_below_drewN | apply below_drew1) | exact HB.out)) hb); clear HB; have HB := n0_; clear n0_; (try clear hb); (try clear hb2); (try clear hk); (try clear hi)))
    repeat (go_quiet (first | (go_at_call 7; (with_reducible refine (cyclic_Suits.calls k _ _ l0 a1 false _ ?side1 ?side2 A5.out).mono ?_); (case side1 => repeat (first | exact (Kd.C_below HR0.out HB.out) | (with_reducible refine Kd.C_alloc ?_ _) | (with_reducible refine Kd.C_drewN ?_ _) | (with_reducible refine Kd.C_drew ?_))); (case side2 => exact HC0.out); rintro e w11 ⟨rfl, hb⟩; have n0_ := Aside0.mk (below_step (by repeat (first | (with_reducible first | exact HB.out | apply below_alloc | apply pw_below_drewN | apply below_drew1) | exact HB.out)) hb); clear HB; have HB := n0_; clear n0_; (try clear hb); (try clear hb2); (try clear hk); (try clear hi))); try go_wp2_with (first | (go_at_call 7; (with_reducible refine (cyclic_Suits.calls k _ _ l0 a1 false _ ?side1 ?side2 A5.out).mono ?_); (case side1 => repeat (first | exact (Kd.C_below HR0.out HB.out) | (with_reducible refine Kd.C_alloc ?_ _) | (with_reducible refine Kd.C_drewN ?_ _) | (with_reducible refine Kd.C_drew ?_))); (case side2 => exact HC0.out); rintro e w11 ⟨rfl, hb⟩; have n0_ := Aside0.mk (below_step (by repeat (first | (with_reducible first | exact HB.out | apply below_alloc | apply pw_below_drewN | apply below_drew1) | exact HB.out)) hb); clear HB; have HB := n0_; clear n0_; (try clear hb); (try clear hb2); (try clear hk); (try clear hi))))
    go_meet
    case rel => exact ⟨_, (true), (by first | rfl | (simp; done) | (simp [*]; done)), H', ⟨by first | omega | exact Nat.le_refl _⟩, ⟨by repeat (first | (with_reducible first | exact HB.out | apply below_alloc | apply pw_below_drewN | apply below_drew1) | exact HB.out)⟩⟩
 case rest =>
  clear HC4
  try clear c1
  try clear c2
  try clear p2
  try clear c6
  try clear c8
  try clear c8b0
  try clear c8b1
  obtain ⟨kq, x31_3, rfl, HA, HJ3, HB⟩ := hcut
  cases kq with
  | zero => exact absurd HA.out (by simp [cyclic_Check.j0])
  | succ kj3 =>
   have H := HA.out
   clear HA
   simp only [cyclic_Check.j0] at H
   by_cases c12 : x31_3 = true
   · subst c12
     have H1 : (some false) = some r := by rw [if_pos rfl] at H; exact H
     clear H
     have H := H1
     clear H1
     obtain rfl := Option.some.inj H
     go_wp2
     repeat (go_quiet (fail); try go_wp2)
     go_ret
     exact ⟨by first | rfl | (simp [errW_none, errW_some] <;> rfl) | (simp [*, errW_none, errW_some] <;> rfl), by repeat (first | (with_reducible first | exact HB.out | apply below_alloc | apply pw_below_drewN | apply below_drew1) | exact HB.out)⟩
   · replace c12 := Bool.eq_false_iff.mpr c12
     subst c12
     have H1 : (cyclic_Check.l0 kj3 l0 a1 l2 (l2.length : Int) 0 M44.new) = some r := by rw [if_neg (show ¬ (false = true) by decide)] at H; exact H
     clear H
     have H := H1
     clear H1
     have H' := Aside0.mk H
     clear H
     go_wp2_with ((with_reducible refine gate_dst (N := 32) rfl ?_); refine map44_event rfl rfl ?_; intro B w9 hge hm hb; have GB := Aside0.mk (show w.heap.size ≤ B from Nat.le_trans (below_size (by repeat (first | (with_reducible first | exact HB.out | apply below_alloc | apply pw_below_drewN | apply below_drew1) | exact HB.out))) hge); have HM := Aside0.mk hm; have nB_ := Aside0.mk (below_step (by repeat (first | (with_reducible first | exact HB.out | apply below_alloc | apply pw_below_drewN | apply below_drew1) | exact HB.out)) hb); clear HB; have HB := nB_; clear nB_ hb hm hge)
     go_loopg [35] kj3 (fun kq v35 w' => ∃ (x35_2 : Int) (m_ : M44), v35 = .int .i64 x35_2 ∧ Aside0 (cyclic_Check.l0 kq l0 a1 l2 (l2.length : Int) x35_2 m_ = some r) ∧ Aside0 (kq ≤ kj3) ∧ Aside0 (Map44 w' B m_) ∧ Aside0 (Below w.heap.size w w'))
     case atStart => exact ⟨(0), M44.new, (by first | rfl | (simp; done) | (simp [*]; done)), H', ⟨Nat.le_refl _⟩, ⟨by repeat (first | (with_reducible first | exact HM.out | apply Map44.alloc | apply Map44.drewN | apply Map44.drew | refine Map44.far ?_ hBne _) | exact HM.out)⟩, ⟨by repeat (first | (with_reducible first | exact HB.out | apply below_alloc | apply pw_below_drewN | apply below_drew1) | exact HB.out)⟩⟩
     case round =>
      clear H'
      try clear c1
      try clear c2
      try clear p2
      try clear c6
      try clear c8
      try clear c8b0
      try clear c8b1
      try clear c12
      try clear p2
      obtain ⟨x35_2, m_, rfl, HA, HK2, HM, HB⟩ := hrel
      cases gk with
      | zero => exact absurd HA.out (by simp [cyclic_Check.l0])
      | succ k2 =>
       have H := HA.out
       clear HA
       simp only [cyclic_Check.l0] at H
       by_cases c13 : x35_2 < (l2.length : Int)
       · rw [if_pos c13] at H
         have c13b0 : decide (x35_2 < (l2.length : Int)) = true := decide_eq_true c13
         clear c13
         by_cases c14 : 0 ≤ x35_2
         · rw [if_pos c14] at H
           have c14b0 : decide (0 ≤ x35_2) = true := decide_eq_true c14
           clear c14
           by_cases c15 : x35_2 < (l2.length : Int)
           · rw [if_pos c15] at H
             have c15b0 : decide (x35_2 < (l2.length : Int)) = true := decide_eq_true c15
             clear c15
             have H' := Aside0.mk H
             clear H
             have p103 : 0 ≤ (x35_2 : Int) := of_decide_eq_true (by first | (with_reducible assumption) | assumption)
             have q103 : x35_2 < (l2.length : Int) := of_decide_eq_true (by first | (with_reducible assumption) | assumption)
             obtain ⟨ad103, A103_0, c103_0, e103, hx103_0, hl103_0, hi103_0⟩ := at_L6 HR2.out x35_2 p103 q103
             cases e103
             replace hx103_0 := (HB.out.cell (World.block_lt_of_cell? w _ hx103_0)).trans hx103_0
             have HR103_0 := Aside0.mk hi103_0
             have HC103_0 := Aside0.mk hl103_0
             clear hi103_0 hl103_0
             replace p103 := eq_true p103
             replace q103 := eq_true q103
             go_wp2
             repeat (go_quiet (fail); try go_wp2)
             go_loopg [10, 42] k2 (fun kq v10 v42 w' => ∃ (x10_3 : Int) (x42_3 : Int) (m_ : M44), v10 = .int .u64 x10_3 ∧ v42 = .int .i64 x42_3 ∧ Aside0 (cyclic_Check.l1 kq l0 a1 x35_2 x10_3 l2 (l2.length : Int) x35_2 (rd_L6 l2 x35_2) ((rd_L6 l2 x35_2).length : Int) x42_3 m_ = some r) ∧ Aside0 (kq ≤ k2) ∧ Aside0 (Map44 w' B m_) ∧ Aside0 (Below w.heap.size w w'))
             case atStart => exact ⟨(0), (0), m_, (by first | rfl | (simp; done) | (simp [*]; done)), (by first | rfl | (simp; done) | (simp [*]; done)), H', ⟨Nat.le_refl _⟩, ⟨by repeat (first | (with_reducible first | exact HM.out | apply Map44.alloc | apply Map44.drewN | apply Map44.drew | refine Map44.far ?_ hBne _) | exact HM.out)⟩, ⟨by repeat (first | (with_reducible first | exact HB.out | apply below_alloc | apply pw_below_drewN | apply below_drew1) | exact HB.out)⟩⟩
             case round =>
              clear H'
              try clear c1
              try clear p1
              try clear q1
              try clear hx1
              try clear c2
              try clear p2
              try clear c6
              try clear c8
              try clear c8b0
              try clear c8b1
              try clear c10
              try clear p10
              try clear q10
              try clear hx10
              try clear c12
              try clear c13
              try clear c13b0
              try clear c14
              try clear c14b0
              try clear c15
              try clear c15b0
              try clear hx103_0
              try clear p103
              try clear p2
              try clear q103
              obtain ⟨x10_3, x42_3, m_, rfl, rfl, HA, HK3, HM, HB⟩ := hrel
              cases gk with
              | zero => exact absurd HA.out (by simp [cyclic_Check.l1])
              | succ k3 =>
               have H := HA.out
               clear HA
               simp only [cyclic_Check.l1] at H
               by_cases c16 : x42_3 < ((rd_L6 l2 x35_2).length : Int)
               · rw [if_pos c16] at H
                 have c16b0 : decide (x42_3 < ((rd_L6 l2 x35_2).length : Int)) = true := decide_eq_true c16
                 clear c16
                 by_cases c17 : 0 ≤ x42_3
                 · rw [if_pos c17] at H
                   have c17b0 : decide (0 ≤ x42_3) = true := decide_eq_true c17
                   clear c17
                   by_cases c18 : x42_3 < ((rd_L6 l2 x35_2).length : Int)
                   · rw [if_pos c18] at H
                     have c18b0 : decide (x42_3 < ((rd_L6 l2 x35_2).length : Int)) = true := decide_eq_true c18
                     clear c18
                     have HC19 := Aside0.mk H
                     clear H
                     have p104 : 0 ≤ (x42_3 : Int) := of_decide_eq_true (by first | (with_reducible assumption) | assumption)
                     have q104 : x42_3 < ((rd_L6 l2 x35_2).length : Int) := of_decide_eq_true (by first | (with_reducible assumption) | assumption)
                     obtain ⟨ad104, e104, hx104_0⟩ := Kd.at_int HR103_0.out x42_3 p104 q104
                     cases e104
                     replace hx104_0 := (HB.out.cell (World.block_lt_of_cell? w _ hx104_0)).trans hx104_0
                     replace p104 := eq_true p104
                     replace q104 := eq_true q104
                     go_upto_region 11 with (fail)
                     repeat (go_quiet (fail); go_upto_region 11 with (fail))
                     go_cut [53] (fun v53 wc => ∃ (kq : Nat) (x53_18 : Bool) (m_ : M44), v53 = .bool x53_18 ∧ Aside0 (cyclic_Check.j3 kq l0 a1 x35_2 x10_3 (rd (rd_L6 l2 x35_2) x42_3) l2 (l2.length : Int) x35_2 (rd_L6 l2 x35_2) ((rd_L6 l2 x35_2).length : Int) x42_3 x53_18 m_ = some r) ∧ Aside0 (kq ≤ k3) ∧ Aside0 (Map44 wc B m_) ∧ Aside0 (Below w.heap.size w wc))
                     case first =>
                      have H := HC19.out
                      clear HC19
                      by_cases c20 : (rd (rd_L6 l2 x35_2) x42_3) < 0
                      · rw [if_pos c20] at H
                        have c20b0 : decide ((rd (rd_L6 l2 x35_2) x42_3) < 0) = true := decide_eq_true c20
                        clear c20
                        (first | rw [c20b0] | (simp only [i64_w, i32_w]; rw [c20b0]) | skip)
                        have H' := Aside0.mk H
                        clear H
                        go_wp2
                        repeat (go_quiet (fail); try go_wp2)
                        go_meet
                        case rel => exact ⟨_, (true), m_, (by first | rfl | (simp; done) | (simp [*]; done)), H', ⟨by have := HJ3.out; have := HK2.out; have := HK3.out; first | omega | exact Nat.le_refl _⟩, ⟨by repeat (first | (with_reducible first | exact HM.out | apply Map44.alloc | apply Map44.drewN | apply Map44.drew | refine Map44.far ?_ hBne _) | exact HM.out)⟩, ⟨by repeat (first | (with_reducible first | exact HB.out | apply below_alloc | apply pw_below_drewN | apply below_drew1) | exact HB.out)⟩⟩
                      · rw [if_neg c20] at H
                        have c20b0 : decide ((rd (rd_L6 l2 x35_2) x42_3) < 0) = false := decide_eq_false c20
                        clear c20
                        (first | rw [c20b0] | (simp only [i64_w, i32_w]; rw [c20b0]) | skip)
                        have H' := Aside0.mk H
                        clear H
                        go_wp2
                        repeat (go_quiet (fail); try go_wp2)
                        go_meet
                        case rel => exact ⟨_, (decide ((rd (rd_L6 l2 x35_2) x42_3) ≥ (l0.length : Int))), m_, (by first | rfl | (simp; done) | (simp [*]; done)), H', ⟨by have := HJ3.out; have := HK2.out; have := HK3.out; first | omega | exact Nat.le_refl _⟩, ⟨by repeat (first | (with_reducible first | exact HM.out | apply Map44.alloc | apply Map44.drewN | apply Map44.drew | refine Map44.far ?_ hBne _) | exact HM.out)⟩, ⟨by repeat (first | (with_reducible first | exact HB.out | apply below_alloc | apply pw_below_drewN | apply below_drew1) | exact HB.out)⟩⟩
                     case rest =>
                      clear HC19
                      try clear c1
                      try clear p1
                      try clear q1
                      try clear hx1
                      try clear c2
                      try clear p2
                      try clear c6
                      try clear c8
                      try clear c8b0
                      try clear c8b1
                      try clear c10
                      try clear p10
                      try clear q10
                      try clear hx10
                      try clear c12
                      try clear c13
                      try clear c13b0
                      try clear c14
                      try clear c14b0
                      try clear c15
                      try clear c15b0
                      try clear c16
                      try clear c16b0
                      try clear c17
                      try clear c17b0
                      try clear c18
                      try clear c18b0
                      try clear c20
                      try clear c20b0
                      try clear hx103_0
                      try clear hx104_0
                      try clear p1
                      try clear p10
                      try clear p103
                      try clear p104
                      try clear p2
                      try clear q1
                      try clear q10
                      try clear q103
                      try clear q104
                      obtain ⟨kq, x53_18, m_, rfl, HA, HJ18, HM, HB⟩ := hcut
                      cases kq with
                      | zero => exact absurd HA.out (by simp [cyclic_Check.j3])
                      | succ kj18 =>
                       have H := HA.out
                       clear HA
                       simp only [cyclic_Check.j3] at H
                       by_cases c21 : x53_18 = true
                       · subst c21
                         have H1 : (some false) = some r := by rw [if_pos rfl] at H; exact H
                         clear H
                         have H := H1
                         clear H1
                         obtain rfl := Option.some.inj H
                         go_wp2
                         repeat (go_quiet (fail); try go_wp2)
                         go_ret
                         exact ⟨by first | rfl | (simp [errW_none, errW_some] <;> rfl) | (simp [*, errW_none, errW_some] <;> rfl), by repeat (first | (with_reducible first | exact HB.out | apply below_alloc | apply pw_below_drewN | apply below_drew1) | exact HB.out)⟩
                       · replace c21 := Bool.eq_false_iff.mpr c21
                         subst c21
                         have H1 : (if 0 ≤ (rd (rd_L6 l2 x35_2) x42_3) then (if (rd (rd_L6 l2 x35_2) x42_3) < (l0.length : Int) then (if ((rd_T34 l0 (rd (rd_L6 l2 x35_2) x42_3)).f1) = 0 then (none) else (if (IntKind.u64.wrap ((IntKind.u64.wrap ((IntKind.u64.wrap (x35_2)) * a1)) + a1)) > (IntKind.u64.wrap ((IntKind.u64.wrap ((IntKind.u64.wrap (Int.tdiv (IntKind.u64.wrap ((IntKind.u64.wrap (x35_2)) * a1)) ((rd_T34 l0 (rd (rd_L6 l2 x35_2) x42_3)).f1))) * ((rd_T34 l0 (rd (rd_L6 l2 x35_2) x42_3)).f1))) + ((rd_T34 l0 (rd (rd_L6 l2 x35_2) x42_3)).f1))) then (some false) else (if m_.2 < 1099511627776 then (if wf44 (⟨(rd (rd_L6 l2 x35_2) x42_3), (IntKind.u64.wrap ((IntKind.u64.wrap (Int.tdiv (IntKind.u64.wrap ((IntKind.u64.wrap (x35_2)) * a1)) ((rd_T34 l0 (rd (rd_L6 l2 x35_2) x42_3)).f1))) * ((rd_T34 l0 (rd (rd_L6 l2 x35_2) x42_3)).f1))), (IntKind.u64.wrap ((IntKind.u64.wrap ((IntKind.u64.wrap (Int.tdiv (IntKind.u64.wrap ((IntKind.u64.wrap (x35_2)) * a1)) ((rd_T34 l0 (rd (rd_L6 l2 x35_2) x42_3)).f1))) * ((rd_T34 l0 (rd (rd_L6 l2 x35_2) x42_3)).f1))) + ((rd_T34 l0 (rd (rd_L6 l2 x35_2) x42_3)).f1)))⟩ : S44) = true then (cyclic_Check.l1 kj18 l0 a1 x35_2 (IntKind.u64.wrap (x10_3 + ((rd_T34 l0 (rd (rd_L6 l2 x35_2) x42_3)).f0))) l2 (l2.length : Int) x35_2 (rd_L6 l2 x35_2) ((rd_L6 l2 x35_2).length : Int) (wrap64 (x42_3 + 1)) (m_.put (⟨(rd (rd_L6 l2 x35_2) x42_3), (IntKind.u64.wrap ((IntKind.u64.wrap (Int.tdiv (IntKind.u64.wrap ((IntKind.u64.wrap (x35_2)) * a1)) ((rd_T34 l0 (rd (rd_L6 l2 x35_2) x42_3)).f1))) * ((rd_T34 l0 (rd (rd_L6 l2 x35_2) x42_3)).f1))), (IntKind.u64.wrap ((IntKind.u64.wrap ((IntKind.u64.wrap (Int.tdiv (IntKind.u64.wrap ((IntKind.u64.wrap (x35_2)) * a1)) ((rd_T34 l0 (rd (rd_L6 l2 x35_2) x42_3)).f1))) * ((rd_T34 l0 (rd (rd_L6 l2 x35_2) x42_3)).f1))) + ((rd_T34 l0 (rd (rd_L6 l2 x35_2) x42_3)).f1)))⟩ : S44) (wrap64 (m_.1 (⟨(rd (rd_L6 l2 x35_2) x42_3), (IntKind.u64.wrap ((IntKind.u64.wrap (Int.tdiv (IntKind.u64.wrap ((IntKind.u64.wrap (x35_2)) * a1)) ((rd_T34 l0 (rd (rd_L6 l2 x35_2) x42_3)).f1))) * ((rd_T34 l0 (rd (rd_L6 l2 x35_2) x42_3)).f1))), (IntKind.u64.wrap ((IntKind.u64.wrap ((IntKind.u64.wrap (Int.tdiv (IntKind.u64.wrap ((IntKind.u64.wrap (x35_2)) * a1)) ((rd_T34 l0 (rd (rd_L6 l2 x35_2) x42_3)).f1))) * ((rd_T34 l0 (rd (rd_L6 l2 x35_2) x42_3)).f1))) + ((rd_T34 l0 (rd (rd_L6 l2 x35_2) x42_3)).f1)))⟩ : S44) + 1)))) else (none)) else (none)))) else (none)) else (none)) = some r := by rw [if_neg (show ¬ (false = true) by decide)] at H; exact H
                         clear H
                         have H := H1
                         clear H1
                         by_cases c22 : 0 ≤ (rd (rd_L6 l2 x35_2) x42_3)
                         · rw [if_pos c22] at H
                           have c22b0 : decide (0 ≤ (rd (rd_L6 l2 x35_2) x42_3)) = true := decide_eq_true c22
                           clear c22
                           by_cases c23 : (rd (rd_L6 l2 x35_2) x42_3) < (l0.length : Int)
                           · rw [if_pos c23] at H
                             have c23b0 : decide ((rd (rd_L6 l2 x35_2) x42_3) < (l0.length : Int)) = true := decide_eq_true c23
                             clear c23
                             by_cases c24 : ((rd_T34 l0 (rd (rd_L6 l2 x35_2) x42_3)).f1) = 0
                             · rw [if_pos c24] at H
                               exact absurd H (by simp)
                             · rw [if_neg c24] at H
                               have c24b0 : (((rd_T34 l0 (rd (rd_L6 l2 x35_2) x42_3)).f1) == 0) = false := beq_eq_false_iff_ne.mpr c24
                               have c24b1 : (((rd_T34 l0 (rd (rd_L6 l2 x35_2) x42_3)).f1) != 0) = true := bne_iff_ne.mpr c24
                               by_cases c25 : (IntKind.u64.wrap ((IntKind.u64.wrap ((IntKind.u64.wrap (x35_2)) * a1)) + a1)) > (IntKind.u64.wrap ((IntKind.u64.wrap ((IntKind.u64.wrap (Int.tdiv (IntKind.u64.wrap ((IntKind.u64.wrap (x35_2)) * a1)) ((rd_T34 l0 (rd (rd_L6 l2 x35_2) x42_3)).f1))) * ((rd_T34 l0 (rd (rd_L6 l2 x35_2) x42_3)).f1))) + ((rd_T34 l0 (rd (rd_L6 l2 x35_2) x42_3)).f1)))
                               · rw [if_pos c25] at H
                                 have c25b0 : decide ((IntKind.u64.wrap ((IntKind.u64.wrap ((IntKind.u64.wrap (Int.tdiv (IntKind.u64.wrap ((IntKind.u64.wrap (x35_2)) * a1)) ((rd_T34 l0 (rd (rd_L6 l2 x35_2) x42_3)).f1))) * ((rd_T34 l0 (rd (rd_L6 l2 x35_2) x42_3)).f1))) + ((rd_T34 l0 (rd (rd_L6 l2 x35_2) x42_3)).f1))) < (IntKind.u64.wrap ((IntKind.u64.wrap ((IntKind.u64.wrap (x35_2)) * a1)) + a1))) = true := decide_eq_true c25
                                 clear c25
                                 obtain rfl := Option.some.inj H
                                 have p105 : 0 ≤ ((rd (rd_L6 l2 x35_2) x42_3) : Int) := of_decide_eq_true (by first | (with_reducible assumption) | assumption)
                                 have q105 : (rd (rd_L6 l2 x35_2) x42_3) < (l0.length : Int) := of_decide_eq_true (by first | (with_reducible assumption) | assumption)
                                 obtain ⟨ad105, e105, hx105_0, hx105_1⟩ := at_T34 HR0.out (rd (rd_L6 l2 x35_2) x42_3) p105 q105
                                 cases e105
                                 replace hx105_0 := (HB.out.cell (World.block_lt_of_cell? w _ hx105_0)).trans hx105_0
                                 replace hx105_1 := (HB.out.cell (World.block_lt_of_cell? w _ hx105_1)).trans hx105_1
                                 replace p105 := eq_true p105
                                 replace q105 := eq_true q105
                                 have p106 : 0 ≤ ((rd (rd_L6 l2 x35_2) x42_3) : Int) := of_decide_eq_true (by first | (with_reducible assumption) | assumption)
                                 have q106 : (rd (rd_L6 l2 x35_2) x42_3) < (l0.length : Int) := of_decide_eq_true (by first | (with_reducible assumption) | assumption)
                                 obtain ⟨ad106, e106, hx106_0, hx106_1⟩ := at_T34 HR0.out (rd (rd_L6 l2 x35_2) x42_3) p106 q106
                                 obtain rfl : ad105 = ad106 := (by injection e106)
                                 replace hx106_0 := (HB.out.cell (World.block_lt_of_cell? w _ hx106_0)).trans hx106_0
                                 replace hx106_1 := (HB.out.cell (World.block_lt_of_cell? w _ hx106_1)).trans hx106_1
                                 replace p106 := eq_true p106
                                 replace q106 := eq_true q106
                                 have p107 : 0 ≤ ((rd (rd_L6 l2 x35_2) x42_3) : Int) := of_decide_eq_true (by first | (with_reducible assumption) | assumption)
                                 have q107 : (rd (rd_L6 l2 x35_2) x42_3) < (l0.length : Int) := of_decide_eq_true (by first | (with_reducible assumption) | assumption)
                                 obtain ⟨ad107, e107, hx107_0, hx107_1⟩ := at_T34 HR0.out (rd (rd_L6 l2 x35_2) x42_3) p107 q107
                                 obtain rfl : ad105 = ad107 := (by injection e107)
                                 replace hx107_0 := (HB.out.cell (World.block_lt_of_cell? w _ hx107_0)).trans hx107_0
                                 replace hx107_1 := (HB.out.cell (World.block_lt_of_cell? w _ hx107_1)).trans hx107_1
                                 replace p107 := eq_true p107
                                 replace q107 := eq_true q107
                                 have p108 : 0 ≤ ((rd (rd_L6 l2 x35_2) x42_3) : Int) := of_decide_eq_true (by first | (with_reducible assumption) | assumption)
                                 have q108 : (rd (rd_L6 l2 x35_2) x42_3) < (l0.length : Int) := of_decide_eq_true (by first | (with_reducible assumption) | assumption)
                                 obtain ⟨ad108, e108, hx108_0, hx108_1⟩ := at_T34 HR0.out (rd (rd_L6 l2 x35_2) x42_3) p108 q108
                                 obtain rfl : ad105 = ad108 := (by injection e108)
                                 replace hx108_0 := (HB.out.cell (World.block_lt_of_cell? w _ hx108_0)).trans hx108_0
                                 replace hx108_1 := (HB.out.cell (World.block_lt_of_cell? w _ hx108_1)).trans hx108_1
                                 replace p108 := eq_true p108
                                 replace q108 := eq_true q108
                                 go_wp2_with (first | ((with_reducible refine gate_dst (N := 15) rfl ?_); (try (refine gate_guard (by rfl) ?_; dsimp only)); refine box_event ?hg (N := 15) ?hd (cs := #[.int .i64 0, .int .u64 0, .int .u64 0]) (t := 44) ?hr ?_; (case hd => rfl); (case hg => rfl); (case hr => first | (go_simp; done) | (go_simp; rfl)); intro gb109 hg w26 hbox hb; have nM_ := Aside0.mk (Map44.below (by repeat (first | (with_reducible first | exact HM.out | apply Map44.alloc | apply Map44.drewN | apply Map44.drew | refine Map44.far ?_ hBne _) | exact HM.out)) hb); have hBne := (nM_.out.ne hbox); clear HM; have HM := nM_; clear nM_; have n0_ := Aside0.mk (below_step (by repeat (first | (with_reducible first | exact HB.out | apply below_alloc | apply pw_below_drewN | apply below_drew1) | exact HB.out)) hb); have n1_ := Aside0.mk (hbox); have n2_ := Aside0.mk ((by rw [hg]; exact (below_size (by repeat (first | (with_reducible first | exact HB.out | apply below_alloc | apply pw_below_drewN | apply below_drew1) | exact HB.out))) : w.heap.size ≤ gb109)); have n3_ := Aside0.mk ((by rw [hg]; exact (below_size (by repeat (first | (with_reducible first | exact HB.out | apply below_alloc | apply pw_below_drewN | apply below_drew1) | exact HB.out))) : w.heap.size ≤ gb109)); clear HB; have HB := n0_; have BK109 := n1_; have GW109 := n2_; have GE109 := n3_; clear n0_ n1_ n2_ n3_; clear hb hbox hg; have hcz27_0 : w26.cell? ⟨gb109, 0, none⟩ = some (.int .i64 0) := (blk_cell BK109.out 0).trans rfl; have hcz27_1 : w26.cell? ⟨gb109, 1, none⟩ = some (.int .u64 0) := (blk_cell BK109.out 1).trans rfl; have hcz27_2 : w26.cell? ⟨gb109, 2, none⟩ = some (.int .u64 0) := (blk_cell BK109.out 2).trans rfl; have hfz27_0 := blk_frozen BK109.out 0; have hfz27_1 := blk_frozen BK109.out 1; have hfz27_2 := blk_frozen BK109.out 2))
                                 repeat (go_quiet (first | ((with_reducible refine gate_dst (N := 15) rfl ?_); (try (refine gate_guard (by rfl) ?_; dsimp only)); refine box_event ?hg (N := 15) ?hd (cs := #[.int .i64 0, .int .u64 0, .int .u64 0]) (t := 44) ?hr ?_; (case hd => rfl); (case hg => rfl); (case hr => first | (go_simp; done) | (go_simp; rfl)); intro gb109 hg w26 hbox hb; have nM_ := Aside0.mk (Map44.below (by repeat (first | (with_reducible first | exact HM.out | apply Map44.alloc | apply Map44.drewN | apply Map44.drew | refine Map44.far ?_ hBne _) | exact HM.out)) hb); have hBne := (nM_.out.ne hbox); clear HM; have HM := nM_; clear nM_; have n0_ := Aside0.mk (below_step (by repeat (first | (with_reducible first | exact HB.out | apply below_alloc | apply pw_below_drewN | apply below_drew1) | exact HB.out)) hb); have n1_ := Aside0.mk (hbox); have n2_ := Aside0.mk ((by rw [hg]; exact (below_size (by repeat (first | (with_reducible first | exact HB.out | apply below_alloc | apply pw_below_drewN | apply below_drew1) | exact HB.out))) : w.heap.size ≤ gb109)); have n3_ := Aside0.mk ((by rw [hg]; exact (below_size (by repeat (first | (with_reducible first | exact HB.out | apply below_alloc | apply pw_below_drewN | apply below_drew1) | exact HB.out))) : w.heap.size ≤ gb109)); clear HB; have HB := n0_; have BK109 := n1_; have GW109 := n2_; have GE109 := n3_; clear n0_ n1_ n2_ n3_; clear hb hbox hg; have hcz27_0 : w26.cell? ⟨gb109, 0, none⟩ = some (.int .i64 0) := (blk_cell BK109.out 0).trans rfl; have hcz27_1 : w26.cell? ⟨gb109, 1, none⟩ = some (.int .u64 0) := (blk_cell BK109.out 1).trans rfl; have hcz27_2 : w26.cell? ⟨gb109, 2, none⟩ = some (.int .u64 0) := (blk_cell BK109.out 2).trans rfl; have hfz27_0 := blk_frozen BK109.out 0; have hfz27_1 := blk_frozen BK109.out 1; have hfz27_2 := blk_frozen BK109.out 2)); try go_wp2_with (first | ((with_reducible refine gate_dst (N := 15) rfl ?_); (try (refine gate_guard (by rfl) ?_; dsimp only)); refine box_event ?hg (N := 15) ?hd (cs := #[.int .i64 0, .int .u64 0, .int .u64 0]) (t := 44) ?hr ?_; (case hd => rfl); (case hg => rfl); (case hr => first | (go_simp; done) | (go_simp; rfl)); intro gb109 hg w26 hbox hb; have nM_ := Aside0.mk (Map44.below (by repeat (first | (with_reducible first | exact HM.out | apply Map44.alloc | apply Map44.drewN | apply Map44.drew | refine Map44.far ?_ hBne _) | exact HM.out)) hb); have hBne := (nM_.out.ne hbox); clear HM; have HM := nM_; clear nM_; have n0_ := Aside0.mk (below_step (by repeat (first | (with_reducible first | exact HB.out | apply below_alloc | apply pw_below_drewN | apply below_drew1) | exact HB.out)) hb); have n1_ := Aside0.mk (hbox); have n2_ := Aside0.mk ((by rw [hg]; exact (below_size (by repeat (first | (with_reducible first | exact HB.out | apply below_alloc | apply pw_below_drewN | apply below_drew1) | exact HB.out))) : w.heap.size ≤ gb109)); have n3_ := Aside0.mk ((by rw [hg]; exact (below_size (by repeat (first | (with_reducible first | exact HB.out | apply below_alloc | apply pw_below_drewN | apply below_drew1) | exact HB.out))) : w.heap.size ≤ gb109)); clear HB; have HB := n0_; have BK109 := n1_; have GW109 := n2_; have GE109 := n3_; clear n0_ n1_ n2_ n3_; clear hb hbox hg; have hcz27_0 : w26.cell? ⟨gb109, 0, none⟩ = some (.int .i64 0) := (blk_cell BK109.out 0).trans rfl; have hcz27_1 : w26.cell? ⟨gb109, 1, none⟩ = some (.int .u64 0) := (blk_cell BK109.out 1).trans rfl; have hcz27_2 : w26.cell? ⟨gb109, 2, none⟩ = some (.int .u64 0) := (blk_cell BK109.out 2).trans rfl; have hfz27_0 := blk_frozen BK109.out 0; have hfz27_1 := blk_frozen BK109.out 1; have hfz27_2 := blk_frozen BK109.out 2)))
                                 go_ret
                                 exact ⟨by first | rfl | (simp [errW_none, errW_some] <;> rfl) | (simp [*, errW_none, errW_some] <;> rfl), by repeat (first | (with_reducible first | exact HB.out | apply below_alloc | apply pw_below_drewN | apply below_drew1 | refine below_set ?_ GE109.out) | exact HB.out)⟩
                               · rw [if_neg c25] at H
                                 have c25b0 : decide ((IntKind.u64.wrap ((IntKind.u64.wrap ((IntKind.u64.wrap (Int.tdiv (IntKind.u64.wrap ((IntKind.u64.wrap (x35_2)) * a1)) ((rd_T34 l0 (rd (rd_L6 l2 x35_2) x42_3)).f1))) * ((rd_T34 l0 (rd (rd_L6 l2 x35_2) x42_3)).f1))) + ((rd_T34 l0 (rd (rd_L6 l2 x35_2) x42_3)).f1))) < (IntKind.u64.wrap ((IntKind.u64.wrap ((IntKind.u64.wrap (x35_2)) * a1)) + a1))) = false := decide_eq_false c25
                                 clear c25
                                 have cm : m_.2 < 1099511627776 := by
                                  refine Decidable.by_contra fun e_ => ?_
                                  rw [if_neg e_] at H
                                  exact absurd H (by simp)
                                 rw [if_pos cm] at H
                                 have cw : wf44 (⟨(rd (rd_L6 l2 x35_2) x42_3), (IntKind.u64.wrap ((IntKind.u64.wrap (Int.tdiv (IntKind.u64.wrap ((IntKind.u64.wrap (x35_2)) * a1)) ((rd_T34 l0 (rd (rd_L6 l2 x35_2) x42_3)).f1))) * ((rd_T34 l0 (rd (rd_L6 l2 x35_2) x42_3)).f1))), (IntKind.u64.wrap ((IntKind.u64.wrap ((IntKind.u64.wrap (Int.tdiv (IntKind.u64.wrap ((IntKind.u64.wrap (x35_2)) * a1)) ((rd_T34 l0 (rd (rd_L6 l2 x35_2) x42_3)).f1))) * ((rd_T34 l0 (rd (rd_L6 l2 x35_2) x42_3)).f1))) + ((rd_T34 l0 (rd (rd_L6 l2 x35_2) x42_3)).f1)))⟩ : S44) = true := by
                                  refine Decidable.by_contra fun e_ => ?_
                                  rw [if_neg e_] at H
                                  exact absurd H (by simp)
                                 rw [if_pos cw] at H
                                 have H' := Aside0.mk H
                                 clear H
                                 have p105 : 0 ≤ ((rd (rd_L6 l2 x35_2) x42_3) : Int) := of_decide_eq_true (by first | (with_reducible assumption) | assumption)
                                 have q105 : (rd (rd_L6 l2 x35_2) x42_3) < (l0.length : Int) := of_decide_eq_true (by first | (with_reducible assumption) | assumption)
                                 obtain ⟨ad105, e105, hx105_0, hx105_1⟩ := at_T34 HR0.out (rd (rd_L6 l2 x35_2) x42_3) p105 q105
                                 cases e105
                                 replace hx105_0 := (HB.out.cell (World.block_lt_of_cell? w _ hx105_0)).trans hx105_0
                                 replace hx105_1 := (HB.out.cell (World.block_lt_of_cell? w _ hx105_1)).trans hx105_1
                                 replace p105 := eq_true p105
                                 replace q105 := eq_true q105
                                 have p106 : 0 ≤ ((rd (rd_L6 l2 x35_2) x42_3) : Int) := of_decide_eq_true (by first | (with_reducible assumption) | assumption)
                                 have q106 : (rd (rd_L6 l2 x35_2) x42_3) < (l0.length : Int) := of_decide_eq_true (by first | (with_reducible assumption) | assumption)
                                 obtain ⟨ad106, e106, hx106_0, hx106_1⟩ := at_T34 HR0.out (rd (rd_L6 l2 x35_2) x42_3) p106 q106
                                 obtain rfl : ad105 = ad106 := (by injection e106)
                                 replace hx106_0 := (HB.out.cell (World.block_lt_of_cell? w _ hx106_0)).trans hx106_0
                                 replace hx106_1 := (HB.out.cell (World.block_lt_of_cell? w _ hx106_1)).trans hx106_1
                                 replace p106 := eq_true p106
                                 replace q106 := eq_true q106
                                 have p107 : 0 ≤ ((rd (rd_L6 l2 x35_2) x42_3) : Int) := of_decide_eq_true (by first | (with_reducible assumption) | assumption)
                                 have q107 : (rd (rd_L6 l2 x35_2) x42_3) < (l0.length : Int) := of_decide_eq_true (by first | (with_reducible assumption) | assumption)
                                 obtain ⟨ad107, e107, hx107_0, hx107_1⟩ := at_T34 HR0.out (rd (rd_L6 l2 x35_2) x42_3) p107 q107
                                 obtain rfl : ad105 = ad107 := (by injection e107)
                                 replace hx107_0 := (HB.out.cell (World.block_lt_of_cell? w _ hx107_0)).trans hx107_0
                                 replace hx107_1 := (HB.out.cell (World.block_lt_of_cell? w _ hx107_1)).trans hx107_1
                                 replace p107 := eq_true p107
                                 replace q107 := eq_true q107
                                 have p108 : 0 ≤ ((rd (rd_L6 l2 x35_2) x42_3) : Int) := of_decide_eq_true (by first | (with_reducible assumption) | assumption)
                                 have q108 : (rd (rd_L6 l2 x35_2) x42_3) < (l0.length : Int) := of_decide_eq_true (by first | (with_reducible assumption) | assumption)
                                 obtain ⟨ad108, e108, hx108_0, hx108_1⟩ := at_T34 HR0.out (rd (rd_L6 l2 x35_2) x42_3) p108 q108
                                 obtain rfl : ad105 = ad108 := (by injection e108)
                                 replace hx108_0 := (HB.out.cell (World.block_lt_of_cell? w _ hx108_0)).trans hx108_0
                                 replace hx108_1 := (HB.out.cell (World.block_lt_of_cell? w _ hx108_1)).trans hx108_1
                                 replace p108 := eq_true p108
                                 replace q108 := eq_true q108
                                 go_wp2_with (first | ((with_reducible refine gate_dst (N := 15) rfl ?_); (try (refine gate_guard (by rfl) ?_; dsimp only)); refine box_event ?hg (N := 15) ?hd (cs := #[.int .i64 0, .int .u64 0, .int .u64 0]) (t := 44) ?hr ?_; (case hd => rfl); (case hg => rfl); (case hr => first | (go_simp; done) | (go_simp; rfl)); intro gb109 hg w28 hbox hb; have nM_ := Aside0.mk (Map44.below (by repeat (first | (with_reducible first | exact HM.out | apply Map44.alloc | apply Map44.drewN | apply Map44.drew | refine Map44.far ?_ hBne _) | exact HM.out)) hb); have hBne := (nM_.out.ne hbox); clear HM; have HM := nM_; clear nM_; have n0_ := Aside0.mk (below_step (by repeat (first | (with_reducible first | exact HB.out | apply below_alloc | apply pw_below_drewN | apply below_drew1) | exact HB.out)) hb); have n1_ := Aside0.mk (hbox); have n2_ := Aside0.mk ((by rw [hg]; exact (below_size (by repeat (first | (with_reducible first | exact HB.out | apply below_alloc | apply pw_below_drewN | apply below_drew1) | exact HB.out))) : w.heap.size ≤ gb109)); have n3_ := Aside0.mk ((by rw [hg]; exact (below_size (by repeat (first | (with_reducible first | exact HB.out | apply below_alloc | apply pw_below_drewN | apply below_drew1) | exact HB.out))) : w.heap.size ≤ gb109)); clear HB; have HB := n0_; have BK109 := n1_; have GW109 := n2_; have GE109 := n3_; clear n0_ n1_ n2_ n3_; clear hb hbox hg; have hcz29_0 : w28.cell? ⟨gb109, 0, none⟩ = some (.int .i64 0) := (blk_cell BK109.out 0).trans rfl; have hcz29_1 : w28.cell? ⟨gb109, 1, none⟩ = some (.int .u64 0) := (blk_cell BK109.out 1).trans rfl; have hcz29_2 : w28.cell? ⟨gb109, 2, none⟩ = some (.int .u64 0) := (blk_cell BK109.out 2).trans rfl; have hfz29_0 := blk_frozen BK109.out 0; have hfz29_1 := blk_frozen BK109.out 1; have hfz29_2 := blk_frozen BK109.out 2))
                                 go_quiet (fail)
                                 go_wp2_with (first | ((with_reducible refine gate_dst (N := 15) rfl ?_); (try (refine gate_guard (by rfl) ?_; dsimp only)); refine box_event ?hg (N := 15) ?hd (cs := #[.int .i64 0, .int .u64 0, .int .u64 0]) (t := 44) ?hr ?_; (case hd => rfl); (case hg => rfl); (case hr => first | (go_simp; done) | (go_simp; rfl)); intro gb109 hg w28 hbox hb; have nM_ := Aside0.mk (Map44.below (by repeat (first | (with_reducible first | exact HM.out | apply Map44.alloc | apply Map44.drewN | apply Map44.drew | refine Map44.far ?_ hBne _) | exact HM.out)) hb); have hBne := (nM_.out.ne hbox); clear HM; have HM := nM_; clear nM_; have n0_ := Aside0.mk (below_step (by repeat (first | (with_reducible first | exact HB.out | apply below_alloc | apply pw_below_drewN | apply below_drew1) | exact HB.out)) hb); have n1_ := Aside0.mk (hbox); have n2_ := Aside0.mk ((by rw [hg]; exact (below_size (by repeat (first | (with_reducible first | exact HB.out | apply below_alloc | apply pw_below_drewN | apply below_drew1) | exact HB.out))) : w.heap.size ≤ gb109)); have n3_ := Aside0.mk ((by rw [hg]; exact (below_size (by repeat (first | (with_reducible first | exact HB.out | apply below_alloc | apply pw_below_drewN | apply below_drew1) | exact HB.out))) : w.heap.size ≤ gb109)); clear HB; have HB := n0_; have BK109 := n1_; have GW109 := n2_; have GE109 := n3_; clear n0_ n1_ n2_ n3_; clear hb hbox hg; have hcz29_0 : w28.cell? ⟨gb109, 0, none⟩ = some (.int .i64 0) := (blk_cell BK109.out 0).trans rfl; have hcz29_1 : w28.cell? ⟨gb109, 1, none⟩ = some (.int .u64 0) := (blk_cell BK109.out 1).trans rfl; have hcz29_2 : w28.cell? ⟨gb109, 2, none⟩ = some (.int .u64 0) := (blk_cell BK109.out 2).trans rfl; have hfz29_0 := blk_frozen BK109.out 0; have hfz29_1 := blk_frozen BK109.out 1; have hfz29_2 := blk_frozen BK109.out 2))
                                 refine world_of (fun W => Map44 W B m_ ∧ Below w.heap.size w W ∧ W.heap[gb109]? = some (.cells #[.int .i64 (rd (rd_L6 l2 x35_2) x42_3), .int .u64 (IntKind.u64.wrap ((IntKind.u64.wrap (Int.tdiv (IntKind.u64.wrap ((IntKind.u64.wrap (x35_2)) * a1)) ((rd_T34 l0 (rd (rd_L6 l2 x35_2) x42_3)).f1))) * ((rd_T34 l0 (rd (rd_L6 l2 x35_2) x42_3)).f1))), .int .u64 (IntKind.u64.wrap ((IntKind.u64.wrap ((IntKind.u64.wrap (Int.tdiv (IntKind.u64.wrap ((IntKind.u64.wrap (x35_2)) * a1)) ((rd_T34 l0 (rd (rd_L6 l2 x35_2) x42_3)).f1))) * ((rd_T34 l0 (rd (rd_L6 l2 x35_2) x42_3)).f1))) + ((rd_T34 l0 (rd (rd_L6 l2 x35_2) x42_3)).f1)))] 44 (0, 0))) ⟨by repeat (first | (with_reducible first | exact HM.out | apply Map44.alloc | apply Map44.drewN | apply Map44.drew | refine Map44.far ?_ hBne _) | exact HM.out), by repeat (first | (with_reducible first | exact HB.out | apply below_alloc | apply pw_below_drewN | apply below_drew1 | refine below_set ?_ GE109.out) | exact HB.out), by (with_reducible repeat (first | refine blk_drewN ?_ _ | refine blk_drew ?_ | refine blk_alloc ?_ _)); refine blk_put (cs := #[.int .i64 (rd (rd_L6 l2 x35_2) x42_3), .int .u64 (IntKind.u64.wrap ((IntKind.u64.wrap (Int.tdiv (IntKind.u64.wrap ((IntKind.u64.wrap (x35_2)) * a1)) ((rd_T34 l0 (rd (rd_L6 l2 x35_2) x42_3)).f1))) * ((rd_T34 l0 (rd (rd_L6 l2 x35_2) x42_3)).f1))), .int .u64 0]) ?_ 2 _ rfl; (with_reducible repeat (first | refine blk_drewN ?_ _ | refine blk_drew ?_ | refine blk_alloc ?_ _)); refine blk_put (cs := #[.int .i64 (rd (rd_L6 l2 x35_2) x42_3), .int .u64 0, .int .u64 0]) ?_ 1 _ rfl; (with_reducible repeat (first | refine blk_drewN ?_ _ | refine blk_drew ?_ | refine blk_alloc ?_ _)); refine blk_put (cs := #[.int .i64 0, .int .u64 0, .int .u64 0]) ?_ 0 _ rfl; (with_reducible repeat (first | refine blk_drewN ?_ _ | refine blk_drew ?_ | refine blk_alloc ?_ _)); exact BK109.out⟩ ?_
                                 rintro W9 ⟨hM9, hB9, hK9⟩
                                 have hne9 : gb109 ≠ B := fun e_ => (hM9.ne hK9) e_.symm
                                 have hlk0 := (hM9.drew.look (⟨(rd (rd_L6 l2 x35_2) x42_3), (IntKind.u64.wrap ((IntKind.u64.wrap (Int.tdiv (IntKind.u64.wrap ((IntKind.u64.wrap (x35_2)) * a1)) ((rd_T34 l0 (rd (rd_L6 l2 x35_2) x42_3)).f1))) * ((rd_T34 l0 (rd (rd_L6 l2 x35_2) x42_3)).f1))), (IntKind.u64.wrap ((IntKind.u64.wrap ((IntKind.u64.wrap (Int.tdiv (IntKind.u64.wrap ((IntKind.u64.wrap (x35_2)) * a1)) ((rd_T34 l0 (rd (rd_L6 l2 x35_2) x42_3)).f1))) * ((rd_T34 l0 (rd (rd_L6 l2 x35_2) x42_3)).f1))) + ((rd_T34 l0 (rd (rd_L6 l2 x35_2) x42_3)).f1)))⟩ : S44) cw).1
                                 obtain ⟨v9, st9, W10, hent, hg1, hlk1, hst⟩ := hM9.drew.entry cm (⟨(rd (rd_L6 l2 x35_2) x42_3), (IntKind.u64.wrap ((IntKind.u64.wrap (Int.tdiv (IntKind.u64.wrap ((IntKind.u64.wrap (x35_2)) * a1)) ((rd_T34 l0 (rd (rd_L6 l2 x35_2) x42_3)).f1))) * ((rd_T34 l0 (rd (rd_L6 l2 x35_2) x42_3)).f1))), (IntKind.u64.wrap ((IntKind.u64.wrap ((IntKind.u64.wrap (Int.tdiv (IntKind.u64.wrap ((IntKind.u64.wrap (x35_2)) * a1)) ((rd_T34 l0 (rd (rd_L6 l2 x35_2) x42_3)).f1))) * ((rd_T34 l0 (rd (rd_L6 l2 x35_2) x42_3)).f1))) + ((rd_T34 l0 (rd (rd_L6 l2 x35_2) x42_3)).f1)))⟩ : S44) cw
                                 obtain ⟨W11, hst1, hM11, hg11⟩ := hst (wrap64 (m_.1 (⟨(rd (rd_L6 l2 x35_2) x42_3), (IntKind.u64.wrap ((IntKind.u64.wrap (Int.tdiv (IntKind.u64.wrap ((IntKind.u64.wrap (x35_2)) * a1)) ((rd_T34 l0 (rd (rd_L6 l2 x35_2) x42_3)).f1))) * ((rd_T34 l0 (rd (rd_L6 l2 x35_2) x42_3)).f1))), (IntKind.u64.wrap ((IntKind.u64.wrap ((IntKind.u64.wrap (Int.tdiv (IntKind.u64.wrap ((IntKind.u64.wrap (x35_2)) * a1)) ((rd_T34 l0 (rd (rd_L6 l2 x35_2) x42_3)).f1))) * ((rd_T34 l0 (rd (rd_L6 l2 x35_2) x42_3)).f1))) + ((rd_T34 l0 (rd (rd_L6 l2 x35_2) x42_3)).f1)))⟩ : S44) + 1)) (wrap64_wf _)
                                 have hK10 : W10.heap[gb109]? = some (.cells #[.int .i64 (rd (rd_L6 l2 x35_2) x42_3), .int .u64 (IntKind.u64.wrap ((IntKind.u64.wrap (Int.tdiv (IntKind.u64.wrap ((IntKind.u64.wrap (x35_2)) * a1)) ((rd_T34 l0 (rd (rd_L6 l2 x35_2) x42_3)).f1))) * ((rd_T34 l0 (rd (rd_L6 l2 x35_2) x42_3)).f1))), .int .u64 (IntKind.u64.wrap ((IntKind.u64.wrap ((IntKind.u64.wrap (Int.tdiv (IntKind.u64.wrap ((IntKind.u64.wrap (x35_2)) * a1)) ((rd_T34 l0 (rd (rd_L6 l2 x35_2) x42_3)).f1))) * ((rd_T34 l0 (rd (rd_L6 l2 x35_2) x42_3)).f1))) + ((rd_T34 l0 (rd (rd_L6 l2 x35_2) x42_3)).f1)))] 44 (0, 0)) := (hg1.block gb109 (blk_lt hK9) (fun e_ => hne9 (Option.some.inj e_))).trans hK9
                                 have hc90 : W9.cell? ⟨gb109, 0, none⟩ = some (.int .i64 (rd (rd_L6 l2 x35_2) x42_3)) := (blk_cell hK9 0).trans rfl
                                 have hc91 : W9.cell? ⟨gb109, 1, none⟩ = some (.int .u64 (IntKind.u64.wrap ((IntKind.u64.wrap (Int.tdiv (IntKind.u64.wrap ((IntKind.u64.wrap (x35_2)) * a1)) ((rd_T34 l0 (rd (rd_L6 l2 x35_2) x42_3)).f1))) * ((rd_T34 l0 (rd (rd_L6 l2 x35_2) x42_3)).f1)))) := (blk_cell hK9 1).trans rfl
                                 have hc92 : W9.cell? ⟨gb109, 2, none⟩ = some (.int .u64 (IntKind.u64.wrap ((IntKind.u64.wrap ((IntKind.u64.wrap (Int.tdiv (IntKind.u64.wrap ((IntKind.u64.wrap (x35_2)) * a1)) ((rd_T34 l0 (rd (rd_L6 l2 x35_2) x42_3)).f1))) * ((rd_T34 l0 (rd (rd_L6 l2 x35_2) x42_3)).f1))) + ((rd_T34 l0 (rd (rd_L6 l2 x35_2) x42_3)).f1)))) := (blk_cell hK9 2).trans rfl
                                 have hc10 : W10.cell? ⟨gb109, 0, none⟩ = some (.int .i64 (rd (rd_L6 l2 x35_2) x42_3)) := (blk_cell hK10 0).trans rfl
                                 have hc11 : W10.cell? ⟨gb109, 1, none⟩ = some (.int .u64 (IntKind.u64.wrap ((IntKind.u64.wrap (Int.tdiv (IntKind.u64.wrap ((IntKind.u64.wrap (x35_2)) * a1)) ((rd_T34 l0 (rd (rd_L6 l2 x35_2) x42_3)).f1))) * ((rd_T34 l0 (rd (rd_L6 l2 x35_2) x42_3)).f1)))) := (blk_cell hK10 1).trans rfl
                                 have hc12 : W10.cell? ⟨gb109, 2, none⟩ = some (.int .u64 (IntKind.u64.wrap ((IntKind.u64.wrap ((IntKind.u64.wrap (Int.tdiv (IntKind.u64.wrap ((IntKind.u64.wrap (x35_2)) * a1)) ((rd_T34 l0 (rd (rd_L6 l2 x35_2) x42_3)).f1))) * ((rd_T34 l0 (rd (rd_L6 l2 x35_2) x42_3)).f1))) + ((rd_T34 l0 (rd (rd_L6 l2 x35_2) x42_3)).f1)))) := (blk_cell hK10 2).trans rfl
                                 have HM11 := Aside0.mk hM11
                                 have HB11 := Aside0.mk ((below_drew hB9).grown hg11 hB9.size (fun k_ e_ => Option.some.inj e_ ▸ GB.out))
                                 clear hM9 hK9 hK10 hst hM11 hg1 hg11 hB9 hne9 HM HB cm
                                 simp only [enc44] at hlk0 hlk1 hent hst1
                                 clear cw
                                 go_region
                                 go_wp2
                                 go_roundg kj18
                                 case measure => have := HJ3.out; have := HK2.out; have := HK3.out; have := HJ18.out; omega
                                 case rel => exact ⟨(IntKind.u64.wrap (x10_3 + ((rd_T34 l0 (rd (rd_L6 l2 x35_2) x42_3)).f0))), (wrap64 (x42_3 + 1)), (m_.put (⟨(rd (rd_L6 l2 x35_2) x42_3), (IntKind.u64.wrap ((IntKind.u64.wrap (Int.tdiv (IntKind.u64.wrap ((IntKind.u64.wrap (x35_2)) * a1)) ((rd_T34 l0 (rd (rd_L6 l2 x35_2) x42_3)).f1))) * ((rd_T34 l0 (rd (rd_L6 l2 x35_2) x42_3)).f1))), (IntKind.u64.wrap ((IntKind.u64.wrap ((IntKind.u64.wrap (Int.tdiv (IntKind.u64.wrap ((IntKind.u64.wrap (x35_2)) * a1)) ((rd_T34 l0 (rd (rd_L6 l2 x35_2) x42_3)).f1))) * ((rd_T34 l0 (rd (rd_L6 l2 x35_2) x42_3)).f1))) + ((rd_T34 l0 (rd (rd_L6 l2 x35_2) x42_3)).f1)))⟩ : S44) (wrap64 (m_.1 (⟨(rd (rd_L6 l2 x35_2) x42_3), (IntKind.u64.wrap ((IntKind.u64.wrap (Int.tdiv (IntKind.u64.wrap ((IntKind.u64.wrap (x35_2)) * a1)) ((rd_T34 l0 (rd (rd_L6 l2 x35_2) x42_3)).f1))) * ((rd_T34 l0 (rd (rd_L6 l2 x35_2) x42_3)).f1))), (IntKind.u64.wrap ((IntKind.u64.wrap ((IntKind.u64.wrap (Int.tdiv (IntKind.u64.wrap ((IntKind.u64.wrap (x35_2)) * a1)) ((rd_T34 l0 (rd (rd_L6 l2 x35_2) x42_3)).f1))) * ((rd_T34 l0 (rd (rd_L6 l2 x35_2) x42_3)).f1))) + ((rd_T34 l0 (rd (rd_L6 l2 x35_2) x42_3)).f1)))⟩ : S44) + 1))), rfl, rfl, H', ⟨by have := HJ3.out; have := HK2.out; have := HK3.out; have := HJ18.out; omega⟩, HM11, HB11⟩
                           · rw [if_neg c23] at H
                             exact absurd H (by simp)
                         · rw [if_neg c22] at H
                           exact absurd H (by simp)
                   · rw [if_neg c18] at H
                     exact absurd H (by simp)
                 · rw [if_neg c17] at H
                   exact absurd H (by simp)
               · rw [if_neg c16] at H
                 have c16b0 : decide (x42_3 < ((rd_L6 l2 x35_2).length : Int)) = false := decide_eq_false c16
                 clear c16
                 by_cases c30 : x10_3 > a1
                 · rw [if_pos c30] at H
                   have c30b0 : decide (a1 < x10_3) = true := decide_eq_true c30
                   clear c30
                   obtain rfl := Option.some.inj H
                   go_wp2
                   repeat (go_quiet (fail); try go_wp2)
                   go_ret
                   exact ⟨by first | rfl | (simp [errW_none, errW_some] <;> rfl) | (simp [*, errW_none, errW_some] <;> rfl), by repeat (first | (with_reducible first | exact HB.out | apply below_alloc | apply pw_below_drewN | apply below_drew1) | exact HB.out)⟩
                 · rw [if_neg c30] at H
                   have c30b0 : decide (a1 < x10_3) = false := decide_eq_false c30
                   clear c30
                   have H' := Aside0.mk H
                   clear H
                   go_wp2
                   repeat (go_quiet (fail); try go_wp2)
                   go_roundg k3
                   case measure => have := HJ3.out; have := HK2.out; have := HK3.out; omega
                   case rel => exact ⟨(wrap64 (x35_2 + 1)), m_, (by first | rfl | (simp; done) | (simp [*]; done)), H', ⟨by have := HJ3.out; have := HK2.out; have := HK3.out; omega⟩, ⟨by repeat (first | (with_reducible first | exact HM.out | apply Map44.alloc | apply Map44.drewN | apply Map44.drew | refine Map44.far ?_ hBne _) | exact HM.out)⟩, ⟨by repeat (first | (with_reducible first | exact HB.out | apply below_alloc | apply pw_below_drewN | apply below_drew1) | exact HB.out)⟩⟩
           · rw [if_neg c15] at H
             exact absurd H (by simp)
         · rw [if_neg c14] at H
           exact absurd H (by simp)
       · rw [if_neg c13] at H
         have c13b0 : decide (x35_2 < (l2.length : Int)) = false := decide_eq_false c13
         clear c13
         replace H := Option.bind_eq_some_iff.mp H
         obtain ⟨t110, A310, H⟩ := H
         replace H : (cyclic_Check.l2 k2 t110 (t110.length : Int) 0 m_) = some r := H
         have A31 := Aside0.mk A310
         clear A310
         have H' := Aside0.mk H
         clear H
         go_wp2_with (first | (go_at_call 19; (with_reducible refine (cyclic_works.calls k2 _ _ l0 t110 _ ?side1 ?side2 A31.out).mono ?_); (case side1 => repeat (first | exact (Kd.C_below HR0.out HB.out) | (with_reducible refine Kd.C_alloc ?_ _) | (with_reducible refine Kd.C_drewN ?_ _) | (with_reducible refine Kd.C_drew ?_))); (case side2 => exact HC0.out); rintro e w32 ⟨v111, rfl, ho0, hb⟩; have nM_ := Aside0.mk (Map44.below (by repeat (first | (with_reducible first | exact HM.out | apply Map44.alloc | apply Map44.drewN | apply Map44.drew | refine Map44.far ?_ hBne _) | exact HM.out)) hb); clear HM; have HM := nM_; clear nM_; have n0_ := Aside0.mk (Kd.R_lower ho0 (below_size (by repeat (first | (with_reducible first | exact HB.out | apply below_alloc | apply pw_below_drewN | apply below_drew1) | exact HB.out)))); have n1_ := Aside0.mk (below_step (by repeat (first | (with_reducible first | exact HB.out | apply below_alloc | apply pw_below_drewN | apply below_drew1) | exact HB.out)) hb); clear HB; have HO112 := n0_; have HB := n1_; clear n0_ n1_; (try clear hb); (try clear hb2); (try clear hk); (try clear hi); (try clear ho0); obtain ⟨Ao33, co33, eo33⟩ := Kd.R_slice HO112.out; subst eo33))
         repeat (go_quiet (first | (go_at_call 19; (with_reducible refine (cyclic_works.calls k2 _ _ l0 t110 _ ?side1 ?side2 A31.out).mono ?_); (case side1 => repeat (first | exact (Kd.C_below HR0.out HB.out) | (with_reducible refine Kd.C_alloc ?_ _) | (with_reducible refine Kd.C_drewN ?_ _) | (with_reducible refine Kd.C_drew ?_))); (case side2 => exact HC0.out); rintro e w32 ⟨v111, rfl, ho0, hb⟩; have nM_ := Aside0.mk (Map44.below (by repeat (first | (with_reducible first | exact HM.out | apply Map44.alloc | apply Map44.drewN | apply Map44.drew | refine Map44.far ?_ hBne _) | exact HM.out)) hb); clear HM; have HM := nM_; clear nM_; have n0_ := Aside0.mk (Kd.R_lower ho0 (below_size (by repeat (first | (with_reducible first | exact HB.out | apply below_alloc | apply pw_below_drewN | apply below_drew1) | exact HB.out)))); have n1_ := Aside0.mk (below_step (by repeat (first | (with_reducible first | exact HB.out | apply below_alloc | apply pw_below_drewN | apply below_drew1) | exact HB.out)) hb); clear HB; have HO112 := n0_; have HB := n1_; clear n0_ n1_; (try clear hb); (try clear hb2); (try clear hk); (try clear hi); (try clear ho0); obtain ⟨Ao33, co33, eo33⟩ := Kd.R_slice HO112.out; subst eo33)); try go_wp2_with (first | (go_at_call 19; (with_reducible refine (cyclic_works.calls k2 _ _ l0 t110 _ ?side1 ?side2 A31.out).mono ?_); (case side1 => repeat (first | exact (Kd.C_below HR0.out HB.out) | (with_reducible refine Kd.C_alloc ?_ _) | (with_reducible refine Kd.C_drewN ?_ _) | (with_reducible refine Kd.C_drew ?_))); (case side2 => exact HC0.out); rintro e w32 ⟨v111, rfl, ho0, hb⟩; have nM_ := Aside0.mk (Map44.below (by repeat (first | (with_reducible first | exact HM.out | apply Map44.alloc | apply Map44.drewN | apply Map44.drew | refine Map44.far ?_ hBne _) | exact HM.out)) hb); clear HM; have HM := nM_; clear nM_; have n0_ := Aside0.mk (Kd.R_lower ho0 (below_size (by repeat (first | (with_reducible first | exact HB.out | apply below_alloc | apply pw_below_drewN | apply below_drew1) | exact HB.out)))); have n1_ := Aside0.mk (below_step (by repeat (first | (with_reducible first | exact HB.out | apply below_alloc | apply pw_below_drewN | apply below_drew1) | exact HB.out)) hb); clear HB; have HO112 := n0_; have HB := n1_; clear n0_ n1_; (try clear hb); (try clear hb2); (try clear hk); (try clear hi); (try clear ho0); obtain ⟨Ao33, co33, eo33⟩ := Kd.R_slice HO112.out; subst eo33)))
         (try simp only [Act.put, List.setIfInBounds_toArray, List.set_cons_zero, List.set_cons_succ])
         go_loopg [108] k2 (fun kq v108 w' => ∃ (x108_3 : Int) (m_ : M44), v108 = .int .i64 x108_3 ∧ Aside0 (cyclic_Check.l2 kq t110 (t110.length : Int) x108_3 m_ = some r) ∧ Aside0 (kq ≤ k2) ∧ Aside0 (Kd.R k44 44 w' w.heap.size (fun _ => True) (.slice Ao33 t110.length co33) t110) ∧ Aside0 (Map44 w' B m_) ∧ Aside0 (Below w.heap.size w w'))
         case atStart => exact ⟨(0), m_, (by first | rfl | (simp; done) | (simp [*]; done)), H', ⟨Nat.le_refl _⟩, ⟨by (with_reducible repeat (first | apply Kd.R_alloc | apply Kd.R_drewN | apply Kd.R_drew)); exact HO112.out⟩, ⟨by repeat (first | (with_reducible first | exact HM.out | apply Map44.alloc | apply Map44.drewN | apply Map44.drew | refine Map44.far ?_ hBne _) | exact HM.out)⟩, ⟨by repeat (first | (with_reducible first | exact HB.out | apply below_alloc | apply pw_below_drewN | apply below_drew1) | exact HB.out)⟩⟩
         case round =>
          clear H'
          try clear c1
          try clear p1
          try clear q1
          try clear hx1
          try clear c2
          try clear p2
          try clear c3
          try clear c6
          try clear p6
          try clear c8
          try clear c8b0
          try clear c8b1
          try clear c10
          try clear p10
          try clear q10
          try clear hx10
          try clear c12
          try clear c13
          try clear c13b0
          try clear c14
          try clear c14b0
          try clear c15
          try clear c15b0
          try clear c16
          try clear c16b0
          try clear c17
          try clear c17b0
          try clear c18
          try clear c18b0
          try clear c20
          try clear c20b0
          try clear c21
          try clear c22
          try clear c22b0
          try clear c23
          try clear c23b0
          try clear c24
          try clear c24b0
          try clear c24b1
          try clear c25
          try clear c25b0
          try clear c30
          try clear c30b0
          try clear hcz27_0
          try clear hcz27_1
          try clear hcz27_2
          try clear hcz29_0
          try clear hcz29_1
          try clear hcz29_2
          try clear hfz27_0
          try clear hfz27_1
          try clear hfz27_2
          try clear hfz29_0
          try clear hfz29_1
          try clear hfz29_2
          try clear hx103_0
          try clear hx104_0
          try clear hx105_0
          try clear hx105_1
          try clear hx106_0
          try clear hx106_1
          try clear hx107_0
          try clear hx107_1
          try clear hx108_0
          try clear hx108_1
          try clear p1
          try clear p10
          try clear p103
          try clear p104
          try clear p105
          try clear p106
          try clear p107
          try clear p108
          try clear p2
          try clear q1
          try clear q10
          try clear q103
          try clear q104
          try clear q105
          try clear q106
          try clear q107
          try clear q108
          obtain ⟨x108_3, m_, rfl, HA, HK3, HO_106, HM, HB⟩ := hrel
          cases gk with
          | zero => exact absurd HA.out (by simp [cyclic_Check.l2])
          | succ k3 =>
           have H := HA.out
           clear HA
           simp only [cyclic_Check.l2] at H
           by_cases c34 : x108_3 < (t110.length : Int)
           · rw [if_pos c34] at H
             have c34b0 : decide (x108_3 < (t110.length : Int)) = true := decide_eq_true c34
             clear c34
             by_cases c35 : 0 ≤ x108_3
             · rw [if_pos c35] at H
               have c35b0 : decide (0 ≤ x108_3) = true := decide_eq_true c35
               clear c35
               by_cases c36 : x108_3 < (t110.length : Int)
               · rw [if_pos c36] at H
                 have c36b0 : decide (x108_3 < (t110.length : Int)) = true := decide_eq_true c36
                 clear c36
                 have cw : wf44 (rd_T44 t110 x108_3) = true := by
                  refine Decidable.by_contra fun e_ => ?_
                  rw [if_neg e_] at H
                  exact absurd H (by simp)
                 rw [if_pos cw] at H
                 by_cases c37 : (m_.1 (rd_T44 t110 x108_3)) = 1
                 · rw [if_pos c37] at H
                   have c37b0 : ((m_.1 (rd_T44 t110 x108_3)) == 1) = true := beq_iff_eq.mpr c37
                   have c37b1 : ((m_.1 (rd_T44 t110 x108_3)) != 1) = false := bne_eq_false_iff_eq.mpr c37
                   clear c37
                   have H' := Aside0.mk H
                   clear H
                   have p113 : 0 ≤ (x108_3 : Int) := of_decide_eq_true (by first | (with_reducible assumption) | assumption)
                   have q113 : x108_3 < (t110.length : Int) := of_decide_eq_true (by first | (with_reducible assumption) | assumption)
                   obtain ⟨ad113, e113, hx113_0, hx113_1, hx113_2⟩ := at_T44 (Kd.R_reads' HO_106.out).2.2 x108_3 p113 q113
                   cases e113
                   replace p113 := eq_true p113
                   replace q113 := eq_true q113
                   go_wp2_with (first | (at_lookup; refine wp_look44 ?a1 112 113 ?a2 ?a3 (B := B) (m := m_) (s := (rd_T44 t110 x108_3)) ?a4 ?hM cw ?_; (case a1 => rfl); (case a2 => rfl); (case a3 => rfl); (case a4 => rfl); (case hM => exact (by repeat (first | (with_reducible first | exact HM.out | apply Map44.alloc | apply Map44.drewN | apply Map44.drew | refine Map44.far ?_ hBne _) | exact HM.out)))) | ((with_reducible refine gate_dst (N := 17) rfl ?_); (try (refine gate_guard (by rfl) ?_; dsimp only)); refine box_event ?hg (N := 17) ?hd (cs := #[.int .i64 0, .int .u64 0, .int .u64 0]) (t := 44) ?hr ?_; (case hd => rfl); (case hg => rfl); (case hr => first | (go_simp; done) | (go_simp; rfl)); intro gb114 hg w38 hbox hb; have nM_ := Aside0.mk (Map44.below (by repeat (first | (with_reducible first | exact HM.out | apply Map44.alloc | apply Map44.drewN | apply Map44.drew | refine Map44.far ?_ hBne _) | exact HM.out)) hb); have hBne := (nM_.out.ne hbox); clear HM; have HM := nM_; clear nM_; have n0_ := Aside0.mk (Kd.R_below (Kd.R_elderB (by (with_reducible repeat (first | apply Kd.R_alloc | apply Kd.R_drewN | apply Kd.R_drew)); exact HO_106.out) gb114 (Nat.le_of_eq hg.symm)) hb); have n1_ := Aside0.mk (below_step (by repeat (first | (with_reducible first | exact HB.out | apply below_alloc | apply pw_below_drewN | apply below_drew1) | exact HB.out)) hb); have n2_ := Aside0.mk (hbox); have n3_ := Aside0.mk ((by rw [hg]; exact (below_size (by repeat (first | (with_reducible first | exact HB.out | apply below_alloc | apply pw_below_drewN | apply below_drew1) | exact HB.out))) : w.heap.size ≤ gb114)); have n4_ := Aside0.mk ((by rw [hg]; exact (below_size (by repeat (first | (with_reducible first | exact HB.out | apply below_alloc | apply pw_below_drewN | apply below_drew1) | exact HB.out))) : w.heap.size ≤ gb114)); clear HO_106; clear HB; have HO_106 := n0_; have HB := n1_; have BK114 := n2_; have GW114 := n3_; have GE114 := n4_; clear n0_ n1_ n2_ n3_ n4_; clear hb hbox hg; have hcz39_0 : w38.cell? ⟨gb114, 0, none⟩ = some (.int .i64 0) := (blk_cell BK114.out 0).trans rfl; have hcz39_1 : w38.cell? ⟨gb114, 1, none⟩ = some (.int .u64 0) := (blk_cell BK114.out 1).trans rfl; have hcz39_2 : w38.cell? ⟨gb114, 2, none⟩ = some (.int .u64 0) := (blk_cell BK114.out 2).trans rfl; have hfz39_0 := blk_frozen BK114.out 0; have hfz39_1 := blk_frozen BK114.out 1; have hfz39_2 := blk_frozen BK114.out 2))
                   repeat (go_quiet (first | (at_lookup; refine wp_look44 ?a1 112 113 ?a2 ?a3 (B := B) (m := m_) (s := (rd_T44 t110 x108_3)) ?a4 ?hM cw ?_; (case a1 => rfl); (case a2 => rfl); (case a3 => rfl); (case a4 => rfl); (case hM => exact (by repeat (first | (with_reducible first | exact HM.out | apply Map44.alloc | apply Map44.drewN | apply Map44.drew | refine Map44.far ?_ hBne _) | exact HM.out)))) | ((with_reducible refine gate_dst (N := 17) rfl ?_); (try (refine gate_guard (by rfl) ?_; dsimp only)); refine box_event ?hg (N := 17) ?hd (cs := #[.int .i64 0, .int .u64 0, .int .u64 0]) (t := 44) ?hr ?_; (case hd => rfl); (case hg => rfl); (case hr => first | (go_simp; done) | (go_simp; rfl)); intro gb114 hg w38 hbox hb; have nM_ := Aside0.mk (Map44.below (by repeat (first | (with_reducible first | exact HM.out | apply Map44.alloc | apply Map44.drewN | apply Map44.drew | refine Map44.far ?_ hBne _) | exact HM.out)) hb); have hBne := (nM_.out.ne hbox); clear HM; have HM := nM_; clear nM_; have n0_ := Aside0.mk (Kd.R_below (Kd.R_elderB (by (with_reducible repeat (first | apply Kd.R_alloc | apply Kd.R_drewN | apply Kd.R_drew)); exact HO_106.out) gb114 (Nat.le_of_eq hg.symm)) hb); have n1_ := Aside0.mk (below_step (by repeat (first | (with_reducible first | exact HB.out | apply below_alloc | apply pw_below_drewN | apply below_drew1) | exact HB.out)) hb); have n2_ := Aside0.mk (hbox); have n3_ := Aside0.mk ((by rw [hg]; exact (below_size (by repeat (first | (with_reducible first | exact HB.out | apply below_alloc | apply pw_below_drewN | apply below_drew1) | exact HB.out))) : w.heap.size ≤ gb114)); have n4_ := Aside0.mk ((by rw [hg]; exact (below_size (by repeat (first | (with_reducible first | exact HB.out | apply below_alloc | apply pw_below_drewN | apply below_drew1) | exact HB.out))) : w.heap.size ≤ gb114)); clear HO_106; clear HB; have HO_106 := n0_; have HB := n1_; have BK114 := n2_; have GW114 := n3_; have GE114 := n4_; clear n0_ n1_ n2_ n3_ n4_; clear hb hbox hg; have hcz39_0 : w38.cell? ⟨gb114, 0, none⟩ = some (.int .i64 0) := (blk_cell BK114.out 0).trans rfl; have hcz39_1 : w38.cell? ⟨gb114, 1, none⟩ = some (.int .u64 0) := (blk_cell BK114.out 1).trans rfl; have hcz39_2 : w38.cell? ⟨gb114, 2, none⟩ = some (.int .u64 0) := (blk_cell BK114.out 2).trans rfl; have hfz39_0 := blk_frozen BK114.out 0; have hfz39_1 := blk_frozen BK114.out 1; have hfz39_2 := blk_frozen BK114.out 2)); try go_wp2_with (first | (at_lookup; refine wp_look44 ?a1 112 113 ?a2 ?a3 (B := B) (m := m_) (s := (rd_T44 t110 x108_3)) ?a4 ?hM cw ?_; (case a1 => rfl); (case a2 => rfl); (case a3 => rfl); (case a4 => rfl); (case hM => exact (by repeat (first | (with_reducible first | exact HM.out | apply Map44.alloc | apply Map44.drewN | apply Map44.drew | refine Map44.far ?_ hBne _) | exact HM.out)))) | ((with_reducible refine gate_dst (N := 17) rfl ?_); (try (refine gate_guard (by rfl) ?_; dsimp only)); refine box_event ?hg (N := 17) ?hd (cs := #[.int .i64 0, .int .u64 0, .int .u64 0]) (t := 44) ?hr ?_; (case hd => rfl); (case hg => rfl); (case hr => first | (go_simp; done) | (go_simp; rfl)); intro gb114 hg w38 hbox hb; have nM_ := Aside0.mk (Map44.below (by repeat (first | (with_reducible first | exact HM.out | apply Map44.alloc | apply Map44.drewN | apply Map44.drew | refine Map44.far ?_ hBne _) | exact HM.out)) hb); have hBne := (nM_.out.ne hbox); clear HM; have HM := nM_; clear nM_; have n0_ := Aside0.mk (Kd.R_below (Kd.R_elderB (by (with_reducible repeat (first | apply Kd.R_alloc | apply Kd.R_drewN | apply Kd.R_drew)); exact HO_106.out) gb114 (Nat.le_of_eq hg.symm)) hb); have n1_ := Aside0.mk (below_step (by repeat (first | (with_reducible first | exact HB.out | apply below_alloc | apply pw_below_drewN | apply below_drew1) | exact HB.out)) hb); have n2_ := Aside0.mk (hbox); have n3_ := Aside0.mk ((by rw [hg]; exact (below_size (by repeat (first | (with_reducible first | exact HB.out | apply below_alloc | apply pw_below_drewN | apply below_drew1) | exact HB.out))) : w.heap.size ≤ gb114)); have n4_ := Aside0.mk ((by rw [hg]; exact (below_size (by repeat (first | (with_reducible first | exact HB.out | apply below_alloc | apply pw_below_drewN | apply below_drew1) | exact HB.out))) : w.heap.size ≤ gb114)); clear HO_106; clear HB; have HO_106 := n0_; have HB := n1_; have BK114 := n2_; have GW114 := n3_; have GE114 := n4_; clear n0_ n1_ n2_ n3_ n4_; clear hb hbox hg; have hcz39_0 : w38.cell? ⟨gb114, 0, none⟩ = some (.int .i64 0) := (blk_cell BK114.out 0).trans rfl; have hcz39_1 : w38.cell? ⟨gb114, 1, none⟩ = some (.int .u64 0) := (blk_cell BK114.out 1).trans rfl; have hcz39_2 : w38.cell? ⟨gb114, 2, none⟩ = some (.int .u64 0) := (blk_cell BK114.out 2).trans rfl; have hfz39_0 := blk_frozen BK114.out 0; have hfz39_1 := blk_frozen BK114.out 1; have hfz39_2 := blk_frozen BK114.out 2)))
                   go_roundg k3
                   case measure => have := HJ3.out; have := HK2.out; have := HK3.out; omega
                   case rel => exact ⟨(wrap64 (x108_3 + 1)), m_, (by first | rfl | (simp; done) | (simp [*]; done)), H', ⟨by have := HJ3.out; have := HK2.out; have := HK3.out; omega⟩, ⟨by (with_reducible repeat (first | apply Kd.R_alloc | apply Kd.R_drewN | apply Kd.R_drew)); exact Kd.R_mono (Kd.R_far (p := ⟨gb114, 2, none⟩) (Kd.R_far (p := ⟨gb114, 1, none⟩) (Kd.R_far (p := ⟨gb114, 0, none⟩) (Kd.R_mono HO_106.out (fun k_ hk => (⟨hk, hk.2⟩ : _ ∧ k_ ≠ gb114))) (fun _ hk => hk.2) (.int .i64 ((rd_T44 t110 x108_3).f0))) (fun _ hk => hk.2) (.int .u64 ((rd_T44 t110 x108_3).f1))) (fun _ hk => hk.2) (.int .u64 ((rd_T44 t110 x108_3).f2))) (fun _ hk => trivial)⟩, ⟨by repeat (first | (with_reducible first | exact HM.out | apply Map44.alloc | apply Map44.drewN | apply Map44.drew | refine Map44.far ?_ hBne _) | exact HM.out)⟩, ⟨by repeat (first | (with_reducible first | exact HB.out | apply below_alloc | apply pw_below_drewN | apply below_drew1 | refine below_set ?_ GE114.out) | exact HB.out)⟩⟩
                 · rw [if_neg c37] at H
                   have c37b0 : ((m_.1 (rd_T44 t110 x108_3)) == 1) = false := beq_eq_false_iff_ne.mpr c37
                   have c37b1 : ((m_.1 (rd_T44 t110 x108_3)) != 1) = true := bne_iff_ne.mpr c37
                   obtain rfl := Option.some.inj H
                   have p113 : 0 ≤ (x108_3 : Int) := of_decide_eq_true (by first | (with_reducible assumption) | assumption)
                   have q113 : x108_3 < (t110.length : Int) := of_decide_eq_true (by first | (with_reducible assumption) | assumption)
                   obtain ⟨ad113, e113, hx113_0, hx113_1, hx113_2⟩ := at_T44 (Kd.R_reads' HO_106.out).2.2 x108_3 p113 q113
                   cases e113
                   replace p113 := eq_true p113
                   replace q113 := eq_true q113
                   go_wp2_with (first | (at_lookup; refine wp_look44 ?a1 112 113 ?a2 ?a3 (B := B) (m := m_) (s := (rd_T44 t110 x108_3)) ?a4 ?hM cw ?_; (case a1 => rfl); (case a2 => rfl); (case a3 => rfl); (case a4 => rfl); (case hM => exact (by repeat (first | (with_reducible first | exact HM.out | apply Map44.alloc | apply Map44.drewN | apply Map44.drew | refine Map44.far ?_ hBne _) | exact HM.out)))) | ((with_reducible refine gate_dst (N := 17) rfl ?_); (try (refine gate_guard (by rfl) ?_; dsimp only)); refine box_event ?hg (N := 17) ?hd (cs := #[.int .i64 0, .int .u64 0, .int .u64 0]) (t := 44) ?hr ?_; (case hd => rfl); (case hg => rfl); (case hr => first | (go_simp; done) | (go_simp; rfl)); intro gb114 hg w40 hbox hb; have nM_ := Aside0.mk (Map44.below (by repeat (first | (with_reducible first | exact HM.out | apply Map44.alloc | apply Map44.drewN | apply Map44.drew | refine Map44.far ?_ hBne _) | exact HM.out)) hb); have hBne := (nM_.out.ne hbox); clear HM; have HM := nM_; clear nM_; have n0_ := Aside0.mk (Kd.R_below (Kd.R_elderB (by (with_reducible repeat (first | apply Kd.R_alloc | apply Kd.R_drewN | apply Kd.R_drew)); exact HO_106.out) gb114 (Nat.le_of_eq hg.symm)) hb); have n1_ := Aside0.mk (below_step (by repeat (first | (with_reducible first | exact HB.out | apply below_alloc | apply pw_below_drewN | apply below_drew1) | exact HB.out)) hb); have n2_ := Aside0.mk (hbox); have n3_ := Aside0.mk ((by rw [hg]; exact (below_size (by repeat (first | (with_reducible first | exact HB.out | apply below_alloc | apply pw_below_drewN | apply below_drew1) | exact HB.out))) : w.heap.size ≤ gb114)); have n4_ := Aside0.mk ((by rw [hg]; exact (below_size (by repeat (first | (with_reducible first | exact HB.out | apply below_alloc | apply pw_below_drewN | apply below_drew1) | exact HB.out))) : w.heap.size ≤ gb114)); clear HO_106; clear HB; have HO_106 := n0_; have HB := n1_; have BK114 := n2_; have GW114 := n3_; have GE114 := n4_; clear n0_ n1_ n2_ n3_ n4_; clear hb hbox hg; have hcz41_0 : w40.cell? ⟨gb114, 0, none⟩ = some (.int .i64 0) := (blk_cell BK114.out 0).trans rfl; have hcz41_1 : w40.cell? ⟨gb114, 1, none⟩ = some (.int .u64 0) := (blk_cell BK114.out 1).trans rfl; have hcz41_2 : w40.cell? ⟨gb114, 2, none⟩ = some (.int .u64 0) := (blk_cell BK114.out 2).trans rfl; have hfz41_0 := blk_frozen BK114.out 0; have hfz41_1 := blk_frozen BK114.out 1; have hfz41_2 := blk_frozen BK114.out 2))
                   repeat (go_quiet (first | (at_lookup; refine wp_look44 ?a1 112 113 ?a2 ?a3 (B := B) (m := m_) (s := (rd_T44 t110 x108_3)) ?a4 ?hM cw ?_; (case a1 => rfl); (case a2 => rfl); (case a3 => rfl); (case a4 => rfl); (case hM => exact (by repeat (first | (with_reducible first | exact HM.out | apply Map44.alloc | apply Map44.drewN | apply Map44.drew | refine Map44.far ?_ hBne _) | exact HM.out)))) | ((with_reducible refine gate_dst (N := 17) rfl ?_); (try (refine gate_guard (by rfl) ?_; dsimp only)); refine box_event ?hg (N := 17) ?hd (cs := #[.int .i64 0, .int .u64 0, .int .u64 0]) (t := 44) ?hr ?_; (case hd => rfl); (case hg => rfl); (case hr => first | (go_simp; done) | (go_simp; rfl)); intro gb114 hg w40 hbox hb; have nM_ := Aside0.mk (Map44.below (by repeat (first | (with_reducible first | exact HM.out | apply Map44.alloc | apply Map44.drewN | apply Map44.drew | refine Map44.far ?_ hBne _) | exact HM.out)) hb); have hBne := (nM_.out.ne hbox); clear HM; have HM := nM_; clear nM_; have n0_ := Aside0.mk (Kd.R_below (Kd.R_elderB (by (with_reducible repeat (first | apply Kd.R_alloc | apply Kd.R_drewN | apply Kd.R_drew)); exact HO_106.out) gb114 (Nat.le_of_eq hg.symm)) hb); have n1_ := Aside0.mk (below_step (by repeat (first | (with_reducible first | exact HB.out | apply below_alloc | apply pw_below_drewN | apply below_drew1) | exact HB.out)) hb); have n2_ := Aside0.mk (hbox); have n3_ := Aside0.mk ((by rw [hg]; exact (below_size (by repeat (first | (with_reducible first | exact HB.out | apply below_alloc | apply pw_below_drewN | apply below_drew1) | exact HB.out))) : w.heap.size ≤ gb114)); have n4_ := Aside0.mk ((by rw [hg]; exact (below_size (by repeat (first | (with_reducible first | exact HB.out | apply below_alloc | apply pw_below_drewN | apply below_drew1) | exact HB.out))) : w.heap.size ≤ gb114)); clear HO_106; clear HB; have HO_106 := n0_; have HB := n1_; have BK114 := n2_; have GW114 := n3_; have GE114 := n4_; clear n0_ n1_ n2_ n3_ n4_; clear hb hbox hg; have hcz41_0 : w40.cell? ⟨gb114, 0, none⟩ = some (.int .i64 0) := (blk_cell BK114.out 0).trans rfl; have hcz41_1 : w40.cell? ⟨gb114, 1, none⟩ = some (.int .u64 0) := (blk_cell BK114.out 1).trans rfl; have hcz41_2 : w40.cell? ⟨gb114, 2, none⟩ = some (.int .u64 0) := (blk_cell BK114.out 2).trans rfl; have hfz41_0 := blk_frozen BK114.out 0; have hfz41_1 := blk_frozen BK114.out 1; have hfz41_2 := blk_frozen BK114.out 2)); try go_wp2_with (first | (at_lookup; refine wp_look44 ?a1 112 113 ?a2 ?a3 (B := B) (m := m_) (s := (rd_T44 t110 x108_3)) ?a4 ?hM cw ?_; (case a1 => rfl); (case a2 => rfl); (case a3 => rfl); (case a4 => rfl); (case hM => exact (by repeat (first | (with_reducible first | exact HM.out | apply Map44.alloc | apply Map44.drewN | apply Map44.drew | refine Map44.far ?_ hBne _) | exact HM.out)))) | ((with_reducible refine gate_dst (N := 17) rfl ?_); (try (refine gate_guard (by rfl) ?_; dsimp only)); refine box_event ?hg (N := 17) ?hd (cs := #[.int .i64 0, .int .u64 0, .int .u64 0]) (t := 44) ?hr ?_; (case hd => rfl); (case hg => rfl); (case hr => first | (go_simp; done) | (go_simp; rfl)); intro gb114 hg w40 hbox hb; have nM_ := Aside0.mk (Map44.below (by repeat (first | (with_reducible first | exact HM.out | apply Map44.alloc | apply Map44.drewN | apply Map44.drew | refine Map44.far ?_ hBne _) | exact HM.out)) hb); have hBne := (nM_.out.ne hbox); clear HM; have HM := nM_; clear nM_; have n0_ := Aside0.mk (Kd.R_below (Kd.R_elderB (by (with_reducible repeat (first | apply Kd.R_alloc | apply Kd.R_drewN | apply Kd.R_drew)); exact HO_106.out) gb114 (Nat.le_of_eq hg.symm)) hb); have n1_ := Aside0.mk (below_step (by repeat (first | (with_reducible first | exact HB.out | apply below_alloc | apply pw_below_drewN | apply below_drew1) | exact HB.out)) hb); have n2_ := Aside0.mk (hbox); have n3_ := Aside0.mk ((by rw [hg]; exact (below_size (by repeat (first | (with_reducible first | exact HB.out | apply below_alloc | apply pw_below_drewN | apply below_drew1) | exact HB.out))) : w.heap.size ≤ gb114)); have n4_ := Aside0.mk ((by rw [hg]; exact (below_size (by repeat (first | (with_reducible first | exact HB.out | apply below_alloc | apply pw_below_drewN | apply below_drew1) | exact HB.out))) : w.heap.size ≤ gb114)); clear HO_106; clear HB; have HO_106 := n0_; have HB := n1_; have BK114 := n2_; have GW114 := n3_; have GE114 := n4_; clear n0_ n1_ n2_ n3_ n4_; clear hb hbox hg; have hcz41_0 : w40.cell? ⟨gb114, 0, none⟩ = some (.int .i64 0) := (blk_cell BK114.out 0).trans rfl; have hcz41_1 : w40.cell? ⟨gb114, 1, none⟩ = some (.int .u64 0) := (blk_cell BK114.out 1).trans rfl; have hcz41_2 : w40.cell? ⟨gb114, 2, none⟩ = some (.int .u64 0) := (blk_cell BK114.out 2).trans rfl; have hfz41_0 := blk_frozen BK114.out 0; have hfz41_1 := blk_frozen BK114.out 1; have hfz41_2 := blk_frozen BK114.out 2)))
                   go_ret
                   exact ⟨by first | rfl | (simp [errW_none, errW_some] <;> rfl) | (simp [*, errW_none, errW_some] <;> rfl), by repeat (first | (with_reducible first | exact HB.out | apply below_alloc | apply pw_below_drewN | apply below_drew1 | refine below_set ?_ GE114.out) | exact HB.out)⟩
               · rw [if_neg c36] at H
                 exact absurd H (by simp)
             · rw [if_neg c35] at H
               exact absurd H (by simp)
           · rw [if_neg c34] at H
             have c34b0 : decide (x108_3 < (t110.length : Int)) = false := decide_eq_false c34
             clear c34
             obtain rfl := Option.some.inj H
             go_wp2
             repeat (go_quiet (fail); try go_wp2)
             go_ret
             exact ⟨by first | rfl | (simp [errW_none, errW_some] <;> rfl) | (simp [*, errW_none, errW_some] <;> rfl), by repeat (first | (with_reducible first | exact HB.out | apply below_alloc | apply pw_below_drewN | apply below_drew1) | exact HB.out)⟩
end Go.Proofs.Ytindegbbcdloiaa.P
end
section
namespace Go.Proofs.Ytindegbbcdloiaa.P
open Go.RowKit Go.Proofs.YtindegbbcdloiaaW.PrintWords Go.Proofs.YtindegbbcdloiaaW.PrintLast Go.Proofs.YtindegbbcdloiaaW.PrintMore
set_option linter.unusedVariables false
set_option linter.unusedSimpArgs false
noncomputable def signalboxlaw43_fixed.f (k : Nat)  : Option (Bool) := (some (([(⟨1, 4⟩ : S34), (⟨2, 8⟩ : S34)] : List (S34)) : List (S34))).bind fun y101 => ((cyclic_Table.f k y101 4).bind fun bt104 => ((cyclic_Sizes.f k y101).bind fun t108 => (if bt104.2 = true then (if (bt104.1.length : Int) = 2 then (if 0 < (bt104.1.length : Int) then (if ((rd_L6 bt104.1 0).length : Int) = 2 then (if 1 < (bt104.1.length : Int) then (if ((rd_L6 bt104.1 1).length : Int) = 1 then (if 0 < ((rd_L6 bt104.1 1).length : Int) then (if (rd (rd_L6 bt104.1 1) 0) = 0 then ((cyclic_Check.f k y101 4 bt104.1).bind fun t115 => (if t115 = true then ((cyclic_Suits.f k y101 2).bind fun t116 => (if t116 = true then ((cyclic_Suits.f k y101 8).bind fun t117 => (if t117 = true then (some false) else (if (t108.length : Int) = 2 then (if 0 < (t108.length : Int) then (if (rd t108 0) = 2 then ((cyclic_Check.f k y101 4 ([] : List (List Int))).bind fun t119 => (some (!t119))) else (some false)) else (none)) else (some false)))) else (some false))) else (some false))) else (some false)) else (none)) else (some false)) else (none)) else (some false)) else (none)) else (some false)) else (some false))))
set_option maxHeartbeats 8000000 in
set_option maxRecDepth 100000 in
theorem signalboxlaw43_fixed.calls (k : Nat)  (r : Bool) (w : World) (h : signalboxlaw43_fixed.f k  = some r) :
 Calls Try.prog 6 #[] w fun e w' => e = .returned (.bool r) ∧ Below w.heap.size w w' := by
 have hu34 := Try.underlying34
 have HB := Aside0.mk (Below.refl w.heap.size w)
 have H : ((some (([(⟨1, 4⟩ : S34), (⟨2, 8⟩ : S34)] : List (S34)) : List (S34))).bind fun y101 => ((cyclic_Table.f k y101 4).bind fun bt104 => ((cyclic_Sizes.f k y101).bind fun t108 => (if bt104.2 = true then (if (bt104.1.length : Int) = 2 then (if 0 < (bt104.1.length : Int) then (if ((rd_L6 bt104.1 0).length : Int) = 2 then (if 1 < (bt104.1.length : Int) then (if ((rd_L6 bt104.1 1).length : Int) = 1 then (if 0 < ((rd_L6 bt104.1 1).length : Int) then (if (rd (rd_L6 bt104.1 1) 0) = 0 then ((cyclic_Check.f k y101 4 bt104.1).bind fun t115 => (if t115 = true then ((cyclic_Suits.f k y101 2).bind fun t116 => (if t116 = true then ((cyclic_Suits.f k y101 8).bind fun t117 => (if t117 = true then (some false) else (if (t108.length : Int) = 2 then (if 0 < (t108.length : Int) then (if (rd t108 0) = 2 then ((cyclic_Check.f k y101 4 ([] : List (List Int))).bind fun t119 => (some (!t119))) else (some false)) else (none)) else (some false)))) else (some false))) else (some false))) else (some false)) else (none)) else (some false)) else (none)) else (some false)) else (none)) else (some false)) else (some false))))) = some r := h
 clear h
 obtain ⟨y101, hy101⟩ : ∃ y_ : List (S34), y_ = (([(⟨1, 4⟩ : S34), (⟨2, 8⟩ : S34)] : List (S34))) := ⟨_, rfl⟩
 replace H : ((cyclic_Table.f k y101 4).bind fun bt104 => ((cyclic_Sizes.f k y101).bind fun t108 => (if bt104.2 = true then (if (bt104.1.length : Int) = 2 then (if 0 < (bt104.1.length : Int) then (if ((rd_L6 bt104.1 0).length : Int) = 2 then (if 1 < (bt104.1.length : Int) then (if ((rd_L6 bt104.1 1).length : Int) = 1 then (if 0 < ((rd_L6 bt104.1 1).length : Int) then (if (rd (rd_L6 bt104.1 1) 0) = 0 then ((cyclic_Check.f k y101 4 bt104.1).bind fun t115 => (if t115 = true then ((cyclic_Suits.f k y101 2).bind fun t116 => (if t116 = true then ((cyclic_Suits.f k y101 8).bind fun t117 => (if t117 = true then (some false) else (if (t108.length : Int) = 2 then (if 0 < (t108.length : Int) then (if (rd t108 0) = 2 then ((cyclic_Check.f k y101 4 ([] : List (List Int))).bind fun t119 => (some (!t119))) else (some false)) else (none)) else (some false)))) else (some false))) else (some false))) else (some false)) else (none)) else (some false)) else (none)) else (some false)) else (none)) else (some false)) else (some false)))) = some r := by first | (rw [hy101]; with_reducible exact H) | (have H2_ := (Option.bind_some _ _).symm.trans H; rw [hy101]; with_reducible exact H2_) | (have H2_ := (Option.bind_some _ _).symm.trans H; with_reducible exact H2_) | with_reducible exact H | (rw [hy101]; exact H) | exact H
 have Ny101 := Aside0.mk hy101
 clear hy101
 replace H := Option.bind_eq_some_iff.mp H
 obtain ⟨⟨t104, t105⟩, A10, H⟩ := H
 replace H : ((cyclic_Sizes.f k y101).bind fun t108 => (if t105 = true then (if (t104.length : Int) = 2 then (if 0 < (t104.length : Int) then (if ((rd_L6 t104 0).length : Int) = 2 then (if 1 < (t104.length : Int) then (if ((rd_L6 t104 1).length : Int) = 1 then (if 0 < ((rd_L6 t104 1).length : Int) then (if (rd (rd_L6 t104 1) 0) = 0 then ((cyclic_Check.f k y101 4 t104).bind fun t115 => (if t115 = true then ((cyclic_Suits.f k y101 2).bind fun t116 => (if t116 = true then ((cyclic_Suits.f k y101 8).bind fun t117 => (if t117 = true then (some false) else (if (t108.length : Int) = 2 then (if 0 < (t108.length : Int) then (if (rd t108 0) = 2 then ((cyclic_Check.f k y101 4 ([] : List (List Int))).bind fun t119 => (some (!t119))) else (some false)) else (none)) else (some false)))) else (some false))) else (some false))) else (some false)) else (none)) else (some false)) else (none)) else (some false)) else (none)) else (some false)) else (some false))) = some r := H
 have A1 := Aside0.mk A10
 clear A10
 replace H := Option.bind_eq_some_iff.mp H
 obtain ⟨t108, A20, H⟩ := H
 replace H : (if t105 = true then (if (t104.length : Int) = 2 then (if 0 < (t104.length : Int) then (if ((rd_L6 t104 0).length : Int) = 2 then (if 1 < (t104.length : Int) then (if ((rd_L6 t104 1).length : Int) = 1 then (if 0 < ((rd_L6 t104 1).length : Int) then (if (rd (rd_L6 t104 1) 0) = 0 then ((cyclic_Check.f k y101 4 t104).bind fun t115 => (if t115 = true then ((cyclic_Suits.f k y101 2).bind fun t116 => (if t116 = true then ((cyclic_Suits.f k y101 8).bind fun t117 => (if t117 = true then (some false) else (if (t108.length : Int) = 2 then (if 0 < (t108.length : Int) then (if (rd t108 0) = 2 then ((cyclic_Check.f k y101 4 ([] : List (List Int))).bind fun t119 => (some (!t119))) else (some false)) else (none)) else (some false)))) else (some false))) else (some false))) else (some false)) else (none)) else (some false)) else (none)) else (some false)) else (none)) else (some false)) else (some false)) = some r := H
 have A2 := Aside0.mk A20
 clear A20
 by_cases c3 : t105 = true
 · subst c3
   have H1 : (if (t104.length : Int) = 2 then (if 0 < (t104.length : Int) then (if ((rd_L6 t104 0).length : Int) = 2 then (if 1 < (t104.length : Int) then (if ((rd_L6 t104 1).length : Int) = 1 then (if 0 < ((rd_L6 t104 1).length : Int) then (if (rd (rd_L6 t104 1) 0) = 0 then ((cyclic_Check.f k y101 4 t104).bind fun t115 => (if t115 = true then ((cyclic_Suits.f k y101 2).bind fun t116 => (if t116 = true then ((cyclic_Suits.f k y101 8).bind fun t117 => (if t117 = true then (some false) else (if (t108.length : Int) = 2 then (if 0 < (t108.length : Int) then (if (rd t108 0) = 2 then ((cyclic_Check.f k y101 4 ([] : List (List Int))).bind fun t119 => (some (!t119))) else (some false)) else (none)) else (some false)))) else (some false))) else (some false))) else (some false)) else (none)) else (some false)) else (none)) else (some false)) else (none)) else (some false)) = some r := by rw [if_pos rfl] at H; exact H
   clear H
   have H := H1
   clear H1
   by_cases c4 : (t104.length : Int) = 2
   · rw [if_pos c4] at H
     have c4b0 : ((t104.length : Int) == 2) = true := beq_iff_eq.mpr c4
     have c4b1 : ((t104.length : Int) != 2) = false := bne_eq_false_iff_eq.mpr c4
     clear c4
     by_cases c5 : 0 < (t104.length : Int)
     · rw [if_pos c5] at H
       have c5b0 : decide (0 < (t104.length : Int)) = true := decide_eq_true c5
       have c5b1 : decide (0 < t104.length) = true := decide_eq_true (by omega)
       clear c5
       by_cases c6 : ((rd_L6 t104 0).length : Int) = 2
       · rw [if_pos c6] at H
         have c6b0 : (((rd_L6 t104 0).length : Int) == 2) = true := beq_iff_eq.mpr c6
         have c6b1 : (((rd_L6 t104 0).length : Int) != 2) = false := bne_eq_false_iff_eq.mpr c6
         clear c6
         by_cases c7 : 1 < (t104.length : Int)
         · rw [if_pos c7] at H
           have c7b0 : decide (1 < (t104.length : Int)) = true := decide_eq_true c7
           have c7b1 : decide (1 < t104.length) = true := decide_eq_true (by omega)
           clear c7
           by_cases c8 : ((rd_L6 t104 1).length : Int) = 1
           · rw [if_pos c8] at H
             have c8b0 : (((rd_L6 t104 1).length : Int) == 1) = true := beq_iff_eq.mpr c8
             have c8b1 : (((rd_L6 t104 1).length : Int) != 1) = false := bne_eq_false_iff_eq.mpr c8
             clear c8
             by_cases c9 : 0 < ((rd_L6 t104 1).length : Int)
             · rw [if_pos c9] at H
               have c9b0 : decide (0 < ((rd_L6 t104 1).length : Int)) = true := decide_eq_true c9
               have c9b1 : decide (0 < (rd_L6 t104 1).length) = true := decide_eq_true (by omega)
               clear c9
               by_cases c10 : (rd (rd_L6 t104 1) 0) = 0
               · rw [if_pos c10] at H
                 have c10b0 : ((rd (rd_L6 t104 1) 0) == 0) = true := beq_iff_eq.mpr c10
                 have c10b1 : ((rd (rd_L6 t104 1) 0) != 0) = false := bne_eq_false_iff_eq.mpr c10
                 clear c10
                 replace H := Option.bind_eq_some_iff.mp H
                 obtain ⟨t115, A110, H⟩ := H
                 replace H : (if t115 = true then ((cyclic_Suits.f k y101 2).bind fun t116 => (if t116 = true then ((cyclic_Suits.f k y101 8).bind fun t117 => (if t117 = true then (some false) else (if (t108.length : Int) = 2 then (if 0 < (t108.length : Int) then (if (rd t108 0) = 2 then ((cyclic_Check.f k y101 4 ([] : List (List Int))).bind fun t119 => (some (!t119))) else (some false)) else (none)) else (some false)))) else (some false))) else (some false)) = some r := H
                 have A11 := Aside0.mk A110
                 clear A110
                 by_cases c12 : t115 = true
                 · subst c12
                   have H1 : ((cyclic_Suits.f k y101 2).bind fun t116 => (if t116 = true then ((cyclic_Suits.f k y101 8).bind fun t117 => (if t117 = true then (some false) else (if (t108.length : Int) = 2 then (if 0 < (t108.length : Int) then (if (rd t108 0) = 2 then ((cyclic_Check.f k y101 4 ([] : List (List Int))).bind fun t119 => (some (!t119))) else (some false)) else (none)) else (some false)))) else (some false))) = some r := by rw [if_pos rfl] at H; exact H
                   clear H
                   have H := H1
                   clear H1
                   replace H := Option.bind_eq_some_iff.mp H
                   obtain ⟨t116, A130, H⟩ := H
                   replace H : (if t116 = true then ((cyclic_Suits.f k y101 8).bind fun t117 => (if t117 = true then (some false) else (if (t108.length : Int) = 2 then (if 0 < (t108.length : Int) then (if (rd t108 0) = 2 then ((cyclic_Check.f k y101 4 ([] : List (List Int))).bind fun t119 => (some (!t119))) else (some false)) else (none)) else (some false)))) else (some false)) = some r := H
                   have A13 := Aside0.mk A130
                   clear A130
                   by_cases c14 : t116 = true
                   · subst c14
                     have H1 : ((cyclic_Suits.f k y101 8).bind fun t117 => (if t117 = true then (some false) else (if (t108.length : Int) = 2 then (if 0 < (t108.length : Int) then (if (rd t108 0) = 2 then ((cyclic_Check.f k y101 4 ([] : List (List Int))).bind fun t119 => (some (!t119))) else (some false)) else (none)) else (some false)))) = some r := by rw [if_pos rfl] at H; exact H
                     clear H
                     have H := H1
                     clear H1
                     replace H := Option.bind_eq_some_iff.mp H
                     obtain ⟨t117, A150, H⟩ := H
                     replace H : (if t117 = true then (some false) else (if (t108.length : Int) = 2 then (if 0 < (t108.length : Int) then (if (rd t108 0) = 2 then ((cyclic_Check.f k y101 4 ([] : List (List Int))).bind fun t119 => (some (!t119))) else (some false)) else (none)) else (some false))) = some r := H
                     have A15 := Aside0.mk A150
                     clear A150
                     by_cases c16 : t117 = true
                     · subst c16
                       have H1 : (some false) = some r := by rw [if_pos rfl] at H; exact H
                       clear H
                       have H := H1
                       clear H1
                       obtain rfl := Option.some.inj H
                       go_enter Try.func6, Try.ntmps6
                       go_wp2_with (first | ((with_reducible refine gate_dst (N := 7) rfl ?_); (try (refine gate_guard (by rfl) ?_; dsimp only)); refine Kd.R_lit k34 _ 34 ?hg (N := 7) ?hd (xs := ([(⟨1, 4⟩ : S34), (⟨2, 8⟩ : S34)] : List (S34))) (inner := [.int .u64 1, .int .u64 4, .int .u64 2, .int .u64 8]) (ok := fun _ => True) (okp := fun _ => True) ?hr ?hp (fun _ hk => hk) trivial (Below.refl _ _) (Nat.le_refl _) (by simp) ?_; (case hd => rfl); (case hg => rfl); (case hr => first | (go_simp; done) | (go_simp; rfl)); (case hp => exact (Reps.c2 (show Kd.M k34 _ _ _ (⟨1, 4⟩ : S34) [.int .u64 1, .int .u64 4] from (k34_mkM _ _ _ (⟨1, 4⟩ : S34) )) (Reps.c2 (show Kd.M k34 _ _ _ (⟨2, 8⟩ : S34) [.int .u64 2, .int .u64 8] from (k34_mkM _ _ _ (⟨2, 8⟩ : S34) )) (Reps.none _ _)))); intro v102 w17 ho18 hb hg_ hnew_; clear hg_ hnew_; (first | rw [← Ny101.out] at ho18 | (simp only [Int.reduceToNat] at ho18; rw [← Ny101.out] at ho18)); have n0_ := Aside0.mk (Kd.R_lower ho18 (below_size (by repeat (first | (with_reducible first | exact HB.out | apply below_alloc | apply pw_below_drewN | apply below_drew1) | exact HB.out)))); have n1_ := Aside0.mk (below_step (by repeat (first | (with_reducible first | exact HB.out | apply below_alloc | apply pw_below_drewN | apply below_drew1) | exact HB.out)) hb); clear HB; have HO103 := n0_; have HB := n1_; clear n0_ n1_; clear hb ho18; obtain ⟨Ao19, co19, eo19⟩ := Kd.R_slice HO103.out; subst eo19) | ((with_reducible refine gate_callee (f := 11) rfl ?_); refine goesL_ (some 10) rfl rfl Try.func11 (by kernel_rfl) rfl #[.slice Ao19 y101.length co19, .int .u64 4] rfl (by (try simp only [List.map_toArray, List.map_cons, List.map_nil]); first | done | rfl | (simp only [List.length_drop, List.length_take]; rfl)) ?_; (with_reducible refine (cyclic_Table.calls k _ _ y101 4 t104 true _ ?side1 ?side2 A1.out).mono ?_); (case side1 => repeat (first | exact (Kd.R_reads' HO103.out).2.2 | (with_reducible refine Kd.C_alloc ?_ _) | (with_reducible refine Kd.C_drewN ?_ _) | (with_reducible refine Kd.C_drew ?_))); (case side2 => exact (Kd.R_reads' HO103.out).2.1); rintro e w20 ⟨v106, rfl, ho0, hb⟩; refine ⟨_, rfl, ?_⟩; have n0_ := Aside0.mk (Kd.R_below (by (with_reducible repeat (first | apply Kd.R_alloc | apply Kd.R_drewN | apply Kd.R_drew)); exact HO103.out) hb); have n1_ := Aside0.mk (Kd.S_lower ho0 (below_size (by repeat (first | (with_reducible first | exact HB.out | apply below_alloc | apply pw_below_drewN | apply below_drew1) | exact HB.out)))); have n2_ := Aside0.mk (below_step (by repeat (first | (with_reducible first | exact HB.out | apply below_alloc | apply pw_below_drewN | apply below_drew1) | exact HB.out)) hb); clear HO103; clear HB; have HO103 := n0_; have HO107 := n1_; have HB := n2_; clear n0_ n1_ n2_; (try clear hb); (try clear hb2); (try clear hk); (try clear hi); (try clear ho0)) | ((with_reducible refine gate_callee (f := 9) rfl ?_); refine goesL_ (some 14) rfl rfl Try.func9 (by kernel_rfl) rfl #[.slice Ao19 y101.length co19] rfl (by (try simp only [List.map_toArray, List.map_cons, List.map_nil]); first | done | rfl | (simp only [List.length_drop, List.length_take]; rfl)) ?_; (with_reducible refine (cyclic_Sizes.calls k _ _ y101 t108 _ ?side1 ?side2 A2.out).mono ?_); (case side1 => repeat (first | exact (Kd.R_reads' HO103.out).2.2 | (with_reducible refine Kd.C_alloc ?_ _) | (with_reducible refine Kd.C_drewN ?_ _) | (with_reducible refine Kd.C_drew ?_))); (case side2 => exact (Kd.R_reads' HO103.out).2.1); rintro e w21 ⟨v109, rfl, ho0, hb⟩; refine ⟨_, rfl, ?_⟩; have n0_ := Aside0.mk (Kd.R_below (by (with_reducible repeat (first | apply Kd.R_alloc | apply Kd.R_drewN | apply Kd.R_drew)); exact HO103.out) hb); have n1_ := Aside0.mk (Kd.S_below (by (with_reducible repeat (first | apply Kd.S_alloc | apply Kd.S_drewN | apply Kd.S_drew)); exact HO107.out) hb); have n2_ := Aside0.mk (Kd.R_lower ho0 (below_size (by repeat (first | (with_reducible first | exact HB.out | apply below_alloc | apply pw_below_drewN | apply below_drew1) | exact HB.out)))); have n3_ := Aside0.mk (below_step (by repeat (first | (with_reducible first | exact HB.out | apply below_alloc | apply pw_below_drewN | apply below_drew1) | exact HB.out)) hb); clear HO103; clear HO107; clear HB; have HO103 := n0_; have HO107 := n1_; have HO110 := n2_; have HB := n3_; clear n0_ n1_ n2_ n3_; (try clear hb); (try clear hb2); (try clear hk); (try clear hi); (try clear ho0); obtain ⟨Ao22, co22, eo22⟩ := Kd.S_slice HO107.out; subst eo22; have p111 : 0 ≤ (0 : Int) := (by omega); have q111 : 0 < (t104.length : Int) := of_decide_eq_true (by first | (with_reducible assumption) | assumption); obtain ⟨ad111, A111_0, c111_0, e111, hx111_0, hl111_0, hi111_0⟩ := at_L6 (Kd.S_reads' HO107.out).2.2 0 p111 q111; cases e111; obtain ⟨ce111, hce111, hMe111, hcc111⟩ := Kd.S_get HO107.out [] 0 p111 (by first | exact q111 | exact of_decide_eq_true (by first | (with_reducible assumption) | assumption) | (have e_ := (Kd.S_reads' HO107.out).1; omega)); obtain ⟨ve111_0, rfl, ge111_0⟩ := hMe111; have hv111_0 := hcc111 0 _ rfl; rw [Nat.add_zero, show ((Kd.slice 3 (Kd.int .i64))).sz = 1 from rfl, Nat.mul_one] at hv111_0; replace hv111_0 := Option.some.inj (hv111_0.symm.trans hx111_0); rw [hv111_0] at ge111_0; have HL111_0 := Aside0.mk (show Kd.R (Kd.int .i64) 3 _ _ _ _ (rd_L6 t104 0) from ge111_0); clear hv111_0 ge111_0; clear hcc111 hce111; have qi111 : (0 < t104.length) = True := eq_true (by omega); (try rw [show ((0 : Int)).toNat = 0 from rfl] at hx111_0); (try rw [Addr.add_zero'] at hx111_0); have HR111_0 := Aside0.mk hi111_0; have HC111_0 := Aside0.mk hl111_0; clear hi111_0 hl111_0; replace p111 := eq_true p111; replace q111 := eq_true q111; have p112 : 0 ≤ (1 : Int) := (by omega); have q112 : 1 < (t104.length : Int) := of_decide_eq_true (by first | (with_reducible assumption) | assumption); obtain ⟨ad112, A112_0, c112_0, e112, hx112_0, hl112_0, hi112_0⟩ := at_L6 (Kd.S_reads' HO107.out).2.2 1 p112 q112; obtain rfl : ad111 = ad112 := (by injection e112); obtain ⟨ce112, hce112, hMe112, hcc112⟩ := Kd.S_get HO107.out [] 1 p112 (by first | exact q112 | exact of_decide_eq_true (by first | (with_reducible assumption) | assumption) | (have e_ := (Kd.S_reads' HO107.out).1; omega)); obtain ⟨ve112_0, rfl, ge112_0⟩ := hMe112; have hv112_0 := hcc112 0 _ rfl; rw [Nat.add_zero, show ((Kd.slice 3 (Kd.int .i64))).sz = 1 from rfl, Nat.mul_one] at hv112_0; replace hv112_0 := Option.some.inj (hv112_0.symm.trans hx112_0); rw [hv112_0] at ge112_0; have HL112_0 := Aside0.mk (show Kd.R (Kd.int .i64) 3 _ _ _ _ (rd_L6 t104 1) from ge112_0); clear hv112_0 ge112_0; clear hcc112 hce112; (try simp only [show (1 : Int).toNat = 1 from rfl, Nat.reduceMul, Nat.reduceEqDiff, Go.Addr.add, ↓reduceIte] at hx112_0); have qi112 : (1 < t104.length) = True := eq_true (by omega); (try rw [show ((1 : Int)).toNat = 1 from rfl] at hx112_0); have HR112_0 := Aside0.mk hi112_0; have HC112_0 := Aside0.mk hl112_0; clear hi112_0 hl112_0; replace p112 := eq_true p112; replace q112 := eq_true q112; have p113 : 0 ≤ (1 : Int) := (by omega); have q113 : 1 < (t104.length : Int) := of_decide_eq_true (by first | (with_reducible assumption) | assumption); obtain ⟨ad113, A113_0, c113_0, e113, hx113_0, hl113_0, hi113_0⟩ := at_L6 (Kd.S_reads' HO107.out).2.2 1 p113 q113; obtain rfl : ad111 = ad113 := (by injection e113); obtain ⟨ce113, hce113, hMe113, hcc113⟩ := Kd.S_get HO107.out [] 1 p113 (by first | exact q113 | exact of_decide_eq_true (by first | (with_reducible assumption) | assumption) | (have e_ := (Kd.S_reads' HO107.out).1; omega)); obtain ⟨ve113_0, rfl, ge113_0⟩ := hMe113; have hv113_0 := hcc113 0 _ rfl; rw [Nat.add_zero, show ((Kd.slice 3 (Kd.int .i64))).sz = 1 from rfl, Nat.mul_one] at hv113_0; replace hv113_0 := Option.some.inj (hv113_0.symm.trans hx113_0); rw [hv113_0] at ge113_0; have HL113_0 := Aside0.mk (show Kd.R (Kd.int .i64) 3 _ _ _ _ (rd_L6 t104 1) from ge113_0); clear hv113_0 ge113_0; clear hcc113 hce113; (try simp only [show (1 : Int).toNat = 1 from rfl, Nat.reduceMul, Nat.reduceEqDiff, Go.Addr.add, ↓reduceIte] at hx113_0); have qi113 : (1 < t104.length) = True := eq_true (by omega); (try rw [show ((1 : Int)).toNat = 1 from rfl] at hx113_0); have HR113_0 := Aside0.mk hi113_0; have HC113_0 := Aside0.mk hl113_0; clear hi113_0 hl113_0; replace p113 := eq_true p113; replace q113 := eq_true q113; have ea_ := Option.some.inj (hx112_0.symm.trans hx113_0); injection ea_ with ea_ en_ ec_; subst ea_; subst ec_; clear en_; have p114 : 0 ≤ (0 : Int) := (by omega); have q114 : 0 < ((rd_L6 t104 1).length : Int) := of_decide_eq_true (by first | (with_reducible assumption) | assumption); obtain ⟨ad114, e114, hx114_0⟩ := Kd.at_int (by repeat (first | (with_reducible exact HR113_0.out) | (with_reducible refine Kd.C_alloc ?_ _) | (with_reducible refine Kd.C_drewN ?_ _) | (with_reducible refine Kd.C_drew ?_) | exact HR113_0.out)) 0 p114 q114; cases e114; have qi114 : (0 < (rd_L6 t104 1).length) = True := eq_true (by omega); (try rw [show ((0 : Int)).toNat = 0 from rfl] at hx114_0); (try rw [Addr.add_zero'] at hx114_0); replace p114 := eq_true p114; replace q114 := eq_true q114) | (go_at_call 12; (with_reducible refine (cyclic_Check.calls k _ _ y101 4 _ _ t104 true _ ?side1 ?side2 ?side3 ?side4 A11.out).mono ?_); (case side1 => repeat (first | exact (Kd.R_reads' HO103.out).2.2 | (with_reducible refine Kd.C_alloc ?_ _) | (with_reducible refine Kd.C_drewN ?_ _) | (with_reducible refine Kd.C_drew ?_))); (case side2 => exact (Kd.R_reads' HO103.out).2.1); (case side3 => repeat (first | exact (Kd.S_reads' HO107.out).2.2 | (with_reducible refine Kd.C_alloc ?_ _) | (with_reducible refine Kd.C_drewN ?_ _) | (with_reducible refine Kd.C_drew ?_))); (case side4 => exact (Kd.S_reads' HO107.out).2.1); rintro e w23 ⟨rfl, hb⟩; have n0_ := Aside0.mk (Kd.R_below (by (with_reducible repeat (first | apply Kd.R_alloc | apply Kd.R_drewN | apply Kd.R_drew)); exact HO103.out) hb); have n1_ := Aside0.mk (Kd.S_below (by (with_reducible repeat (first | apply Kd.S_alloc | apply Kd.S_drewN | apply Kd.S_drew)); exact HO107.out) hb); have n2_ := Aside0.mk (Kd.R_below (by (with_reducible repeat (first | apply Kd.R_alloc | apply Kd.R_drewN | apply Kd.R_drew)); exact HO110.out) hb); have n3_ := Aside0.mk (Kd.R_below (by (with_reducible repeat (first | apply Kd.R_alloc | apply Kd.R_drewN | apply Kd.R_drew)); exact HL111_0.out) hb); have n4_ := Aside0.mk (Kd.R_below (by (with_reducible repeat (first | apply Kd.R_alloc | apply Kd.R_drewN | apply Kd.R_drew)); exact HL112_0.out) hb); have n5_ := Aside0.mk (Kd.R_below (by (with_reducible repeat (first | apply Kd.R_alloc | apply Kd.R_drewN | apply Kd.R_drew)); exact HL113_0.out) hb); have n6_ := Aside0.mk (Kd.C_below (by repeat (first | (with_reducible exact HR111_0.out) | (with_reducible refine Kd.C_alloc ?_ _) | (with_reducible refine Kd.C_drewN ?_ _) | (with_reducible refine Kd.C_drew ?_) | exact HR111_0.out)) hb); have n7_ := Aside0.mk (Kd.C_below (by repeat (first | (with_reducible exact HR112_0.out) | (with_reducible refine Kd.C_alloc ?_ _) | (with_reducible refine Kd.C_drewN ?_ _) | (with_reducible refine Kd.C_drew ?_) | exact HR112_0.out)) hb); have n8_ := Aside0.mk (Kd.C_below (by repeat (first | (with_reducible exact HR113_0.out) | (with_reducible refine Kd.C_alloc ?_ _) | (with_reducible refine Kd.C_drewN ?_ _) | (with_reducible refine Kd.C_drew ?_) | exact HR113_0.out)) hb); have n9_ := Aside0.mk (below_step (by repeat (first | (with_reducible first | exact HB.out | apply below_alloc | apply pw_below_drewN | apply below_drew1) | exact HB.out)) hb); clear HO103; clear HO107; clear HO110; clear HL111_0; clear HL112_0; clear HL113_0; clear HR111_0; clear HR112_0; clear HR113_0; clear HB; have HO103 := n0_; have HO107 := n1_; have HO110 := n2_; have HL111_0 := n3_; have HL112_0 := n4_; have HL113_0 := n5_; have HR111_0 := n6_; have HR112_0 := n7_; have HR113_0 := n8_; have HB := n9_; clear n0_ n1_ n2_ n3_ n4_ n5_ n6_ n7_ n8_ n9_; (try clear hb); (try clear hb2); (try clear hk); (try clear hi)) | (go_at_call 7; (with_reducible refine (cyclic_Suits.calls k _ _ y101 2 true _ ?side1 ?side2 A13.out).mono ?_); (case side1 => repeat (first | exact (Kd.R_reads' HO103.out).2.2 | (with_reducible refine Kd.C_alloc ?_ _) | (with_reducible refine Kd.C_drewN ?_ _) | (with_reducible refine Kd.C_drew ?_))); (case side2 => exact (Kd.R_reads' HO103.out).2.1); rintro e w24 ⟨rfl, hb⟩; have n0_ := Aside0.mk (Kd.R_below (by (with_reducible repeat (first | apply Kd.R_alloc | apply Kd.R_drewN | apply Kd.R_drew)); exact HO103.out) hb); have n1_ := Aside0.mk (Kd.S_below (by (with_reducible repeat (first | apply Kd.S_alloc | apply Kd.S_drewN | apply Kd.S_drew)); exact HO107.out) hb); have n2_ := Aside0.mk (Kd.R_below (by (with_reducible repeat (first | apply Kd.R_alloc | apply Kd.R_drewN | apply Kd.R_drew)); exact HO110.out) hb); have n3_ := Aside0.mk (Kd.R_below (by (with_reducible repeat (first | apply Kd.R_alloc | apply Kd.R_drewN | apply Kd.R_drew)); exact HL111_0.out) hb); have n4_ := Aside0.mk (Kd.R_below (by (with_reducible repeat (first | apply Kd.R_alloc | apply Kd.R_drewN | apply Kd.R_drew)); exact HL112_0.out) hb); have n5_ := Aside0.mk (Kd.R_below (by (with_reducible repeat (first | apply Kd.R_alloc | apply Kd.R_drewN | apply Kd.R_drew)); exact HL113_0.out) hb); have n6_ := Aside0.mk (Kd.C_below (by repeat (first | (with_reducible exact HR111_0.out) | (with_reducible refine Kd.C_alloc ?_ _) | (with_reducible refine Kd.C_drewN ?_ _) | (with_reducible refine Kd.C_drew ?_) | exact HR111_0.out)) hb); have n7_ := Aside0.mk (Kd.C_below (by repeat (first | (with_reducible exact HR112_0.out) | (with_reducible refine Kd.C_alloc ?_ _) | (with_reducible refine Kd.C_drewN ?_ _) | (with_reducible refine Kd.C_drew ?_) | exact HR112_0.out)) hb); have n8_ := Aside0.mk (Kd.C_below (by repeat (first | (with_reducible exact HR113_0.out) | (with_reducible refine Kd.C_alloc ?_ _) | (with_reducible refine Kd.C_drewN ?_ _) | (with_reducible refine Kd.C_drew ?_) | exact HR113_0.out)) hb); have n9_ := Aside0.mk (below_step (by repeat (first | (with_reducible first | exact HB.out | apply below_alloc | apply pw_below_drewN | apply below_drew1) | exact HB.out)) hb); clear HO103; clear HO107; clear HO110; clear HL111_0; clear HL112_0; clear HL113_0; clear HR111_0; clear HR112_0; clear HR113_0; clear HB; have HO103 := n0_; have HO107 := n1_; have HO110 := n2_; have HL111_0 := n3_; have HL112_0 := n4_; have HL113_0 := n5_; have HR111_0 := n6_; have HR112_0 := n7_; have HR113_0 := n8_; have HB := n9_; clear n0_ n1_ n2_ n3_ n4_ n5_ n6_ n7_ n8_ n9_; (try clear hb); (try clear hb2); (try clear hk); (try clear hi)) | (go_at_call 7; (with_reducible refine (cyclic_Suits.calls k _ _ y101 8 true _ ?side1 ?side2 A15.out).mono ?_); (case side1 => repeat (first | exact (Kd.R_reads' HO103.out).2.2 | (with_reducible refine Kd.C_alloc ?_ _) | (with_reducible refine Kd.C_drewN ?_ _) | (with_reducible refine Kd.C_drew ?_))); (case side2 => exact (Kd.R_reads' HO103.out).2.1); rintro e w25 ⟨rfl, hb⟩; have n0_ := Aside0.mk (Kd.R_below (by (with_reducible repeat (first | apply Kd.R_alloc | apply Kd.R_drewN | apply Kd.R_drew)); exact HO103.out) hb); have n1_ := Aside0.mk (Kd.S_below (by (with_reducible repeat (first | apply Kd.S_alloc | apply Kd.S_drewN | apply Kd.S_drew)); exact HO107.out) hb); have n2_ := Aside0.mk (Kd.R_below (by (with_reducible repeat (first | apply Kd.R_alloc | apply Kd.R_drewN | apply Kd.R_drew)); exact HO110.out) hb); have n3_ := Aside0.mk (Kd.R_below (by (with_reducible repeat (first | apply Kd.R_alloc | apply Kd.R_drewN | apply Kd.R_drew)); exact HL111_0.out) hb); have n4_ := Aside0.mk (Kd.R_below (by (with_reducible repeat (first | apply Kd.R_alloc | apply Kd.R_drewN | apply Kd.R_drew)); exact HL112_0.out) hb); have n5_ := Aside0.mk (Kd.R_below (by (with_reducible repeat (first | apply Kd.R_alloc | apply Kd.R_drewN | apply Kd.R_drew)); exact HL113_0.out) hb); have n6_ := Aside0.mk (Kd.C_below (by repeat (first | (with_reducible exact HR111_0.out) | (with_reducible refine Kd.C_alloc ?_ _) | (with_reducible refine Kd.C_drewN ?_ _) | (with_reducible refine Kd.C_drew ?_) | exact HR111_0.out)) hb); have n7_ := Aside0.mk (Kd.C_below (by repeat (first | (with_reducible exact HR112_0.out) | (with_reducible refine Kd.C_alloc ?_ _) | (with_reducible refine Kd.C_drewN ?_ _) | (with_reducible refine Kd.C_drew ?_) | exact HR112_0.out)) hb); have n8_ := Aside0.mk (Kd.C_below (by repeat (first | (with_reducible exact HR113_0.out) | (with_reducible refine Kd.C_alloc ?_ _) | (with_reducible refine Kd.C_drewN ?_ _) | (with_reducible refine Kd.C_drew ?_) | exact HR113_0.out)) hb); have n9_ := Aside0.mk (below_step (by repeat (first | (with_reducible first | exact HB.out | apply below_alloc | apply pw_below_drewN | apply below_drew1) | exact HB.out)) hb); clear HO103; clear HO107; clear HO110; clear HL111_0; clear HL112_0; clear HL113_0; clear HR111_0; clear HR112_0; clear HR113_0; clear HB; have HO103 := n0_; have HO107 := n1_; have HO110 := n2_; have HL111_0 := n3_; have HL112_0 := n4_; have HL113_0 := n5_; have HR111_0 := n6_; have HR112_0 := n7_; have HR113_0 := n8_; have HB := n9_; clear n0_ n1_ n2_ n3_ n4_ n5_ n6_ n7_ n8_ n9_; (try clear hb); (try clear hb2); (try clear hk); (try clear hi)))
                       go_ret
                       exact ⟨by first | rfl | (simp [errW_none, errW_some] <;> rfl) | (simp [*, errW_none, errW_some] <;> rfl), by repeat (first | (with_reducible first | exact HB.out | apply below_alloc | apply pw_below_drewN | apply below_drew1) | exact HB.out)⟩
                     · replace c16 := Bool.eq_false_iff.mpr c16
                       subst c16
                       have H1 : (if (t108.length : Int) = 2 then (if 0 < (t108.length : Int) then (if (rd t108 0) = 2 then ((cyclic_Check.f k y101 4 ([] : List (List Int))).bind fun t119 => (some (!t119))) else (some false)) else (none)) else (some false)) = some r := by rw [if_neg (show ¬ (false = true) by decide)] at H; exact H
                       clear H
                       have H := H1
                       clear H1
                       by_cases c26 : (t108.length : Int) = 2
                       · rw [if_pos c26] at H
                         have c26b0 : ((t108.length : Int) == 2) = true := beq_iff_eq.mpr c26
                         have c26b1 : ((t108.length : Int) != 2) = false := bne_eq_false_iff_eq.mpr c26
                         clear c26
                         by_cases c27 : 0 < (t108.length : Int)
                         · rw [if_pos c27] at H
                           have c27b0 : decide (0 < (t108.length : Int)) = true := decide_eq_true c27
                           have c27b1 : decide (0 < t108.length) = true := decide_eq_true (by omega)
                           clear c27
                           by_cases c28 : (rd t108 0) = 2
                           · rw [if_pos c28] at H
                             have c28b0 : ((rd t108 0) == 2) = true := beq_iff_eq.mpr c28
                             have c28b1 : ((rd t108 0) != 2) = false := bne_eq_false_iff_eq.mpr c28
                             clear c28
                             replace H := Option.bind_eq_some_iff.mp H
                             obtain ⟨t119, A290, H⟩ := H
                             replace H : (some (!t119)) = some r := H
                             have A29 := Aside0.mk A290
                             clear A290
                             obtain rfl := Option.some.inj H
                             go_enter Try.func6, Try.ntmps6
                             go_wp2_with (first | ((with_reducible refine gate_dst (N := 7) rfl ?_); (try (refine gate_guard (by rfl) ?_; dsimp only)); refine Kd.R_lit k34 _ 34 ?hg (N := 7) ?hd (xs := ([(⟨1, 4⟩ : S34), (⟨2, 8⟩ : S34)] : List (S34))) (inner := [.int .u64 1, .int .u64 4, .int .u64 2, .int .u64 8]) (ok := fun _ => True) (okp := fun _ => True) ?hr ?hp (fun _ hk => hk) trivial (Below.refl _ _) (Nat.le_refl _) (by simp) ?_; (case hd => rfl); (case hg => rfl); (case hr => first | (go_simp; done) | (go_simp; rfl)); (case hp => exact (Reps.c2 (show Kd.M k34 _ _ _ (⟨1, 4⟩ : S34) [.int .u64 1, .int .u64 4] from (k34_mkM _ _ _ (⟨1, 4⟩ : S34) )) (Reps.c2 (show Kd.M k34 _ _ _ (⟨2, 8⟩ : S34) [.int .u64 2, .int .u64 8] from (k34_mkM _ _ _ (⟨2, 8⟩ : S34) )) (Reps.none _ _)))); intro v102 w30 ho31 hb hg_ hnew_; clear hg_ hnew_; (first | rw [← Ny101.out] at ho31 | (simp only [Int.reduceToNat] at ho31; rw [← Ny101.out] at ho31)); have n0_ := Aside0.mk (Kd.R_lower ho31 (below_size (by repeat (first | (with_reducible first | exact HB.out | apply below_alloc | apply pw_below_drewN | apply below_drew1) | exact HB.out)))); have n1_ := Aside0.mk (below_step (by repeat (first | (with_reducible first | exact HB.out | apply below_alloc | apply pw_below_drewN | apply below_drew1) | exact HB.out)) hb); clear HB; have HO103 := n0_; have HB := n1_; clear n0_ n1_; clear hb ho31; obtain ⟨Ao32, co32, eo32⟩ := Kd.R_slice HO103.out; subst eo32) | ((with_reducible refine gate_callee (f := 11) rfl ?_); refine goesL_ (some 10) rfl rfl Try.func11 (by kernel_rfl) rfl #[.slice Ao32 y101.length co32, .int .u64 4] rfl (by (try simp only [List.map_toArray, List.map_cons, List.map_nil]); first | done | rfl | (simp only [List.length_drop, List.length_take]; rfl)) ?_; (with_reducible refine (cyclic_Table.calls k _ _ y101 4 t104 true _ ?side1 ?side2 A1.out).mono ?_); (case side1 => repeat (first | exact (Kd.R_reads' HO103.out).2.2 | (with_reducible refine Kd.C_alloc ?_ _) | (with_reducible refine Kd.C_drewN ?_ _) | (with_reducible refine Kd.C_drew ?_))); (case side2 => exact (Kd.R_reads' HO103.out).2.1); rintro e w33 ⟨v106, rfl, ho0, hb⟩; refine ⟨_, rfl, ?_⟩; have n0_ := Aside0.mk (Kd.R_below (by (with_reducible repeat (first | apply Kd.R_alloc | apply Kd.R_drewN | apply Kd.R_drew)); exact HO103.out) hb); have n1_ := Aside0.mk (Kd.S_lower ho0 (below_size (by repeat (first | (with_reducible first | exact HB.out | apply below_alloc | apply pw_below_drewN | apply below_drew1) | exact HB.out)))); have n2_ := Aside0.mk (below_step (by repeat (first | (with_reducible first | exact HB.out | apply below_alloc | apply pw_below_drewN | apply below_drew1) | exact HB.out)) hb); clear HO103; clear HB; have HO103 := n0_; have HO107 := n1_; have HB := n2_; clear n0_ n1_ n2_; (try clear hb); (try clear hb2); (try clear hk); (try clear hi); (try clear ho0)) | ((with_reducible refine gate_callee (f := 9) rfl ?_); refine goesL_ (some 14) rfl rfl Try.func9 (by kernel_rfl) rfl #[.slice Ao32 y101.length co32] rfl (by (try simp only [List.map_toArray, List.map_cons, List.map_nil]); first | done | rfl | (simp only [List.length_drop, List.length_take]; rfl)) ?_; (with_reducible refine (cyclic_Sizes.calls k _ _ y101 t108 _ ?side1 ?side2 A2.out).mono ?_); (case side1 => repeat (first | exact (Kd.R_reads' HO103.out).2.2 | (with_reducible refine Kd.C_alloc ?_ _) | (with_reducible refine Kd.C_drewN ?_ _) | (with_reducible refine Kd.C_drew ?_))); (case side2 => exact (Kd.R_reads' HO103.out).2.1); rintro e w34 ⟨v109, rfl, ho0, hb⟩; refine ⟨_, rfl, ?_⟩; have n0_ := Aside0.mk (Kd.R_below (by (with_reducible repeat (first | apply Kd.R_alloc | apply Kd.R_drewN | apply Kd.R_drew)); exact HO103.out) hb); have n1_ := Aside0.mk (Kd.S_below (by (with_reducible repeat (first | apply Kd.S_alloc | apply Kd.S_drewN | apply Kd.S_drew)); exact HO107.out) hb); have n2_ := Aside0.mk (Kd.R_lower ho0 (below_size (by repeat (first | (with_reducible first | exact HB.out | apply below_alloc | apply pw_below_drewN | apply below_drew1) | exact HB.out)))); have n3_ := Aside0.mk (below_step (by repeat (first | (with_reducible first | exact HB.out | apply below_alloc | apply pw_below_drewN | apply below_drew1) | exact HB.out)) hb); clear HO103; clear HO107; clear HB; have HO103 := n0_; have HO107 := n1_; have HO110 := n2_; have HB := n3_; clear n0_ n1_ n2_ n3_; (try clear hb); (try clear hb2); (try clear hk); (try clear hi); (try clear ho0); obtain ⟨Ao35, co35, eo35⟩ := Kd.S_slice HO107.out; subst eo35; have p111 : 0 ≤ (0 : Int) := (by omega); have q111 : 0 < (t104.length : Int) := of_decide_eq_true (by first | (with_reducible assumption) | assumption); obtain ⟨ad111, A111_0, c111_0, e111, hx111_0, hl111_0, hi111_0⟩ := at_L6 (Kd.S_reads' HO107.out).2.2 0 p111 q111; cases e111; obtain ⟨ce111, hce111, hMe111, hcc111⟩ := Kd.S_get HO107.out [] 0 p111 (by first | exact q111 | exact of_decide_eq_true (by first | (with_reducible assumption) | assumption) | (have e_ := (Kd.S_reads' HO107.out).1; omega)); obtain ⟨ve111_0, rfl, ge111_0⟩ := hMe111; have hv111_0 := hcc111 0 _ rfl; rw [Nat.add_zero, show ((Kd.slice 3 (Kd.int .i64))).sz = 1 from rfl, Nat.mul_one] at hv111_0; replace hv111_0 := Option.some.inj (hv111_0.symm.trans hx111_0); rw [hv111_0] at ge111_0; have HL111_0 := Aside0.mk (show Kd.R (Kd.int .i64) 3 _ _ _ _ (rd_L6 t104 0) from ge111_0); clear hv111_0 ge111_0; clear hcc111 hce111; have qi111 : (0 < t104.length) = True := eq_true (by omega); (try rw [show ((0 : Int)).toNat = 0 from rfl] at hx111_0); (try rw [Addr.add_zero'] at hx111_0); have HR111_0 := Aside0.mk hi111_0; have HC111_0 := Aside0.mk hl111_0; clear hi111_0 hl111_0; replace p111 := eq_true p111; replace q111 := eq_true q111; have p112 : 0 ≤ (1 : Int) := (by omega); have q112 : 1 < (t104.length : Int) := of_decide_eq_true (by first | (with_reducible assumption) | assumption); obtain ⟨ad112, A112_0, c112_0, e112, hx112_0, hl112_0, hi112_0⟩ := at_L6 (Kd.S_reads' HO107.out).2.2 1 p112 q112; obtain rfl : ad111 = ad112 := (by injection e112); obtain ⟨ce112, hce112, hMe112, hcc112⟩ := Kd.S_get HO107.out [] 1 p112 (by first | exact q112 | exact of_decide_eq_true (by first | (with_reducible assumption) | assumption) | (have e_ := (Kd.S_reads' HO107.out).1; omega)); obtain ⟨ve112_0, rfl, ge112_0⟩ := hMe112; have hv112_0 := hcc112 0 _ rfl; rw [Nat.add_zero, show ((Kd.slice 3 (Kd.int .i64))).sz = 1 from rfl, Nat.mul_one] at hv112_0; replace hv112_0 := Option.some.inj (hv112_0.symm.trans hx112_0); rw [hv112_0] at ge112_0; have HL112_0 := Aside0.mk (show Kd.R (Kd.int .i64) 3 _ _ _ _ (rd_L6 t104 1) from ge112_0); clear hv112_0 ge112_0; clear hcc112 hce112; (try simp only [show (1 : Int).toNat = 1 from rfl, Nat.reduceMul, Nat.reduceEqDiff, Go.Addr.add, ↓reduceIte] at hx112_0); have qi112 : (1 < t104.length) = True := eq_true (by omega); (try rw [show ((1 : Int)).toNat = 1 from rfl] at hx112_0); have HR112_0 := Aside0.mk hi112_0; have HC112_0 := Aside0.mk hl112_0; clear hi112_0 hl112_0; replace p112 := eq_true p112; replace q112 := eq_true q112; have p113 : 0 ≤ (1 : Int) := (by omega); have q113 : 1 < (t104.length : Int) := of_decide_eq_true (by first | (with_reducible assumption) | assumption); obtain ⟨ad113, A113_0, c113_0, e113, hx113_0, hl113_0, hi113_0⟩ := at_L6 (Kd.S_reads' HO107.out).2.2 1 p113 q113; obtain rfl : ad111 = ad113 := (by injection e113); obtain ⟨ce113, hce113, hMe113, hcc113⟩ := Kd.S_get HO107.out [] 1 p113 (by first | exact q113 | exact of_decide_eq_true (by first | (with_reducible assumption) | assumption) | (have e_ := (Kd.S_reads' HO107.out).1; omega)); obtain ⟨ve113_0, rfl, ge113_0⟩ := hMe113; have hv113_0 := hcc113 0 _ rfl; rw [Nat.add_zero, show ((Kd.slice 3 (Kd.int .i64))).sz = 1 from rfl, Nat.mul_one] at hv113_0; replace hv113_0 := Option.some.inj (hv113_0.symm.trans hx113_0); rw [hv113_0] at ge113_0; have HL113_0 := Aside0.mk (show Kd.R (Kd.int .i64) 3 _ _ _ _ (rd_L6 t104 1) from ge113_0); clear hv113_0 ge113_0; clear hcc113 hce113; (try simp only [show (1 : Int).toNat = 1 from rfl, Nat.reduceMul, Nat.reduceEqDiff, Go.Addr.add, ↓reduceIte] at hx113_0); have qi113 : (1 < t104.length) = True := eq_true (by omega); (try rw [show ((1 : Int)).toNat = 1 from rfl] at hx113_0); have HR113_0 := Aside0.mk hi113_0; have HC113_0 := Aside0.mk hl113_0; clear hi113_0 hl113_0; replace p113 := eq_true p113; replace q113 := eq_true q113; have ea_ := Option.some.inj (hx112_0.symm.trans hx113_0); injection ea_ with ea_ en_ ec_; subst ea_; subst ec_; clear en_; have p114 : 0 ≤ (0 : Int) := (by omega); have q114 : 0 < ((rd_L6 t104 1).length : Int) := of_decide_eq_true (by first | (with_reducible assumption) | assumption); obtain ⟨ad114, e114, hx114_0⟩ := Kd.at_int (by repeat (first | (with_reducible exact HR113_0.out) | (with_reducible refine Kd.C_alloc ?_ _) | (with_reducible refine Kd.C_drewN ?_ _) | (with_reducible refine Kd.C_drew ?_) | exact HR113_0.out)) 0 p114 q114; cases e114; have qi114 : (0 < (rd_L6 t104 1).length) = True := eq_true (by omega); (try rw [show ((0 : Int)).toNat = 0 from rfl] at hx114_0); (try rw [Addr.add_zero'] at hx114_0); replace p114 := eq_true p114; replace q114 := eq_true q114) | (go_at_call 12; (with_reducible refine (cyclic_Check.calls k _ _ y101 4 _ _ t104 true _ ?side1 ?side2 ?side3 ?side4 A11.out).mono ?_); (case side1 => repeat (first | exact (Kd.R_reads' HO103.out).2.2 | (with_reducible refine Kd.C_alloc ?_ _) | (with_reducible refine Kd.C_drewN ?_ _) | (with_reducible refine Kd.C_drew ?_))); (case side2 => exact (Kd.R_reads' HO103.out).2.1); (case side3 => repeat (first | exact (Kd.S_reads' HO107.out).2.2 | (with_reducible refine Kd.C_alloc ?_ _) | (with_reducible refine Kd.C_drewN ?_ _) | (with_reducible refine Kd.C_drew ?_))); (case side4 => exact (Kd.S_reads' HO107.out).2.1); rintro e w36 ⟨rfl, hb⟩; have n0_ := Aside0.mk (Kd.R_below (by (with_reducible repeat (first | apply Kd.R_alloc | apply Kd.R_drewN | apply Kd.R_drew)); exact HO103.out) hb); have n1_ := Aside0.mk (Kd.S_below (by (with_reducible repeat (first | apply Kd.S_alloc | apply Kd.S_drewN | apply Kd.S_drew)); exact HO107.out) hb); have n2_ := Aside0.mk (Kd.R_below (by (with_reducible repeat (first | apply Kd.R_alloc | apply Kd.R_drewN | apply Kd.R_drew)); exact HO110.out) hb); have n3_ := Aside0.mk (Kd.R_below (by (with_reducible repeat (first | apply Kd.R_alloc | apply Kd.R_drewN | apply Kd.R_drew)); exact HL111_0.out) hb); have n4_ := Aside0.mk (Kd.R_below (by (with_reducible repeat (first | apply Kd.R_alloc | apply Kd.R_drewN | apply Kd.R_drew)); exact HL112_0.out) hb); have n5_ := Aside0.mk (Kd.R_below (by (with_reducible repeat (first | apply Kd.R_alloc | apply Kd.R_drewN | apply Kd.R_drew)); exact HL113_0.out) hb); have n6_ := Aside0.mk (Kd.C_below (by repeat (first | (with_reducible exact HR111_0.out) | (with_reducible refine Kd.C_alloc ?_ _) | (with_reducible refine Kd.C_drewN ?_ _) | (with_reducible refine Kd.C_drew ?_) | exact HR111_0.out)) hb); have n7_ := Aside0.mk (Kd.C_below (by repeat (first | (with_reducible exact HR112_0.out) | (with_reducible refine Kd.C_alloc ?_ _) | (with_reducible refine Kd.C_drewN ?_ _) | (with_reducible refine Kd.C_drew ?_) | exact HR112_0.out)) hb); have n8_ := Aside0.mk (Kd.C_below (by repeat (first | (with_reducible exact HR113_0.out) | (with_reducible refine Kd.C_alloc ?_ _) | (with_reducible refine Kd.C_drewN ?_ _) | (with_reducible refine Kd.C_drew ?_) | exact HR113_0.out)) hb); have n9_ := Aside0.mk (below_step (by repeat (first | (with_reducible first | exact HB.out | apply below_alloc | apply pw_below_drewN | apply below_drew1) | exact HB.out)) hb); clear HO103; clear HO107; clear HO110; clear HL111_0; clear HL112_0; clear HL113_0; clear HR111_0; clear HR112_0; clear HR113_0; clear HB; have HO103 := n0_; have HO107 := n1_; have HO110 := n2_; have HL111_0 := n3_; have HL112_0 := n4_; have HL113_0 := n5_; have HR111_0 := n6_; have HR112_0 := n7_; have HR113_0 := n8_; have HB := n9_; clear n0_ n1_ n2_ n3_ n4_ n5_ n6_ n7_ n8_ n9_; (try clear hb); (try clear hb2); (try clear hk); (try clear hi)) | (go_at_call 7; (with_reducible refine (cyclic_Suits.calls k _ _ y101 2 true _ ?side1 ?side2 A13.out).mono ?_); (case side1 => repeat (first | exact (Kd.R_reads' HO103.out).2.2 | (with_reducible refine Kd.C_alloc ?_ _) | (with_reducible refine Kd.C_drewN ?_ _) | (with_reducible refine Kd.C_drew ?_))); (case side2 => exact (Kd.R_reads' HO103.out).2.1); rintro e w37 ⟨rfl, hb⟩; have n0_ := Aside0.mk (Kd.R_below (by (with_reducible repeat (first | apply Kd.R_alloc | apply Kd.R_drewN | apply Kd.R_drew)); exact HO103.out) hb); have n1_ := Aside0.mk (Kd.S_below (by (with_reducible repeat (first | apply Kd.S_alloc | apply Kd.S_drewN | apply Kd.S_drew)); exact HO107.out) hb); have n2_ := Aside0.mk (Kd.R_below (by (with_reducible repeat (first | apply Kd.R_alloc | apply Kd.R_drewN | apply Kd.R_drew)); exact HO110.out) hb); have n3_ := Aside0.mk (Kd.R_below (by (with_reducible repeat (first | apply Kd.R_alloc | apply Kd.R_drewN | apply Kd.R_drew)); exact HL111_0.out) hb); have n4_ := Aside0.mk (Kd.R_below (by (with_reducible repeat (first | apply Kd.R_alloc | apply Kd.R_drewN | apply Kd.R_drew)); exact HL112_0.out) hb); have n5_ := Aside0.mk (Kd.R_below (by (with_reducible repeat (first | apply Kd.R_alloc | apply Kd.R_drewN | apply Kd.R_drew)); exact HL113_0.out) hb); have n6_ := Aside0.mk (Kd.C_below (by repeat (first | (with_reducible exact HR111_0.out) | (with_reducible refine Kd.C_alloc ?_ _) | (with_reducible refine Kd.C_drewN ?_ _) | (with_reducible refine Kd.C_drew ?_) | exact HR111_0.out)) hb); have n7_ := Aside0.mk (Kd.C_below (by repeat (first | (with_reducible exact HR112_0.out) | (with_reducible refine Kd.C_alloc ?_ _) | (with_reducible refine Kd.C_drewN ?_ _) | (with_reducible refine Kd.C_drew ?_) | exact HR112_0.out)) hb); have n8_ := Aside0.mk (Kd.C_below (by repeat (first | (with_reducible exact HR113_0.out) | (with_reducible refine Kd.C_alloc ?_ _) | (with_reducible refine Kd.C_drewN ?_ _) | (with_reducible refine Kd.C_drew ?_) | exact HR113_0.out)) hb); have n9_ := Aside0.mk (below_step (by repeat (first | (with_reducible first | exact HB.out | apply below_alloc | apply pw_below_drewN | apply below_drew1) | exact HB.out)) hb); clear HO103; clear HO107; clear HO110; clear HL111_0; clear HL112_0; clear HL113_0; clear HR111_0; clear HR112_0; clear HR113_0; clear HB; have HO103 := n0_; have HO107 := n1_; have HO110 := n2_; have HL111_0 := n3_; have HL112_0 := n4_; have HL113_0 := n5_; have HR111_0 := n6_; have HR112_0 := n7_; have HR113_0 := n8_; have HB := n9_; clear n0_ n1_ n2_ n3_ n4_ n5_ n6_ n7_ n8_ n9_; (try clear hb); (try clear hb2); (try clear hk); (try clear hi)) | (go_at_call 7; (with_reducible refine (cyclic_Suits.calls k _ _ y101 8 false _ ?side1 ?side2 A15.out).mono ?_); (case side1 => repeat (first | exact (Kd.R_reads' HO103.out).2.2 | (with_reducible refine Kd.C_alloc ?_ _) | (with_reducible refine Kd.C_drewN ?_ _) | (with_reducible refine Kd.C_drew ?_))); (case side2 => exact (Kd.R_reads' HO103.out).2.1); rintro e w38 ⟨rfl, hb⟩; have n0_ := Aside0.mk (Kd.R_below (by (with_reducible repeat (first | apply Kd.R_alloc | apply Kd.R_drewN | apply Kd.R_drew)); exact HO103.out) hb); have n1_ := Aside0.mk (Kd.S_below (by (with_reducible repeat (first | apply Kd.S_alloc | apply Kd.S_drewN | apply Kd.S_drew)); exact HO107.out) hb); have n2_ := Aside0.mk (Kd.R_below (by (with_reducible repeat (first | apply Kd.R_alloc | apply Kd.R_drewN | apply Kd.R_drew)); exact HO110.out) hb); have n3_ := Aside0.mk (Kd.R_below (by (with_reducible repeat (first | apply Kd.R_alloc | apply Kd.R_drewN | apply Kd.R_drew)); exact HL111_0.out) hb); have n4_ := Aside0.mk (Kd.R_below (by (with_reducible repeat (first | apply Kd.R_alloc | apply Kd.R_drewN | apply Kd.R_drew)); exact HL112_0.out) hb); have n5_ := Aside0.mk (Kd.R_below (by (with_reducible repeat (first | apply Kd.R_alloc | apply Kd.R_drewN | apply Kd.R_drew)); exact HL113_0.out) hb); have n6_ := Aside0.mk (Kd.C_below (by repeat (first | (with_reducible exact HR111_0.out) | (with_reducible refine Kd.C_alloc ?_ _) | (with_reducible refine Kd.C_drewN ?_ _) | (with_reducible refine Kd.C_drew ?_) | exact HR111_0.out)) hb); have n7_ := Aside0.mk (Kd.C_below (by repeat (first | (with_reducible exact HR112_0.out) | (with_reducible refine Kd.C_alloc ?_ _) | (with_reducible refine Kd.C_drewN ?_ _) | (with_reducible refine Kd.C_drew ?_) | exact HR112_0.out)) hb); have n8_ := Aside0.mk (Kd.C_below (by repeat (first | (with_reducible exact HR113_0.out) | (with_reducible refine Kd.C_alloc ?_ _) | (with_reducible refine Kd.C_drewN ?_ _) | (with_reducible refine Kd.C_drew ?_) | exact HR113_0.out)) hb); have n9_ := Aside0.mk (below_step (by repeat (first | (with_reducible first | exact HB.out | apply below_alloc | apply pw_below_drewN | apply below_drew1) | exact HB.out)) hb); clear HO103; clear HO107; clear HO110; clear HL111_0; clear HL112_0; clear HL113_0; clear HR111_0; clear HR112_0; clear HR113_0; clear HB; have HO103 := n0_; have HO107 := n1_; have HO110 := n2_; have HL111_0 := n3_; have HL112_0 := n4_; have HL113_0 := n5_; have HR111_0 := n6_; have HR112_0 := n7_; have HR113_0 := n8_; have HB := n9_; clear n0_ n1_ n2_ n3_ n4_ n5_ n6_ n7_ n8_ n9_; (try clear hb); (try clear hb2); (try clear hk); (try clear hi); obtain ⟨Ao39, co39, eo39⟩ := Kd.R_slice HO110.out; subst eo39; have p118 : 0 ≤ (0 : Int) := (by omega); have q118 : 0 < (t108.length : Int) := of_decide_eq_true (by first | (with_reducible assumption) | assumption); obtain ⟨ad118, e118, hx118_0⟩ := Kd.at_int (Kd.R_reads' HO110.out).2.2 0 p118 q118; cases e118; have qi118 : (0 < t108.length) = True := eq_true (by omega); (try rw [show ((0 : Int)).toNat = 0 from rfl] at hx118_0); (try rw [Addr.add_zero'] at hx118_0); replace p118 := eq_true p118; replace q118 := eq_true q118) | (go_at_call 12; (refine (cyclic_Check.calls k _ _ y101 4 _ _ ([] : List (List Int)) t119 _ ?side1 ?side2 ?side3 ?side4 A29.out).mono ?_); (case side1 => repeat (first | exact (Kd.R_reads' HO103.out).2.2 | (with_reducible refine Kd.C_alloc ?_ _) | (with_reducible refine Kd.C_drewN ?_ _) | (with_reducible refine Kd.C_drew ?_))); (case side2 => exact (Kd.R_reads' HO103.out).2.1); (case side3 => exact Kd.C_nil _ _); (case side4 => exact Nat.le_refl _); rintro e w40 ⟨rfl, hb⟩; have n0_ := Aside0.mk (Kd.R_below (by (with_reducible repeat (first | apply Kd.R_alloc | apply Kd.R_drewN | apply Kd.R_drew)); exact HO103.out) hb); have n1_ := Aside0.mk (Kd.S_below (by (with_reducible repeat (first | apply Kd.S_alloc | apply Kd.S_drewN | apply Kd.S_drew)); exact HO107.out) hb); have n2_ := Aside0.mk (Kd.R_below (by (with_reducible repeat (first | apply Kd.R_alloc | apply Kd.R_drewN | apply Kd.R_drew)); exact HO110.out) hb); have n3_ := Aside0.mk (Kd.R_below (by (with_reducible repeat (first | apply Kd.R_alloc | apply Kd.R_drewN | apply Kd.R_drew)); exact HL111_0.out) hb); have n4_ := Aside0.mk (Kd.R_below (by (with_reducible repeat (first | apply Kd.R_alloc | apply Kd.R_drewN | apply Kd.R_drew)); exact HL112_0.out) hb); have n5_ := Aside0.mk (Kd.R_below (by (with_reducible repeat (first | apply Kd.R_alloc | apply Kd.R_drewN | apply Kd.R_drew)); exact HL113_0.out) hb); have n6_ := Aside0.mk (Kd.C_below (by repeat (first | (with_reducible exact HR111_0.out) | (with_reducible refine Kd.C_alloc ?_ _) | (with_reducible refine Kd.C_drewN ?_ _) | (with_reducible refine Kd.C_drew ?_) | exact HR111_0.out)) hb); have n7_ := Aside0.mk (Kd.C_below (by repeat (first | (with_reducible exact HR112_0.out) | (with_reducible refine Kd.C_alloc ?_ _) | (with_reducible refine Kd.C_drewN ?_ _) | (with_reducible refine Kd.C_drew ?_) | exact HR112_0.out)) hb); have n8_ := Aside0.mk (Kd.C_below (by repeat (first | (with_reducible exact HR113_0.out) | (with_reducible refine Kd.C_alloc ?_ _) | (with_reducible refine Kd.C_drewN ?_ _) | (with_reducible refine Kd.C_drew ?_) | exact HR113_0.out)) hb); have n9_ := Aside0.mk (below_step (by repeat (first | (with_reducible first | exact HB.out | apply below_alloc | apply pw_below_drewN | apply below_drew1) | exact HB.out)) hb); clear HO103; clear HO107; clear HO110; clear HL111_0; clear HL112_0; clear HL113_0; clear HR111_0; clear HR112_0; clear HR113_0; clear HB; have HO103 := n0_; have HO107 := n1_; have HO110 := n2_; have HL111_0 := n3_; have HL112_0 := n4_; have HL113_0 := n5_; have HR111_0 := n6_; have HR112_0 := n7_; have HR113_0 := n8_; have HB := n9_; clear n0_ n1_ n2_ n3_ n4_ n5_ n6_ n7_ n8_ n9_; (try clear hb); (try clear hb2); (try clear hk); (try clear hi)))
                             go_ret
                             exact ⟨by first | rfl | (simp [errW_none, errW_some] <;> rfl) | (simp [*, errW_none, errW_some] <;> rfl), by repeat (first | (with_reducible first | exact HB.out | apply below_alloc | apply pw_below_drewN | apply below_drew1) | exact HB.out)⟩
                           · rw [if_neg c28] at H
                             have c28b0 : ((rd t108 0) == 2) = false := beq_eq_false_iff_ne.mpr c28
                             have c28b1 : ((rd t108 0) != 2) = true := bne_iff_ne.mpr c28
                             obtain rfl := Option.some.inj H
                             go_enter Try.func6, Try.ntmps6
                             go_wp2_with (first | ((with_reducible refine gate_dst (N := 7) rfl ?_); (try (refine gate_guard (by rfl) ?_; dsimp only)); refine Kd.R_lit k34 _ 34 ?hg (N := 7) ?hd (xs := ([(⟨1, 4⟩ : S34), (⟨2, 8⟩ : S34)] : List (S34))) (inner := [.int .u64 1, .int .u64 4, .int .u64 2, .int .u64 8]) (ok := fun _ => True) (okp := fun _ => True) ?hr ?hp (fun _ hk => hk) trivial (Below.refl _ _) (Nat.le_refl _) (by simp) ?_; (case hd => rfl); (case hg => rfl); (case hr => first | (go_simp; done) | (go_simp; rfl)); (case hp => exact (Reps.c2 (show Kd.M k34 _ _ _ (⟨1, 4⟩ : S34) [.int .u64 1, .int .u64 4] from (k34_mkM _ _ _ (⟨1, 4⟩ : S34) )) (Reps.c2 (show Kd.M k34 _ _ _ (⟨2, 8⟩ : S34) [.int .u64 2, .int .u64 8] from (k34_mkM _ _ _ (⟨2, 8⟩ : S34) )) (Reps.none _ _)))); intro v102 w41 ho42 hb hg_ hnew_; clear hg_ hnew_; (first | rw [← Ny101.out] at ho42 | (simp only [Int.reduceToNat] at ho42; rw [← Ny101.out] at ho42)); have n0_ := Aside0.mk (Kd.R_lower ho42 (below_size (by repeat (first | (with_reducible first | exact HB.out | apply below_alloc | apply pw_below_drewN | apply below_drew1) | exact HB.out)))); have n1_ := Aside0.mk (below_step (by repeat (first | (with_reducible first | exact HB.out | apply below_alloc | apply pw_below_drewN | apply below_drew1) | exact HB.out)) hb); clear HB; have HO103 := n0_; have HB := n1_; clear n0_ n1_; clear hb ho42; obtain ⟨Ao43, co43, eo43⟩ := Kd.R_slice HO103.out; subst eo43) | ((with_reducible refine gate_callee (f := 11) rfl ?_); refine goesL_ (some 10) rfl rfl Try.func11 (by kernel_rfl) rfl #[.slice Ao43 y101.length co43, .int .u64 4] rfl (by (try simp only [List.map_toArray, List.map_cons, List.map_nil]); first | done | rfl | (simp only [List.length_drop, List.length_take]; rfl)) ?_; (with_reducible refine (cyclic_Table.calls k _ _ y101 4 t104 true _ ?side1 ?side2 A1.out).mono ?_); (case side1 => repeat (first | exact (Kd.R_reads' HO103.out).2.2 | (with_reducible refine Kd.C_alloc ?_ _) | (with_reducible refine Kd.C_drewN ?_ _) | (with_reducible refine Kd.C_drew ?_))); (case side2 => exact (Kd.R_reads' HO103.out).2.1); rintro e w44 ⟨v106, rfl, ho0, hb⟩; refine ⟨_, rfl, ?_⟩; have n0_ := Aside0.mk (Kd.R_below (by (with_reducible repeat (first | apply Kd.R_alloc | apply Kd.R_drewN | apply Kd.R_drew)); exact HO103.out) hb); have n1_ := Aside0.mk (Kd.S_lower ho0 (below_size (by repeat (first | (with_reducible first | exact HB.out | apply below_alloc | apply pw_below_drewN | apply below_drew1) | exact HB.out)))); have n2_ := Aside0.mk (below_step (by repeat (first | (with_reducible first | exact HB.out | apply below_alloc | apply pw_below_drewN | apply below_drew1) | exact HB.out)) hb); clear HO103; clear HB; have HO103 := n0_; have HO107 := n1_; have HB := n2_; clear n0_ n1_ n2_; (try clear hb); (try clear hb2); (try clear hk); (try clear hi); (try clear ho0)) | ((with_reducible refine gate_callee (f := 9) rfl ?_); refine goesL_ (some 14) rfl rfl Try.func9 (by kernel_rfl) rfl #[.slice Ao43 y101.length co43] rfl (by (try simp only [List.map_toArray, List.map_cons, List.map_nil]); first | done | rfl | (simp only [List.length_drop, List.length_take]; rfl)) ?_; (with_reducible refine (cyclic_Sizes.calls k _ _ y101 t108 _ ?side1 ?side2 A2.out).mono ?_); (case side1 => repeat (first | exact (Kd.R_reads' HO103.out).2.2 | (with_reducible refine Kd.C_alloc ?_ _) | (with_reducible refine Kd.C_drewN ?_ _) | (with_reducible refine Kd.C_drew ?_))); (case side2 => exact (Kd.R_reads' HO103.out).2.1); rintro e w45 ⟨v109, rfl, ho0, hb⟩; refine ⟨_, rfl, ?_⟩; have n0_ := Aside0.mk (Kd.R_below (by (with_reducible repeat (first | apply Kd.R_alloc | apply Kd.R_drewN | apply Kd.R_drew)); exact HO103.out) hb); have n1_ := Aside0.mk (Kd.S_below (by (with_reducible repeat (first | apply Kd.S_alloc | apply Kd.S_drewN | apply Kd.S_drew)); exact HO107.out) hb); have n2_ := Aside0.mk (Kd.R_lower ho0 (below_size (by repeat (first | (with_reducible first | exact HB.out | apply below_alloc | apply pw_below_drewN | apply below_drew1) | exact HB.out)))); have n3_ := Aside0.mk (below_step (by repeat (first | (with_reducible first | exact HB.out | apply below_alloc | apply pw_below_drewN | apply below_drew1) | exact HB.out)) hb); clear HO103; clear HO107; clear HB; have HO103 := n0_; have HO107 := n1_; have HO110 := n2_; have HB := n3_; clear n0_ n1_ n2_ n3_; (try clear hb); (try clear hb2); (try clear hk); (try clear hi); (try clear ho0); obtain ⟨Ao46, co46, eo46⟩ := Kd.S_slice HO107.out; subst eo46; have p111 : 0 ≤ (0 : Int) := (by omega); have q111 : 0 < (t104.length : Int) := of_decide_eq_true (by first | (with_reducible assumption) | assumption); obtain ⟨ad111, A111_0, c111_0, e111, hx111_0, hl111_0, hi111_0⟩ := at_L6 (Kd.S_reads' HO107.out).2.2 0 p111 q111; cases e111; obtain ⟨ce111, hce111, hMe111, hcc111⟩ := Kd.S_get HO107.out [] 0 p111 (by first | exact q111 | exact of_decide_eq_true (by first | (with_reducible assumption) | assumption) | (have e_ := (Kd.S_reads' HO107.out).1; omega)); obtain ⟨ve111_0, rfl, ge111_0⟩ := hMe111; have hv111_0 := hcc111 0 _ rfl; rw [Nat.add_zero, show ((Kd.slice 3 (Kd.int .i64))).sz = 1 from rfl, Nat.mul_one] at hv111_0; replace hv111_0 := Option.some.inj (hv111_0.symm.trans hx111_0); rw [hv111_0] at ge111_0; have HL111_0 := Aside0.mk (show Kd.R (Kd.int .i64) 3 _ _ _ _ (rd_L6 t104 0) from ge111_0); clear hv111_0 ge111_0; clear hcc111 hce111; have qi111 : (0 < t104.length) = True := eq_true (by omega); (try rw [show ((0 : Int)).toNat = 0 from rfl] at hx111_0); (try rw [Addr.add_zero'] at hx111_0); have HR111_0 := Aside0.mk hi111_0; have HC111_0 := Aside0.mk hl111_0; clear hi111_0 hl111_0; replace p111 := eq_true p111; replace q111 := eq_true q111; have p112 : 0 ≤ (1 : Int) := (by omega); have q112 : 1 < (t104.length : Int) := of_decide_eq_true (by first | (with_reducible assumption) | assumption); obtain ⟨ad112, A112_0, c112_0, e112, hx112_0, hl112_0, hi112_0⟩ := at_L6 (Kd.S_reads' HO107.out).2.2 1 p112 q112; obtain rfl : ad111 = ad112 := (by injection e112); obtain ⟨ce112, hce112, hMe112, hcc112⟩ := Kd.S_get HO107.out [] 1 p112 (by first | exact q112 | exact of_decide_eq_true (by first | (with_reducible assumption) | assumption) | (have e_ := (Kd.S_reads' HO107.out).1; omega)); obtain ⟨ve112_0, rfl, ge112_0⟩ := hMe112; have hv112_0 := hcc112 0 _ rfl; rw [Nat.add_zero, show ((Kd.slice 3 (Kd.int .i64))).sz = 1 from rfl, Nat.mul_one] at hv112_0; replace hv112_0 := Option.some.inj (hv112_0.symm.trans hx112_0); rw [hv112_0] at ge112_0; have HL112_0 := Aside0.mk (show Kd.R (Kd.int .i64) 3 _ _ _ _ (rd_L6 t104 1) from ge112_0); clear hv112_0 ge112_0; clear hcc112 hce112; (try simp only [show (1 : Int).toNat = 1 from rfl, Nat.reduceMul, Nat.reduceEqDiff, Go.Addr.add, ↓reduceIte] at hx112_0); have qi112 : (1 < t104.length) = True := eq_true (by omega); (try rw [show ((1 : Int)).toNat = 1 from rfl] at hx112_0); have HR112_0 := Aside0.mk hi112_0; have HC112_0 := Aside0.mk hl112_0; clear hi112_0 hl112_0; replace p112 := eq_true p112; replace q112 := eq_true q112; have p113 : 0 ≤ (1 : Int) := (by omega); have q113 : 1 < (t104.length : Int) := of_decide_eq_true (by first | (with_reducible assumption) | assumption); obtain ⟨ad113, A113_0, c113_0, e113, hx113_0, hl113_0, hi113_0⟩ := at_L6 (Kd.S_reads' HO107.out).2.2 1 p113 q113; obtain rfl : ad111 = ad113 := (by injection e113); obtain ⟨ce113, hce113, hMe113, hcc113⟩ := Kd.S_get HO107.out [] 1 p113 (by first | exact q113 | exact of_decide_eq_true (by first | (with_reducible assumption) | assumption) | (have e_ := (Kd.S_reads' HO107.out).1; omega)); obtain ⟨ve113_0, rfl, ge113_0⟩ := hMe113; have hv113_0 := hcc113 0 _ rfl; rw [Nat.add_zero, show ((Kd.slice 3 (Kd.int .i64))).sz = 1 from rfl, Nat.mul_one] at hv113_0; replace hv113_0 := Option.some.inj (hv113_0.symm.trans hx113_0); rw [hv113_0] at ge113_0; have HL113_0 := Aside0.mk (show Kd.R (Kd.int .i64) 3 _ _ _ _ (rd_L6 t104 1) from ge113_0); clear hv113_0 ge113_0; clear hcc113 hce113; (try simp only [show (1 : Int).toNat = 1 from rfl, Nat.reduceMul, Nat.reduceEqDiff, Go.Addr.add, ↓reduceIte] at hx113_0); have qi113 : (1 < t104.length) = True := eq_true (by omega); (try rw [show ((1 : Int)).toNat = 1 from rfl] at hx113_0); have HR113_0 := Aside0.mk hi113_0; have HC113_0 := Aside0.mk hl113_0; clear hi113_0 hl113_0; replace p113 := eq_true p113; replace q113 := eq_true q113; have ea_ := Option.some.inj (hx112_0.symm.trans hx113_0); injection ea_ with ea_ en_ ec_; subst ea_; subst ec_; clear en_; have p114 : 0 ≤ (0 : Int) := (by omega); have q114 : 0 < ((rd_L6 t104 1).length : Int) := of_decide_eq_true (by first | (with_reducible assumption) | assumption); obtain ⟨ad114, e114, hx114_0⟩ := Kd.at_int (by repeat (first | (with_reducible exact HR113_0.out) | (with_reducible refine Kd.C_alloc ?_ _) | (with_reducible refine Kd.C_drewN ?_ _) | (with_reducible refine Kd.C_drew ?_) | exact HR113_0.out)) 0 p114 q114; cases e114; have qi114 : (0 < (rd_L6 t104 1).length) = True := eq_true (by omega); (try rw [show ((0 : Int)).toNat = 0 from rfl] at hx114_0); (try rw [Addr.add_zero'] at hx114_0); replace p114 := eq_true p114; replace q114 := eq_true q114) | (go_at_call 12; (with_reducible refine (cyclic_Check.calls k _ _ y101 4 _ _ t104 true _ ?side1 ?side2 ?side3 ?side4 A11.out).mono ?_); (case side1 => repeat (first | exact (Kd.R_reads' HO103.out).2.2 | (with_reducible refine Kd.C_alloc ?_ _) | (with_reducible refine Kd.C_drewN ?_ _) | (with_reducible refine Kd.C_drew ?_))); (case side2 => exact (Kd.R_reads' HO103.out).2.1); (case side3 => repeat (first | exact (Kd.S_reads' HO107.out).2.2 | (with_reducible refine Kd.C_alloc ?_ _) | (with_reducible refine Kd.C_drewN ?_ _) | (with_reducible refine Kd.C_drew ?_))); (case side4 => exact (Kd.S_reads' HO107.out).2.1); rintro e w47 ⟨rfl, hb⟩; have n0_ := Aside0.mk (Kd.R_below (by (with_reducible repeat (first | apply Kd.R_alloc | apply Kd.R_drewN | apply Kd.R_drew)); exact HO103.out) hb); have n1_ := Aside0.mk (Kd.S_below (by (with_reducible repeat (first | apply Kd.S_alloc | apply Kd.S_drewN | apply Kd.S_drew)); exact HO107.out) hb); have n2_ := Aside0.mk (Kd.R_below (by (with_reducible repeat (first | apply Kd.R_alloc | apply Kd.R_drewN | apply Kd.R_drew)); exact HO110.out) hb); have n3_ := Aside0.mk (Kd.R_below (by (with_reducible repeat (first | apply Kd.R_alloc | apply Kd.R_drewN | apply Kd.R_drew)); exact HL111_0.out) hb); have n4_ := Aside0.mk (Kd.R_below (by (with_reducible repeat (first | apply Kd.R_alloc | apply Kd.R_drewN | apply Kd.R_drew)); exact HL112_0.out) hb); have n5_ := Aside0.mk (Kd.R_below (by (with_reducible repeat (first | apply Kd.R_alloc | apply Kd.R_drewN | apply Kd.R_drew)); exact HL113_0.out) hb); have n6_ := Aside0.mk (Kd.C_below (by repeat (first | (with_reducible exact HR111_0.out) | (with_reducible refine Kd.C_alloc ?_ _) | (with_reducible refine Kd.C_drewN ?_ _) | (with_reducible refine Kd.C_drew ?_) | exact HR111_0.out)) hb); have n7_ := Aside0.mk (Kd.C_below (by repeat (first | (with_reducible exact HR112_0.out) | (with_reducible refine Kd.C_alloc ?_ _) | (with_reducible refine Kd.C_drewN ?_ _) | (with_reducible refine Kd.C_drew ?_) | exact HR112_0.out)) hb); have n8_ := Aside0.mk (Kd.C_below (by repeat (first | (with_reducible exact HR113_0.out) | (with_reducible refine Kd.C_alloc ?_ _) | (with_reducible refine Kd.C_drewN ?_ _) | (with_reducible refine Kd.C_drew ?_) | exact HR113_0.out)) hb); have n9_ := Aside0.mk (below_step (by repeat (first | (with_reducible first | exact HB.out | apply below_alloc | apply pw_below_drewN | apply below_drew1) | exact HB.out)) hb); clear HO103; clear HO107; clear HO110; clear HL111_0; clear HL112_0; clear HL113_0; clear HR111_0; clear HR112_0; clear HR113_0; clear HB; have HO103 := n0_; have HO107 := n1_; have HO110 := n2_; have HL111_0 := n3_; have HL112_0 := n4_; have HL113_0 := n5_; have HR111_0 := n6_; have HR112_0 := n7_; have HR113_0 := n8_; have HB := n9_; clear n0_ n1_ n2_ n3_ n4_ n5_ n6_ n7_ n8_ n9_; (try clear hb); (try clear hb2); (try clear hk); (try clear hi)) | (go_at_call 7; (with_reducible refine (cyclic_Suits.calls k _ _ y101 2 true _ ?side1 ?side2 A13.out).mono ?_); (case side1 => repeat (first | exact (Kd.R_reads' HO103.out).2.2 | (with_reducible refine Kd.C_alloc ?_ _) | (with_reducible refine Kd.C_drewN ?_ _) | (with_reducible refine Kd.C_drew ?_))); (case side2 => exact (Kd.R_reads' HO103.out).2.1); rintro e w48 ⟨rfl, hb⟩; have n0_ := Aside0.mk (Kd.R_below (by (with_reducible repeat (first | apply Kd.R_alloc | apply Kd.R_drewN | apply Kd.R_drew)); exact HO103.out) hb); have n1_ := Aside0.mk (Kd.S_below (by (with_reducible repeat (first | apply Kd.S_alloc | apply Kd.S_drewN | apply Kd.S_drew)); exact HO107.out) hb); have n2_ := Aside0.mk (Kd.R_below (by (with_reducible repeat (first | apply Kd.R_alloc | apply Kd.R_drewN | apply Kd.R_drew)); exact HO110.out) hb); have n3_ := Aside0.mk (Kd.R_below (by (with_reducible repeat (first | apply Kd.R_alloc | apply Kd.R_drewN | apply Kd.R_drew)); exact HL111_0.out) hb); have n4_ := Aside0.mk (Kd.R_below (by (with_reducible repeat (first | apply Kd.R_alloc | apply Kd.R_drewN | apply Kd.R_drew)); exact HL112_0.out) hb); have n5_ := Aside0.mk (Kd.R_below (by (with_reducible repeat (first | apply Kd.R_alloc | apply Kd.R_drewN | apply Kd.R_drew)); exact HL113_0.out) hb); have n6_ := Aside0.mk (Kd.C_below (by repeat (first | (with_reducible exact HR111_0.out) | (with_reducible refine Kd.C_alloc ?_ _) | (with_reducible refine Kd.C_drewN ?_ _) | (with_reducible refine Kd.C_drew ?_) | exact HR111_0.out)) hb); have n7_ := Aside0.mk (Kd.C_below (by repeat (first | (with_reducible exact HR112_0.out) | (with_reducible refine Kd.C_alloc ?_ _) | (with_reducible refine Kd.C_drewN ?_ _) | (with_reducible refine Kd.C_drew ?_) | exact HR112_0.out)) hb); have n8_ := Aside0.mk (Kd.C_below (by repeat (first | (with_reducible exact HR113_0.out) | (with_reducible refine Kd.C_alloc ?_ _) | (with_reducible refine Kd.C_drewN ?_ _) | (with_reducible refine Kd.C_drew ?_) | exact HR113_0.out)) hb); have n9_ := Aside0.mk (below_step (by repeat (first | (with_reducible first | exact HB.out | apply below_alloc | apply pw_below_drewN | apply below_drew1) | exact HB.out)) hb); clear HO103; clear HO107; clear HO110; clear HL111_0; clear HL112_0; clear HL113_0; clear HR111_0; clear HR112_0; clear HR113_0; clear HB; have HO103 := n0_; have HO107 := n1_; have HO110 := n2_; have HL111_0 := n3_; have HL112_0 := n4_; have HL113_0 := n5_; have HR111_0 := n6_; have HR112_0 := n7_; have HR113_0 := n8_; have HB := n9_; clear n0_ n1_ n2_ n3_ n4_ n5_ n6_ n7_ n8_ n9_; (try clear hb); (try clear hb2); (try clear hk); (try clear hi)) | (go_at_call 7; (with_reducible refine (cyclic_Suits.calls k _ _ y101 8 false _ ?side1 ?side2 A15.out).mono ?_); (case side1 => repeat (first | exact (Kd.R_reads' HO103.out).2.2 | (with_reducible refine Kd.C_alloc ?_ _) | (with_reducible refine Kd.C_drewN ?_ _) | (with_reducible refine Kd.C_drew ?_))); (case side2 => exact (Kd.R_reads' HO103.out).2.1); rintro e w49 ⟨rfl, hb⟩; have n0_ := Aside0.mk (Kd.R_below (by (with_reducible repeat (first | apply Kd.R_alloc | apply Kd.R_drewN | apply Kd.R_drew)); exact HO103.out) hb); have n1_ := Aside0.mk (Kd.S_below (by (with_reducible repeat (first | apply Kd.S_alloc | apply Kd.S_drewN | apply Kd.S_drew)); exact HO107.out) hb); have n2_ := Aside0.mk (Kd.R_below (by (with_reducible repeat (first | apply Kd.R_alloc | apply Kd.R_drewN | apply Kd.R_drew)); exact HO110.out) hb); have n3_ := Aside0.mk (Kd.R_below (by (with_reducible repeat (first | apply Kd.R_alloc | apply Kd.R_drewN | apply Kd.R_drew)); exact HL111_0.out) hb); have n4_ := Aside0.mk (Kd.R_below (by (with_reducible repeat (first | apply Kd.R_alloc | apply Kd.R_drewN | apply Kd.R_drew)); exact HL112_0.out) hb); have n5_ := Aside0.mk (Kd.R_below (by (with_reducible repeat (first | apply Kd.R_alloc | apply Kd.R_drewN | apply Kd.R_drew)); exact HL113_0.out) hb); have n6_ := Aside0.mk (Kd.C_below (by repeat (first | (with_reducible exact HR111_0.out) | (with_reducible refine Kd.C_alloc ?_ _) | (with_reducible refine Kd.C_drewN ?_ _) | (with_reducible refine Kd.C_drew ?_) | exact HR111_0.out)) hb); have n7_ := Aside0.mk (Kd.C_below (by repeat (first | (with_reducible exact HR112_0.out) | (with_reducible refine Kd.C_alloc ?_ _) | (with_reducible refine Kd.C_drewN ?_ _) | (with_reducible refine Kd.C_drew ?_) | exact HR112_0.out)) hb); have n8_ := Aside0.mk (Kd.C_below (by repeat (first | (with_reducible exact HR113_0.out) | (with_reducible refine Kd.C_alloc ?_ _) | (with_reducible refine Kd.C_drewN ?_ _) | (with_reducible refine Kd.C_drew ?_) | exact HR113_0.out)) hb); have n9_ := Aside0.mk (below_step (by repeat (first | (with_reducible first | exact HB.out | apply below_alloc | apply pw_below_drewN | apply below_drew1) | exact HB.out)) hb); clear HO103; clear HO107; clear HO110; clear HL111_0; clear HL112_0; clear HL113_0; clear HR111_0; clear HR112_0; clear HR113_0; clear HB; have HO103 := n0_; have HO107 := n1_; have HO110 := n2_; have HL111_0 := n3_; have HL112_0 := n4_; have HL113_0 := n5_; have HR111_0 := n6_; have HR112_0 := n7_; have HR113_0 := n8_; have HB := n9_; clear n0_ n1_ n2_ n3_ n4_ n5_ n6_ n7_ n8_ n9_; (try clear hb); (try clear hb2); (try clear hk); (try clear hi); obtain ⟨Ao50, co50, eo50⟩ := Kd.R_slice HO110.out; subst eo50; have p118 : 0 ≤ (0 : Int) := (by omega); have q118 : 0 < (t108.length : Int) := of_decide_eq_true (by first | (with_reducible assumption) | assumption); obtain ⟨ad118, e118, hx118_0⟩ := Kd.at_int (Kd.R_reads' HO110.out).2.2 0 p118 q118; cases e118; have qi118 : (0 < t108.length) = True := eq_true (by omega); (try rw [show ((0 : Int)).toNat = 0 from rfl] at hx118_0); (try rw [Addr.add_zero'] at hx118_0); replace p118 := eq_true p118; replace q118 := eq_true q118))
                             go_ret
                             exact ⟨by first | rfl | (simp [errW_none, errW_some] <;> rfl) | (simp [*, errW_none, errW_some] <;> rfl), by repeat (first | (with_reducible first | exact HB.out | apply below_alloc | apply pw_below_drewN | apply below_drew1) | exact HB.out)⟩
                         · rw [if_neg c27] at H
                           exact absurd H (by simp)
                       · rw [if_neg c26] at H
                         have c26b0 : ((t108.length : Int) == 2) = false := beq_eq_false_iff_ne.mpr c26
                         have c26b1 : ((t108.length : Int) != 2) = true := bne_iff_ne.mpr c26
                         obtain rfl := Option.some.inj H
                         go_enter Try.func6, Try.ntmps6
                         go_wp2_with (first | ((with_reducible refine gate_dst (N := 7) rfl ?_); (try (refine gate_guard (by rfl) ?_; dsimp only)); refine Kd.R_lit k34 _ 34 ?hg (N := 7) ?hd (xs := ([(⟨1, 4⟩ : S34), (⟨2, 8⟩ : S34)] : List (S34))) (inner := [.int .u64 1, .int .u64 4, .int .u64 2, .int .u64 8]) (ok := fun _ => True) (okp := fun _ => True) ?hr ?hp (fun _ hk => hk) trivial (Below.refl _ _) (Nat.le_refl _) (by simp) ?_; (case hd => rfl); (case hg => rfl); (case hr => first | (go_simp; done) | (go_simp; rfl)); (case hp => exact (Reps.c2 (show Kd.M k34 _ _ _ (⟨1, 4⟩ : S34) [.int .u64 1, .int .u64 4] from (k34_mkM _ _ _ (⟨1, 4⟩ : S34) )) (Reps.c2 (show Kd.M k34 _ _ _ (⟨2, 8⟩ : S34) [.int .u64 2, .int .u64 8] from (k34_mkM _ _ _ (⟨2, 8⟩ : S34) )) (Reps.none _ _)))); intro v102 w51 ho52 hb hg_ hnew_; clear hg_ hnew_; (first | rw [← Ny101.out] at ho52 | (simp only [Int.reduceToNat] at ho52; rw [← Ny101.out] at ho52)); have n0_ := Aside0.mk (Kd.R_lower ho52 (below_size (by repeat (first | (with_reducible first | exact HB.out | apply below_alloc | apply pw_below_drewN | apply below_drew1) | exact HB.out)))); have n1_ := Aside0.mk (below_step (by repeat (first | (with_reducible first | exact HB.out | apply below_alloc | apply pw_below_drewN | apply below_drew1) | exact HB.out)) hb); clear HB; have HO103 := n0_; have HB := n1_; clear n0_ n1_; clear hb ho52; obtain ⟨Ao53, co53, eo53⟩ := Kd.R_slice HO103.out; subst eo53) | ((with_reducible refine gate_callee (f := 11) rfl ?_); refine goesL_ (some 10) rfl rfl Try.func11 (by kernel_rfl) rfl #[.slice Ao53 y101.length co53, .int .u64 4] rfl (by (try simp only [List.map_toArray, List.map_cons, List.map_nil]); first | done | rfl | (simp only [List.length_drop, List.length_take]; rfl)) ?_; (with_reducible refine (cyclic_Table.calls k _ _ y101 4 t104 true _ ?side1 ?side2 A1.out).mono ?_); (case side1 => repeat (first | exact (Kd.R_reads' HO103.out).2.2 | (with_reducible refine Kd.C_alloc ?_ _) | (with_reducible refine Kd.C_drewN ?_ _) | (with_reducible refine Kd.C_drew ?_))); (case side2 => exact (Kd.R_reads' HO103.out).2.1); rintro e w54 ⟨v106, rfl, ho0, hb⟩; refine ⟨_, rfl, ?_⟩; have n0_ := Aside0.mk (Kd.R_below (by (with_reducible repeat (first | apply Kd.R_alloc | apply Kd.R_drewN | apply Kd.R_drew)); exact HO103.out) hb); have n1_ := Aside0.mk (Kd.S_lower ho0 (below_size (by repeat (first | (with_reducible first | exact HB.out | apply below_alloc | apply pw_below_drewN | apply below_drew1) | exact HB.out)))); have n2_ := Aside0.mk (below_step (by repeat (first | (with_reducible first | exact HB.out | apply below_alloc | apply pw_below_drewN | apply below_drew1) | exact HB.out)) hb); clear HO103; clear HB; have HO103 := n0_; have HO107 := n1_; have HB := n2_; clear n0_ n1_ n2_; (try clear hb); (try clear hb2); (try clear hk); (try clear hi); (try clear ho0)) | ((with_reducible refine gate_callee (f := 9) rfl ?_); refine goesL_ (some 14) rfl rfl Try.func9 (by kernel_rfl) rfl #[.slice Ao53 y101.length co53] rfl (by (try simp only [List.map_toArray, List.map_cons, List.map_nil]); first | done | rfl | (simp only [List.length_drop, List.length_take]; rfl)) ?_; (with_reducible refine (cyclic_Sizes.calls k _ _ y101 t108 _ ?side1 ?side2 A2.out).mono ?_); (case side1 => repeat (first | exact (Kd.R_reads' HO103.out).2.2 | (with_reducible refine Kd.C_alloc ?_ _) | (with_reducible refine Kd.C_drewN ?_ _) | (with_reducible refine Kd.C_drew ?_))); (case side2 => exact (Kd.R_reads' HO103.out).2.1); rintro e w55 ⟨v109, rfl, ho0, hb⟩; refine ⟨_, rfl, ?_⟩; have n0_ := Aside0.mk (Kd.R_below (by (with_reducible repeat (first | apply Kd.R_alloc | apply Kd.R_drewN | apply Kd.R_drew)); exact HO103.out) hb); have n1_ := Aside0.mk (Kd.S_below (by (with_reducible repeat (first | apply Kd.S_alloc | apply Kd.S_drewN | apply Kd.S_drew)); exact HO107.out) hb); have n2_ := Aside0.mk (Kd.R_lower ho0 (below_size (by repeat (first | (with_reducible first | exact HB.out | apply below_alloc | apply pw_below_drewN | apply below_drew1) | exact HB.out)))); have n3_ := Aside0.mk (below_step (by repeat (first | (with_reducible first | exact HB.out | apply below_alloc | apply pw_below_drewN | apply below_drew1) | exact HB.out)) hb); clear HO103; clear HO107; clear HB; have HO103 := n0_; have HO107 := n1_; have HO110 := n2_; have HB := n3_; clear n0_ n1_ n2_ n3_; (try clear hb); (try clear hb2); (try clear hk); (try clear hi); (try clear ho0); obtain ⟨Ao56, co56, eo56⟩ := Kd.S_slice HO107.out; subst eo56; have p111 : 0 ≤ (0 : Int) := (by omega); have q111 : 0 < (t104.length : Int) := of_decide_eq_true (by first | (with_reducible assumption) | assumption); obtain ⟨ad111, A111_0, c111_0, e111, hx111_0, hl111_0, hi111_0⟩ := at_L6 (Kd.S_reads' HO107.out).2.2 0 p111 q111; cases e111; obtain ⟨ce111, hce111, hMe111, hcc111⟩ := Kd.S_get HO107.out [] 0 p111 (by first | exact q111 | exact of_decide_eq_true (by first | (with_reducible assumption) | assumption) | (have e_ := (Kd.S_reads' HO107.out).1; omega)); obtain ⟨ve111_0, rfl, ge111_0⟩ := hMe111; have hv111_0 := hcc111 0 _ rfl; rw [Nat.add_zero, show ((Kd.slice 3 (Kd.int .i64))).sz = 1 from rfl, Nat.mul_one] at hv111_0; replace hv111_0 := Option.some.inj (hv111_0.symm.trans hx111_0); rw [hv111_0] at ge111_0; have HL111_0 := Aside0.mk (show Kd.R (Kd.int .i64) 3 _ _ _ _ (rd_L6 t104 0) from ge111_0); clear hv111_0 ge111_0; clear hcc111 hce111; have qi111 : (0 < t104.length) = True := eq_true (by omega); (try rw [show ((0 : Int)).toNat = 0 from rfl] at hx111_0); (try rw [Addr.add_zero'] at hx111_0); have HR111_0 := Aside0.mk hi111_0; have HC111_0 := Aside0.mk hl111_0; clear hi111_0 hl111_0; replace p111 := eq_true p111; replace q111 := eq_true q111; have p112 : 0 ≤ (1 : Int) := (by omega); have q112 : 1 < (t104.length : Int) := of_decide_eq_true (by first | (with_reducible assumption) | assumption); obtain ⟨ad112, A112_0, c112_0, e112, hx112_0, hl112_0, hi112_0⟩ := at_L6 (Kd.S_reads' HO107.out).2.2 1 p112 q112; obtain rfl : ad111 = ad112 := (by injection e112); obtain ⟨ce112, hce112, hMe112, hcc112⟩ := Kd.S_get HO107.out [] 1 p112 (by first | exact q112 | exact of_decide_eq_true (by first | (with_reducible assumption) | assumption) | (have e_ := (Kd.S_reads' HO107.out).1; omega)); obtain ⟨ve112_0, rfl, ge112_0⟩ := hMe112; have hv112_0 := hcc112 0 _ rfl; rw [Nat.add_zero, show ((Kd.slice 3 (Kd.int .i64))).sz = 1 from rfl, Nat.mul_one] at hv112_0; replace hv112_0 := Option.some.inj (hv112_0.symm.trans hx112_0); rw [hv112_0] at ge112_0; have HL112_0 := Aside0.mk (show Kd.R (Kd.int .i64) 3 _ _ _ _ (rd_L6 t104 1) from ge112_0); clear hv112_0 ge112_0; clear hcc112 hce112; (try simp only [show (1 : Int).toNat = 1 from rfl, Nat.reduceMul, Nat.reduceEqDiff, Go.Addr.add, ↓reduceIte] at hx112_0); have qi112 : (1 < t104.length) = True := eq_true (by omega); (try rw [show ((1 : Int)).toNat = 1 from rfl] at hx112_0); have HR112_0 := Aside0.mk hi112_0; have HC112_0 := Aside0.mk hl112_0; clear hi112_0 hl112_0; replace p112 := eq_true p112; replace q112 := eq_true q112; have p113 : 0 ≤ (1 : Int) := (by omega); have q113 : 1 < (t104.length : Int) := of_decide_eq_true (by first | (with_reducible assumption) | assumption); obtain ⟨ad113, A113_0, c113_0, e113, hx113_0, hl113_0, hi113_0⟩ := at_L6 (Kd.S_reads' HO107.out).2.2 1 p113 q113; obtain rfl : ad111 = ad113 := (by injection e113); obtain ⟨ce113, hce113, hMe113, hcc113⟩ := Kd.S_get HO107.out [] 1 p113 (by first | exact q113 | exact of_decide_eq_true (by first | (with_reducible assumption) | assumption) | (have e_ := (Kd.S_reads' HO107.out).1; omega)); obtain ⟨ve113_0, rfl, ge113_0⟩ := hMe113; have hv113_0 := hcc113 0 _ rfl; rw [Nat.add_zero, show ((Kd.slice 3 (Kd.int .i64))).sz = 1 from rfl, Nat.mul_one] at hv113_0; replace hv113_0 := Option.some.inj (hv113_0.symm.trans hx113_0); rw [hv113_0] at ge113_0; have HL113_0 := Aside0.mk (show Kd.R (Kd.int .i64) 3 _ _ _ _ (rd_L6 t104 1) from ge113_0); clear hv113_0 ge113_0; clear hcc113 hce113; (try simp only [show (1 : Int).toNat = 1 from rfl, Nat.reduceMul, Nat.reduceEqDiff, Go.Addr.add, ↓reduceIte] at hx113_0); have qi113 : (1 < t104.length) = True := eq_true (by omega); (try rw [show ((1 : Int)).toNat = 1 from rfl] at hx113_0); have HR113_0 := Aside0.mk hi113_0; have HC113_0 := Aside0.mk hl113_0; clear hi113_0 hl113_0; replace p113 := eq_true p113; replace q113 := eq_true q113; have ea_ := Option.some.inj (hx112_0.symm.trans hx113_0); injection ea_ with ea_ en_ ec_; subst ea_; subst ec_; clear en_; have p114 : 0 ≤ (0 : Int) := (by omega); have q114 : 0 < ((rd_L6 t104 1).length : Int) := of_decide_eq_true (by first | (with_reducible assumption) | assumption); obtain ⟨ad114, e114, hx114_0⟩ := Kd.at_int (by repeat (first | (with_reducible exact HR113_0.out) | (with_reducible refine Kd.C_alloc ?_ _) | (with_reducible refine Kd.C_drewN ?_ _) | (with_reducible refine Kd.C_drew ?_) | exact HR113_0.out)) 0 p114 q114; cases e114; have qi114 : (0 < (rd_L6 t104 1).length) = True := eq_true (by omega); (try rw [show ((0 : Int)).toNat = 0 from rfl] at hx114_0); (try rw [Addr.add_zero'] at hx114_0); replace p114 := eq_true p114; replace q114 := eq_true q114) | (go_at_call 12; (with_reducible refine (cyclic_Check.calls k _ _ y101 4 _ _ t104 true _ ?side1 ?side2 ?side3 ?side4 A11.out).mono ?_); (case side1 => repeat (first | exact (Kd.R_reads' HO103.out).2.2 | (with_reducible refine Kd.C_alloc ?_ _) | (with_reducible refine Kd.C_drewN ?_ _) | (with_reducible refine Kd.C_drew ?_))); (case side2 => exact (Kd.R_reads' HO103.out).2.1); (case side3 => repeat (first | exact (Kd.S_reads' HO107.out).2.2 | (with_reducible refine Kd.C_alloc ?_ _) | (with_reducible refine Kd.C_drewN ?_ _) | (with_reducible refine Kd.C_drew ?_))); (case side4 => exact (Kd.S_reads' HO107.out).2.1); rintro e w57 ⟨rfl, hb⟩; have n0_ := Aside0.mk (Kd.R_below (by (with_reducible repeat (first | apply Kd.R_alloc | apply Kd.R_drewN | apply Kd.R_drew)); exact HO103.out) hb); have n1_ := Aside0.mk (Kd.S_below (by (with_reducible repeat (first | apply Kd.S_alloc | apply Kd.S_drewN | apply Kd.S_drew)); exact HO107.out) hb); have n2_ := Aside0.mk (Kd.R_below (by (with_reducible repeat (first | apply Kd.R_alloc | apply Kd.R_drewN | apply Kd.R_drew)); exact HO110.out) hb); have n3_ := Aside0.mk (Kd.R_below (by (with_reducible repeat (first | apply Kd.R_alloc | apply Kd.R_drewN | apply Kd.R_drew)); exact HL111_0.out) hb); have n4_ := Aside0.mk (Kd.R_below (by (with_reducible repeat (first | apply Kd.R_alloc | apply Kd.R_drewN | apply Kd.R_drew)); exact HL112_0.out) hb); have n5_ := Aside0.mk (Kd.R_below (by (with_reducible repeat (first | apply Kd.R_alloc | apply Kd.R_drewN | apply Kd.R_drew)); exact HL113_0.out) hb); have n6_ := Aside0.mk (Kd.C_below (by repeat (first | (with_reducible exact HR111_0.out) | (with_reducible refine Kd.C_alloc ?_ _) | (with_reducible refine Kd.C_drewN ?_ _) | (with_reducible refine Kd.C_drew ?_) | exact HR111_0.out)) hb); have n7_ := Aside0.mk (Kd.C_below (by repeat (first | (with_reducible exact HR112_0.out) | (with_reducible refine Kd.C_alloc ?_ _) | (with_reducible refine Kd.C_drewN ?_ _) | (with_reducible refine Kd.C_drew ?_) | exact HR112_0.out)) hb); have n8_ := Aside0.mk (Kd.C_below (by repeat (first | (with_reducible exact HR113_0.out) | (with_reducible refine Kd.C_alloc ?_ _) | (with_reducible refine Kd.C_drewN ?_ _) | (with_reducible refine Kd.C_drew ?_) | exact HR113_0.out)) hb); have n9_ := Aside0.mk (below_step (by repeat (first | (with_reducible first | exact HB.out | apply below_alloc | apply pw_below_drewN | apply below_drew1) | exact HB.out)) hb); clear HO103; clear HO107; clear HO110; clear HL111_0; clear HL112_0; clear HL113_0; clear HR111_0; clear HR112_0; clear HR113_0; clear HB; have HO103 := n0_; have HO107 := n1_; have HO110 := n2_; have HL111_0 := n3_; have HL112_0 := n4_; have HL113_0 := n5_; have HR111_0 := n6_; have HR112_0 := n7_; have HR113_0 := n8_; have HB := n9_; clear n0_ n1_ n2_ n3_ n4_ n5_ n6_ n7_ n8_ n9_; (try clear hb); (try clear hb2); (try clear hk); (try clear hi)) | (go_at_call 7; (with_reducible refine (cyclic_Suits.calls k _ _ y101 2 true _ ?side1 ?side2 A13.out).mono ?_); (case side1 => repeat (first | exact (Kd.R_reads' HO103.out).2.2 | (with_reducible refine Kd.C_alloc ?_ _) | (with_reducible refine Kd.C_drewN ?_ _) | (with_reducible refine Kd.C_drew ?_))); (case side2 => exact (Kd.R_reads' HO103.out).2.1); rintro e w58 ⟨rfl, hb⟩; have n0_ := Aside0.mk (Kd.R_below (by (with_reducible repeat (first | apply Kd.R_alloc | apply Kd.R_drewN | apply Kd.R_drew)); exact HO103.out) hb); have n1_ := Aside0.mk (Kd.S_below (by (with_reducible repeat (first | apply Kd.S_alloc | apply Kd.S_drewN | apply Kd.S_drew)); exact HO107.out) hb); have n2_ := Aside0.mk (Kd.R_below (by (with_reducible repeat (first | apply Kd.R_alloc | apply Kd.R_drewN | apply Kd.R_drew)); exact HO110.out) hb); have n3_ := Aside0.mk (Kd.R_below (by (with_reducible repeat (first | apply Kd.R_alloc | apply Kd.R_drewN | apply Kd.R_drew)); exact HL111_0.out) hb); have n4_ := Aside0.mk (Kd.R_below (by (with_reducible repeat (first | apply Kd.R_alloc | apply Kd.R_drewN | apply Kd.R_drew)); exact HL112_0.out) hb); have n5_ := Aside0.mk (Kd.R_below (by (with_reducible repeat (first | apply Kd.R_alloc | apply Kd.R_drewN | apply Kd.R_drew)); exact HL113_0.out) hb); have n6_ := Aside0.mk (Kd.C_below (by repeat (first | (with_reducible exact HR111_0.out) | (with_reducible refine Kd.C_alloc ?_ _) | (with_reducible refine Kd.C_drewN ?_ _) | (with_reducible refine Kd.C_drew ?_) | exact HR111_0.out)) hb); have n7_ := Aside0.mk (Kd.C_below (by repeat (first | (with_reducible exact HR112_0.out) | (with_reducible refine Kd.C_alloc ?_ _) | (with_reducible refine Kd.C_drewN ?_ _) | (with_reducible refine Kd.C_drew ?_) | exact HR112_0.out)) hb); have n8_ := Aside0.mk (Kd.C_below (by repeat (first | (with_reducible exact HR113_0.out) | (with_reducible refine Kd.C_alloc ?_ _) | (with_reducible refine Kd.C_drewN ?_ _) | (with_reducible refine Kd.C_drew ?_) | exact HR113_0.out)) hb); have n9_ := Aside0.mk (below_step (by repeat (first | (with_reducible first | exact HB.out | apply below_alloc | apply pw_below_drewN | apply below_drew1) | exact HB.out)) hb); clear HO103; clear HO107; clear HO110; clear HL111_0; clear HL112_0; clear HL113_0; clear HR111_0; clear HR112_0; clear HR113_0; clear HB; have HO103 := n0_; have HO107 := n1_; have HO110 := n2_; have HL111_0 := n3_; have HL112_0 := n4_; have HL113_0 := n5_; have HR111_0 := n6_; have HR112_0 := n7_; have HR113_0 := n8_; have HB := n9_; clear n0_ n1_ n2_ n3_ n4_ n5_ n6_ n7_ n8_ n9_; (try clear hb); (try clear hb2); (try clear hk); (try clear hi)) | (go_at_call 7; (with_reducible refine (cyclic_Suits.calls k _ _ y101 8 false _ ?side1 ?side2 A15.out).mono ?_); (case side1 => repeat (first | exact (Kd.R_reads' HO103.out).2.2 | (with_reducible refine Kd.C_alloc ?_ _) | (with_reducible refine Kd.C_drewN ?_ _) | (with_reducible refine Kd.C_drew ?_))); (case side2 => exact (Kd.R_reads' HO103.out).2.1); rintro e w59 ⟨rfl, hb⟩; have n0_ := Aside0.mk (Kd.R_below (by (with_reducible repeat (first | apply Kd.R_alloc | apply Kd.R_drewN | apply Kd.R_drew)); exact HO103.out) hb); have n1_ := Aside0.mk (Kd.S_below (by (with_reducible repeat (first | apply Kd.S_alloc | apply Kd.S_drewN | apply Kd.S_drew)); exact HO107.out) hb); have n2_ := Aside0.mk (Kd.R_below (by (with_reducible repeat (first | apply Kd.R_alloc | apply Kd.R_drewN | apply Kd.R_drew)); exact HO110.out) hb); have n3_ := Aside0.mk (Kd.R_below (by (with_reducible repeat (first | apply Kd.R_alloc | apply Kd.R_drewN | apply Kd.R_drew)); exact HL111_0.out) hb); have n4_ := Aside0.mk (Kd.R_below (by (with_reducible repeat (first | apply Kd.R_alloc | apply Kd.R_drewN | apply Kd.R_drew)); exact HL112_0.out) hb); have n5_ := Aside0.mk (Kd.R_below (by (with_reducible repeat (first | apply Kd.R_alloc | apply Kd.R_drewN | apply Kd.R_drew)); exact HL113_0.out) hb); have n6_ := Aside0.mk (Kd.C_below (by repeat (first | (with_reducible exact HR111_0.out) | (with_reducible refine Kd.C_alloc ?_ _) | (with_reducible refine Kd.C_drewN ?_ _) | (with_reducible refine Kd.C_drew ?_) | exact HR111_0.out)) hb); have n7_ := Aside0.mk (Kd.C_below (by repeat (first | (with_reducible exact HR112_0.out) | (with_reducible refine Kd.C_alloc ?_ _) | (with_reducible refine Kd.C_drewN ?_ _) | (with_reducible refine Kd.C_drew ?_) | exact HR112_0.out)) hb); have n8_ := Aside0.mk (Kd.C_below (by repeat (first | (with_reducible exact HR113_0.out) | (with_reducible refine Kd.C_alloc ?_ _) | (with_reducible refine Kd.C_drewN ?_ _) | (with_reducible refine Kd.C_drew ?_) | exact HR113_0.out)) hb); have n9_ := Aside0.mk (below_step (by repeat (first | (with_reducible first | exact HB.out | apply below_alloc | apply pw_below_drewN | apply below_drew1) | exact HB.out)) hb); clear HO103; clear HO107; clear HO110; clear HL111_0; clear HL112_0; clear HL113_0; clear HR111_0; clear HR112_0; clear HR113_0; clear HB; have HO103 := n0_; have HO107 := n1_; have HO110 := n2_; have HL111_0 := n3_; have HL112_0 := n4_; have HL113_0 := n5_; have HR111_0 := n6_; have HR112_0 := n7_; have HR113_0 := n8_; have HB := n9_; clear n0_ n1_ n2_ n3_ n4_ n5_ n6_ n7_ n8_ n9_; (try clear hb); (try clear hb2); (try clear hk); (try clear hi); obtain ⟨Ao60, co60, eo60⟩ := Kd.R_slice HO110.out; subst eo60))
                         go_ret
                         exact ⟨by first | rfl | (simp [errW_none, errW_some] <;> rfl) | (simp [*, errW_none, errW_some] <;> rfl), by repeat (first | (with_reducible first | exact HB.out | apply below_alloc | apply pw_below_drewN | apply below_drew1) | exact HB.out)⟩
                   · replace c14 := Bool.eq_false_iff.mpr c14
                     subst c14
                     have H1 : (some false) = some r := by rw [if_neg (show ¬ (false = true) by decide)] at H; exact H
                     clear H
                     have H := H1
                     clear H1
                     obtain rfl := Option.some.inj H
                     go_enter Try.func6, Try.ntmps6
                     go_wp2_with (first | ((with_reducible refine gate_dst (N := 7) rfl ?_); (try (refine gate_guard (by rfl) ?_; dsimp only)); refine Kd.R_lit k34 _ 34 ?hg (N := 7) ?hd (xs := ([(⟨1, 4⟩ : S34), (⟨2, 8⟩ : S34)] : List (S34))) (inner := [.int .u64 1, .int .u64 4, .int .u64 2, .int .u64 8]) (ok := fun _ => True) (okp := fun _ => True) ?hr ?hp (fun _ hk => hk) trivial (Below.refl _ _) (Nat.le_refl _) (by simp) ?_; (case hd => rfl); (case hg => rfl); (case hr => first | (go_simp; done) | (go_simp; rfl)); (case hp => exact (Reps.c2 (show Kd.M k34 _ _ _ (⟨1, 4⟩ : S34) [.int .u64 1, .int .u64 4] from (k34_mkM _ _ _ (⟨1, 4⟩ : S34) )) (Reps.c2 (show Kd.M k34 _ _ _ (⟨2, 8⟩ : S34) [.int .u64 2, .int .u64 8] from (k34_mkM _ _ _ (⟨2, 8⟩ : S34) )) (Reps.none _ _)))); intro v102 w61 ho62 hb hg_ hnew_; clear hg_ hnew_; (first | rw [← Ny101.out] at ho62 | (simp only [Int.reduceToNat] at ho62; rw [← Ny101.out] at ho62)); have n0_ := Aside0.mk (Kd.R_lower ho62 (below_size (by repeat (first | (with_reducible first | exact HB.out | apply below_alloc | apply pw_below_drewN | apply below_drew1) | exact HB.out)))); have n1_ := Aside0.mk (below_step (by repeat (first | (with_reducible first | exact HB.out | apply below_alloc | apply pw_below_drewN | apply below_drew1) | exact HB.out)) hb); clear HB; have HO103 := n0_; have HB := n1_; clear n0_ n1_; clear hb ho62; obtain ⟨Ao63, co63, eo63⟩ := Kd.R_slice HO103.out; subst eo63) | ((with_reducible refine gate_callee (f := 11) rfl ?_); refine goesL_ (some 10) rfl rfl Try.func11 (by kernel_rfl) rfl #[.slice Ao63 y101.length co63, .int .u64 4] rfl (by (try simp only [List.map_toArray, List.map_cons, List.map_nil]); first | done | rfl | (simp only [List.length_drop, List.length_take]; rfl)) ?_; (with_reducible refine (cyclic_Table.calls k _ _ y101 4 t104 true _ ?side1 ?side2 A1.out).mono ?_); (case side1 => repeat (first | exact (Kd.R_reads' HO103.out).2.2 | (with_reducible refine Kd.C_alloc ?_ _) | (with_reducible refine Kd.C_drewN ?_ _) | (with_reducible refine Kd.C_drew ?_))); (case side2 => exact (Kd.R_reads' HO103.out).2.1); rintro e w64 ⟨v106, rfl, ho0, hb⟩; refine ⟨_, rfl, ?_⟩; have n0_ := Aside0.mk (Kd.R_below (by (with_reducible repeat (first | apply Kd.R_alloc | apply Kd.R_drewN | apply Kd.R_drew)); exact HO103.out) hb); have n1_ := Aside0.mk (Kd.S_lower ho0 (below_size (by repeat (first | (with_reducible first | exact HB.out | apply below_alloc | apply pw_below_drewN | apply below_drew1) | exact HB.out)))); have n2_ := Aside0.mk (below_step (by repeat (first | (with_reducible first | exact HB.out | apply below_alloc | apply pw_below_drewN | apply below_drew1) | exact HB.out)) hb); clear HO103; clear HB; have HO103 := n0_; have HO107 := n1_; have HB := n2_; clear n0_ n1_ n2_; (try clear hb); (try clear hb2); (try clear hk); (try clear hi); (try clear ho0)) | ((with_reducible refine gate_callee (f := 9) rfl ?_); refine goesL_ (some 14) rfl rfl Try.func9 (by kernel_rfl) rfl #[.slice Ao63 y101.length co63] rfl (by (try simp only [List.map_toArray, List.map_cons, List.map_nil]); first | done | rfl | (simp only [List.length_drop, List.length_take]; rfl)) ?_; (with_reducible refine (cyclic_Sizes.calls k _ _ y101 t108 _ ?side1 ?side2 A2.out).mono ?_); (case side1 => repeat (first | exact (Kd.R_reads' HO103.out).2.2 | (with_reducible refine Kd.C_alloc ?_ _) | (with_reducible refine Kd.C_drewN ?_ _) | (with_reducible refine Kd.C_drew ?_))); (case side2 => exact (Kd.R_reads' HO103.out).2.1); rintro e w65 ⟨v109, rfl, ho0, hb⟩; refine ⟨_, rfl, ?_⟩; have n0_ := Aside0.mk (Kd.R_below (by (with_reducible repeat (first | apply Kd.R_alloc | apply Kd.R_drewN | apply Kd.R_drew)); exact HO103.out) hb); have n1_ := Aside0.mk (Kd.S_below (by (with_reducible repeat (first | apply Kd.S_alloc | apply Kd.S_drewN | apply Kd.S_drew)); exact HO107.out) hb); have n2_ := Aside0.mk (Kd.R_lower ho0 (below_size (by repeat (first | (with_reducible first | exact HB.out | apply below_alloc | apply pw_below_drewN | apply below_drew1) | exact HB.out)))); have n3_ := Aside0.mk (below_step (by repeat (first | (with_reducible first | exact HB.out | apply below_alloc | apply pw_below_drewN | apply below_drew1) | exact HB.out)) hb); clear HO103; clear HO107; clear HB; have HO103 := n0_; have HO107 := n1_; have HO110 := n2_; have HB := n3_; clear n0_ n1_ n2_ n3_; (try clear hb); (try clear hb2); (try clear hk); (try clear hi); (try clear ho0); obtain ⟨Ao66, co66, eo66⟩ := Kd.S_slice HO107.out; subst eo66; have p111 : 0 ≤ (0 : Int) := (by omega); have q111 : 0 < (t104.length : Int) := of_decide_eq_true (by first | (with_reducible assumption) | assumption); obtain ⟨ad111, A111_0, c111_0, e111, hx111_0, hl111_0, hi111_0⟩ := at_L6 (Kd.S_reads' HO107.out).2.2 0 p111 q111; cases e111; obtain ⟨ce111, hce111, hMe111, hcc111⟩ := Kd.S_get HO107.out [] 0 p111 (by first | exact q111 | exact of_decide_eq_true (by first | (with_reducible assumption) | assumption) | (have e_ := (Kd.S_reads' HO107.out).1; omega)); obtain ⟨ve111_0, rfl, ge111_0⟩ := hMe111; have hv111_0 := hcc111 0 _ rfl; rw [Nat.add_zero, show ((Kd.slice 3 (Kd.int .i64))).sz = 1 from rfl, Nat.mul_one] at hv111_0; replace hv111_0 := Option.some.inj (hv111_0.symm.trans hx111_0); rw [hv111_0] at ge111_0; have HL111_0 := Aside0.mk (show Kd.R (Kd.int .i64) 3 _ _ _ _ (rd_L6 t104 0) from ge111_0); clear hv111_0 ge111_0; clear hcc111 hce111; have qi111 : (0 < t104.length) = True := eq_true (by omega); (try rw [show ((0 : Int)).toNat = 0 from rfl] at hx111_0); (try rw [Addr.add_zero'] at hx111_0); have HR111_0 := Aside0.mk hi111_0; have HC111_0 := Aside0.mk hl111_0; clear hi111_0 hl111_0; replace p111 := eq_true p111; replace q111 := eq_true q111; have p112 : 0 ≤ (1 : Int) := (by omega); have q112 : 1 < (t104.length : Int) := of_decide_eq_true (by first | (with_reducible assumption) | assumption); obtain ⟨ad112, A112_0, c112_0, e112, hx112_0, hl112_0, hi112_0⟩ := at_L6 (Kd.S_reads' HO107.out).2.2 1 p112 q112; obtain rfl : ad111 = ad112 := (by injection e112); obtain ⟨ce112, hce112, hMe112, hcc112⟩ := Kd.S_get HO107.out [] 1 p112 (by first | exact q112 | exact of_decide_eq_true (by first | (with_reducible assumption) | assumption) | (have e_ := (Kd.S_reads' HO107.out).1; omega)); obtain ⟨ve112_0, rfl, ge112_0⟩ := hMe112; have hv112_0 := hcc112 0 _ rfl; rw [Nat.add_zero, show ((Kd.slice 3 (Kd.int .i64))).sz = 1 from rfl, Nat.mul_one] at hv112_0; replace hv112_0 := Option.some.inj (hv112_0.symm.trans hx112_0); rw [hv112_0] at ge112_0; have HL112_0 := Aside0.mk (show Kd.R (Kd.int .i64) 3 _ _ _ _ (rd_L6 t104 1) from ge112_0); clear hv112_0 ge112_0; clear hcc112 hce112; (try simp only [show (1 : Int).toNat = 1 from rfl, Nat.reduceMul, Nat.reduceEqDiff, Go.Addr.add, ↓reduceIte] at hx112_0); have qi112 : (1 < t104.length) = True := eq_true (by omega); (try rw [show ((1 : Int)).toNat = 1 from rfl] at hx112_0); have HR112_0 := Aside0.mk hi112_0; have HC112_0 := Aside0.mk hl112_0; clear hi112_0 hl112_0; replace p112 := eq_true p112; replace q112 := eq_true q112; have p113 : 0 ≤ (1 : Int) := (by omega); have q113 : 1 < (t104.length : Int) := of_decide_eq_true (by first | (with_reducible assumption) | assumption); obtain ⟨ad113, A113_0, c113_0, e113, hx113_0, hl113_0, hi113_0⟩ := at_L6 (Kd.S_reads' HO107.out).2.2 1 p113 q113; obtain rfl : ad111 = ad113 := (by injection e113); obtain ⟨ce113, hce113, hMe113, hcc113⟩ := Kd.S_get HO107.out [] 1 p113 (by first | exact q113 | exact of_decide_eq_true (by first | (with_reducible assumption) | assumption) | (have e_ := (Kd.S_reads' HO107.out).1; omega)); obtain ⟨ve113_0, rfl, ge113_0⟩ := hMe113; have hv113_0 := hcc113 0 _ rfl; rw [Nat.add_zero, show ((Kd.slice 3 (Kd.int .i64))).sz = 1 from rfl, Nat.mul_one] at hv113_0; replace hv113_0 := Option.some.inj (hv113_0.symm.trans hx113_0); rw [hv113_0] at ge113_0; have HL113_0 := Aside0.mk (show Kd.R (Kd.int .i64) 3 _ _ _ _ (rd_L6 t104 1) from ge113_0); clear hv113_0 ge113_0; clear hcc113 hce113; (try simp only [show (1 : Int).toNat = 1 from rfl, Nat.reduceMul, Nat.reduceEqDiff, Go.Addr.add, ↓reduceIte] at hx113_0); have qi113 : (1 < t104.length) = True := eq_true (by omega); (try rw [show ((1 : Int)).toNat = 1 from rfl] at hx113_0); have HR113_0 := Aside0.mk hi113_0; have HC113_0 := Aside0.mk hl113_0; clear hi113_0 hl113_0; replace p113 := eq_true p113; replace q113 := eq_true q113; have ea_ := Option.some.inj (hx112_0.symm.trans hx113_0); injection ea_ with ea_ en_ ec_; subst ea_; subst ec_; clear en_; have p114 : 0 ≤ (0 : Int) := (by omega); have q114 : 0 < ((rd_L6 t104 1).length : Int) := of_decide_eq_true (by first | (with_reducible assumption) | assumption); obtain ⟨ad114, e114, hx114_0⟩ := Kd.at_int (by repeat (first | (with_reducible exact HR113_0.out) | (with_reducible refine Kd.C_alloc ?_ _) | (with_reducible refine Kd.C_drewN ?_ _) | (with_reducible refine Kd.C_drew ?_) | exact HR113_0.out)) 0 p114 q114; cases e114; have qi114 : (0 < (rd_L6 t104 1).length) = True := eq_true (by omega); (try rw [show ((0 : Int)).toNat = 0 from rfl] at hx114_0); (try rw [Addr.add_zero'] at hx114_0); replace p114 := eq_true p114; replace q114 := eq_true q114) | (go_at_call 12; (with_reducible refine (cyclic_Check.calls k _ _ y101 4 _ _ t104 true _ ?side1 ?side2 ?side3 ?side4 A11.out).mono ?_); (case side1 => repeat (first | exact (Kd.R_reads' HO103.out).2.2 | (with_reducible refine Kd.C_alloc ?_ _) | (with_reducible refine Kd.C_drewN ?_ _) | (with_reducible refine Kd.C_drew ?_))); (case side2 => exact (Kd.R_reads' HO103.out).2.1); (case side3 => repeat (first | exact (Kd.S_reads' HO107.out).2.2 | (with_reducible refine Kd.C_alloc ?_ _) | (with_reducible refine Kd.C_drewN ?_ _) | (with_reducible refine Kd.C_drew ?_))); (case side4 => exact (Kd.S_reads' HO107.out).2.1); rintro e w67 ⟨rfl, hb⟩; have n0_ := Aside0.mk (Kd.R_below (by (with_reducible repeat (first | apply Kd.R_alloc | apply Kd.R_drewN | apply Kd.R_drew)); exact HO103.out) hb); have n1_ := Aside0.mk (Kd.S_below (by (with_reducible repeat (first | apply Kd.S_alloc | apply Kd.S_drewN | apply Kd.S_drew)); exact HO107.out) hb); have n2_ := Aside0.mk (Kd.R_below (by (with_reducible repeat (first | apply Kd.R_alloc | apply Kd.R_drewN | apply Kd.R_drew)); exact HO110.out) hb); have n3_ := Aside0.mk (Kd.R_below (by (with_reducible repeat (first | apply Kd.R_alloc | apply Kd.R_drewN | apply Kd.R_drew)); exact HL111_0.out) hb); have n4_ := Aside0.mk (Kd.R_below (by (with_reducible repeat (first | apply Kd.R_alloc | apply Kd.R_drewN | apply Kd.R_drew)); exact HL112_0.out) hb); have n5_ := Aside0.mk (Kd.R_below (by (with_reducible repeat (first | apply Kd.R_alloc | apply Kd.R_drewN | apply Kd.R_drew)); exact HL113_0.out) hb); have n6_ := Aside0.mk (Kd.C_below (by repeat (first | (with_reducible exact HR111_0.out) | (with_reducible refine Kd.C_alloc ?_ _) | (with_reducible refine Kd.C_drewN ?_ _) | (with_reducible refine Kd.C_drew ?_) | exact HR111_0.out)) hb); have n7_ := Aside0.mk (Kd.C_below (by repeat (first | (with_reducible exact HR112_0.out) | (with_reducible refine Kd.C_alloc ?_ _) | (with_reducible refine Kd.C_drewN ?_ _) | (with_reducible refine Kd.C_drew ?_) | exact HR112_0.out)) hb); have n8_ := Aside0.mk (Kd.C_below (by repeat (first | (with_reducible exact HR113_0.out) | (with_reducible refine Kd.C_alloc ?_ _) | (with_reducible refine Kd.C_drewN ?_ _) | (with_reducible refine Kd.C_drew ?_) | exact HR113_0.out)) hb); have n9_ := Aside0.mk (below_step (by repeat (first | (with_reducible first | exact HB.out | apply below_alloc | apply pw_below_drewN | apply below_drew1) | exact HB.out)) hb); clear HO103; clear HO107; clear HO110; clear HL111_0; clear HL112_0; clear HL113_0; clear HR111_0; clear HR112_0; clear HR113_0; clear HB; have HO103 := n0_; have HO107 := n1_; have HO110 := n2_; have HL111_0 := n3_; have HL112_0 := n4_; have HL113_0 := n5_; have HR111_0 := n6_; have HR112_0 := n7_; have HR113_0 := n8_; have HB := n9_; clear n0_ n1_ n2_ n3_ n4_ n5_ n6_ n7_ n8_ n9_; (try clear hb); (try clear hb2); (try clear hk); (try clear hi)) | (go_at_call 7; (with_reducible refine (cyclic_Suits.calls k _ _ y101 2 false _ ?side1 ?side2 A13.out).mono ?_); (case side1 => repeat (first | exact (Kd.R_reads' HO103.out).2.2 | (with_reducible refine Kd.C_alloc ?_ _) | (with_reducible refine Kd.C_drewN ?_ _) | (with_reducible refine Kd.C_drew ?_))); (case side2 => exact (Kd.R_reads' HO103.out).2.1); rintro e w68 ⟨rfl, hb⟩; have n0_ := Aside0.mk (Kd.R_below (by (with_reducible repeat (first | apply Kd.R_alloc | apply Kd.R_drewN | apply Kd.R_drew)); exact HO103.out) hb); have n1_ := Aside0.mk (Kd.S_below (by (with_reducible repeat (first | apply Kd.S_alloc | apply Kd.S_drewN | apply Kd.S_drew)); exact HO107.out) hb); have n2_ := Aside0.mk (Kd.R_below (by (with_reducible repeat (first | apply Kd.R_alloc | apply Kd.R_drewN | apply Kd.R_drew)); exact HO110.out) hb); have n3_ := Aside0.mk (Kd.R_below (by (with_reducible repeat (first | apply Kd.R_alloc | apply Kd.R_drewN | apply Kd.R_drew)); exact HL111_0.out) hb); have n4_ := Aside0.mk (Kd.R_below (by (with_reducible repeat (first | apply Kd.R_alloc | apply Kd.R_drewN | apply Kd.R_drew)); exact HL112_0.out) hb); have n5_ := Aside0.mk (Kd.R_below (by (with_reducible repeat (first | apply Kd.R_alloc | apply Kd.R_drewN | apply Kd.R_drew)); exact HL113_0.out) hb); have n6_ := Aside0.mk (Kd.C_below (by repeat (first | (with_reducible exact HR111_0.out) | (with_reducible refine Kd.C_alloc ?_ _) | (with_reducible refine Kd.C_drewN ?_ _) | (with_reducible refine Kd.C_drew ?_) | exact HR111_0.out)) hb); have n7_ := Aside0.mk (Kd.C_below (by repeat (first | (with_reducible exact HR112_0.out) | (with_reducible refine Kd.C_alloc ?_ _) | (with_reducible refine Kd.C_drewN ?_ _) | (with_reducible refine Kd.C_drew ?_) | exact HR112_0.out)) hb); have n8_ := Aside0.mk (Kd.C_below (by repeat (first | (with_reducible exact HR113_0.out) | (with_reducible refine Kd.C_alloc ?_ _) | (with_reducible refine Kd.C_drewN ?_ _) | (with_reducible refine Kd.C_drew ?_) | exact HR113_0.out)) hb); have n9_ := Aside0.mk (below_step (by repeat (first | (with_reducible first | exact HB.out | apply below_alloc | apply pw_below_drewN | apply below_drew1) | exact HB.out)) hb); clear HO103; clear HO107; clear HO110; clear HL111_0; clear HL112_0; clear HL113_0; clear HR111_0; clear HR112_0; clear HR113_0; clear HB; have HO103 := n0_; have HO107 := n1_; have HO110 := n2_; have HL111_0 := n3_; have HL112_0 := n4_; have HL113_0 := n5_; have HR111_0 := n6_; have HR112_0 := n7_; have HR113_0 := n8_; have HB := n9_; clear n0_ n1_ n2_ n3_ n4_ n5_ n6_ n7_ n8_ n9_; (try clear hb); (try clear hb2); (try clear hk); (try clear hi)))
                     go_ret
                     exact ⟨by first | rfl | (simp [errW_none, errW_some] <;> rfl) | (simp [*, errW_none, errW_some] <;> rfl), by repeat (first | (with_reducible first | exact HB.out | apply below_alloc | apply pw_below_drewN | apply below_drew1) | exact HB.out)⟩
                 · replace c12 := Bool.eq_false_iff.mpr c12
                   subst c12
                   have H1 : (some false) = some r := by rw [if_neg (show ¬ (false = true) by decide)] at H; exact H
                   clear H
                   have H := H1
                   clear H1
                   obtain rfl := Option.some.inj H
                   go_enter Try.func6, Try.ntmps6
                   go_wp2_with (first | ((with_reducible refine gate_dst (N := 7) rfl ?_); (try (refine gate_guard (by rfl) ?_; dsimp only)); refine Kd.R_lit k34 _ 34 ?hg (N := 7) ?hd (xs := ([(⟨1, 4⟩ : S34), (⟨2, 8⟩ : S34)] : List (S34))) (inner := [.int .u64 1, .int .u64 4, .int .u64 2, .int .u64 8]) (ok := fun _ => True) (okp := fun _ => True) ?hr ?hp (fun _ hk => hk) trivial (Below.refl _ _) (Nat.le_refl _) (by simp) ?_; (case hd => rfl); (case hg => rfl); (case hr => first | (go_simp; done) | (go_simp; rfl)); (case hp => exact (Reps.c2 (show Kd.M k34 _ _ _ (⟨1, 4⟩ : S34) [.int .u64 1, .int .u64 4] from (k34_mkM _ _ _ (⟨1, 4⟩ : S34) )) (Reps.c2 (show Kd.M k34 _ _ _ (⟨2, 8⟩ : S34) [.int .u64 2, .int .u64 8] from (k34_mkM _ _ _ (⟨2, 8⟩ : S34) )) (Reps.none _ _)))); intro v102 w69 ho70 hb hg_ hnew_; clear hg_ hnew_; (first | rw [← Ny101.out] at ho70 | (simp only [Int.reduceToNat] at ho70; rw [← Ny101.out] at ho70)); have n0_ := Aside0.mk (Kd.R_lower ho70 (below_size (by repeat (first | (with_reducible first | exact HB.out | apply below_alloc | apply pw_below_drewN | apply below_drew1) | exact HB.out)))); have n1_ := Aside0.mk (below_step (by repeat (first | (with_reducible first | exact HB.out | apply below_alloc | apply pw_below_drewN | apply below_drew1) | exact HB.out)) hb); clear HB; have HO103 := n0_; have HB := n1_; clear n0_ n1_; clear hb ho70; obtain ⟨Ao71, co71, eo71⟩ := Kd.R_slice HO103.out; subst eo71) | ((with_reducible refine gate_callee (f := 11) rfl ?_); refine goesL_ (some 10) rfl rfl Try.func11 (by kernel_rfl) rfl #[.slice Ao71 y101.length co71, .int .u64 4] rfl (by (try simp only [List.map_toArray, List.map_cons, List.map_nil]); first | done | rfl | (simp only [List.length_drop, List.length_take]; rfl)) ?_; (with_reducible refine (cyclic_Table.calls k _ _ y101 4 t104 true _ ?side1 ?side2 A1.out).mono ?_); (case side1 => repeat (first | exact (Kd.R_reads' HO103.out).2.2 | (with_reducible refine Kd.C_alloc ?_ _) | (with_reducible refine Kd.C_drewN ?_ _) | (with_reducible refine Kd.C_drew ?_))); (case side2 => exact (Kd.R_reads' HO103.out).2.1); rintro e w72 ⟨v106, rfl, ho0, hb⟩; refine ⟨_, rfl, ?_⟩; have n0_ := Aside0.mk (Kd.R_below (by (with_reducible repeat (first | apply Kd.R_alloc | apply Kd.R_drewN | apply Kd.R_drew)); exact HO103.out) hb); have n1_ := Aside0.mk (Kd.S_lower ho0 (below_size (by repeat (first | (with_reducible first | exact HB.out | apply below_alloc | apply pw_below_drewN | apply below_drew1) | exact HB.out)))); have n2_ := Aside0.mk (below_step (by repeat (first | (with_reducible first | exact HB.out | apply below_alloc | apply pw_below_drewN | apply below_drew1) | exact HB.out)) hb); clear HO103; clear HB; have HO103 := n0_; have HO107 := n1_; have HB := n2_; clear n0_ n1_ n2_; (try clear hb); (try clear hb2); (try clear hk); (try clear hi); (try clear ho0)) | ((with_reducible refine gate_callee (f := 9) rfl ?_); refine goesL_ (some 14) rfl rfl Try.func9 (by kernel_rfl) rfl #[.slice Ao71 y101.length co71] rfl (by (try simp only [List.map_toArray, List.map_cons, List.map_nil]); first | done | rfl | (simp only [List.length_drop, List.length_take]; rfl)) ?_; (with_reducible refine (cyclic_Sizes.calls k _ _ y101 t108 _ ?side1 ?side2 A2.out).mono ?_); (case side1 => repeat (first | exact (Kd.R_reads' HO103.out).2.2 | (with_reducible refine Kd.C_alloc ?_ _) | (with_reducible refine Kd.C_drewN ?_ _) | (with_reducible refine Kd.C_drew ?_))); (case side2 => exact (Kd.R_reads' HO103.out).2.1); rintro e w73 ⟨v109, rfl, ho0, hb⟩; refine ⟨_, rfl, ?_⟩; have n0_ := Aside0.mk (Kd.R_below (by (with_reducible repeat (first | apply Kd.R_alloc | apply Kd.R_drewN | apply Kd.R_drew)); exact HO103.out) hb); have n1_ := Aside0.mk (Kd.S_below (by (with_reducible repeat (first | apply Kd.S_alloc | apply Kd.S_drewN | apply Kd.S_drew)); exact HO107.out) hb); have n2_ := Aside0.mk (Kd.R_lower ho0 (below_size (by repeat (first | (with_reducible first | exact HB.out | apply below_alloc | apply pw_below_drewN | apply below_drew1) | exact HB.out)))); have n3_ := Aside0.mk (below_step (by repeat (first | (with_reducible first | exact HB.out | apply below_alloc | apply pw_below_drewN | apply below_drew1) | exact HB.out)) hb); clear HO103; clear HO107; clear HB; have HO103 := n0_; have HO107 := n1_; have HO110 := n2_; have HB := n3_; clear n0_ n1_ n2_ n3_; (try clear hb); (try clear hb2); (try clear hk); (try clear hi); (try clear ho0); obtain ⟨Ao74, co74, eo74⟩ := Kd.S_slice HO107.out; subst eo74; have p111 : 0 ≤ (0 : Int) := (by omega); have q111 : 0 < (t104.length : Int) := of_decide_eq_true (by first | (with_reducible assumption) | assumption); obtain ⟨ad111, A111_0, c111_0, e111, hx111_0, hl111_0, hi111_0⟩ := at_L6 (Kd.S_reads' HO107.out).2.2 0 p111 q111; cases e111; obtain ⟨ce111, hce111, hMe111, hcc111⟩ := Kd.S_get HO107.out [] 0 p111 (by first | exact q111 | exact of_decide_eq_true (by first | (with_reducible assumption) | assumption) | (have e_ := (Kd.S_reads' HO107.out).1; omega)); obtain ⟨ve111_0, rfl, ge111_0⟩ := hMe111; have hv111_0 := hcc111 0 _ rfl; rw [Nat.add_zero, show ((Kd.slice 3 (Kd.int .i64))).sz = 1 from rfl, Nat.mul_one] at hv111_0; replace hv111_0 := Option.some.inj (hv111_0.symm.trans hx111_0); rw [hv111_0] at ge111_0; have HL111_0 := Aside0.mk (show Kd.R (Kd.int .i64) 3 _ _ _ _ (rd_L6 t104 0) from ge111_0); clear hv111_0 ge111_0; clear hcc111 hce111; have qi111 : (0 < t104.length) = True := eq_true (by omega); (try rw [show ((0 : Int)).toNat = 0 from rfl] at hx111_0); (try rw [Addr.add_zero'] at hx111_0); have HR111_0 := Aside0.mk hi111_0; have HC111_0 := Aside0.mk hl111_0; clear hi111_0 hl111_0; replace p111 := eq_true p111; replace q111 := eq_true q111; have p112 : 0 ≤ (1 : Int) := (by omega); have q112 : 1 < (t104.length : Int) := of_decide_eq_true (by first | (with_reducible assumption) | assumption); obtain ⟨ad112, A112_0, c112_0, e112, hx112_0, hl112_0, hi112_0⟩ := at_L6 (Kd.S_reads' HO107.out).2.2 1 p112 q112; obtain rfl : ad111 = ad112 := (by injection e112); obtain ⟨ce112, hce112, hMe112, hcc112⟩ := Kd.S_get HO107.out [] 1 p112 (by first | exact q112 | exact of_decide_eq_true (by first | (with_reducible assumption) | assumption) | (have e_ := (Kd.S_reads' HO107.out).1; omega)); obtain ⟨ve112_0, rfl, ge112_0⟩ := hMe112; have hv112_0 := hcc112 0 _ rfl; rw [Nat.add_zero, show ((Kd.slice 3 (Kd.int .i64))).sz = 1 from rfl, Nat.mul_one] at hv112_0; replace hv112_0 := Option.some.inj (hv112_0.symm.trans hx112_0); rw [hv112_0] at ge112_0; have HL112_0 := Aside0.mk (show Kd.R (Kd.int .i64) 3 _ _ _ _ (rd_L6 t104 1) from ge112_0); clear hv112_0 ge112_0; clear hcc112 hce112; (try simp only [show (1 : Int).toNat = 1 from rfl, Nat.reduceMul, Nat.reduceEqDiff, Go.Addr.add, ↓reduceIte] at hx112_0); have qi112 : (1 < t104.length) = True := eq_true (by omega); (try rw [show ((1 : Int)).toNat = 1 from rfl] at hx112_0); have HR112_0 := Aside0.mk hi112_0; have HC112_0 := Aside0.mk hl112_0; clear hi112_0 hl112_0; replace p112 := eq_true p112; replace q112 := eq_true q112; have p113 : 0 ≤ (1 : Int) := (by omega); have q113 : 1 < (t104.length : Int) := of_decide_eq_true (by first | (with_reducible assumption) | assumption); obtain ⟨ad113, A113_0, c113_0, e113, hx113_0, hl113_0, hi113_0⟩ := at_L6 (Kd.S_reads' HO107.out).2.2 1 p113 q113; obtain rfl : ad111 = ad113 := (by injection e113); obtain ⟨ce113, hce113, hMe113, hcc113⟩ := Kd.S_get HO107.out [] 1 p113 (by first | exact q113 | exact of_decide_eq_true (by first | (with_reducible assumption) | assumption) | (have e_ := (Kd.S_reads' HO107.out).1; omega)); obtain ⟨ve113_0, rfl, ge113_0⟩ := hMe113; have hv113_0 := hcc113 0 _ rfl; rw [Nat.add_zero, show ((Kd.slice 3 (Kd.int .i64))).sz = 1 from rfl, Nat.mul_one] at hv113_0; replace hv113_0 := Option.some.inj (hv113_0.symm.trans hx113_0); rw [hv113_0] at ge113_0; have HL113_0 := Aside0.mk (show Kd.R (Kd.int .i64) 3 _ _ _ _ (rd_L6 t104 1) from ge113_0); clear hv113_0 ge113_0; clear hcc113 hce113; (try simp only [show (1 : Int).toNat = 1 from rfl, Nat.reduceMul, Nat.reduceEqDiff, Go.Addr.add, ↓reduceIte] at hx113_0); have qi113 : (1 < t104.length) = True := eq_true (by omega); (try rw [show ((1 : Int)).toNat = 1 from rfl] at hx113_0); have HR113_0 := Aside0.mk hi113_0; have HC113_0 := Aside0.mk hl113_0; clear hi113_0 hl113_0; replace p113 := eq_true p113; replace q113 := eq_true q113; have ea_ := Option.some.inj (hx112_0.symm.trans hx113_0); injection ea_ with ea_ en_ ec_; subst ea_; subst ec_; clear en_; have p114 : 0 ≤ (0 : Int) := (by omega); have q114 : 0 < ((rd_L6 t104 1).length : Int) := of_decide_eq_true (by first | (with_reducible assumption) | assumption); obtain ⟨ad114, e114, hx114_0⟩ := Kd.at_int (by repeat (first | (with_reducible exact HR113_0.out) | (with_reducible refine Kd.C_alloc ?_ _) | (with_reducible refine Kd.C_drewN ?_ _) | (with_reducible refine Kd.C_drew ?_) | exact HR113_0.out)) 0 p114 q114; cases e114; have qi114 : (0 < (rd_L6 t104 1).length) = True := eq_true (by omega); (try rw [show ((0 : Int)).toNat = 0 from rfl] at hx114_0); (try rw [Addr.add_zero'] at hx114_0); replace p114 := eq_true p114; replace q114 := eq_true q114) | (go_at_call 12; (with_reducible refine (cyclic_Check.calls k _ _ y101 4 _ _ t104 false _ ?side1 ?side2 ?side3 ?side4 A11.out).mono ?_); (case side1 => repeat (first | exact (Kd.R_reads' HO103.out).2.2 | (with_reducible refine Kd.C_alloc ?_ _) | (with_reducible refine Kd.C_drewN ?_ _) | (with_reducible refine Kd.C_drew ?_))); (case side2 => exact (Kd.R_reads' HO103.out).2.1); (case side3 => repeat (first | exact (Kd.S_reads' HO107.out).2.2 | (with_reducible refine Kd.C_alloc ?_ _) | (with_reducible refine Kd.C_drewN ?_ _) | (with_reducible refine Kd.C_drew ?_))); (case side4 => exact (Kd.S_reads' HO107.out).2.1); rintro e w75 ⟨rfl, hb⟩; have n0_ := Aside0.mk (Kd.R_below (by (with_reducible repeat (first | apply Kd.R_alloc | apply Kd.R_drewN | apply Kd.R_drew)); exact HO103.out) hb); have n1_ := Aside0.mk (Kd.S_below (by (with_reducible repeat (first | apply Kd.S_alloc | apply Kd.S_drewN | apply Kd.S_drew)); exact HO107.out) hb); have n2_ := Aside0.mk (Kd.R_below (by (with_reducible repeat (first | apply Kd.R_alloc | apply Kd.R_drewN | apply Kd.R_drew)); exact HO110.out) hb); have n3_ := Aside0.mk (Kd.R_below (by (with_reducible repeat (first | apply Kd.R_alloc | apply Kd.R_drewN | apply Kd.R_drew)); exact HL111_0.out) hb); have n4_ := Aside0.mk (Kd.R_below (by (with_reducible repeat (first | apply Kd.R_alloc | apply Kd.R_drewN | apply Kd.R_drew)); exact HL112_0.out) hb); have n5_ := Aside0.mk (Kd.R_below (by (with_reducible repeat (first | apply Kd.R_alloc | apply Kd.R_drewN | apply Kd.R_drew)); exact HL113_0.out) hb); have n6_ := Aside0.mk (Kd.C_below (by repeat (first | (with_reducible exact HR111_0.out) | (with_reducible refine Kd.C_alloc ?_ _) | (with_reducible refine Kd.C_drewN ?_ _) | (with_reducible refine Kd.C_drew ?_) | exact HR111_0.out)) hb); have n7_ := Aside0.mk (Kd.C_below (by repeat (first | (with_reducible exact HR112_0.out) | (with_reducible refine Kd.C_alloc ?_ _) | (with_reducible refine Kd.C_drewN ?_ _) | (with_reducible refine Kd.C_drew ?_) | exact HR112_0.out)) hb); have n8_ := Aside0.mk (Kd.C_below (by repeat (first | (with_reducible exact HR113_0.out) | (with_reducible refine Kd.C_alloc ?_ _) | (with_reducible refine Kd.C_drewN ?_ _) | (with_reducible refine Kd.C_drew ?_) | exact HR113_0.out)) hb); have n9_ := Aside0.mk (below_step (by repeat (first | (with_reducible first | exact HB.out | apply below_alloc | apply pw_below_drewN | apply below_drew1) | exact HB.out)) hb); clear HO103; clear HO107; clear HO110; clear HL111_0; clear HL112_0; clear HL113_0; clear HR111_0; clear HR112_0; clear HR113_0; clear HB; have HO103 := n0_; have HO107 := n1_; have HO110 := n2_; have HL111_0 := n3_; have HL112_0 := n4_; have HL113_0 := n5_; have HR111_0 := n6_; have HR112_0 := n7_; have HR113_0 := n8_; have HB := n9_; clear n0_ n1_ n2_ n3_ n4_ n5_ n6_ n7_ n8_ n9_; (try clear hb); (try clear hb2); (try clear hk); (try clear hi)))
                   go_ret
                   exact ⟨by first | rfl | (simp [errW_none, errW_some] <;> rfl) | (simp [*, errW_none, errW_some] <;> rfl), by repeat (first | (with_reducible first | exact HB.out | apply below_alloc | apply pw_below_drewN | apply below_drew1) | exact HB.out)⟩
               · rw [if_neg c10] at H
                 have c10b0 : ((rd (rd_L6 t104 1) 0) == 0) = false := beq_eq_false_iff_ne.mpr c10
                 have c10b1 : ((rd (rd_L6 t104 1) 0) != 0) = true := bne_iff_ne.mpr c10
                 obtain rfl := Option.some.inj H
                 go_enter Try.func6, Try.ntmps6
                 go_wp2_with (first | ((with_reducible refine gate_dst (N := 7) rfl ?_); (try (refine gate_guard (by rfl) ?_; dsimp only)); refine Kd.R_lit k34 _ 34 ?hg (N := 7) ?hd (xs := ([(⟨1, 4⟩ : S34), (⟨2, 8⟩ : S34)] : List (S34))) (inner := [.int .u64 1, .int .u64 4, .int .u64 2, .int .u64 8]) (ok := fun _ => True) (okp := fun _ => True) ?hr ?hp (fun _ hk => hk) trivial (Below.refl _ _) (Nat.le_refl _) (by simp) ?_; (case hd => rfl); (case hg => rfl); (case hr => first | (go_simp; done) | (go_simp; rfl)); (case hp => exact (Reps.c2 (show Kd.M k34 _ _ _ (⟨1, 4⟩ : S34) [.int .u64 1, .int .u64 4] from (k34_mkM _ _ _ (⟨1, 4⟩ : S34) )) (Reps.c2 (show Kd.M k34 _ _ _ (⟨2, 8⟩ : S34) [.int .u64 2, .int .u64 8] from (k34_mkM _ _ _ (⟨2, 8⟩ : S34) )) (Reps.none _ _)))); intro v102 w76 ho77 hb hg_ hnew_; clear hg_ hnew_; (first | rw [← Ny101.out] at ho77 | (simp only [Int.reduceToNat] at ho77; rw [← Ny101.out] at ho77)); have n0_ := Aside0.mk (Kd.R_lower ho77 (below_size (by repeat (first | (with_reducible first | exact HB.out | apply below_alloc | apply pw_below_drewN | apply below_drew1) | exact HB.out)))); have n1_ := Aside0.mk (below_step (by repeat (first | (with_reducible first | exact HB.out | apply below_alloc | apply pw_below_drewN | apply below_drew1) | exact HB.out)) hb); clear HB; have HO103 := n0_; have HB := n1_; clear n0_ n1_; clear hb ho77; obtain ⟨Ao78, co78, eo78⟩ := Kd.R_slice HO103.out; subst eo78) | ((with_reducible refine gate_callee (f := 11) rfl ?_); refine goesL_ (some 10) rfl rfl Try.func11 (by kernel_rfl) rfl #[.slice Ao78 y101.length co78, .int .u64 4] rfl (by (try simp only [List.map_toArray, List.map_cons, List.map_nil]); first | done | rfl | (simp only [List.length_drop, List.length_take]; rfl)) ?_; (with_reducible refine (cyclic_Table.calls k _ _ y101 4 t104 true _ ?side1 ?side2 A1.out).mono ?_); (case side1 => repeat (first | exact (Kd.R_reads' HO103.out).2.2 | (with_reducible refine Kd.C_alloc ?_ _) | (with_reducible refine Kd.C_drewN ?_ _) | (with_reducible refine Kd.C_drew ?_))); (case side2 => exact (Kd.R_reads' HO103.out).2.1); rintro e w79 ⟨v106, rfl, ho0, hb⟩; refine ⟨_, rfl, ?_⟩; have n0_ := Aside0.mk (Kd.R_below (by (with_reducible repeat (first | apply Kd.R_alloc | apply Kd.R_drewN | apply Kd.R_drew)); exact HO103.out) hb); have n1_ := Aside0.mk (Kd.S_lower ho0 (below_size (by repeat (first | (with_reducible first | exact HB.out | apply below_alloc | apply pw_below_drewN | apply below_drew1) | exact HB.out)))); have n2_ := Aside0.mk (below_step (by repeat (first | (with_reducible first | exact HB.out | apply below_alloc | apply pw_below_drewN | apply below_drew1) | exact HB.out)) hb); clear HO103; clear HB; have HO103 := n0_; have HO107 := n1_; have HB := n2_; clear n0_ n1_ n2_; (try clear hb); (try clear hb2); (try clear hk); (try clear hi); (try clear ho0)) | ((with_reducible refine gate_callee (f := 9) rfl ?_); refine goesL_ (some 14) rfl rfl Try.func9 (by kernel_rfl) rfl #[.slice Ao78 y101.length co78] rfl (by (try simp only [List.map_toArray, List.map_cons, List.map_nil]); first | done | rfl | (simp only [List.length_drop, List.length_take]; rfl)) ?_; (with_reducible refine (cyclic_Sizes.calls k _ _ y101 t108 _ ?side1 ?side2 A2.out).mono ?_); (case side1 => repeat (first | exact (Kd.R_reads' HO103.out).2.2 | (with_reducible refine Kd.C_alloc ?_ _) | (with_reducible refine Kd.C_drewN ?_ _) | (with_reducible refine Kd.C_drew ?_))); (case side2 => exact (Kd.R_reads' HO103.out).2.1); rintro e w80 ⟨v109, rfl, ho0, hb⟩; refine ⟨_, rfl, ?_⟩; have n0_ := Aside0.mk (Kd.R_below (by (with_reducible repeat (first | apply Kd.R_alloc | apply Kd.R_drewN | apply Kd.R_drew)); exact HO103.out) hb); have n1_ := Aside0.mk (Kd.S_below (by (with_reducible repeat (first | apply Kd.S_alloc | apply Kd.S_drewN | apply Kd.S_drew)); exact HO107.out) hb); have n2_ := Aside0.mk (Kd.R_lower ho0 (below_size (by repeat (first | (with_reducible first | exact HB.out | apply below_alloc | apply pw_below_drewN | apply below_drew1) | exact HB.out)))); have n3_ := Aside0.mk (below_step (by repeat (first | (with_reducible first | exact HB.out | apply below_alloc | apply pw_below_drewN | apply below_drew1) | exact HB.out)) hb); clear HO103; clear HO107; clear HB; have HO103 := n0_; have HO107 := n1_; have HO110 := n2_; have HB := n3_; clear n0_ n1_ n2_ n3_; (try clear hb); (try clear hb2); (try clear hk); (try clear hi); (try clear ho0); obtain ⟨Ao81, co81, eo81⟩ := Kd.S_slice HO107.out; subst eo81; have p111 : 0 ≤ (0 : Int) := (by omega); have q111 : 0 < (t104.length : Int) := of_decide_eq_true (by first | (with_reducible assumption) | assumption); obtain ⟨ad111, A111_0, c111_0, e111, hx111_0, hl111_0, hi111_0⟩ := at_L6 (Kd.S_reads' HO107.out).2.2 0 p111 q111; cases e111; obtain ⟨ce111, hce111, hMe111, hcc111⟩ := Kd.S_get HO107.out [] 0 p111 (by first | exact q111 | exact of_decide_eq_true (by first | (with_reducible assumption) | assumption) | (have e_ := (Kd.S_reads' HO107.out).1; omega)); obtain ⟨ve111_0, rfl, ge111_0⟩ := hMe111; have hv111_0 := hcc111 0 _ rfl; rw [Nat.add_zero, show ((Kd.slice 3 (Kd.int .i64))).sz = 1 from rfl, Nat.mul_one] at hv111_0; replace hv111_0 := Option.some.inj (hv111_0.symm.trans hx111_0); rw [hv111_0] at ge111_0; have HL111_0 := Aside0.mk (show Kd.R (Kd.int .i64) 3 _ _ _ _ (rd_L6 t104 0) from ge111_0); clear hv111_0 ge111_0; clear hcc111 hce111; have qi111 : (0 < t104.length) = True := eq_true (by omega); (try rw [show ((0 : Int)).toNat = 0 from rfl] at hx111_0); (try rw [Addr.add_zero'] at hx111_0); have HR111_0 := Aside0.mk hi111_0; have HC111_0 := Aside0.mk hl111_0; clear hi111_0 hl111_0; replace p111 := eq_true p111; replace q111 := eq_true q111; have p112 : 0 ≤ (1 : Int) := (by omega); have q112 : 1 < (t104.length : Int) := of_decide_eq_true (by first | (with_reducible assumption) | assumption); obtain ⟨ad112, A112_0, c112_0, e112, hx112_0, hl112_0, hi112_0⟩ := at_L6 (Kd.S_reads' HO107.out).2.2 1 p112 q112; obtain rfl : ad111 = ad112 := (by injection e112); obtain ⟨ce112, hce112, hMe112, hcc112⟩ := Kd.S_get HO107.out [] 1 p112 (by first | exact q112 | exact of_decide_eq_true (by first | (with_reducible assumption) | assumption) | (have e_ := (Kd.S_reads' HO107.out).1; omega)); obtain ⟨ve112_0, rfl, ge112_0⟩ := hMe112; have hv112_0 := hcc112 0 _ rfl; rw [Nat.add_zero, show ((Kd.slice 3 (Kd.int .i64))).sz = 1 from rfl, Nat.mul_one] at hv112_0; replace hv112_0 := Option.some.inj (hv112_0.symm.trans hx112_0); rw [hv112_0] at ge112_0; have HL112_0 := Aside0.mk (show Kd.R (Kd.int .i64) 3 _ _ _ _ (rd_L6 t104 1) from ge112_0); clear hv112_0 ge112_0; clear hcc112 hce112; (try simp only [show (1 : Int).toNat = 1 from rfl, Nat.reduceMul, Nat.reduceEqDiff, Go.Addr.add, ↓reduceIte] at hx112_0); have qi112 : (1 < t104.length) = True := eq_true (by omega); (try rw [show ((1 : Int)).toNat = 1 from rfl] at hx112_0); have HR112_0 := Aside0.mk hi112_0; have HC112_0 := Aside0.mk hl112_0; clear hi112_0 hl112_0; replace p112 := eq_true p112; replace q112 := eq_true q112; have p113 : 0 ≤ (1 : Int) := (by omega); have q113 : 1 < (t104.length : Int) := of_decide_eq_true (by first | (with_reducible assumption) | assumption); obtain ⟨ad113, A113_0, c113_0, e113, hx113_0, hl113_0, hi113_0⟩ := at_L6 (Kd.S_reads' HO107.out).2.2 1 p113 q113; obtain rfl : ad111 = ad113 := (by injection e113); obtain ⟨ce113, hce113, hMe113, hcc113⟩ := Kd.S_get HO107.out [] 1 p113 (by first | exact q113 | exact of_decide_eq_true (by first | (with_reducible assumption) | assumption) | (have e_ := (Kd.S_reads' HO107.out).1; omega)); obtain ⟨ve113_0, rfl, ge113_0⟩ := hMe113; have hv113_0 := hcc113 0 _ rfl; rw [Nat.add_zero, show ((Kd.slice 3 (Kd.int .i64))).sz = 1 from rfl, Nat.mul_one] at hv113_0; replace hv113_0 := Option.some.inj (hv113_0.symm.trans hx113_0); rw [hv113_0] at ge113_0; have HL113_0 := Aside0.mk (show Kd.R (Kd.int .i64) 3 _ _ _ _ (rd_L6 t104 1) from ge113_0); clear hv113_0 ge113_0; clear hcc113 hce113; (try simp only [show (1 : Int).toNat = 1 from rfl, Nat.reduceMul, Nat.reduceEqDiff, Go.Addr.add, ↓reduceIte] at hx113_0); have qi113 : (1 < t104.length) = True := eq_true (by omega); (try rw [show ((1 : Int)).toNat = 1 from rfl] at hx113_0); have HR113_0 := Aside0.mk hi113_0; have HC113_0 := Aside0.mk hl113_0; clear hi113_0 hl113_0; replace p113 := eq_true p113; replace q113 := eq_true q113; have ea_ := Option.some.inj (hx112_0.symm.trans hx113_0); injection ea_ with ea_ en_ ec_; subst ea_; subst ec_; clear en_; have p114 : 0 ≤ (0 : Int) := (by omega); have q114 : 0 < ((rd_L6 t104 1).length : Int) := of_decide_eq_true (by first | (with_reducible assumption) | assumption); obtain ⟨ad114, e114, hx114_0⟩ := Kd.at_int (by repeat (first | (with_reducible exact HR113_0.out) | (with_reducible refine Kd.C_alloc ?_ _) | (with_reducible refine Kd.C_drewN ?_ _) | (with_reducible refine Kd.C_drew ?_) | exact HR113_0.out)) 0 p114 q114; cases e114; have qi114 : (0 < (rd_L6 t104 1).length) = True := eq_true (by omega); (try rw [show ((0 : Int)).toNat = 0 from rfl] at hx114_0); (try rw [Addr.add_zero'] at hx114_0); replace p114 := eq_true p114; replace q114 := eq_true q114))
                 go_ret
                 exact ⟨by first | rfl | (simp [errW_none, errW_some] <;> rfl) | (simp [*, errW_none, errW_some] <;> rfl), by repeat (first | (with_reducible first | exact HB.out | apply below_alloc | apply pw_below_drewN | apply below_drew1) | exact HB.out)⟩
             · rw [if_neg c9] at H
               exact absurd H (by simp)
           · rw [if_neg c8] at H
             have c8b0 : (((rd_L6 t104 1).length : Int) == 1) = false := beq_eq_false_iff_ne.mpr c8
             have c8b1 : (((rd_L6 t104 1).length : Int) != 1) = true := bne_iff_ne.mpr c8
             obtain rfl := Option.some.inj H
             go_enter Try.func6, Try.ntmps6
             go_wp2_with (first | ((with_reducible refine gate_dst (N := 7) rfl ?_); (try (refine gate_guard (by rfl) ?_; dsimp only)); refine Kd.R_lit k34 _ 34 ?hg (N := 7) ?hd (xs := ([(⟨1, 4⟩ : S34), (⟨2, 8⟩ : S34)] : List (S34))) (inner := [.int .u64 1, .int .u64 4, .int .u64 2, .int .u64 8]) (ok := fun _ => True) (okp := fun _ => True) ?hr ?hp (fun _ hk => hk) trivial (Below.refl _ _) (Nat.le_refl _) (by simp) ?_; (case hd => rfl); (case hg => rfl); (case hr => first | (go_simp; done) | (go_simp; rfl)); (case hp => exact (Reps.c2 (show Kd.M k34 _ _ _ (⟨1, 4⟩ : S34) [.int .u64 1, .int .u64 4] from (k34_mkM _ _ _ (⟨1, 4⟩ : S34) )) (Reps.c2 (show Kd.M k34 _ _ _ (⟨2, 8⟩ : S34) [.int .u64 2, .int .u64 8] from (k34_mkM _ _ _ (⟨2, 8⟩ : S34) )) (Reps.none _ _)))); intro v102 w82 ho83 hb hg_ hnew_; clear hg_ hnew_; (first | rw [← Ny101.out] at ho83 | (simp only [Int.reduceToNat] at ho83; rw [← Ny101.out] at ho83)); have n0_ := Aside0.mk (Kd.R_lower ho83 (below_size (by repeat (first | (with_reducible first | exact HB.out | apply below_alloc | apply pw_below_drewN | apply below_drew1) | exact HB.out)))); have n1_ := Aside0.mk (below_step (by repeat (first | (with_reducible first | exact HB.out | apply below_alloc | apply pw_below_drewN | apply below_drew1) | exact HB.out)) hb); clear HB; have HO103 := n0_; have HB := n1_; clear n0_ n1_; clear hb ho83; obtain ⟨Ao84, co84, eo84⟩ := Kd.R_slice HO103.out; subst eo84) | ((with_reducible refine gate_callee (f := 11) rfl ?_); refine goesL_ (some 10) rfl rfl Try.func11 (by kernel_rfl) rfl #[.slice Ao84 y101.length co84, .int .u64 4] rfl (by (try simp only [List.map_toArray, List.map_cons, List.map_nil]); first | done | rfl | (simp only [List.length_drop, List.length_take]; rfl)) ?_; (with_reducible refine (cyclic_Table.calls k _ _ y101 4 t104 true _ ?side1 ?side2 A1.out).mono ?_); (case side1 => repeat (first | exact (Kd.R_reads' HO103.out).2.2 | (with_reducible refine Kd.C_alloc ?_ _) | (with_reducible refine Kd.C_drewN ?_ _) | (with_reducible refine Kd.C_drew ?_))); (case side2 => exact (Kd.R_reads' HO103.out).2.1); rintro e w85 ⟨v106, rfl, ho0, hb⟩; refine ⟨_, rfl, ?_⟩; have n0_ := Aside0.mk (Kd.R_below (by (with_reducible repeat (first | apply Kd.R_alloc | apply Kd.R_drewN | apply Kd.R_drew)); exact HO103.out) hb); have n1_ := Aside0.mk (Kd.S_lower ho0 (below_size (by repeat (first | (with_reducible first | exact HB.out | apply below_alloc | apply pw_below_drewN | apply below_drew1) | exact HB.out)))); have n2_ := Aside0.mk (below_step (by repeat (first | (with_reducible first | exact HB.out | apply below_alloc | apply pw_below_drewN | apply below_drew1) | exact HB.out)) hb); clear HO103; clear HB; have HO103 := n0_; have HO107 := n1_; have HB := n2_; clear n0_ n1_ n2_; (try clear hb); (try clear hb2); (try clear hk); (try clear hi); (try clear ho0)) | ((with_reducible refine gate_callee (f := 9) rfl ?_); refine goesL_ (some 14) rfl rfl Try.func9 (by kernel_rfl) rfl #[.slice Ao84 y101.length co84] rfl (by (try simp only [List.map_toArray, List.map_cons, List.map_nil]); first | done | rfl | (simp only [List.length_drop, List.length_take]; rfl)) ?_; (with_reducible refine (cyclic_Sizes.calls k _ _ y101 t108 _ ?side1 ?side2 A2.out).mono ?_); (case side1 => repeat (first | exact (Kd.R_reads' HO103.out).2.2 | (with_reducible refine Kd.C_alloc ?_ _) | (with_reducible refine Kd.C_drewN ?_ _) | (with_reducible refine Kd.C_drew ?_))); (case side2 => exact (Kd.R_reads' HO103.out).2.1); rintro e w86 ⟨v109, rfl, ho0, hb⟩; refine ⟨_, rfl, ?_⟩; have n0_ := Aside0.mk (Kd.R_below (by (with_reducible repeat (first | apply Kd.R_alloc | apply Kd.R_drewN | apply Kd.R_drew)); exact HO103.out) hb); have n1_ := Aside0.mk (Kd.S_below (by (with_reducible repeat (first | apply Kd.S_alloc | apply Kd.S_drewN | apply Kd.S_drew)); exact HO107.out) hb); have n2_ := Aside0.mk (Kd.R_lower ho0 (below_size (by repeat (first | (with_reducible first | exact HB.out | apply below_alloc | apply pw_below_drewN | apply below_drew1) | exact HB.out)))); have n3_ := Aside0.mk (below_step (by repeat (first | (with_reducible first | exact HB.out | apply below_alloc | apply pw_below_drewN | apply below_drew1) | exact HB.out)) hb); clear HO103; clear HO107; clear HB; have HO103 := n0_; have HO107 := n1_; have HO110 := n2_; have HB := n3_; clear n0_ n1_ n2_ n3_; (try clear hb); (try clear hb2); (try clear hk); (try clear hi); (try clear ho0); obtain ⟨Ao87, co87, eo87⟩ := Kd.S_slice HO107.out; subst eo87; have p111 : 0 ≤ (0 : Int) := (by omega); have q111 : 0 < (t104.length : Int) := of_decide_eq_true (by first | (with_reducible assumption) | assumption); obtain ⟨ad111, A111_0, c111_0, e111, hx111_0, hl111_0, hi111_0⟩ := at_L6 (Kd.S_reads' HO107.out).2.2 0 p111 q111; cases e111; obtain ⟨ce111, hce111, hMe111, hcc111⟩ := Kd.S_get HO107.out [] 0 p111 (by first | exact q111 | exact of_decide_eq_true (by first | (with_reducible assumption) | assumption) | (have e_ := (Kd.S_reads' HO107.out).1; omega)); obtain ⟨ve111_0, rfl, ge111_0⟩ := hMe111; have hv111_0 := hcc111 0 _ rfl; rw [Nat.add_zero, show ((Kd.slice 3 (Kd.int .i64))).sz = 1 from rfl, Nat.mul_one] at hv111_0; replace hv111_0 := Option.some.inj (hv111_0.symm.trans hx111_0); rw [hv111_0] at ge111_0; have HL111_0 := Aside0.mk (show Kd.R (Kd.int .i64) 3 _ _ _ _ (rd_L6 t104 0) from ge111_0); clear hv111_0 ge111_0; clear hcc111 hce111; have qi111 : (0 < t104.length) = True := eq_true (by omega); (try rw [show ((0 : Int)).toNat = 0 from rfl] at hx111_0); (try rw [Addr.add_zero'] at hx111_0); have HR111_0 := Aside0.mk hi111_0; have HC111_0 := Aside0.mk hl111_0; clear hi111_0 hl111_0; replace p111 := eq_true p111; replace q111 := eq_true q111; have p112 : 0 ≤ (1 : Int) := (by omega); have q112 : 1 < (t104.length : Int) := of_decide_eq_true (by first | (with_reducible assumption) | assumption); obtain ⟨ad112, A112_0, c112_0, e112, hx112_0, hl112_0, hi112_0⟩ := at_L6 (Kd.S_reads' HO107.out).2.2 1 p112 q112; obtain rfl : ad111 = ad112 := (by injection e112); obtain ⟨ce112, hce112, hMe112, hcc112⟩ := Kd.S_get HO107.out [] 1 p112 (by first | exact q112 | exact of_decide_eq_true (by first | (with_reducible assumption) | assumption) | (have e_ := (Kd.S_reads' HO107.out).1; omega)); obtain ⟨ve112_0, rfl, ge112_0⟩ := hMe112; have hv112_0 := hcc112 0 _ rfl; rw [Nat.add_zero, show ((Kd.slice 3 (Kd.int .i64))).sz = 1 from rfl, Nat.mul_one] at hv112_0; replace hv112_0 := Option.some.inj (hv112_0.symm.trans hx112_0); rw [hv112_0] at ge112_0; have HL112_0 := Aside0.mk (show Kd.R (Kd.int .i64) 3 _ _ _ _ (rd_L6 t104 1) from ge112_0); clear hv112_0 ge112_0; clear hcc112 hce112; (try simp only [show (1 : Int).toNat = 1 from rfl, Nat.reduceMul, Nat.reduceEqDiff, Go.Addr.add, ↓reduceIte] at hx112_0); have qi112 : (1 < t104.length) = True := eq_true (by omega); (try rw [show ((1 : Int)).toNat = 1 from rfl] at hx112_0); have HR112_0 := Aside0.mk hi112_0; have HC112_0 := Aside0.mk hl112_0; clear hi112_0 hl112_0; replace p112 := eq_true p112; replace q112 := eq_true q112))
             go_ret
             exact ⟨by first | rfl | (simp [errW_none, errW_some] <;> rfl) | (simp [*, errW_none, errW_some] <;> rfl), by repeat (first | (with_reducible first | exact HB.out | apply below_alloc | apply pw_below_drewN | apply below_drew1) | exact HB.out)⟩
         · rw [if_neg c7] at H
           exact absurd H (by simp)
       · rw [if_neg c6] at H
         have c6b0 : (((rd_L6 t104 0).length : Int) == 2) = false := beq_eq_false_iff_ne.mpr c6
         have c6b1 : (((rd_L6 t104 0).length : Int) != 2) = true := bne_iff_ne.mpr c6
         obtain rfl := Option.some.inj H
         go_enter Try.func6, Try.ntmps6
         go_wp2_with (first | ((with_reducible refine gate_dst (N := 7) rfl ?_); (try (refine gate_guard (by rfl) ?_; dsimp only)); refine Kd.R_lit k34 _ 34 ?hg (N := 7) ?hd (xs := ([(⟨1, 4⟩ : S34), (⟨2, 8⟩ : S34)] : List (S34))) (inner := [.int .u64 1, .int .u64 4, .int .u64 2, .int .u64 8]) (ok := fun _ => True) (okp := fun _ => True) ?hr ?hp (fun _ hk => hk) trivial (Below.refl _ _) (Nat.le_refl _) (by simp) ?_; (case hd => rfl); (case hg => rfl); (case hr => first | (go_simp; done) | (go_simp; rfl)); (case hp => exact (Reps.c2 (show Kd.M k34 _ _ _ (⟨1, 4⟩ : S34) [.int .u64 1, .int .u64 4] from (k34_mkM _ _ _ (⟨1, 4⟩ : S34) )) (Reps.c2 (show Kd.M k34 _ _ _ (⟨2, 8⟩ : S34) [.int .u64 2, .int .u64 8] from (k34_mkM _ _ _ (⟨2, 8⟩ : S34) )) (Reps.none _ _)))); intro v102 w88 ho89 hb hg_ hnew_; clear hg_ hnew_; (first | rw [← Ny101.out] at ho89 | (simp only [Int.reduceToNat] at ho89; rw [← Ny101.out] at ho89)); have n0_ := Aside0.mk (Kd.R_lower ho89 (below_size (by repeat (first | (with_reducible first | exact HB.out | apply below_alloc | apply pw_below_drewN | apply below_drew1) | exact HB.out)))); have n1_ := Aside0.mk (below_step (by repeat (first | (with_reducible first | exact HB.out | apply below_alloc | apply pw_below_drewN | apply below_drew1) | exact HB.out)) hb); clear HB; have HO103 := n0_; have HB := n1_; clear n0_ n1_; clear hb ho89; obtain ⟨Ao90, co90, eo90⟩ := Kd.R_slice HO103.out; subst eo90) | ((with_reducible refine gate_callee (f := 11) rfl ?_); refine goesL_ (some 10) rfl rfl Try.func11 (by kernel_rfl) rfl #[.slice Ao90 y101.length co90, .int .u64 4] rfl (by (try simp only [List.map_toArray, List.map_cons, List.map_nil]); first | done | rfl | (simp only [List.length_drop, List.length_take]; rfl)) ?_; (with_reducible refine (cyclic_Table.calls k _ _ y101 4 t104 true _ ?side1 ?side2 A1.out).mono ?_); (case side1 => repeat (first | exact (Kd.R_reads' HO103.out).2.2 | (with_reducible refine Kd.C_alloc ?_ _) | (with_reducible refine Kd.C_drewN ?_ _) | (with_reducible refine Kd.C_drew ?_))); (case side2 => exact (Kd.R_reads' HO103.out).2.1); rintro e w91 ⟨v106, rfl, ho0, hb⟩; refine ⟨_, rfl, ?_⟩; have n0_ := Aside0.mk (Kd.R_below (by (with_reducible repeat (first | apply Kd.R_alloc | apply Kd.R_drewN | apply Kd.R_drew)); exact HO103.out) hb); have n1_ := Aside0.mk (Kd.S_lower ho0 (below_size (by repeat (first | (with_reducible first | exact HB.out | apply below_alloc | apply pw_below_drewN | apply below_drew1) | exact HB.out)))); have n2_ := Aside0.mk (below_step (by repeat (first | (with_reducible first | exact HB.out | apply below_alloc | apply pw_below_drewN | apply below_drew1) | exact HB.out)) hb); clear HO103; clear HB; have HO103 := n0_; have HO107 := n1_; have HB := n2_; clear n0_ n1_ n2_; (try clear hb); (try clear hb2); (try clear hk); (try clear hi); (try clear ho0)) | ((with_reducible refine gate_callee (f := 9) rfl ?_); refine goesL_ (some 14) rfl rfl Try.func9 (by kernel_rfl) rfl #[.slice Ao90 y101.length co90] rfl (by (try simp only [List.map_toArray, List.map_cons, List.map_nil]); first | done | rfl | (simp only [List.length_drop, List.length_take]; rfl)) ?_; (with_reducible refine (cyclic_Sizes.calls k _ _ y101 t108 _ ?side1 ?side2 A2.out).mono ?_); (case side1 => repeat (first | exact (Kd.R_reads' HO103.out).2.2 | (with_reducible refine Kd.C_alloc ?_ _) | (with_reducible refine Kd.C_drewN ?_ _) | (with_reducible refine Kd.C_drew ?_))); (case side2 => exact (Kd.R_reads' HO103.out).2.1); rintro e w92 ⟨v109, rfl, ho0, hb⟩; refine ⟨_, rfl, ?_⟩; have n0_ := Aside0.mk (Kd.R_below (by (with_reducible repeat (first | apply Kd.R_alloc | apply Kd.R_drewN | apply Kd.R_drew)); exact HO103.out) hb); have n1_ := Aside0.mk (Kd.S_below (by (with_reducible repeat (first | apply Kd.S_alloc | apply Kd.S_drewN | apply Kd.S_drew)); exact HO107.out) hb); have n2_ := Aside0.mk (Kd.R_lower ho0 (below_size (by repeat (first | (with_reducible first | exact HB.out | apply below_alloc | apply pw_below_drewN | apply below_drew1) | exact HB.out)))); have n3_ := Aside0.mk (below_step (by repeat (first | (with_reducible first | exact HB.out | apply below_alloc | apply pw_below_drewN | apply below_drew1) | exact HB.out)) hb); clear HO103; clear HO107; clear HB; have HO103 := n0_; have HO107 := n1_; have HO110 := n2_; have HB := n3_; clear n0_ n1_ n2_ n3_; (try clear hb); (try clear hb2); (try clear hk); (try clear hi); (try clear ho0); obtain ⟨Ao93, co93, eo93⟩ := Kd.S_slice HO107.out; subst eo93; have p111 : 0 ≤ (0 : Int) := (by omega); have q111 : 0 < (t104.length : Int) := of_decide_eq_true (by first | (with_reducible assumption) | assumption); obtain ⟨ad111, A111_0, c111_0, e111, hx111_0, hl111_0, hi111_0⟩ := at_L6 (Kd.S_reads' HO107.out).2.2 0 p111 q111; cases e111; obtain ⟨ce111, hce111, hMe111, hcc111⟩ := Kd.S_get HO107.out [] 0 p111 (by first | exact q111 | exact of_decide_eq_true (by first | (with_reducible assumption) | assumption) | (have e_ := (Kd.S_reads' HO107.out).1; omega)); obtain ⟨ve111_0, rfl, ge111_0⟩ := hMe111; have hv111_0 := hcc111 0 _ rfl; rw [Nat.add_zero, show ((Kd.slice 3 (Kd.int .i64))).sz = 1 from rfl, Nat.mul_one] at hv111_0; replace hv111_0 := Option.some.inj (hv111_0.symm.trans hx111_0); rw [hv111_0] at ge111_0; have HL111_0 := Aside0.mk (show Kd.R (Kd.int .i64) 3 _ _ _ _ (rd_L6 t104 0) from ge111_0); clear hv111_0 ge111_0; clear hcc111 hce111; have qi111 : (0 < t104.length) = True := eq_true (by omega); (try rw [show ((0 : Int)).toNat = 0 from rfl] at hx111_0); (try rw [Addr.add_zero'] at hx111_0); have HR111_0 := Aside0.mk hi111_0; have HC111_0 := Aside0.mk hl111_0; clear hi111_0 hl111_0; replace p111 := eq_true p111; replace q111 := eq_true q111))
         go_ret
         exact ⟨by first | rfl | (simp [errW_none, errW_some] <;> rfl) | (simp [*, errW_none, errW_some] <;> rfl), by repeat (first | (with_reducible first | exact HB.out | apply below_alloc | apply pw_below_drewN | apply below_drew1) | exact HB.out)⟩
     · rw [if_neg c5] at H
       exact absurd H (by simp)
   · rw [if_neg c4] at H
     have c4b0 : ((t104.length : Int) == 2) = false := beq_eq_false_iff_ne.mpr c4
     have c4b1 : ((t104.length : Int) != 2) = true := bne_iff_ne.mpr c4
     obtain rfl := Option.some.inj H
     go_enter Try.func6, Try.ntmps6
     go_wp2_with (first | ((with_reducible refine gate_dst (N := 7) rfl ?_); (try (refine gate_guard (by rfl) ?_; dsimp only)); refine Kd.R_lit k34 _ 34 ?hg (N := 7) ?hd (xs := ([(⟨1, 4⟩ : S34), (⟨2, 8⟩ : S34)] : List (S34))) (inner := [.int .u64 1, .int .u64 4, .int .u64 2, .int .u64 8]) (ok := fun _ => True) (okp := fun _ => True) ?hr ?hp (fun _ hk => hk) trivial (Below.refl _ _) (Nat.le_refl _) (by simp) ?_; (case hd => rfl); (case hg => rfl); (case hr => first | (go_simp; done) | (go_simp; rfl)); (case hp => exact (Reps.c2 (show Kd.M k34 _ _ _ (⟨1, 4⟩ : S34) [.int .u64 1, .int .u64 4] from (k34_mkM _ _ _ (⟨1, 4⟩ : S34) )) (Reps.c2 (show Kd.M k34 _ _ _ (⟨2, 8⟩ : S34) [.int .u64 2, .int .u64 8] from (k34_mkM _ _ _ (⟨2, 8⟩ : S34) )) (Reps.none _ _)))); intro v102 w94 ho95 hb hg_ hnew_; clear hg_ hnew_; (first | rw [← Ny101.out] at ho95 | (simp only [Int.reduceToNat] at ho95; rw [← Ny101.out] at ho95)); have n0_ := Aside0.mk (Kd.R_lower ho95 (below_size (by repeat (first | (with_reducible first | exact HB.out | apply below_alloc | apply pw_below_drewN | apply below_drew1) | exact HB.out)))); have n1_ := Aside0.mk (below_step (by repeat (first | (with_reducible first | exact HB.out | apply below_alloc | apply pw_below_drewN | apply below_drew1) | exact HB.out)) hb); clear HB; have HO103 := n0_; have HB := n1_; clear n0_ n1_; clear hb ho95; obtain ⟨Ao96, co96, eo96⟩ := Kd.R_slice HO103.out; subst eo96) | ((with_reducible refine gate_callee (f := 11) rfl ?_); refine goesL_ (some 10) rfl rfl Try.func11 (by kernel_rfl) rfl #[.slice Ao96 y101.length co96, .int .u64 4] rfl (by (try simp only [List.map_toArray, List.map_cons, List.map_nil]); first | done | rfl | (simp only [List.length_drop, List.length_take]; rfl)) ?_; (with_reducible refine (cyclic_Table.calls k _ _ y101 4 t104 true _ ?side1 ?side2 A1.out).mono ?_); (case side1 => repeat (first | exact (Kd.R_reads' HO103.out).2.2 | (with_reducible refine Kd.C_alloc ?_ _) | (with_reducible refine Kd.C_drewN ?_ _) | (with_reducible refine Kd.C_drew ?_))); (case side2 => exact (Kd.R_reads' HO103.out).2.1); rintro e w97 ⟨v106, rfl, ho0, hb⟩; refine ⟨_, rfl, ?_⟩; have n0_ := Aside0.mk (Kd.R_below (by (with_reducible repeat (first | apply Kd.R_alloc | apply Kd.R_drewN | apply Kd.R_drew)); exact HO103.out) hb); have n1_ := Aside0.mk (Kd.S_lower ho0 (below_size (by repeat (first | (with_reducible first | exact HB.out | apply below_alloc | apply pw_below_drewN | apply below_drew1) | exact HB.out)))); have n2_ := Aside0.mk (below_step (by repeat (first | (with_reducible first | exact HB.out | apply below_alloc | apply pw_below_drewN | apply below_drew1) | exact HB.out)) hb); clear HO103; clear HB; have HO103 := n0_; have HO107 := n1_; have HB := n2_; clear n0_ n1_ n2_; (try clear hb); (try clear hb2); (try clear hk); (try clear hi); (try clear ho0)) | ((with_reducible refine gate_callee (f := 9) rfl ?_); refine goesL_ (some 14) rfl rfl Try.func9 (by kernel_rfl) rfl #[.slice Ao96 y101.length co96] rfl (by (try simp only [List.map_toArray, List.map_cons, List.map_nil]); first | done | rfl | (simp only [List.length_drop, List.length_take]; rfl)) ?_; (with_reducible refine (cyclic_Sizes.calls k _ _ y101 t108 _ ?side1 ?side2 A2.out).mono ?_); (case side1 => repeat (first | exact (Kd.R_reads' HO103.out).2.2 | (with_reducible refine Kd.C_alloc ?_ _) | (with_reducible refine Kd.C_drewN ?_ _) | (with_reducible refine Kd.C_drew ?_))); (case side2 => exact (Kd.R_reads' HO103.out).2.1); rintro e w98 ⟨v109, rfl, ho0, hb⟩; refine ⟨_, rfl, ?_⟩; have n0_ := Aside0.mk (Kd.R_below (by (with_reducible repeat (first | apply Kd.R_alloc | apply Kd.R_drewN | apply Kd.R_drew)); exact HO103.out) hb); have n1_ := Aside0.mk (Kd.S_below (by (with_reducible repeat (first | apply Kd.S_alloc | apply Kd.S_drewN | apply Kd.S_drew)); exact HO107.out) hb); have n2_ := Aside0.mk (Kd.R_lower ho0 (below_size (by repeat (first | (with_reducible first | exact HB.out | apply below_alloc | apply pw_below_drewN | apply below_drew1) | exact HB.out)))); have n3_ := Aside0.mk (below_step (by repeat (first | (with_reducible first | exact HB.out | apply below_alloc | apply pw_below_drewN | apply below_drew1) | exact HB.out)) hb); clear HO103; clear HO107; clear HB; have HO103 := n0_; have HO107 := n1_; have HO110 := n2_; have HB := n3_; clear n0_ n1_ n2_ n3_; (try clear hb); (try clear hb2); (try clear hk); (try clear hi); (try clear ho0); obtain ⟨Ao99, co99, eo99⟩ := Kd.S_slice HO107.out; subst eo99))
     go_ret
     exact ⟨by first | rfl | (simp [errW_none, errW_some] <;> rfl) | (simp [*, errW_none, errW_some] <;> rfl), by repeat (first | (with_reducible first | exact HB.out | apply below_alloc | apply pw_below_drewN | apply below_drew1) | exact HB.out)⟩
 · replace c3 := Bool.eq_false_iff.mpr c3
   subst c3
   have H1 : (some false) = some r := by rw [if_neg (show ¬ (false = true) by decide)] at H; exact H
   clear H
   have H := H1
   clear H1
   obtain rfl := Option.some.inj H
   go_enter Try.func6, Try.ntmps6
   go_wp2_with (first | ((with_reducible refine gate_dst (N := 7) rfl ?_); (try (refine gate_guard (by rfl) ?_; dsimp only)); refine Kd.R_lit k34 _ 34 ?hg (N := 7) ?hd (xs := ([(⟨1, 4⟩ : S34), (⟨2, 8⟩ : S34)] : List (S34))) (inner := [.int .u64 1, .int .u64 4, .int .u64 2, .int .u64 8]) (ok := fun _ => True) (okp := fun _ => True) ?hr ?hp (fun _ hk => hk) trivial (Below.refl _ _) (Nat.le_refl _) (by simp) ?_; (case hd => rfl); (case hg => rfl); (case hr => first | (go_simp; done) | (go_simp; rfl)); (case hp => exact (Reps.c2 (show Kd.M k34 _ _ _ (⟨1, 4⟩ : S34) [.int .u64 1, .int .u64 4] from (k34_mkM _ _ _ (⟨1, 4⟩ : S34) )) (Reps.c2 (show Kd.M k34 _ _ _ (⟨2, 8⟩ : S34) [.int .u64 2, .int .u64 8] from (k34_mkM _ _ _ (⟨2, 8⟩ : S34) )) (Reps.none _ _)))); intro v102 w100 ho101 hb hg_ hnew_; clear hg_ hnew_; (first | rw [← Ny101.out] at ho101 | (simp only [Int.reduceToNat] at ho101; rw [← Ny101.out] at ho101)); have n0_ := Aside0.mk (Kd.R_lower ho101 (below_size (by repeat (first | (with_reducible first | exact HB.out | apply below_alloc | apply pw_below_drewN | apply below_drew1) | exact HB.out)))); have n1_ := Aside0.mk (below_step (by repeat (first | (with_reducible first | exact HB.out | apply below_alloc | apply pw_below_drewN | apply below_drew1) | exact HB.out)) hb); clear HB; have HO103 := n0_; have HB := n1_; clear n0_ n1_; clear hb ho101; obtain ⟨Ao102, co102, eo102⟩ := Kd.R_slice HO103.out; subst eo102) | ((with_reducible refine gate_callee (f := 11) rfl ?_); refine goesL_ (some 10) rfl rfl Try.func11 (by kernel_rfl) rfl #[.slice Ao102 y101.length co102, .int .u64 4] rfl (by (try simp only [List.map_toArray, List.map_cons, List.map_nil]); first | done | rfl | (simp only [List.length_drop, List.length_take]; rfl)) ?_; (with_reducible refine (cyclic_Table.calls k _ _ y101 4 t104 false _ ?side1 ?side2 A1.out).mono ?_); (case side1 => repeat (first | exact (Kd.R_reads' HO103.out).2.2 | (with_reducible refine Kd.C_alloc ?_ _) | (with_reducible refine Kd.C_drewN ?_ _) | (with_reducible refine Kd.C_drew ?_))); (case side2 => exact (Kd.R_reads' HO103.out).2.1); rintro e w103 ⟨v106, rfl, ho0, hb⟩; refine ⟨_, rfl, ?_⟩; have n0_ := Aside0.mk (Kd.R_below (by (with_reducible repeat (first | apply Kd.R_alloc | apply Kd.R_drewN | apply Kd.R_drew)); exact HO103.out) hb); have n1_ := Aside0.mk (Kd.S_lower ho0 (below_size (by repeat (first | (with_reducible first | exact HB.out | apply below_alloc | apply pw_below_drewN | apply below_drew1) | exact HB.out)))); have n2_ := Aside0.mk (below_step (by repeat (first | (with_reducible first | exact HB.out | apply below_alloc | apply pw_below_drewN | apply below_drew1) | exact HB.out)) hb); clear HO103; clear HB; have HO103 := n0_; have HO107 := n1_; have HB := n2_; clear n0_ n1_ n2_; (try clear hb); (try clear hb2); (try clear hk); (try clear hi); (try clear ho0)) | ((with_reducible refine gate_callee (f := 9) rfl ?_); refine goesL_ (some 14) rfl rfl Try.func9 (by kernel_rfl) rfl #[.slice Ao102 y101.length co102] rfl (by (try simp only [List.map_toArray, List.map_cons, List.map_nil]); first | done | rfl | (simp only [List.length_drop, List.length_take]; rfl)) ?_; (with_reducible refine (cyclic_Sizes.calls k _ _ y101 t108 _ ?side1 ?side2 A2.out).mono ?_); (case side1 => repeat (first | exact (Kd.R_reads' HO103.out).2.2 | (with_reducible refine Kd.C_alloc ?_ _) | (with_reducible refine Kd.C_drewN ?_ _) | (with_reducible refine Kd.C_drew ?_))); (case side2 => exact (Kd.R_reads' HO103.out).2.1); rintro e w104 ⟨v109, rfl, ho0, hb⟩; refine ⟨_, rfl, ?_⟩; have n0_ := Aside0.mk (Kd.R_below (by (with_reducible repeat (first | apply Kd.R_alloc | apply Kd.R_drewN | apply Kd.R_drew)); exact HO103.out) hb); have n1_ := Aside0.mk (Kd.S_below (by (with_reducible repeat (first | apply Kd.S_alloc | apply Kd.S_drewN | apply Kd.S_drew)); exact HO107.out) hb); have n2_ := Aside0.mk (Kd.R_lower ho0 (below_size (by repeat (first | (with_reducible first | exact HB.out | apply below_alloc | apply pw_below_drewN | apply below_drew1) | exact HB.out)))); have n3_ := Aside0.mk (below_step (by repeat (first | (with_reducible first | exact HB.out | apply below_alloc | apply pw_below_drewN | apply below_drew1) | exact HB.out)) hb); clear HO103; clear HO107; clear HB; have HO103 := n0_; have HO107 := n1_; have HO110 := n2_; have HB := n3_; clear n0_ n1_ n2_ n3_; (try clear hb); (try clear hb2); (try clear hk); (try clear hi); (try clear ho0)))
   go_ret
   exact ⟨by first | rfl | (simp [errW_none, errW_some] <;> rfl) | (simp [*, errW_none, errW_some] <;> rfl), by repeat (first | (with_reducible first | exact HB.out | apply below_alloc | apply pw_below_drewN | apply below_drew1) | exact HB.out)⟩
end Go.Proofs.Ytindegbbcdloiaa.P
end
section
namespace Go.Proofs.Ytindegbbcdloiaa.P
open Go.RowKit Go.Proofs.YtindegbbcdloiaaW.PrintWords Go.Proofs.YtindegbbcdloiaaW.PrintLast Go.Proofs.YtindegbbcdloiaaW.PrintMore
set_option linter.unusedVariables false
set_option linter.unusedSimpArgs false
noncomputable def signalboxref32_Gcd.l0 : Nat → Int → Int → Option (Int)
 | 0, _, _ => none
 | k + 1, x0, x1 => if x1 = 0 then (some x0) else (signalboxref32_Gcd.l0 k x1 (Int.tmod x0 x1))
noncomputable def signalboxref32_Gcd.f (k : Nat) (a0 : Int) (a1 : Int) : Option (Int) := signalboxref32_Gcd.l0 k a0 a1
set_option maxHeartbeats 8000000 in
set_option maxRecDepth 100000 in
theorem signalboxref32_Gcd.calls (k : Nat) (a0 : Int) (a1 : Int) (r : Int) (w : World) (h : signalboxref32_Gcd.f k a0 a1 = some r) :
 Calls Try.prog 17 #[.int .u64 a0, .int .u64 a1] w fun e w' => e = .returned (.int .u64 r) ∧ Drawn0 w w' := by
 have H : (signalboxref32_Gcd.l0 k a0 a1) = some r := h
 clear h
 have H' := Aside0.mk H
 clear H
 go_enter Try.func17, Try.ntmps17
 go_wp2
 go_loopg [0, 1] k (fun kq v0 v1 w' => ∃ (x0_1 : Int) (x1_1 : Int), v0 = .int .u64 x0_1 ∧ v1 = .int .u64 x1_1 ∧ Aside0 (signalboxref32_Gcd.l0 kq x0_1 x1_1 = some r) ∧ Aside0 (kq ≤ k) ∧ Drawn0 w w')
 case atStart => exact ⟨(a0), (a1), (by first | rfl | (simp; done) | (simp [*]; done)), (by first | rfl | (simp; done) | (simp [*]; done)), H', ⟨Nat.le_refl _⟩, by repeat (first | exact Drawn0.refl _ | apply Drawn0.step)⟩
 case round =>
  clear H'
  try clear c1
  try clear p2
  obtain ⟨x0_1, x1_1, rfl, rfl, HA, HK1, ⟨m1, rfl⟩⟩ := hrel
  cases gk with
  | zero => exact absurd HA.out (by simp [signalboxref32_Gcd.l0])
  | succ k1 =>
   have H := HA.out
   clear HA
   simp only [signalboxref32_Gcd.l0] at H
   by_cases c3 : x1_1 = 0
   · rw [if_pos c3] at H
     have c3b0 : (x1_1 == 0) = true := beq_iff_eq.mpr c3
     have c3b1 : (x1_1 != 0) = false := bne_eq_false_iff_eq.mpr c3
     clear c3
     obtain rfl := Option.some.inj H
     go_wp2
     go_ret
     exact ⟨by first | rfl | (simp; done) | (simp [*]; done), by repeat (first | exact Drawn0.refl _ | apply Drawn0.step)⟩
   · rw [if_neg c3] at H
     have c3b0 : (x1_1 == 0) = false := beq_eq_false_iff_ne.mpr c3
     have c3b1 : (x1_1 != 0) = true := bne_iff_ne.mpr c3
     have H' := Aside0.mk H
     clear H
     go_wp2
     go_roundg k1
     case measure => have := HK1.out; omega
     case rel => exact ⟨(x1_1), (Int.tmod x0_1 x1_1), (by first | rfl | (simp; done) | (simp [*]; done)), (by first | rfl | (simp; done) | (simp [*]; done)), H', ⟨by have := HK1.out; omega⟩, by repeat (first | exact Drawn0.refl _ | apply Drawn0.step)⟩
end Go.Proofs.Ytindegbbcdloiaa.P
end
section
namespace Go.Proofs.Ytindegbbcdloiaa.P
open Go.RowKit Go.Proofs.YtindegbbcdloiaaW.PrintWords Go.Proofs.YtindegbbcdloiaaW.PrintLast Go.Proofs.YtindegbbcdloiaaW.PrintMore
set_option linter.unusedVariables false
set_option linter.unusedSimpArgs false
noncomputable def signalboxref32_Times.j0 : Nat → Int → Int → Bool → Option (Int × Bool)
 | 0, _, _, _ => none
 | k + 1, x0, x1, x11 => if x11 = true then (some (0, true)) else (if x1 = 0 then (none) else (if x0 > (IntKind.u64.wrap (Int.tdiv (18446744073709551615 : Int) x1)) then (some (0, false)) else (some (IntKind.u64.wrap (x0 * x1), decide ((IntKind.u64.wrap (x0 * x1)) < 18446744073709551615)))))
noncomputable def signalboxref32_Times.f (k : Nat) (a0 : Int) (a1 : Int) : Option (Int × Bool) := if a0 = 0 then (signalboxref32_Times.j0 k a0 a1 true) else (signalboxref32_Times.j0 k a0 a1 (a1 == 0))
set_option maxHeartbeats 8000000 in
set_option maxRecDepth 100000 in
theorem signalboxref32_Times.calls (k : Nat) (a0 : Int) (a1 : Int) (r1 : Int) (r2 : Bool) (w : World) (h : signalboxref32_Times.f k a0 a1 = some (r1, r2)) :
 Calls Try.prog 22 #[.int .u64 a0, .int .u64 a1] w fun e w' => e = .returned (.tuple #[.int .u64 r1, .bool r2]) ∧ Drawn0 w w' := by
 have H : (if a0 = 0 then (signalboxref32_Times.j0 k a0 a1 true) else (signalboxref32_Times.j0 k a0 a1 (a1 == 0))) = some (r1, r2) := h
 clear h
 have HC3 := Aside0.mk H
 clear H
 go_enter Try.func22, Try.ntmps22
 go_upto_region 1 with (fail)
 go_cut [11] (fun v11 wc => ∃ (kq : Nat) (x11_2 : Bool), v11 = .bool x11_2 ∧ Aside0 (signalboxref32_Times.j0 kq a0 a1 x11_2 = some (r1, r2)) ∧ Aside0 (kq ≤ k) ∧ Drawn0 w wc)
 case first =>
  have H := HC3.out
  clear HC3
  by_cases c4 : a0 = 0
  · rw [if_pos c4] at H
    have c4b0 : (a0 == 0) = true := beq_iff_eq.mpr c4
    have c4b1 : (a0 != 0) = false := bne_eq_false_iff_eq.mpr c4
    clear c4
    (first | rw [c4b0] | (simp only [i64_w, i32_w]; rw [c4b0]) | skip)
    have H' := Aside0.mk H
    clear H
    go_wp2
    go_meet
    case rel => exact ⟨_, (true), (by first | rfl | (simp; done) | (simp [*]; done)), H', ⟨by first | omega | exact Nat.le_refl _⟩, by repeat (first | exact Drawn0.refl _ | apply Drawn0.step)⟩
  · rw [if_neg c4] at H
    have c4b0 : (a0 == 0) = false := beq_eq_false_iff_ne.mpr c4
    have c4b1 : (a0 != 0) = true := bne_iff_ne.mpr c4
    (first | rw [c4b0] | (simp only [i64_w, i32_w]; rw [c4b0]) | skip)
    have H' := Aside0.mk H
    clear H
    go_wp2
    go_meet
    case rel => exact ⟨_, ((a1 == 0)), (by first | rfl | (simp; done) | (simp [*]; done)), H', ⟨by first | omega | exact Nat.le_refl _⟩, by repeat (first | exact Drawn0.refl _ | apply Drawn0.step)⟩
 case rest =>
  clear HC3
  try clear c2
  try clear p2
  try clear c4
  try clear c4b0
  try clear c4b1
  obtain ⟨kq, x11_2, rfl, HA, HJ2, ⟨mc2, rfl⟩⟩ := hcut
  cases kq with
  | zero => exact absurd HA.out (by simp [signalboxref32_Times.j0])
  | succ kj2 =>
   have H := HA.out
   clear HA
   simp only [signalboxref32_Times.j0] at H
   by_cases c5 : x11_2 = true
   · subst c5
     have H1 : (some (0, true)) = some (r1, r2) := by rw [if_pos rfl] at H; exact H
     clear H
     have H := H1
     clear H1
     simp only [Option.some.injEq, Prod.mk.injEq] at H
     obtain ⟨rfl, rfl⟩ := H
     go_wp2
     go_ret2
     exact ⟨by first | rfl | (simp; done) | (simp [*]; done), by repeat (first | exact Drawn0.refl _ | apply Drawn0.step)⟩
   · replace c5 := Bool.eq_false_iff.mpr c5
     subst c5
     have H1 : (if a1 = 0 then (none) else (if a0 > (IntKind.u64.wrap (Int.tdiv (18446744073709551615 : Int) a1)) then (some (0, false)) else (some (IntKind.u64.wrap (a0 * a1), decide ((IntKind.u64.wrap (a0 * a1)) < 18446744073709551615))))) = some (r1, r2) := by rw [if_neg (show ¬ (false = true) by decide)] at H; exact H
     clear H
     have H := H1
     clear H1
     by_cases c6 : a1 = 0
     · rw [if_pos c6] at H
       exact absurd H (by simp)
     · rw [if_neg c6] at H
       have c6b0 : (a1 == 0) = false := beq_eq_false_iff_ne.mpr c6
       have c6b1 : (a1 != 0) = true := bne_iff_ne.mpr c6
       by_cases c7 : a0 > (IntKind.u64.wrap (Int.tdiv (18446744073709551615 : Int) a1))
       · rw [if_pos c7] at H
         have c7b0 : decide ((IntKind.u64.wrap (Int.tdiv (18446744073709551615 : Int) a1)) < a0) = true := decide_eq_true c7
         clear c7
         simp only [Option.some.injEq, Prod.mk.injEq] at H
         obtain ⟨rfl, rfl⟩ := H
         go_wp2
         go_ret2
         exact ⟨by first | rfl | (simp; done) | (simp [*]; done), by repeat (first | exact Drawn0.refl _ | apply Drawn0.step)⟩
       · rw [if_neg c7] at H
         have c7b0 : decide ((IntKind.u64.wrap (Int.tdiv (18446744073709551615 : Int) a1)) < a0) = false := decide_eq_false c7
         clear c7
         simp only [Option.some.injEq, Prod.mk.injEq] at H
         obtain ⟨rfl, rfl⟩ := H
         go_wp2
         go_ret2
         exact ⟨by first | rfl | (simp; done) | (simp [*]; done), by repeat (first | exact Drawn0.refl _ | apply Drawn0.step)⟩
end Go.Proofs.Ytindegbbcdloiaa.P
end
section
namespace Go.Proofs.Ytindegbbcdloiaa.P
open Go.RowKit Go.Proofs.YtindegbbcdloiaaW.PrintWords Go.Proofs.YtindegbbcdloiaaW.PrintLast Go.Proofs.YtindegbbcdloiaaW.PrintMore
set_option linter.unusedVariables false
set_option linter.unusedSimpArgs false
noncomputable def signalboxref32_Lcm.j0 : Nat → Int → Int → Bool → Option (Int)
 | 0, _, _, _ => none
 | k + 1, x0, x1, x12 => if x12 = true then (some 0) else ((signalboxref32_Gcd.f k x0 x1).bind fun t101 => (if t101 = 0 then (none) else ((signalboxref32_Times.f k (IntKind.u64.wrap (Int.tdiv x0 t101)) x1).bind fun bt102 => (if bt102.2 = true then (some bt102.1) else (some 18446744073709551615)))))
noncomputable def signalboxref32_Lcm.f (k : Nat) (a0 : Int) (a1 : Int) : Option (Int) := if a0 = 0 then (signalboxref32_Lcm.j0 k a0 a1 true) else (signalboxref32_Lcm.j0 k a0 a1 (a1 == 0))
set_option maxHeartbeats 8000000 in
set_option maxRecDepth 100000 in
theorem signalboxref32_Lcm.calls (k : Nat) (a0 : Int) (a1 : Int) (r : Int) (w : World) (h : signalboxref32_Lcm.f k a0 a1 = some r) :
 Calls Try.prog 18 #[.int .u64 a0, .int .u64 a1] w fun e w' => e = .returned (.int .u64 r) ∧ Drawn0 w w' := by
 have H : (if a0 = 0 then (signalboxref32_Lcm.j0 k a0 a1 true) else (signalboxref32_Lcm.j0 k a0 a1 (a1 == 0))) = some r := h
 clear h
 have HC3 := Aside0.mk H
 clear H
 go_enter Try.func18, Try.ntmps18
 go_upto_region 1 with (fail)
 go_cut [12] (fun v12 wc => ∃ (kq : Nat) (x12_2 : Bool), v12 = .bool x12_2 ∧ Aside0 (signalboxref32_Lcm.j0 kq a0 a1 x12_2 = some r) ∧ Aside0 (kq ≤ k) ∧ Drawn0 w wc)
 case first =>
  have H := HC3.out
  clear HC3
  by_cases c4 : a0 = 0
  · rw [if_pos c4] at H
    have c4b0 : (a0 == 0) = true := beq_iff_eq.mpr c4
    have c4b1 : (a0 != 0) = false := bne_eq_false_iff_eq.mpr c4
    clear c4
    (first | rw [c4b0] | (simp only [i64_w, i32_w]; rw [c4b0]) | skip)
    have H' := Aside0.mk H
    clear H
    go_wp2
    go_meet
    case rel => exact ⟨_, (true), (by first | rfl | (simp; done) | (simp [*]; done)), H', ⟨by first | omega | exact Nat.le_refl _⟩, by repeat (first | exact Drawn0.refl _ | apply Drawn0.step)⟩
  · rw [if_neg c4] at H
    have c4b0 : (a0 == 0) = false := beq_eq_false_iff_ne.mpr c4
    have c4b1 : (a0 != 0) = true := bne_iff_ne.mpr c4
    (first | rw [c4b0] | (simp only [i64_w, i32_w]; rw [c4b0]) | skip)
    have H' := Aside0.mk H
    clear H
    go_wp2
    go_meet
    case rel => exact ⟨_, ((a1 == 0)), (by first | rfl | (simp; done) | (simp [*]; done)), H', ⟨by first | omega | exact Nat.le_refl _⟩, by repeat (first | exact Drawn0.refl _ | apply Drawn0.step)⟩
 case rest =>
  clear HC3
  try clear c1
  try clear p2
  try clear c4
  try clear c4b0
  try clear c4b1
  obtain ⟨kq, x12_2, rfl, HA, HJ2, ⟨mc2, rfl⟩⟩ := hcut
  cases kq with
  | zero => exact absurd HA.out (by simp [signalboxref32_Lcm.j0])
  | succ kj2 =>
   have H := HA.out
   clear HA
   simp only [signalboxref32_Lcm.j0] at H
   by_cases c5 : x12_2 = true
   · subst c5
     have H1 : (some 0) = some r := by rw [if_pos rfl] at H; exact H
     clear H
     have H := H1
     clear H1
     obtain rfl := Option.some.inj H
     go_wp2
     go_ret
     exact ⟨by first | rfl | (simp; done) | (simp [*]; done), by repeat (first | exact Drawn0.refl _ | apply Drawn0.step)⟩
   · replace c5 := Bool.eq_false_iff.mpr c5
     subst c5
     have H1 : ((signalboxref32_Gcd.f kj2 a0 a1).bind fun t101 => (if t101 = 0 then (none) else ((signalboxref32_Times.f kj2 (IntKind.u64.wrap (Int.tdiv a0 t101)) a1).bind fun bt102 => (if bt102.2 = true then (some bt102.1) else (some 18446744073709551615))))) = some r := by rw [if_neg (show ¬ (false = true) by decide)] at H; exact H
     clear H
     have H := H1
     clear H1
     replace H := Option.bind_eq_some_iff.mp H
     obtain ⟨t101, A60, H⟩ := H
     replace H : (if t101 = 0 then (none) else ((signalboxref32_Times.f kj2 (IntKind.u64.wrap (Int.tdiv a0 t101)) a1).bind fun bt102 => (if bt102.2 = true then (some bt102.1) else (some 18446744073709551615)))) = some r := H
     have A6 := Aside0.mk A60
     clear A60
     by_cases c7 : t101 = 0
     · rw [if_pos c7] at H
       exact absurd H (by simp)
     · rw [if_neg c7] at H
       have c7b0 : (t101 == 0) = false := beq_eq_false_iff_ne.mpr c7
       have c7b1 : (t101 != 0) = true := bne_iff_ne.mpr c7
       replace H := Option.bind_eq_some_iff.mp H
       obtain ⟨⟨t102, t103⟩, A80, H⟩ := H
       replace H : (if t103 = true then (some t102) else (some 18446744073709551615)) = some r := H
       have A8 := Aside0.mk A80
       clear A80
       by_cases c9 : t103 = true
       · subst c9
         have H1 : (some t102) = some r := by rw [if_pos rfl] at H; exact H
         clear H
         have H := H1
         clear H1
         obtain rfl := Option.some.inj H
         go_wp2_with (first | ((with_reducible refine gate_callee (f := 17) rfl ?_); refine goesL_ (some 17) rfl rfl Try.func17 (by kernel_rfl) rfl #[.int .u64 a0, .int .u64 a1] rfl (by (try simp only [List.map_toArray, List.map_cons, List.map_nil]); first | done | rfl | (simp only [List.length_drop, List.length_take]; rfl)) ?_; (with_reducible refine (signalboxref32_Gcd.calls kj2 a0 a1 t101 _ A6.out).mono ?_); rintro e w' ⟨rfl, ⟨nd, rfl⟩⟩; refine ⟨_, rfl, ?_⟩) | ((with_reducible refine gate_callee (f := 22) rfl ?_); refine goesL_ (some 20) rfl rfl Try.func22 (by kernel_rfl) rfl #[.int .u64 (IntKind.u64.wrap (Int.tdiv a0 t101)), .int .u64 a1] rfl (by (try simp only [List.map_toArray, List.map_cons, List.map_nil]); first | done | rfl | (simp only [List.length_drop, List.length_take]; rfl)) ?_; (with_reducible refine (signalboxref32_Times.calls kj2 (IntKind.u64.wrap (Int.tdiv a0 t101)) a1 t102 true _ A8.out).mono ?_); rintro e w' ⟨rfl, ⟨nd, rfl⟩⟩; refine ⟨_, rfl, ?_⟩))
         go_ret
         exact ⟨by first | rfl | (simp; done) | (simp [*]; done), by repeat (first | exact Drawn0.refl _ | apply Drawn0.step)⟩
       · replace c9 := Bool.eq_false_iff.mpr c9
         subst c9
         have H1 : (some 18446744073709551615) = some r := by rw [if_neg (show ¬ (false = true) by decide)] at H; exact H
         clear H
         have H := H1
         clear H1
         obtain rfl := Option.some.inj H
         go_wp2_with (first | ((with_reducible refine gate_callee (f := 17) rfl ?_); refine goesL_ (some 17) rfl rfl Try.func17 (by kernel_rfl) rfl #[.int .u64 a0, .int .u64 a1] rfl (by (try simp only [List.map_toArray, List.map_cons, List.map_nil]); first | done | rfl | (simp only [List.length_drop, List.length_take]; rfl)) ?_; (with_reducible refine (signalboxref32_Gcd.calls kj2 a0 a1 t101 _ A6.out).mono ?_); rintro e w' ⟨rfl, ⟨nd, rfl⟩⟩; refine ⟨_, rfl, ?_⟩) | ((with_reducible refine gate_callee (f := 22) rfl ?_); refine goesL_ (some 20) rfl rfl Try.func22 (by kernel_rfl) rfl #[.int .u64 (IntKind.u64.wrap (Int.tdiv a0 t101)), .int .u64 a1] rfl (by (try simp only [List.map_toArray, List.map_cons, List.map_nil]); first | done | rfl | (simp only [List.length_drop, List.length_take]; rfl)) ?_; (with_reducible refine (signalboxref32_Times.calls kj2 (IntKind.u64.wrap (Int.tdiv a0 t101)) a1 t102 false _ A8.out).mono ?_); rintro e w' ⟨rfl, ⟨nd, rfl⟩⟩; refine ⟨_, rfl, ?_⟩))
         go_ret
         exact ⟨by first | rfl | (simp; done) | (simp [*]; done), by repeat (first | exact Drawn0.refl _ | apply Drawn0.step)⟩
end Go.Proofs.Ytindegbbcdloiaa.P
end
section
namespace Go.Proofs.Ytindegbbcdloiaa.P
open Go.RowKit Go.Proofs.YtindegbbcdloiaaW.PrintWords Go.Proofs.YtindegbbcdloiaaW.PrintLast Go.Proofs.YtindegbbcdloiaaW.PrintMore
set_option linter.unusedVariables false
set_option linter.unusedSimpArgs false
/-! ### signalboxlaw43_whole: function 10 -/
mutual
noncomputable def signalboxlaw43_whole.l0 : Nat → List (S34) → Int → List (S34) → Int → Int → Option (Int)
 | 0, _, _, _, _, _ => none
 | k + 1, x0, x3, x6, x7, x8 => if x8 < x7 then (if 0 ≤ x8 then (if x8 < (x6.length : Int) then (if ((rd_T34 x6 x8).f0) = 0 then (signalboxlaw43_whole.j1 k x0 x3 x6 x7 x8 true ((rd_T34 x6 x8).f0) ((rd_T34 x6 x8).f1)) else (if ((rd_T34 x6 x8).f1) = 0 then (signalboxlaw43_whole.j1 k x0 x3 x6 x7 x8 true ((rd_T34 x6 x8).f0) ((rd_T34 x6 x8).f1)) else (signalboxlaw43_whole.j1 k x0 x3 x6 x7 x8 (decide (((rd_T34 x6 x8).f1) > 4096)) ((rd_T34 x6 x8).f0) ((rd_T34 x6 x8).f1)))) else (none)) else (none)) else (if (x0.length : Int) = 0 then (some 0) else (some x3))
noncomputable def signalboxlaw43_whole.j1 : Nat → List (S34) → Int → List (S34) → Int → Int → Bool → Int → Int → Option (Int)
 | 0, _, _, _, _, _, _, _, _ => none
 | k + 1, x0, x3, x6, x7, x8, x24, x103000, x103001 => if x24 = true then (some 0) else ((signalboxref32_Lcm.f k x3 x103001).bind fun t103 => (if t103 > 4096 then (some 0) else (signalboxlaw43_whole.l0 k x0 t103 x6 x7 (wrap64 (x8 + 1)))))
end
noncomputable def signalboxlaw43_whole.f (k : Nat) (l0 : List (S34)) : Option (Int) := signalboxlaw43_whole.l0 k l0 1 l0 (l0.length : Int) 0
set_option maxHeartbeats 8000000 in
set_option maxRecDepth 100000 in
theorem signalboxlaw43_whole.calls (k : Nat) (A0 : Option Addr) (c0 : Nat) (l0 : List (S34)) (r : Int) (w : World) (hr0 : Kd.C k34 w A0 l0.length l0) (hc0 : l0.length ≤ c0) (h : signalboxlaw43_whole.f k l0 = some r) :
 Calls Try.prog 10 #[.slice A0 l0.length c0] w fun e w' => e = .returned (.int .u64 r) ∧ Below w.heap.size w w' := by
 have hu34 := Try.underlying34
 have HR0 := Aside0.mk hr0
 have HC0 := Aside0.mk hc0
 clear hr0 hc0
 have HB := Aside0.mk (Below.refl w.heap.size w)
 have H : (signalboxlaw43_whole.l0 k l0 1 l0 (l0.length : Int) 0) = some r := h
 clear h
 have H' := Aside0.mk H
 clear H
 go_enter Try.func10, Try.ntmps10
 go_wp2
 go_loopg [3, 8] k (fun kq v3 v8 w' => ∃ (x3_1 : Int) (x8_1 : Int), v3 = .int .u64 x3_1 ∧ v8 = .int .i64 x8_1 ∧ Aside0 (signalboxlaw43_whole.l0 kq l0 x3_1 l0 (l0.length : Int) x8_1 = some r) ∧ Aside0 (kq ≤ k) ∧ Aside0 (Below w.heap.size w w'))
 case atStart => exact ⟨(1), (0), (by first | rfl | (simp; done) | (simp [*]; done)), (by first | rfl | (simp; done) | (simp [*]; done)), H', ⟨Nat.le_refl _⟩, ⟨by repeat (first | (with_reducible first | exact HB.out | apply below_alloc | apply pw_below_drewN | apply below_drew1) | exact HB.out)⟩⟩
 case round =>
  clear H'
  try clear c1
  obtain ⟨x3_1, x8_1, rfl, rfl, HA, HK1, HB⟩ := hrel
  cases gk with
  | zero => exact absurd HA.out (by simp [signalboxlaw43_whole.l0])
  | succ k1 =>
   have H := HA.out
   clear HA
   simp only [signalboxlaw43_whole.l0] at H
   by_cases c2 : x8_1 < (l0.length : Int)
   · rw [if_pos c2] at H
     have c2b0 : decide (x8_1 < (l0.length : Int)) = true := decide_eq_true c2
     clear c2
     by_cases c3 : 0 ≤ x8_1
     · rw [if_pos c3] at H
       have c3b0 : decide (0 ≤ x8_1) = true := decide_eq_true c3
       clear c3
       by_cases c4 : x8_1 < (l0.length : Int)
       · rw [if_pos c4] at H
         have c4b0 : decide (x8_1 < (l0.length : Int)) = true := decide_eq_true c4
         clear c4
         have HC5 := Aside0.mk H
         clear H
         have p101 : 0 ≤ (x8_1 : Int) := of_decide_eq_true (by first | (with_reducible assumption) | assumption)
         have q101 : x8_1 < (l0.length : Int) := of_decide_eq_true (by first | (with_reducible assumption) | assumption)
         obtain ⟨ad101, e101, hx101_0, hx101_1⟩ := at_T34 HR0.out x8_1 p101 q101
         cases e101
         replace hx101_0 := (HB.out.cell (World.block_lt_of_cell? w _ hx101_0)).trans hx101_0
         replace hx101_1 := (HB.out.cell (World.block_lt_of_cell? w _ hx101_1)).trans hx101_1
         replace p101 := eq_true p101
         replace q101 := eq_true q101
         go_upto_region 5 with (first | ((with_reducible refine gate_dst (N := 5) rfl ?_); refine box_event ?hg (N := 5) ?hd (cs := #[.int .u64 0, .int .u64 0]) (t := 34) ?hr ?_; (case hd => rfl); (case hg => rfl); (case hr => first | (go_simp; done) | (go_simp; rfl)); intro gb102 hg w6 hbox hb; have n0_ := Aside0.mk (below_step (by repeat (first | (with_reducible first | exact HB.out | apply below_alloc | apply pw_below_drewN | apply below_drew1) | exact HB.out)) hb); have n1_ := Aside0.mk (hbox); have n2_ := Aside0.mk ((by rw [hg]; exact (below_size (by repeat (first | (with_reducible first | exact HB.out | apply below_alloc | apply pw_below_drewN | apply below_drew1) | exact HB.out))) : w.heap.size ≤ gb102)); have n3_ := Aside0.mk ((by rw [hg]; exact (below_size (by repeat (first | (with_reducible first | exact HB.out | apply below_alloc | apply pw_below_drewN | apply below_drew1) | exact HB.out))) : w.heap.size ≤ gb102)); clear HB; have HB := n0_; have BK102 := n1_; have GW102 := n2_; have GE102 := n3_; clear n0_ n1_ n2_ n3_; clear hb hbox hg; have hcz7_0 : w6.cell? ⟨gb102, 0, none⟩ = some (.int .u64 0) := (blk_cell BK102.out 0).trans rfl; have hcz7_1 : w6.cell? ⟨gb102, 1, none⟩ = some (.int .u64 0) := (blk_cell BK102.out 1).trans rfl; have hfz7_0 := blk_frozen BK102.out 0; have hfz7_1 := blk_frozen BK102.out 1))
         (try simp only [Act.put, List.setIfInBounds_toArray, List.set_cons_zero, List.set_cons_succ])
         go_cut [24] (fun v24 wc => ∃ (kq : Nat) (x24_4 : Bool), v24 = .bool x24_4 ∧ Aside0 (signalboxlaw43_whole.j1 kq l0 x3_1 l0 (l0.length : Int) x8_1 x24_4 ((rd_T34 l0 x8_1).f0) ((rd_T34 l0 x8_1).f1) = some r) ∧ Aside0 (kq ≤ k1) ∧ Aside0 (wc.heap[gb102]? = some (.cells #[.int .u64 ((rd_T34 l0 x8_1).f0), .int .u64 ((rd_T34 l0 x8_1).f1)] 34 (0, 0))) ∧ Aside0 (Below w.heap.size w wc))
         case first =>
          have H := HC5.out
          clear HC5
          by_cases c8 : ((rd_T34 l0 x8_1).f0) = 0
          · rw [if_pos c8] at H
            have c8b0 : (((rd_T34 l0 x8_1).f0) == 0) = true := beq_iff_eq.mpr c8
            have c8b1 : (((rd_T34 l0 x8_1).f0) != 0) = false := bne_eq_false_iff_eq.mpr c8
            clear c8
            (first | rw [c8b0] | (simp only [i64_w, i32_w]; rw [c8b0]) | skip)
            have H' := Aside0.mk H
            clear H
            have hcz9_0 : w6.cell? ⟨gb102, 0, none⟩ = some (.int .u64 0) := (blk_cell BK102.out 0).trans rfl
            have hcz9_1 : w6.cell? ⟨gb102, 1, none⟩ = some (.int .u64 0) := (blk_cell BK102.out 1).trans rfl
            have hfz9_0 := blk_frozen BK102.out 0
            have hfz9_1 := blk_frozen BK102.out 1
            go_wp2
            go_meet
            case rel => exact ⟨_, (true), (by first | rfl | (simp; done) | (simp [*]; done)), H', ⟨by have := HK1.out; first | omega | exact Nat.le_refl _⟩, ⟨by (with_reducible repeat (first | refine blk_drewN ?_ _ | refine blk_drew ?_ | refine blk_alloc ?_ _)); refine blk_put (cs := #[.int .u64 ((rd_T34 l0 x8_1).f0), .int .u64 0]) ?_ 1 _ rfl; (with_reducible repeat (first | refine blk_drewN ?_ _ | refine blk_drew ?_ | refine blk_alloc ?_ _)); refine blk_put (cs := #[.int .u64 0, .int .u64 0]) ?_ 0 _ rfl; (with_reducible repeat (first | refine blk_drewN ?_ _ | refine blk_drew ?_ | refine blk_alloc ?_ _)); exact BK102.out⟩, ⟨by repeat (first | (with_reducible first | exact HB.out | apply below_alloc | apply pw_below_drewN | apply below_drew1 | refine below_set ?_ GE102.out) | exact HB.out)⟩⟩
          · rw [if_neg c8] at H
            have c8b0 : (((rd_T34 l0 x8_1).f0) == 0) = false := beq_eq_false_iff_ne.mpr c8
            have c8b1 : (((rd_T34 l0 x8_1).f0) != 0) = true := bne_iff_ne.mpr c8
            (first | rw [c8b0] | (simp only [i64_w, i32_w]; rw [c8b0]) | skip)
            by_cases c10 : ((rd_T34 l0 x8_1).f1) = 0
            · rw [if_pos c10] at H
              have c10b0 : (((rd_T34 l0 x8_1).f1) == 0) = true := beq_iff_eq.mpr c10
              have c10b1 : (((rd_T34 l0 x8_1).f1) != 0) = false := bne_eq_false_iff_eq.mpr c10
              clear c10
              have H' := Aside0.mk H
              clear H
              have hcz11_0 : w6.cell? ⟨gb102, 0, none⟩ = some (.int .u64 0) := (blk_cell BK102.out 0).trans rfl
              have hcz11_1 : w6.cell? ⟨gb102, 1, none⟩ = some (.int .u64 0) := (blk_cell BK102.out 1).trans rfl
              have hfz11_0 := blk_frozen BK102.out 0
              have hfz11_1 := blk_frozen BK102.out 1
              go_wp2
              go_meet
              case rel => exact ⟨_, (true), (by first | rfl | (simp; done) | (simp [*]; done)), H', ⟨by have := HK1.out; first | omega | exact Nat.le_refl _⟩, ⟨by (with_reducible repeat (first | refine blk_drewN ?_ _ | refine blk_drew ?_ | refine blk_alloc ?_ _)); refine blk_put (cs := #[.int .u64 ((rd_T34 l0 x8_1).f0), .int .u64 0]) ?_ 1 _ rfl; (with_reducible repeat (first | refine blk_drewN ?_ _ | refine blk_drew ?_ | refine blk_alloc ?_ _)); refine blk_put (cs := #[.int .u64 0, .int .u64 0]) ?_ 0 _ rfl; (with_reducible repeat (first | refine blk_drewN ?_ _ | refine blk_drew ?_ | refine blk_alloc ?_ _)); exact BK102.out⟩, ⟨by repeat (first | (with_reducible first | exact HB.out | apply below_alloc | apply pw_below_drewN | apply below_drew1 | refine below_set ?_ GE102.out) | exact HB.out)⟩⟩
            · rw [if_neg c10] at H
              have c10b0 : (((rd_T34 l0 x8_1).f1) == 0) = false := beq_eq_false_iff_ne.mpr c10
              have c10b1 : (((rd_T34 l0 x8_1).f1) != 0) = true := bne_iff_ne.mpr c10
              have H' := Aside0.mk H
              clear H
              have hcz12_0 : w6.cell? ⟨gb102, 0, none⟩ = some (.int .u64 0) := (blk_cell BK102.out 0).trans rfl
              have hcz12_1 : w6.cell? ⟨gb102, 1, none⟩ = some (.int .u64 0) := (blk_cell BK102.out 1).trans rfl
              have hfz12_0 := blk_frozen BK102.out 0
              have hfz12_1 := blk_frozen BK102.out 1
              go_wp2
              go_meet
              case rel => exact ⟨_, (decide (((rd_T34 l0 x8_1).f1) > 4096)), (by first | rfl | (simp; done) | (simp [*]; done)), H', ⟨by have := HK1.out; first | omega | exact Nat.le_refl _⟩, ⟨by (with_reducible repeat (first | refine blk_drewN ?_ _ | refine blk_drew ?_ | refine blk_alloc ?_ _)); refine blk_put (cs := #[.int .u64 ((rd_T34 l0 x8_1).f0), .int .u64 0]) ?_ 1 _ rfl; (with_reducible repeat (first | refine blk_drewN ?_ _ | refine blk_drew ?_ | refine blk_alloc ?_ _)); refine blk_put (cs := #[.int .u64 0, .int .u64 0]) ?_ 0 _ rfl; (with_reducible repeat (first | refine blk_drewN ?_ _ | refine blk_drew ?_ | refine blk_alloc ?_ _)); exact BK102.out⟩, ⟨by repeat (first | (with_reducible first | exact HB.out | apply below_alloc | apply pw_below_drewN | apply below_drew1 | refine below_set ?_ GE102.out) | exact HB.out)⟩⟩
         case rest =>
          clear HC5
          try clear c1
          try clear p1
          try clear q1
          try clear hx1
          try clear c2
          try clear c2b0
          try clear p2
          try clear c3
          try clear c3b0
          try clear c4
          try clear c4b0
          try clear c8
          try clear c8b0
          try clear c8b1
          try clear c10
          try clear c10b0
          try clear c10b1
          try clear p10
          try clear q10
          try clear hx10
          try clear hcz11_0
          try clear hcz11_1
          try clear hcz12_0
          try clear hcz12_1
          try clear hcz7_0
          try clear hcz7_1
          try clear hcz9_0
          try clear hcz9_1
          try clear hfz11_0
          try clear hfz11_1
          try clear hfz12_0
          try clear hfz12_1
          try clear hfz7_0
          try clear hfz7_1
          try clear hfz9_0
          try clear hfz9_1
          try clear hx101_0
          try clear hx101_1
          try clear p101
          try clear q101
          obtain ⟨kq, x24_4, rfl, HA, HJ4, BK102, HB⟩ := hcut
          cases kq with
          | zero => exact absurd HA.out (by simp [signalboxlaw43_whole.j1])
          | succ kj4 =>
           have H := HA.out
           clear HA
           simp only [signalboxlaw43_whole.j1] at H
           by_cases c13 : x24_4 = true
           · subst c13
             have H1 : (some 0) = some r := by rw [if_pos rfl] at H; exact H
             clear H
             have H := H1
             clear H1
             obtain rfl := Option.some.inj H
             go_wp2
             go_ret
             exact ⟨by first | rfl | (simp [errW_none, errW_some] <;> rfl) | (simp [*, errW_none, errW_some] <;> rfl), by repeat (first | (with_reducible first | exact HB.out | apply below_alloc | apply pw_below_drewN | apply below_drew1 | refine below_set ?_ GE102.out) | exact HB.out)⟩
           · replace c13 := Bool.eq_false_iff.mpr c13
             subst c13
             have H1 : ((signalboxref32_Lcm.f kj4 x3_1 ((rd_T34 l0 x8_1).f1)).bind fun t103 => (if t103 > 4096 then (some 0) else (signalboxlaw43_whole.l0 kj4 l0 t103 l0 (l0.length : Int) (wrap64 (x8_1 + 1))))) = some r := by rw [if_neg (show ¬ (false = true) by decide)] at H; exact H
             clear H
             have H := H1
             clear H1
             replace H := Option.bind_eq_some_iff.mp H
             obtain ⟨t103, A140, H⟩ := H
             replace H : (if t103 > 4096 then (some 0) else (signalboxlaw43_whole.l0 kj4 l0 t103 l0 (l0.length : Int) (wrap64 (x8_1 + 1)))) = some r := H
             have A14 := Aside0.mk A140
             clear A140
             by_cases c15 : t103 > 4096
             · rw [if_pos c15] at H
               have c15b0 : decide (4096 < t103) = true := decide_eq_true c15
               clear c15
               obtain rfl := Option.some.inj H
               have hcz16_0 : wc.cell? ⟨gb102, 0, none⟩ = some (.int .u64 ((rd_T34 l0 x8_1).f0)) := (blk_cell BK102.out 0).trans rfl
               have hcz16_1 : wc.cell? ⟨gb102, 1, none⟩ = some (.int .u64 ((rd_T34 l0 x8_1).f1)) := (blk_cell BK102.out 1).trans rfl
               have hfz16_0 := blk_frozen BK102.out 0
               have hfz16_1 := blk_frozen BK102.out 1
               go_wp2_with (first | ((with_reducible refine gate_callee (f := 18) rfl ?_); refine goesL_ (some 28) rfl rfl Try.func18 (by kernel_rfl) rfl #[.int .u64 x3_1, .int .u64 ((rd_T34 l0 x8_1).f1)] rfl (by (try simp only [List.map_toArray, List.map_cons, List.map_nil]); first | done | rfl | (simp only [List.length_drop, List.length_take]; rfl)) ?_; (with_reducible refine (signalboxref32_Lcm.calls kj4 x3_1 ((rd_T34 l0 x8_1).f1) t103 _ A14.out).mono ?_); rintro e w' ⟨rfl, ⟨nd, rfl⟩⟩; refine ⟨_, rfl, ?_⟩))
               go_ret
               exact ⟨by first | rfl | (simp [errW_none, errW_some] <;> rfl) | (simp [*, errW_none, errW_some] <;> rfl), by repeat (first | (with_reducible first | exact HB.out | apply below_alloc | apply pw_below_drewN | apply below_drew1 | refine below_set ?_ GE102.out) | exact HB.out)⟩
             · rw [if_neg c15] at H
               have c15b0 : decide (4096 < t103) = false := decide_eq_false c15
               clear c15
               have H' := Aside0.mk H
               clear H
               have hcz17_0 : wc.cell? ⟨gb102, 0, none⟩ = some (.int .u64 ((rd_T34 l0 x8_1).f0)) := (blk_cell BK102.out 0).trans rfl
               have hcz17_1 : wc.cell? ⟨gb102, 1, none⟩ = some (.int .u64 ((rd_T34 l0 x8_1).f1)) := (blk_cell BK102.out 1).trans rfl
               have hfz17_0 := blk_frozen BK102.out 0
               have hfz17_1 := blk_frozen BK102.out 1
               go_wp2_with (first | ((with_reducible refine gate_callee (f := 18) rfl ?_); refine goesL_ (some 28) rfl rfl Try.func18 (by kernel_rfl) rfl #[.int .u64 x3_1, .int .u64 ((rd_T34 l0 x8_1).f1)] rfl (by (try simp only [List.map_toArray, List.map_cons, List.map_nil]); first | done | rfl | (simp only [List.length_drop, List.length_take]; rfl)) ?_; (with_reducible refine (signalboxref32_Lcm.calls kj4 x3_1 ((rd_T34 l0 x8_1).f1) t103 _ A14.out).mono ?_); rintro e w' ⟨rfl, ⟨nd, rfl⟩⟩; refine ⟨_, rfl, ?_⟩))
               go_roundg kj4
               case measure => have := HK1.out; have := HJ4.out; omega
               case rel => exact ⟨(t103), (wrap64 (x8_1 + 1)), (by first | rfl | (simp; done) | (simp [*]; done)), (by first | rfl | (simp; done) | (simp [*]; done)), H', ⟨by have := HK1.out; have := HJ4.out; omega⟩, ⟨by repeat (first | (with_reducible first | exact HB.out | apply below_alloc | apply pw_below_drewN | apply below_drew1 | refine below_set ?_ GE102.out) | exact HB.out)⟩⟩
       · rw [if_neg c4] at H
         exact absurd H (by simp)
     · rw [if_neg c3] at H
       exact absurd H (by simp)
   · rw [if_neg c2] at H
     have c2b0 : decide (x8_1 < (l0.length : Int)) = false := decide_eq_false c2
     clear c2
     by_cases c18 : (l0.length : Int) = 0
     · rw [if_pos c18] at H
       have c18b0 : ((l0.length : Int) == 0) = true := beq_iff_eq.mpr c18
       have c18b1 : ((l0.length : Int) != 0) = false := bne_eq_false_iff_eq.mpr c18
       clear c18
       obtain rfl := Option.some.inj H
       go_wp2
       go_ret
       exact ⟨by first | rfl | (simp [errW_none, errW_some] <;> rfl) | (simp [*, errW_none, errW_some] <;> rfl), by repeat (first | (with_reducible first | exact HB.out | apply below_alloc | apply pw_below_drewN | apply below_drew1) | exact HB.out)⟩
     · rw [if_neg c18] at H
       have c18b0 : ((l0.length : Int) == 0) = false := beq_eq_false_iff_ne.mpr c18
       have c18b1 : ((l0.length : Int) != 0) = true := bne_iff_ne.mpr c18
       have c18b2 : ¬ (l0 = []) := fun h_ => c18 (by rw [h_]; rfl)
       obtain rfl := Option.some.inj H
       go_wp2
       go_ret
       exact ⟨by first | rfl | (simp [errW_none, errW_some] <;> rfl) | (simp [*, errW_none, errW_some] <;> rfl), by repeat (first | (with_reducible first | exact HB.out | apply below_alloc | apply pw_below_drewN | apply below_drew1) | exact HB.out)⟩
end Go.Proofs.Ytindegbbcdloiaa.P
end
