/- A part (H) of the proof that the law CyclicSizes returns true for every input: functions in plain Lean, that the program's calls come to them, and what they answer. -/
import Derived.Test.YtindegbbcdloiaaZCyclicSizesG
import Derived.RowKit
import Derived.Laws.MathBits
import Derived.KernelRfl
import Derived.Deep.Slices
import Derived.SizedLaws
import Derived.ChangeSlices
section
namespace Go.Proofs.Ytindegbbcdloiaa.P
open Go.RowKit Go.Proofs.YtindegbbcdloiaaW.PrintWords Go.Proofs.YtindegbbcdloiaaW.PrintLast Go.Proofs.YtindegbbcdloiaaW.PrintMore
set_option linter.unusedVariables false
set_option linter.unusedSimpArgs false
/-! ### signalboxlaw43_suits: function 8 -/
mutual
noncomputable def signalboxlaw43_suits.j0 : Nat → List (S34) → Int → Bool → Option (Bool)
 | 0, _, _, _ => none
 | k + 1, x0, x1, x26 => if x26 = true then (some false) else (signalboxlaw43_suits.l0 k x1 x0 (x0.length : Int) 0)
noncomputable def signalboxlaw43_suits.l0 : Nat → Int → List (S34) → Int → Int → Option (Bool)
 | 0, _, _, _, _ => none
 | k + 1, x1, x27, x28, x29 => if x29 < x28 then (if 0 ≤ x29 then (if x29 < (x27.length : Int) then (if ((rd_T34 x27 x29).f0) > x1 then (some false) else ((signalboxref32_Gcd.f k x1 ((rd_T34 x27 x29).f1)).bind fun t104 => (if (IntKind.u64.wrap (2 * x1)) > (IntKind.u64.wrap (((rd_T34 x27 x29).f1) + t104)) then (some false) else (signalboxlaw43_suits.l0 k x1 x27 x28 (wrap64 (x29 + 1)))))) else (none)) else (none)) else (some true)
end
noncomputable def signalboxlaw43_suits.f (k : Nat) (l0 : List (S34)) (a1 : Int) : Option (Bool) := (signalboxlaw43_whole.f k l0).bind fun t101 => (if t101 = 0 then (signalboxlaw43_suits.j0 k l0 a1 true) else (if a1 = 0 then (signalboxlaw43_suits.j0 k l0 a1 true) else (if a1 > t101 then (signalboxlaw43_suits.j0 k l0 a1 true) else (signalboxlaw43_suits.j0 k l0 a1 ((Int.tmod t101 a1) != 0)))))
set_option maxHeartbeats 8000000 in
set_option maxRecDepth 100000 in
theorem signalboxlaw43_suits.calls (k : Nat) (A0 : Option Addr) (c0 : Nat) (l0 : List (S34)) (a1 : Int) (r : Bool) (w : World) (hr0 : Kd.C k34 w A0 l0.length l0) (hc0 : l0.length ≤ c0) (h : signalboxlaw43_suits.f k l0 a1 = some r) :
 Calls Try.prog 8 #[.slice A0 l0.length c0, .int .u64 a1] w fun e w' => e = .returned (.bool r) ∧ Below w.heap.size w w' := by
 have hu34 := Try.underlying34
 have HR0 := Aside0.mk hr0
 have HC0 := Aside0.mk hc0
 clear hr0 hc0
 have HB := Aside0.mk (Below.refl w.heap.size w)
 have H : ((signalboxlaw43_whole.f k l0).bind fun t101 => (if t101 = 0 then (signalboxlaw43_suits.j0 k l0 a1 true) else (if a1 = 0 then (signalboxlaw43_suits.j0 k l0 a1 true) else (if a1 > t101 then (signalboxlaw43_suits.j0 k l0 a1 true) else (signalboxlaw43_suits.j0 k l0 a1 ((Int.tmod t101 a1) != 0)))))) = some r := h
 clear h
 replace H := Option.bind_eq_some_iff.mp H
 obtain ⟨t101, A30, H⟩ := H
 replace H : (if t101 = 0 then (signalboxlaw43_suits.j0 k l0 a1 true) else (if a1 = 0 then (signalboxlaw43_suits.j0 k l0 a1 true) else (if a1 > t101 then (signalboxlaw43_suits.j0 k l0 a1 true) else (signalboxlaw43_suits.j0 k l0 a1 ((Int.tmod t101 a1) != 0))))) = some r := H
 have A3 := Aside0.mk A30
 clear A30
 have HC4 := Aside0.mk H
 clear H
 go_enter Try.func8, Try.ntmps8
 go_upto_region 2 with (first | (go_at_call 10; (with_reducible refine (signalboxlaw43_whole.calls k _ _ l0 t101 _ ?side1 ?side2 A3.out).mono ?_); (case side1 => repeat (first | exact HR0.out | (with_reducible refine Kd.C_alloc ?_ _) | (with_reducible refine Kd.C_drewN ?_ _) | (with_reducible refine Kd.C_drew ?_))); (case side2 => exact HC0.out); rintro e w5 ⟨rfl, hb⟩; have n0_ := Aside0.mk (below_step (by repeat (first | (with_reducible first | exact HB.out | apply below_alloc | apply pw_below_drewN | apply below_drew1) | exact HB.out)) hb); clear HB; have HB := n0_; clear n0_; (try clear hb); (try clear hb2); (try clear hk); (try clear hi)))
 repeat (go_quiet (first | (go_at_call 10; (with_reducible refine (signalboxlaw43_whole.calls k _ _ l0 t101 _ ?side1 ?side2 A3.out).mono ?_); (case side1 => repeat (first | exact HR0.out | (with_reducible refine Kd.C_alloc ?_ _) | (with_reducible refine Kd.C_drewN ?_ _) | (with_reducible refine Kd.C_drew ?_))); (case side2 => exact HC0.out); rintro e w5 ⟨rfl, hb⟩; have n0_ := Aside0.mk (below_step (by repeat (first | (with_reducible first | exact HB.out | apply below_alloc | apply pw_below_drewN | apply below_drew1) | exact HB.out)) hb); clear HB; have HB := n0_; clear n0_; (try clear hb); (try clear hb2); (try clear hk); (try clear hi))); go_upto_region 2 with (first | (go_at_call 10; (with_reducible refine (signalboxlaw43_whole.calls k _ _ l0 t101 _ ?side1 ?side2 A3.out).mono ?_); (case side1 => repeat (first | exact HR0.out | (with_reducible refine Kd.C_alloc ?_ _) | (with_reducible refine Kd.C_drewN ?_ _) | (with_reducible refine Kd.C_drew ?_))); (case side2 => exact HC0.out); rintro e w5 ⟨rfl, hb⟩; have n0_ := Aside0.mk (below_step (by repeat (first | (with_reducible first | exact HB.out | apply below_alloc | apply pw_below_drewN | apply below_drew1) | exact HB.out)) hb); clear HB; have HB := n0_; clear n0_; (try clear hb); (try clear hb2); (try clear hk); (try clear hi))))
 (try simp only [Act.put, List.setIfInBounds_toArray, List.set_cons_zero, List.set_cons_succ])
 go_cut [26] (fun v26 wc => ∃ (kq : Nat) (x26_3 : Bool), v26 = .bool x26_3 ∧ Aside0 (signalboxlaw43_suits.j0 kq l0 a1 x26_3 = some r) ∧ Aside0 (kq ≤ k) ∧ Aside0 (Below w.heap.size w wc))
 case first =>
  have H := HC4.out
  clear HC4
  by_cases c6 : t101 = 0
  · rw [if_pos c6] at H
    have c6b0 : (t101 == 0) = true := beq_iff_eq.mpr c6
    have c6b1 : (t101 != 0) = false := bne_eq_false_iff_eq.mpr c6
    clear c6
    (first | rw [c6b0] | (simp only [i64_w, i32_w]; rw [c6b0]) | skip)
    have H' := Aside0.mk H
    clear H
    go_wp2
    repeat (go_quiet (fail); try go_wp2)
    go_meet
    case rel => exact ⟨_, (true), (by first | rfl | (simp; done) | (simp [*]; done)), H', ⟨by first | omega | exact Nat.le_refl _⟩, ⟨by repeat (first | (with_reducible first | exact HB.out | apply below_alloc | apply pw_below_drewN | apply below_drew1) | exact HB.out)⟩⟩
  · rw [if_neg c6] at H
    have c6b0 : (t101 == 0) = false := beq_eq_false_iff_ne.mpr c6
    have c6b1 : (t101 != 0) = true := bne_iff_ne.mpr c6
    (first | rw [c6b0] | (simp only [i64_w, i32_w]; rw [c6b0]) | skip)
    by_cases c7 : a1 = 0
    · rw [if_pos c7] at H
      have c7b0 : (a1 == 0) = true := beq_iff_eq.mpr c7
      have c7b1 : (a1 != 0) = false := bne_eq_false_iff_eq.mpr c7
      clear c7
      have H' := Aside0.mk H
      clear H
      go_wp2
      repeat (go_quiet (fail); try go_wp2)
      go_meet
      case rel => exact ⟨_, (true), (by first | rfl | (simp; done) | (simp [*]; done)), H', ⟨by first | omega | exact Nat.le_refl _⟩, ⟨by repeat (first | (with_reducible first | exact HB.out | apply below_alloc | apply pw_below_drewN | apply below_drew1) | exact HB.out)⟩⟩
    · rw [if_neg c7] at H
      have c7b0 : (a1 == 0) = false := beq_eq_false_iff_ne.mpr c7
      have c7b1 : (a1 != 0) = true := bne_iff_ne.mpr c7
      by_cases c8 : a1 > t101
      · rw [if_pos c8] at H
        have c8b0 : decide (t101 < a1) = true := decide_eq_true c8
        clear c8
        have H' := Aside0.mk H
        clear H
        go_wp2
        repeat (go_quiet (fail); try go_wp2)
        go_meet
        case rel => exact ⟨_, (true), (by first | rfl | (simp; done) | (simp [*]; done)), H', ⟨by first | omega | exact Nat.le_refl _⟩, ⟨by repeat (first | (with_reducible first | exact HB.out | apply below_alloc | apply pw_below_drewN | apply below_drew1) | exact HB.out)⟩⟩
      · rw [if_neg c8] at H
        have c8b0 : decide (t101 < a1) = false := decide_eq_false c8
        clear c8
        have H' := Aside0.mk H
        clear H
        go_wp2
        repeat (go_quiet (fail); try go_wp2)
        go_meet
        case rel => exact ⟨_, (((Int.tmod t101 a1) != 0)), (by first | rfl | (simp; done) | (simp [*]; done)), H', ⟨by first | omega | exact Nat.le_refl _⟩, ⟨by repeat (first | (with_reducible first | exact HB.out | apply below_alloc | apply pw_below_drewN | apply below_drew1) | exact HB.out)⟩⟩
 case rest =>
  clear HC4
  try clear p2
  try clear c6
  try clear c6b0
  try clear c6b1
  try clear c7
  try clear c7b0
  try clear c7b1
  try clear c8
  try clear c8b0
  obtain ⟨kq, x26_3, rfl, HA, HJ3, HB⟩ := hcut
  cases kq with
  | zero => exact absurd HA.out (by simp [signalboxlaw43_suits.j0])
  | succ kj3 =>
   have H := HA.out
   clear HA
   simp only [signalboxlaw43_suits.j0] at H
   by_cases c9 : x26_3 = true
   · subst c9
     have H1 : (some false) = some r := by rw [if_pos rfl] at H; exact H
     clear H
     have H := H1
     clear H1
     obtain rfl := Option.some.inj H
     go_wp2
     repeat (go_quiet (fail); try go_wp2)
     go_ret
     exact ⟨by first | rfl | (simp [errW_none, errW_some] <;> rfl) | (simp [*, errW_none, errW_some] <;> rfl), by repeat (first | (with_reducible first | exact HB.out | apply below_alloc | apply pw_below_drewN | apply below_drew1) | exact HB.out)⟩
   · replace c9 := Bool.eq_false_iff.mpr c9
     subst c9
     have H1 : (signalboxlaw43_suits.l0 kj3 a1 l0 (l0.length : Int) 0) = some r := by rw [if_neg (show ¬ (false = true) by decide)] at H; exact H
     clear H
     have H := H1
     clear H1
     have H' := Aside0.mk H
     clear H
     go_wp2
     repeat (go_quiet (fail); try go_wp2)
     go_loopg [29] kj3 (fun kq v29 w' => ∃ (x29_2 : Int), v29 = .int .i64 x29_2 ∧ Aside0 (signalboxlaw43_suits.l0 kq a1 l0 (l0.length : Int) x29_2 = some r) ∧ Aside0 (kq ≤ kj3) ∧ Aside0 (Below w.heap.size w w'))
     case atStart => exact ⟨(0), (by first | rfl | (simp; done) | (simp [*]; done)), H', ⟨Nat.le_refl _⟩, ⟨by repeat (first | (with_reducible first | exact HB.out | apply below_alloc | apply pw_below_drewN | apply below_drew1) | exact HB.out)⟩⟩
     case round =>
      clear H'
      try clear p2
      try clear c6
      try clear c6b0
      try clear c6b1
      try clear c7
      try clear c7b0
      try clear c7b1
      try clear c8
      try clear c8b0
      try clear c9
      try clear p2
      obtain ⟨x29_2, rfl, HA, HK2, HB⟩ := hrel
      cases gk with
      | zero => exact absurd HA.out (by simp [signalboxlaw43_suits.l0])
      | succ k2 =>
       have H := HA.out
       clear HA
       simp only [signalboxlaw43_suits.l0] at H
       by_cases c10 : x29_2 < (l0.length : Int)
       · rw [if_pos c10] at H
         have c10b0 : decide (x29_2 < (l0.length : Int)) = true := decide_eq_true c10
         clear c10
         by_cases c11 : 0 ≤ x29_2
         · rw [if_pos c11] at H
           have c11b0 : decide (0 ≤ x29_2) = true := decide_eq_true c11
           clear c11
           by_cases c12 : x29_2 < (l0.length : Int)
           · rw [if_pos c12] at H
             have c12b0 : decide (x29_2 < (l0.length : Int)) = true := decide_eq_true c12
             clear c12
             by_cases c13 : ((rd_T34 l0 x29_2).f0) > a1
             · rw [if_pos c13] at H
               have c13b0 : decide (a1 < ((rd_T34 l0 x29_2).f0)) = true := decide_eq_true c13
               clear c13
               obtain rfl := Option.some.inj H
               have p102 : 0 ≤ (x29_2 : Int) := of_decide_eq_true (by first | (with_reducible assumption) | assumption)
               have q102 : x29_2 < (l0.length : Int) := of_decide_eq_true (by first | (with_reducible assumption) | assumption)
               obtain ⟨ad102, e102, hx102_0, hx102_1⟩ := at_T34 HR0.out x29_2 p102 q102
               cases e102
               replace hx102_0 := (HB.out.cell (World.block_lt_of_cell? w _ hx102_0)).trans hx102_0
               replace hx102_1 := (HB.out.cell (World.block_lt_of_cell? w _ hx102_1)).trans hx102_1
               replace p102 := eq_true p102
               replace q102 := eq_true q102
               go_wp2_with (first | ((with_reducible refine gate_dst (N := 7) rfl ?_); refine box_event ?hg (N := 7) ?hd (cs := #[.int .u64 0, .int .u64 0]) (t := 34) ?hr ?_; (case hd => rfl); (case hg => rfl); (case hr => first | (go_simp; done) | (go_simp; rfl)); intro gb103 hg w14 hbox hb; have n0_ := Aside0.mk (below_step (by repeat (first | (with_reducible first | exact HB.out | apply below_alloc | apply pw_below_drewN | apply below_drew1) | exact HB.out)) hb); have n1_ := Aside0.mk (hbox); have n2_ := Aside0.mk ((by rw [hg]; exact (below_size (by repeat (first | (with_reducible first | exact HB.out | apply below_alloc | apply pw_below_drewN | apply below_drew1) | exact HB.out))) : w.heap.size ≤ gb103)); have n3_ := Aside0.mk ((by rw [hg]; exact (below_size (by repeat (first | (with_reducible first | exact HB.out | apply below_alloc | apply pw_below_drewN | apply below_drew1) | exact HB.out))) : w.heap.size ≤ gb103)); clear HB; have HB := n0_; have BK103 := n1_; have GW103 := n2_; have GE103 := n3_; clear n0_ n1_ n2_ n3_; clear hb hbox hg; have hcz15_0 : w14.cell? ⟨gb103, 0, none⟩ = some (.int .u64 0) := (blk_cell BK103.out 0).trans rfl; have hcz15_1 : w14.cell? ⟨gb103, 1, none⟩ = some (.int .u64 0) := (blk_cell BK103.out 1).trans rfl; have hfz15_0 := blk_frozen BK103.out 0; have hfz15_1 := blk_frozen BK103.out 1))
               repeat (go_quiet (first | ((with_reducible refine gate_dst (N := 7) rfl ?_); refine box_event ?hg (N := 7) ?hd (cs := #[.int .u64 0, .int .u64 0]) (t := 34) ?hr ?_; (case hd => rfl); (case hg => rfl); (case hr => first | (go_simp; done) | (go_simp; rfl)); intro gb103 hg w14 hbox hb; have n0_ := Aside0.mk (below_step (by repeat (first | (with_reducible first | exact HB.out | apply below_alloc | apply pw_below_drewN | apply below_drew1) | exact HB.out)) hb); have n1_ := Aside0.mk (hbox); have n2_ := Aside0.mk ((by rw [hg]; exact (below_size (by repeat (first | (with_reducible first | exact HB.out | apply below_alloc | apply pw_below_drewN | apply below_drew1) | exact HB.out))) : w.heap.size ≤ gb103)); have n3_ := Aside0.mk ((by rw [hg]; exact (below_size (by repeat (first | (with_reducible first | exact HB.out | apply below_alloc | apply pw_below_drewN | apply below_drew1) | exact HB.out))) : w.heap.size ≤ gb103)); clear HB; have HB := n0_; have BK103 := n1_; have GW103 := n2_; have GE103 := n3_; clear n0_ n1_ n2_ n3_; clear hb hbox hg; have hcz15_0 : w14.cell? ⟨gb103, 0, none⟩ = some (.int .u64 0) := (blk_cell BK103.out 0).trans rfl; have hcz15_1 : w14.cell? ⟨gb103, 1, none⟩ = some (.int .u64 0) := (blk_cell BK103.out 1).trans rfl; have hfz15_0 := blk_frozen BK103.out 0; have hfz15_1 := blk_frozen BK103.out 1)); try go_wp2_with (first | ((with_reducible refine gate_dst (N := 7) rfl ?_); refine box_event ?hg (N := 7) ?hd (cs := #[.int .u64 0, .int .u64 0]) (t := 34) ?hr ?_; (case hd => rfl); (case hg => rfl); (case hr => first | (go_simp; done) | (go_simp; rfl)); intro gb103 hg w14 hbox hb; have n0_ := Aside0.mk (below_step (by repeat (first | (with_reducible first | exact HB.out | apply below_alloc | apply pw_below_drewN | apply below_drew1) | exact HB.out)) hb); have n1_ := Aside0.mk (hbox); have n2_ := Aside0.mk ((by rw [hg]; exact (below_size (by repeat (first | (with_reducible first | exact HB.out | apply below_alloc | apply pw_below_drewN | apply below_drew1) | exact HB.out))) : w.heap.size ≤ gb103)); have n3_ := Aside0.mk ((by rw [hg]; exact (below_size (by repeat (first | (with_reducible first | exact HB.out | apply below_alloc | apply pw_below_drewN | apply below_drew1) | exact HB.out))) : w.heap.size ≤ gb103)); clear HB; have HB := n0_; have BK103 := n1_; have GW103 := n2_; have GE103 := n3_; clear n0_ n1_ n2_ n3_; clear hb hbox hg; have hcz15_0 : w14.cell? ⟨gb103, 0, none⟩ = some (.int .u64 0) := (blk_cell BK103.out 0).trans rfl; have hcz15_1 : w14.cell? ⟨gb103, 1, none⟩ = some (.int .u64 0) := (blk_cell BK103.out 1).trans rfl; have hfz15_0 := blk_frozen BK103.out 0; have hfz15_1 := blk_frozen BK103.out 1)))
               go_ret
               exact ⟨by first | rfl | (simp [errW_none, errW_some] <;> rfl) | (simp [*, errW_none, errW_some] <;> rfl), by repeat (first | (with_reducible first | exact HB.out | apply below_alloc | apply pw_below_drewN | apply below_drew1 | refine below_set ?_ GE103.out) | exact HB.out)⟩
             · rw [if_neg c13] at H
               have c13b0 : decide (a1 < ((rd_T34 l0 x29_2).f0)) = false := decide_eq_false c13
               clear c13
               replace H := Option.bind_eq_some_iff.mp H
               obtain ⟨t104, A160, H⟩ := H
               replace H : (if (IntKind.u64.wrap (2 * a1)) > (IntKind.u64.wrap (((rd_T34 l0 x29_2).f1) + t104)) then (some false) else (signalboxlaw43_suits.l0 k2 a1 l0 (l0.length : Int) (wrap64 (x29_2 + 1)))) = some r := H
               have A16 := Aside0.mk A160
               clear A160
               by_cases c17 : (IntKind.u64.wrap (2 * a1)) > (IntKind.u64.wrap (((rd_T34 l0 x29_2).f1) + t104))
               · rw [if_pos c17] at H
                 have c17b0 : decide ((IntKind.u64.wrap (((rd_T34 l0 x29_2).f1) + t104)) < (IntKind.u64.wrap (2 * a1))) = true := decide_eq_true c17
                 clear c17
                 obtain rfl := Option.some.inj H
                 have p102 : 0 ≤ (x29_2 : Int) := of_decide_eq_true (by first | (with_reducible assumption) | assumption)
                 have q102 : x29_2 < (l0.length : Int) := of_decide_eq_true (by first | (with_reducible assumption) | assumption)
                 obtain ⟨ad102, e102, hx102_0, hx102_1⟩ := at_T34 HR0.out x29_2 p102 q102
                 cases e102
                 replace hx102_0 := (HB.out.cell (World.block_lt_of_cell? w _ hx102_0)).trans hx102_0
                 replace hx102_1 := (HB.out.cell (World.block_lt_of_cell? w _ hx102_1)).trans hx102_1
                 replace p102 := eq_true p102
                 replace q102 := eq_true q102
                 go_wp2_with (first | ((with_reducible refine gate_dst (N := 7) rfl ?_); refine box_event ?hg (N := 7) ?hd (cs := #[.int .u64 0, .int .u64 0]) (t := 34) ?hr ?_; (case hd => rfl); (case hg => rfl); (case hr => first | (go_simp; done) | (go_simp; rfl)); intro gb103 hg w18 hbox hb; have n0_ := Aside0.mk (below_step (by repeat (first | (with_reducible first | exact HB.out | apply below_alloc | apply pw_below_drewN | apply below_drew1) | exact HB.out)) hb); have n1_ := Aside0.mk (hbox); have n2_ := Aside0.mk ((by rw [hg]; exact (below_size (by repeat (first | (with_reducible first | exact HB.out | apply below_alloc | apply pw_below_drewN | apply below_drew1) | exact HB.out))) : w.heap.size ≤ gb103)); have n3_ := Aside0.mk ((by rw [hg]; exact (below_size (by repeat (first | (with_reducible first | exact HB.out | apply below_alloc | apply pw_below_drewN | apply below_drew1) | exact HB.out))) : w.heap.size ≤ gb103)); clear HB; have HB := n0_; have BK103 := n1_; have GW103 := n2_; have GE103 := n3_; clear n0_ n1_ n2_ n3_; clear hb hbox hg; have hcz19_0 : w18.cell? ⟨gb103, 0, none⟩ = some (.int .u64 0) := (blk_cell BK103.out 0).trans rfl; have hcz19_1 : w18.cell? ⟨gb103, 1, none⟩ = some (.int .u64 0) := (blk_cell BK103.out 1).trans rfl; have hfz19_0 := blk_frozen BK103.out 0; have hfz19_1 := blk_frozen BK103.out 1) | (go_at_call 17; (with_reducible refine (signalboxref32_Gcd.calls k2 a1 ((rd_T34 l0 x29_2).f1) t104 _ A16.out).mono ?_); rintro e w' ⟨rfl, ⟨nd, rfl⟩⟩; (try first | exact ⟨rfl, _, World.drewN_drewN _ _ _⟩ | exact ⟨rfl, _, Eq.trans (World.drewN_drewN _ _ _) (congrArg (World.drewN _) (Nat.add_assoc _ _ _))⟩)))
                 repeat (go_quiet (first | ((with_reducible refine gate_dst (N := 7) rfl ?_); refine box_event ?hg (N := 7) ?hd (cs := #[.int .u64 0, .int .u64 0]) (t := 34) ?hr ?_; (case hd => rfl); (case hg => rfl); (case hr => first | (go_simp; done) | (go_simp; rfl)); intro gb103 hg w18 hbox hb; have n0_ := Aside0.mk (below_step (by repeat (first | (with_reducible first | exact HB.out | apply below_alloc | apply pw_below_drewN | apply below_drew1) | exact HB.out)) hb); have n1_ := Aside0.mk (hbox); have n2_ := Aside0.mk ((by rw [hg]; exact (below_size (by repeat (first | (with_reducible first | exact HB.out | apply below_alloc | apply pw_below_drewN | apply below_drew1) | exact HB.out))) : w.heap.size ≤ gb103)); have n3_ := Aside0.mk ((by rw [hg]; exact (below_size (by repeat (first | (with_reducible first | exact HB.out | apply below_alloc | apply pw_below_drewN | apply below_drew1) | exact HB.out))) : w.heap.size ≤ gb103)); clear HB; have HB := n0_; have BK103 := n1_; have GW103 := n2_; have GE103 := n3_; clear n0_ n1_ n2_ n3_; clear hb hbox hg; have hcz19_0 : w18.cell? ⟨gb103, 0, none⟩ = some (.int .u64 0) := (blk_cell BK103.out 0).trans rfl; have hcz19_1 : w18.cell? ⟨gb103, 1, none⟩ = some (.int .u64 0) := (blk_cell BK103.out 1).trans rfl; have hfz19_0 := blk_frozen BK103.out 0; have hfz19_1 := blk_frozen BK103.out 1) | (go_at_call 17; (with_reducible refine (signalboxref32_Gcd.calls k2 a1 ((rd_T34 l0 x29_2).f1) t104 _ A16.out).mono ?_); rintro e w' ⟨rfl, ⟨nd, rfl⟩⟩; (try first | exact ⟨rfl, _, World.drewN_drewN _ _ _⟩ | exact ⟨rfl, _, Eq.trans (World.drewN_drewN _ _ _) (congrArg (World.drewN _) (Nat.add_assoc _ _ _))⟩))); try go_wp2_with (first | ((with_reducible refine gate_dst (N := 7) rfl ?_); refine box_event ?hg (N := 7) ?hd (cs := #[.int .u64 0, .int .u64 0]) (t := 34) ?hr ?_; (case hd => rfl); (case hg => rfl); (case hr => first | (go_simp; done) | (go_simp; rfl)); intro gb103 hg w18 hbox hb; have n0_ := Aside0.mk (below_step (by repeat (first | (with_reducible first | exact HB.out | apply below_alloc | apply pw_below_drewN | apply below_drew1) | exact HB.out)) hb); have n1_ := Aside0.mk (hbox); have n2_ := Aside0.mk ((by rw [hg]; exact (below_size (by repeat (first | (with_reducible first | exact HB.out | apply below_alloc | apply pw_below_drewN | apply below_drew1) | exact HB.out))) : w.heap.size ≤ gb103)); have n3_ := Aside0.mk ((by rw [hg]; exact (below_size (by repeat (first | (with_reducible first | exact HB.out | apply below_alloc | apply pw_below_drewN | apply below_drew1) | exact HB.out))) : w.heap.size ≤ gb103)); clear HB; have HB := n0_; have BK103 := n1_; have GW103 := n2_; have GE103 := n3_; clear n0_ n1_ n2_ n3_; clear hb hbox hg; have hcz19_0 : w18.cell? ⟨gb103, 0, none⟩ = some (.int .u64 0) := (blk_cell BK103.out 0).trans rfl; have hcz19_1 : w18.cell? ⟨gb103, 1, none⟩ = some (.int .u64 0) := (blk_cell BK103.out 1).trans rfl; have hfz19_0 := blk_frozen BK103.out 0; have hfz19_1 := blk_frozen BK103.out 1) | (go_at_call 17; (with_reducible refine (signalboxref32_Gcd.calls k2 a1 ((rd_T34 l0 x29_2).f1) t104 _ A16.out).mono ?_); rintro e w' ⟨rfl, ⟨nd, rfl⟩⟩; (try first | exact ⟨rfl, _, World.drewN_drewN _ _ _⟩ | exact ⟨rfl, _, Eq.trans (World.drewN_drewN _ _ _) (congrArg (World.drewN _) (Nat.add_assoc _ _ _))⟩))))
                 go_ret
                 exact ⟨by first | rfl | (simp [errW_none, errW_some] <;> rfl) | (simp [*, errW_none, errW_some] <;> rfl), by repeat (first | (with_reducible first | exact HB.out | apply below_alloc | apply pw_below_drewN | apply below_drew1 | refine below_set ?_ GE103.out) | exact HB.out)⟩
               · rw [if_neg c17] at H
                 have c17b0 : decide ((IntKind.u64.wrap (((rd_T34 l0 x29_2).f1) + t104)) < (IntKind.u64.wrap (2 * a1))) = false := decide_eq_false c17
                 clear c17
                 have H' := Aside0.mk H
                 clear H
                 have p102 : 0 ≤ (x29_2 : Int) := of_decide_eq_true (by first | (with_reducible assumption) | assumption)
                 have q102 : x29_2 < (l0.length : Int) := of_decide_eq_true (by first | (with_reducible assumption) | assumption)
                 obtain ⟨ad102, e102, hx102_0, hx102_1⟩ := at_T34 HR0.out x29_2 p102 q102
                 cases e102
                 replace hx102_0 := (HB.out.cell (World.block_lt_of_cell? w _ hx102_0)).trans hx102_0
                 replace hx102_1 := (HB.out.cell (World.block_lt_of_cell? w _ hx102_1)).trans hx102_1
                 replace p102 := eq_true p102
                 replace q102 := eq_true q102
                 go_wp2_with (first | ((with_reducible refine gate_dst (N := 7) rfl ?_); refine box_event ?hg (N := 7) ?hd (cs := #[.int .u64 0, .int .u64 0]) (t := 34) ?hr ?_; (case hd => rfl); (case hg => rfl); (case hr => first | (go_simp; done) | (go_simp; rfl)); intro gb103 hg w20 hbox hb; have n0_ := Aside0.mk (below_step (by repeat (first | (with_reducible first | exact HB.out | apply below_alloc | apply pw_below_drewN | apply below_drew1) | exact HB.out)) hb); have n1_ := Aside0.mk (hbox); have n2_ := Aside0.mk ((by rw [hg]; exact (below_size (by repeat (first | (with_reducible first | exact HB.out | apply below_alloc | apply pw_below_drewN | apply below_drew1) | exact HB.out))) : w.heap.size ≤ gb103)); have n3_ := Aside0.mk ((by rw [hg]; exact (below_size (by repeat (first | (with_reducible first | exact HB.out | apply below_alloc | apply pw_below_drewN | apply below_drew1) | exact HB.out))) : w.heap.size ≤ gb103)); clear HB; have HB := n0_; have BK103 := n1_; have GW103 := n2_; have GE103 := n3_; clear n0_ n1_ n2_ n3_; clear hb hbox hg; have hcz21_0 : w20.cell? ⟨gb103, 0, none⟩ = some (.int .u64 0) := (blk_cell BK103.out 0).trans rfl; have hcz21_1 : w20.cell? ⟨gb103, 1, none⟩ = some (.int .u64 0) := (blk_cell BK103.out 1).trans rfl; have hfz21_0 := blk_frozen BK103.out 0; have hfz21_1 := blk_frozen BK103.out 1) | (go_at_call 17; (with_reducible refine (signalboxref32_Gcd.calls k2 a1 ((rd_T34 l0 x29_2).f1) t104 _ A16.out).mono ?_); rintro e w' ⟨rfl, ⟨nd, rfl⟩⟩; (try first | exact ⟨rfl, _, World.drewN_drewN _ _ _⟩ | exact ⟨rfl, _, Eq.trans (World.drewN_drewN _ _ _) (congrArg (World.drewN _) (Nat.add_assoc _ _ _))⟩)))
                 repeat (go_quiet (first | ((with_reducible refine gate_dst (N := 7) rfl ?_); refine box_event ?hg (N := 7) ?hd (cs := #[.int .u64 0, .int .u64 0]) (t := 34) ?hr ?_; (case hd => rfl); (case hg => rfl); (case hr => first | (go_simp; done) | (go_simp; rfl)); intro gb103 hg w20 hbox hb; have n0_ := Aside0.mk (below_step (by repeat (first | (with_reducible first | exact HB.out | apply below_alloc | apply pw_below_drewN | apply below_drew1) | exact HB.out)) hb); have n1_ := Aside0.mk (hbox); have n2_ := Aside0.mk ((by rw [hg]; exact (below_size (by repeat (first | (with_reducible first | exact HB.out | apply below_alloc | apply pw_below_drewN | apply below_drew1) | exact HB.out))) : w.heap.size ≤ gb103)); have n3_ := Aside0.mk ((by rw [hg]; exact (below_size (by repeat (first | (with_reducible first | exact HB.out | apply below_alloc | apply pw_below_drewN | apply below_drew1) | exact HB.out))) : w.heap.size ≤ gb103)); clear HB; have HB := n0_; have BK103 := n1_; have GW103 := n2_; have GE103 := n3_; clear n0_ n1_ n2_ n3_; clear hb hbox hg; have hcz21_0 : w20.cell? ⟨gb103, 0, none⟩ = some (.int .u64 0) := (blk_cell BK103.out 0).trans rfl; have hcz21_1 : w20.cell? ⟨gb103, 1, none⟩ = some (.int .u64 0) := (blk_cell BK103.out 1).trans rfl; have hfz21_0 := blk_frozen BK103.out 0; have hfz21_1 := blk_frozen BK103.out 1) | (go_at_call 17; (with_reducible refine (signalboxref32_Gcd.calls k2 a1 ((rd_T34 l0 x29_2).f1) t104 _ A16.out).mono ?_); rintro e w' ⟨rfl, ⟨nd, rfl⟩⟩; (try first | exact ⟨rfl, _, World.drewN_drewN _ _ _⟩ | exact ⟨rfl, _, Eq.trans (World.drewN_drewN _ _ _) (congrArg (World.drewN _) (Nat.add_assoc _ _ _))⟩))); try go_wp2_with (first | ((with_reducible refine gate_dst (N := 7) rfl ?_); refine box_event ?hg (N := 7) ?hd (cs := #[.int .u64 0, .int .u64 0]) (t := 34) ?hr ?_; (case hd => rfl); (case hg => rfl); (case hr => first | (go_simp; done) | (go_simp; rfl)); intro gb103 hg w20 hbox hb; have n0_ := Aside0.mk (below_step (by repeat (first | (with_reducible first | exact HB.out | apply below_alloc | apply pw_below_drewN | apply below_drew1) | exact HB.out)) hb); have n1_ := Aside0.mk (hbox); have n2_ := Aside0.mk ((by rw [hg]; exact (below_size (by repeat (first | (with_reducible first | exact HB.out | apply below_alloc | apply pw_below_drewN | apply below_drew1) | exact HB.out))) : w.heap.size ≤ gb103)); have n3_ := Aside0.mk ((by rw [hg]; exact (below_size (by repeat (first | (with_reducible first | exact HB.out | apply below_alloc | apply pw_below_drewN | apply below_drew1) | exact HB.out))) : w.heap.size ≤ gb103)); clear HB; have HB := n0_; have BK103 := n1_; have GW103 := n2_; have GE103 := n3_; clear n0_ n1_ n2_ n3_; clear hb hbox hg; have hcz21_0 : w20.cell? ⟨gb103, 0, none⟩ = some (.int .u64 0) := (blk_cell BK103.out 0).trans rfl; have hcz21_1 : w20.cell? ⟨gb103, 1, none⟩ = some (.int .u64 0) := (blk_cell BK103.out 1).trans rfl; have hfz21_0 := blk_frozen BK103.out 0; have hfz21_1 := blk_frozen BK103.out 1) | (go_at_call 17; (with_reducible refine (signalboxref32_Gcd.calls k2 a1 ((rd_T34 l0 x29_2).f1) t104 _ A16.out).mono ?_); rintro e w' ⟨rfl, ⟨nd, rfl⟩⟩; (try first | exact ⟨rfl, _, World.drewN_drewN _ _ _⟩ | exact ⟨rfl, _, Eq.trans (World.drewN_drewN _ _ _) (congrArg (World.drewN _) (Nat.add_assoc _ _ _))⟩))))
                 go_roundg k2
                 case measure => have := HJ3.out; have := HK2.out; omega
                 case rel => exact ⟨(wrap64 (x29_2 + 1)), (by first | rfl | (simp; done) | (simp [*]; done)), H', ⟨by have := HJ3.out; have := HK2.out; omega⟩, ⟨by repeat (first | (with_reducible first | exact HB.out | apply below_alloc | apply pw_below_drewN | apply below_drew1 | refine below_set ?_ GE103.out) | exact HB.out)⟩⟩
           · rw [if_neg c12] at H
             exact absurd H (by simp)
         · rw [if_neg c11] at H
           exact absurd H (by simp)
       · rw [if_neg c10] at H
         have c10b0 : decide (x29_2 < (l0.length : Int)) = false := decide_eq_false c10
         clear c10
         obtain rfl := Option.some.inj H
         go_wp2
         repeat (go_quiet (fail); try go_wp2)
         go_ret
         exact ⟨by first | rfl | (simp [errW_none, errW_some] <;> rfl) | (simp [*, errW_none, errW_some] <;> rfl), by repeat (first | (with_reducible first | exact HB.out | apply below_alloc | apply pw_below_drewN | apply below_drew1) | exact HB.out)⟩
end Go.Proofs.Ytindegbbcdloiaa.P
end
section
namespace Go.Proofs.Ytindegbbcdloiaa.P
open Go.RowKit Go.Proofs.YtindegbbcdloiaaW.PrintWords Go.Proofs.YtindegbbcdloiaaW.PrintLast Go.Proofs.YtindegbbcdloiaaW.PrintMore
set_option linter.unusedVariables false
set_option linter.unusedSimpArgs false
noncomputable def signalboxlaw43_CyclicSizes.l0 : Nat → List (S34) → List Int → Int → Int → Option (Bool)
 | 0, _, _, _, _ => none
 | k + 1, x0, x5, x6, x7 => (signalboxlaw43_whole.f k x0).bind fun t107 => (if x7 ≤ t107 then ((signalboxlaw43_suits.f k x0 x7).bind fun t108 => (if t108 = true then (if x6 ≥ (x5.length : Int) then (some false) else (if 0 ≤ x6 then (if x6 < (x5.length : Int) then (if (rd x5 x6) = x7 then (signalboxlaw43_CyclicSizes.l0 k x0 x5 (wrap64 (x6 + 1)) (IntKind.u64.wrap (x7 + 1))) else (some false)) else (none)) else (none))) else (signalboxlaw43_CyclicSizes.l0 k x0 x5 x6 (IntKind.u64.wrap (x7 + 1))))) else (some (x6 == (x5.length : Int))))
noncomputable def signalboxlaw43_CyclicSizes.f (k : Nat) (l0 : List (S34)) (a1 : Int) : Option (Bool) := (signalboxlaw43_fixed.f k).bind fun t101 => (if t101 = true then (if (l0.length : Int) > 12 then (some true) else ((cyclic_Suits.f k l0 a1).bind fun t102 => ((signalboxlaw43_suits.f k l0 a1).bind fun t103 => (if (t102 != t103) = true then (some false) else ((cyclic_Sizes.f k l0).bind fun t104 => (signalboxlaw43_CyclicSizes.l0 k l0 t104 0 1)))))) else (some false))
set_option maxHeartbeats 8000000 in
set_option maxRecDepth 100000 in
theorem signalboxlaw43_CyclicSizes.calls (k : Nat) (A0 : Option Addr) (c0 : Nat) (l0 : List (S34)) (a1 : Int) (r : Bool) (w : World) (hr0 : Kd.C k34 w A0 l0.length l0) (hc0 : l0.length ≤ c0) (h : signalboxlaw43_CyclicSizes.f k l0 a1 = some r) :
 Calls Try.prog 3 #[.slice A0 l0.length c0, .int .u64 a1] w fun e w' => e = .returned (.bool r) ∧ Below w.heap.size w w' := by
 have HR0 := Aside0.mk hr0
 have HC0 := Aside0.mk hc0
 clear hr0 hc0
 have HB := Aside0.mk (Below.refl w.heap.size w)
 have H : ((signalboxlaw43_fixed.f k).bind fun t101 => (if t101 = true then (if (l0.length : Int) > 12 then (some true) else ((cyclic_Suits.f k l0 a1).bind fun t102 => ((signalboxlaw43_suits.f k l0 a1).bind fun t103 => (if (t102 != t103) = true then (some false) else ((cyclic_Sizes.f k l0).bind fun t104 => (signalboxlaw43_CyclicSizes.l0 k l0 t104 0 1)))))) else (some false))) = some r := h
 clear h
 replace H := Option.bind_eq_some_iff.mp H
 obtain ⟨t101, A30, H⟩ := H
 replace H : (if t101 = true then (if (l0.length : Int) > 12 then (some true) else ((cyclic_Suits.f k l0 a1).bind fun t102 => ((signalboxlaw43_suits.f k l0 a1).bind fun t103 => (if (t102 != t103) = true then (some false) else ((cyclic_Sizes.f k l0).bind fun t104 => (signalboxlaw43_CyclicSizes.l0 k l0 t104 0 1)))))) else (some false)) = some r := H
 have A3 := Aside0.mk A30
 clear A30
 by_cases c4 : t101 = true
 · subst c4
   have H1 : (if (l0.length : Int) > 12 then (some true) else ((cyclic_Suits.f k l0 a1).bind fun t102 => ((signalboxlaw43_suits.f k l0 a1).bind fun t103 => (if (t102 != t103) = true then (some false) else ((cyclic_Sizes.f k l0).bind fun t104 => (signalboxlaw43_CyclicSizes.l0 k l0 t104 0 1)))))) = some r := by rw [if_pos rfl] at H; exact H
   clear H
   have H := H1
   clear H1
   by_cases c5 : (l0.length : Int) > 12
   · rw [if_pos c5] at H
     have c5b0 : decide (12 < (l0.length : Int)) = true := decide_eq_true c5
     have c5b1 : decide (12 < l0.length) = true := decide_eq_true (by omega)
     clear c5
     obtain rfl := Option.some.inj H
     go_enter Try.func3, Try.ntmps3
     go_wp2_with (first | ((with_reducible refine gate_callee (f := 6) rfl ?_); refine goesL_ (some 8) rfl rfl Try.func6 (by kernel_rfl) rfl #[] rfl (by (try simp only [List.map_toArray, List.map_cons, List.map_nil]); first | done | rfl | (simp only [List.length_drop, List.length_take]; rfl)) ?_; (with_reducible refine (signalboxlaw43_fixed.calls k  true _ A3.out).mono ?_); rintro e w6 ⟨rfl, hb⟩; refine ⟨_, rfl, ?_⟩; have n0_ := Aside0.mk (below_step (by repeat (first | (with_reducible first | exact HB.out | apply below_alloc | apply pw_below_drewN | apply below_drew1) | exact HB.out)) hb); clear HB; have HB := n0_; clear n0_; (try clear hb); (try clear hb2); (try clear hk); (try clear hi)))
     go_ret
     exact ⟨by first | rfl | (simp [errW_none, errW_some] <;> rfl) | (simp [*, errW_none, errW_some] <;> rfl), by repeat (first | (with_reducible first | exact HB.out | apply below_alloc | apply pw_below_drewN | apply below_drew1) | exact HB.out)⟩
   · rw [if_neg c5] at H
     have c5b0 : decide (12 < (l0.length : Int)) = false := decide_eq_false c5
     have c5b1 : decide (12 < l0.length) = false := decide_eq_false (by omega)
     clear c5
     replace H := Option.bind_eq_some_iff.mp H
     obtain ⟨t102, A70, H⟩ := H
     replace H : ((signalboxlaw43_suits.f k l0 a1).bind fun t103 => (if (t102 != t103) = true then (some false) else ((cyclic_Sizes.f k l0).bind fun t104 => (signalboxlaw43_CyclicSizes.l0 k l0 t104 0 1)))) = some r := H
     have A7 := Aside0.mk A70
     clear A70
     replace H := Option.bind_eq_some_iff.mp H
     obtain ⟨t103, A80, H⟩ := H
     replace H : (if (t102 != t103) = true then (some false) else ((cyclic_Sizes.f k l0).bind fun t104 => (signalboxlaw43_CyclicSizes.l0 k l0 t104 0 1))) = some r := H
     have A8 := Aside0.mk A80
     clear A80
     by_cases c9 : (t102 != t103) = true
     · rw [if_pos c9] at H
       have c9b0 : (t102 != t103) = true := c9
       (try (have c9b1 : decide (t102 = t103) = false := by simpa using c9))
       (try (have c9b2 : (t102 == t103) = false := by simpa using c9))
       (try (have c9b3 : ¬ (t102 = t103) := by simpa using c9))
       clear c9
       obtain rfl := Option.some.inj H
       go_enter Try.func3, Try.ntmps3
       go_wp2_with (first | ((with_reducible refine gate_callee (f := 6) rfl ?_); refine goesL_ (some 8) rfl rfl Try.func6 (by kernel_rfl) rfl #[] rfl (by (try simp only [List.map_toArray, List.map_cons, List.map_nil]); first | done | rfl | (simp only [List.length_drop, List.length_take]; rfl)) ?_; (with_reducible refine (signalboxlaw43_fixed.calls k  true _ A3.out).mono ?_); rintro e w10 ⟨rfl, hb⟩; refine ⟨_, rfl, ?_⟩; have n0_ := Aside0.mk (below_step (by repeat (first | (with_reducible first | exact HB.out | apply below_alloc | apply pw_below_drewN | apply below_drew1) | exact HB.out)) hb); clear HB; have HB := n0_; clear n0_; (try clear hb); (try clear hb2); (try clear hk); (try clear hi)) | ((with_reducible refine gate_callee (f := 7) rfl ?_); refine goesL_ (some 15) rfl rfl Try.func7 (by kernel_rfl) rfl #[.slice A0 l0.length c0, .int .u64 a1] rfl (by (try simp only [List.map_toArray, List.map_cons, List.map_nil]); first | done | rfl | (simp only [List.length_drop, List.length_take]; rfl)) ?_; (with_reducible refine (cyclic_Suits.calls k _ _ l0 a1 t102 _ ?side1 ?side2 A7.out).mono ?_); (case side1 => repeat (first | exact (Kd.C_below HR0.out HB.out) | (with_reducible refine Kd.C_alloc ?_ _) | (with_reducible refine Kd.C_drewN ?_ _) | (with_reducible refine Kd.C_drew ?_))); (case side2 => exact HC0.out); rintro e w11 ⟨rfl, hb⟩; refine ⟨_, rfl, ?_⟩; have n0_ := Aside0.mk (below_step (by repeat (first | (with_reducible first | exact HB.out | apply below_alloc | apply pw_below_drewN | apply below_drew1) | exact HB.out)) hb); clear HB; have HB := n0_; clear n0_; (try clear hb); (try clear hb2); (try clear hk); (try clear hi)) | ((with_reducible refine gate_callee (f := 8) rfl ?_); refine goesL_ (some 18) rfl rfl Try.func8 (by kernel_rfl) rfl #[.slice A0 l0.length c0, .int .u64 a1] rfl (by (try simp only [List.map_toArray, List.map_cons, List.map_nil]); first | done | rfl | (simp only [List.length_drop, List.length_take]; rfl)) ?_; (with_reducible refine (signalboxlaw43_suits.calls k _ _ l0 a1 t103 _ ?side1 ?side2 A8.out).mono ?_); (case side1 => repeat (first | exact (Kd.C_below HR0.out HB.out) | (with_reducible refine Kd.C_alloc ?_ _) | (with_reducible refine Kd.C_drewN ?_ _) | (with_reducible refine Kd.C_drew ?_))); (case side2 => exact HC0.out); rintro e w12 ⟨rfl, hb⟩; refine ⟨_, rfl, ?_⟩; have n0_ := Aside0.mk (below_step (by repeat (first | (with_reducible first | exact HB.out | apply below_alloc | apply pw_below_drewN | apply below_drew1) | exact HB.out)) hb); clear HB; have HB := n0_; clear n0_; (try clear hb); (try clear hb2); (try clear hk); (try clear hi)))
       go_ret
       exact ⟨by first | rfl | (simp [errW_none, errW_some] <;> rfl) | (simp [*, errW_none, errW_some] <;> rfl), by repeat (first | (with_reducible first | exact HB.out | apply below_alloc | apply pw_below_drewN | apply below_drew1) | exact HB.out)⟩
     · rw [if_neg c9] at H
       have c9b0 : (t102 != t103) = false := by simpa using c9
       (try (have c9b1 : decide (t102 = t103) = true := by simpa using c9))
       (try (have c9b2 : (t102 == t103) = true := by simpa using c9))
       clear c9
       replace H := Option.bind_eq_some_iff.mp H
       obtain ⟨t104, A130, H⟩ := H
       replace H : (signalboxlaw43_CyclicSizes.l0 k l0 t104 0 1) = some r := H
       have A13 := Aside0.mk A130
       clear A130
       have H' := Aside0.mk H
       clear H
       go_enter Try.func3, Try.ntmps3
       go_wp2_with (first | ((with_reducible refine gate_callee (f := 6) rfl ?_); refine goesL_ (some 8) rfl rfl Try.func6 (by kernel_rfl) rfl #[] rfl (by (try simp only [List.map_toArray, List.map_cons, List.map_nil]); first | done | rfl | (simp only [List.length_drop, List.length_take]; rfl)) ?_; (with_reducible refine (signalboxlaw43_fixed.calls k  true _ A3.out).mono ?_); rintro e w14 ⟨rfl, hb⟩; refine ⟨_, rfl, ?_⟩; have n0_ := Aside0.mk (below_step (by repeat (first | (with_reducible first | exact HB.out | apply below_alloc | apply pw_below_drewN | apply below_drew1) | exact HB.out)) hb); clear HB; have HB := n0_; clear n0_; (try clear hb); (try clear hb2); (try clear hk); (try clear hi)) | ((with_reducible refine gate_callee (f := 7) rfl ?_); refine goesL_ (some 15) rfl rfl Try.func7 (by kernel_rfl) rfl #[.slice A0 l0.length c0, .int .u64 a1] rfl (by (try simp only [List.map_toArray, List.map_cons, List.map_nil]); first | done | rfl | (simp only [List.length_drop, List.length_take]; rfl)) ?_; (with_reducible refine (cyclic_Suits.calls k _ _ l0 a1 t102 _ ?side1 ?side2 A7.out).mono ?_); (case side1 => repeat (first | exact (Kd.C_below HR0.out HB.out) | (with_reducible refine Kd.C_alloc ?_ _) | (with_reducible refine Kd.C_drewN ?_ _) | (with_reducible refine Kd.C_drew ?_))); (case side2 => exact HC0.out); rintro e w15 ⟨rfl, hb⟩; refine ⟨_, rfl, ?_⟩; have n0_ := Aside0.mk (below_step (by repeat (first | (with_reducible first | exact HB.out | apply below_alloc | apply pw_below_drewN | apply below_drew1) | exact HB.out)) hb); clear HB; have HB := n0_; clear n0_; (try clear hb); (try clear hb2); (try clear hk); (try clear hi)) | ((with_reducible refine gate_callee (f := 8) rfl ?_); refine goesL_ (some 18) rfl rfl Try.func8 (by kernel_rfl) rfl #[.slice A0 l0.length c0, .int .u64 a1] rfl (by (try simp only [List.map_toArray, List.map_cons, List.map_nil]); first | done | rfl | (simp only [List.length_drop, List.length_take]; rfl)) ?_; (with_reducible refine (signalboxlaw43_suits.calls k _ _ l0 a1 t103 _ ?side1 ?side2 A8.out).mono ?_); (case side1 => repeat (first | exact (Kd.C_below HR0.out HB.out) | (with_reducible refine Kd.C_alloc ?_ _) | (with_reducible refine Kd.C_drewN ?_ _) | (with_reducible refine Kd.C_drew ?_))); (case side2 => exact HC0.out); rintro e w16 ⟨rfl, hb⟩; refine ⟨_, rfl, ?_⟩; have n0_ := Aside0.mk (below_step (by repeat (first | (with_reducible first | exact HB.out | apply below_alloc | apply pw_below_drewN | apply below_drew1) | exact HB.out)) hb); clear HB; have HB := n0_; clear n0_; (try clear hb); (try clear hb2); (try clear hk); (try clear hi)) | ((with_reducible refine gate_callee (f := 9) rfl ?_); refine goesL_ (some 21) rfl rfl Try.func9 (by kernel_rfl) rfl #[.slice A0 l0.length c0] rfl (by (try simp only [List.map_toArray, List.map_cons, List.map_nil]); first | done | rfl | (simp only [List.length_drop, List.length_take]; rfl)) ?_; (with_reducible refine (cyclic_Sizes.calls k _ _ l0 t104 _ ?side1 ?side2 A13.out).mono ?_); (case side1 => repeat (first | exact (Kd.C_below HR0.out HB.out) | (with_reducible refine Kd.C_alloc ?_ _) | (with_reducible refine Kd.C_drewN ?_ _) | (with_reducible refine Kd.C_drew ?_))); (case side2 => exact HC0.out); rintro e w17 ⟨v105, rfl, ho0, hb⟩; refine ⟨_, rfl, ?_⟩; have n0_ := Aside0.mk (Kd.R_lower ho0 (below_size (by repeat (first | (with_reducible first | exact HB.out | apply below_alloc | apply pw_below_drewN | apply below_drew1) | exact HB.out)))); have n1_ := Aside0.mk (below_step (by repeat (first | (with_reducible first | exact HB.out | apply below_alloc | apply pw_below_drewN | apply below_drew1) | exact HB.out)) hb); clear HB; have HO106 := n0_; have HB := n1_; clear n0_ n1_; (try clear hb); (try clear hb2); (try clear hk); (try clear hi); (try clear ho0)))
       (try simp only [Act.put, List.setIfInBounds_toArray, List.set_cons_zero, List.set_cons_succ])
       go_loopg [6, 7] k (fun kq v6 v7 w' => ∃ (x6_1 : Int) (x7_1 : Int), v6 = .int .i64 x6_1 ∧ v7 = .int .u64 x7_1 ∧ Aside0 (signalboxlaw43_CyclicSizes.l0 kq l0 t104 x6_1 x7_1 = some r) ∧ Aside0 (kq ≤ k) ∧ Aside0 (Kd.R (Kd.int .u64) 23 w' w.heap.size (fun _ => True) v105 t104) ∧ Aside0 (Below w.heap.size w w'))
       case atStart => exact ⟨(0), (1), (by first | rfl | (simp; done) | (simp [*]; done)), (by first | rfl | (simp; done) | (simp [*]; done)), H', ⟨Nat.le_refl _⟩, ⟨by (with_reducible repeat (first | apply Kd.R_alloc | apply Kd.R_drewN | apply Kd.R_drew)); exact HO106.out⟩, ⟨by repeat (first | (with_reducible first | exact HB.out | apply below_alloc | apply pw_below_drewN | apply below_drew1) | exact HB.out)⟩⟩
       case round =>
        clear H'
        try clear p2
        try clear c3
        try clear c4
        try clear c5
        try clear c5b0
        try clear c5b1
        try clear c6
        try clear c7
        try clear c8
        try clear c9
        try clear c9b0
        try clear c9b1
        try clear c9b2
        obtain ⟨x6_1, x7_1, rfl, rfl, HA, HK1, HO_5, HB⟩ := hrel
        cases gk with
        | zero => exact absurd HA.out (by simp [signalboxlaw43_CyclicSizes.l0])
        | succ k1 =>
         have H := HA.out
         clear HA
         simp only [signalboxlaw43_CyclicSizes.l0] at H
         replace H := Option.bind_eq_some_iff.mp H
         obtain ⟨t107, A180, H⟩ := H
         replace H : (if x7_1 ≤ t107 then ((signalboxlaw43_suits.f k1 l0 x7_1).bind fun t108 => (if t108 = true then (if x6_1 ≥ (t104.length : Int) then (some false) else (if 0 ≤ x6_1 then (if x6_1 < (t104.length : Int) then (if (rd t104 x6_1) = x7_1 then (signalboxlaw43_CyclicSizes.l0 k1 l0 t104 (wrap64 (x6_1 + 1)) (IntKind.u64.wrap (x7_1 + 1))) else (some false)) else (none)) else (none))) else (signalboxlaw43_CyclicSizes.l0 k1 l0 t104 x6_1 (IntKind.u64.wrap (x7_1 + 1))))) else (some (x6_1 == (t104.length : Int)))) = some r := H
         have A18 := Aside0.mk A180
         clear A180
         by_cases c19 : x7_1 ≤ t107
         · rw [if_pos c19] at H
           have c19b0 : decide (x7_1 ≤ t107) = true := decide_eq_true c19
           clear c19
           replace H := Option.bind_eq_some_iff.mp H
           obtain ⟨t108, A200, H⟩ := H
           replace H : (if t108 = true then (if x6_1 ≥ (t104.length : Int) then (some false) else (if 0 ≤ x6_1 then (if x6_1 < (t104.length : Int) then (if (rd t104 x6_1) = x7_1 then (signalboxlaw43_CyclicSizes.l0 k1 l0 t104 (wrap64 (x6_1 + 1)) (IntKind.u64.wrap (x7_1 + 1))) else (some false)) else (none)) else (none))) else (signalboxlaw43_CyclicSizes.l0 k1 l0 t104 x6_1 (IntKind.u64.wrap (x7_1 + 1)))) = some r := H
           have A20 := Aside0.mk A200
           clear A200
           by_cases c21 : t108 = true
           · subst c21
             have H1 : (if x6_1 ≥ (t104.length : Int) then (some false) else (if 0 ≤ x6_1 then (if x6_1 < (t104.length : Int) then (if (rd t104 x6_1) = x7_1 then (signalboxlaw43_CyclicSizes.l0 k1 l0 t104 (wrap64 (x6_1 + 1)) (IntKind.u64.wrap (x7_1 + 1))) else (some false)) else (none)) else (none))) = some r := by rw [if_pos rfl] at H; exact H
             clear H
             have H := H1
             clear H1
             by_cases c22 : x6_1 ≥ (t104.length : Int)
             · rw [if_pos c22] at H
               have c22b0 : decide ((t104.length : Int) ≤ x6_1) = true := decide_eq_true c22
               clear c22
               obtain rfl := Option.some.inj H
               go_wp2_with (first | ((with_reducible refine gate_callee (f := 10) rfl ?_); refine goesL_ (some 24) rfl rfl Try.func10 (by kernel_rfl) rfl #[.slice A0 l0.length c0] rfl (by (try simp only [List.map_toArray, List.map_cons, List.map_nil]); first | done | rfl | (simp only [List.length_drop, List.length_take]; rfl)) ?_; (with_reducible refine (signalboxlaw43_whole.calls k1 _ _ l0 t107 _ ?side1 ?side2 A18.out).mono ?_); (case side1 => repeat (first | exact (Kd.C_below HR0.out HB.out) | (with_reducible refine Kd.C_alloc ?_ _) | (with_reducible refine Kd.C_drewN ?_ _) | (with_reducible refine Kd.C_drew ?_))); (case side2 => exact HC0.out); rintro e w23 ⟨rfl, hb⟩; refine ⟨_, rfl, ?_⟩; have n0_ := Aside0.mk (Kd.R_below (by (with_reducible repeat (first | apply Kd.R_alloc | apply Kd.R_drewN | apply Kd.R_drew)); exact HO_5.out) hb); have n1_ := Aside0.mk (below_step (by repeat (first | (with_reducible first | exact HB.out | apply below_alloc | apply pw_below_drewN | apply below_drew1) | exact HB.out)) hb); clear HO_5; clear HB; have HO_5 := n0_; have HB := n1_; clear n0_ n1_; (try clear hb); (try clear hb2); (try clear hk); (try clear hi)) | ((with_reducible refine gate_callee (f := 8) rfl ?_); refine goesL_ (some 30) rfl rfl Try.func8 (by kernel_rfl) rfl #[.slice A0 l0.length c0, .int .u64 x7_1] rfl (by (try simp only [List.map_toArray, List.map_cons, List.map_nil]); first | done | rfl | (simp only [List.length_drop, List.length_take]; rfl)) ?_; (with_reducible refine (signalboxlaw43_suits.calls k1 _ _ l0 x7_1 true _ ?side1 ?side2 A20.out).mono ?_); (case side1 => repeat (first | exact (Kd.C_below HR0.out HB.out) | (with_reducible refine Kd.C_alloc ?_ _) | (with_reducible refine Kd.C_drewN ?_ _) | (with_reducible refine Kd.C_drew ?_))); (case side2 => exact HC0.out); rintro e w24 ⟨rfl, hb⟩; refine ⟨_, rfl, ?_⟩; have n0_ := Aside0.mk (Kd.R_below (by (with_reducible repeat (first | apply Kd.R_alloc | apply Kd.R_drewN | apply Kd.R_drew)); exact HO_5.out) hb); have n1_ := Aside0.mk (below_step (by repeat (first | (with_reducible first | exact HB.out | apply below_alloc | apply pw_below_drewN | apply below_drew1) | exact HB.out)) hb); clear HO_5; clear HB; have HO_5 := n0_; have HB := n1_; clear n0_ n1_; (try clear hb); (try clear hb2); (try clear hk); (try clear hi); obtain ⟨Ao25, co25, eo25⟩ := Kd.R_slice HO_5.out; subst eo25))
               go_ret
               exact ⟨by first | rfl | (simp [errW_none, errW_some] <;> rfl) | (simp [*, errW_none, errW_some] <;> rfl), by repeat (first | (with_reducible first | exact HB.out | apply below_alloc | apply pw_below_drewN | apply below_drew1) | exact HB.out)⟩
             · rw [if_neg c22] at H
               have c22b0 : decide ((t104.length : Int) ≤ x6_1) = false := decide_eq_false c22
               clear c22
               by_cases c26 : 0 ≤ x6_1
               · rw [if_pos c26] at H
                 have c26b0 : decide (0 ≤ x6_1) = true := decide_eq_true c26
                 clear c26
                 by_cases c27 : x6_1 < (t104.length : Int)
                 · rw [if_pos c27] at H
                   have c27b0 : decide (x6_1 < (t104.length : Int)) = true := decide_eq_true c27
                   clear c27
                   by_cases c28 : (rd t104 x6_1) = x7_1
                   · rw [if_pos c28] at H
                     have c28b0 : ((rd t104 x6_1) == x7_1) = true := beq_iff_eq.mpr c28
                     have c28b1 : ((rd t104 x6_1) != x7_1) = false := bne_eq_false_iff_eq.mpr c28
                     clear c28
                     have H' := Aside0.mk H
                     clear H
                     go_wp2_with (first | ((with_reducible refine gate_callee (f := 10) rfl ?_); refine goesL_ (some 24) rfl rfl Try.func10 (by kernel_rfl) rfl #[.slice A0 l0.length c0] rfl (by (try simp only [List.map_toArray, List.map_cons, List.map_nil]); first | done | rfl | (simp only [List.length_drop, List.length_take]; rfl)) ?_; (with_reducible refine (signalboxlaw43_whole.calls k1 _ _ l0 t107 _ ?side1 ?side2 A18.out).mono ?_); (case side1 => repeat (first | exact (Kd.C_below HR0.out HB.out) | (with_reducible refine Kd.C_alloc ?_ _) | (with_reducible refine Kd.C_drewN ?_ _) | (with_reducible refine Kd.C_drew ?_))); (case side2 => exact HC0.out); rintro e w29 ⟨rfl, hb⟩; refine ⟨_, rfl, ?_⟩; have n0_ := Aside0.mk (Kd.R_below (by (with_reducible repeat (first | apply Kd.R_alloc | apply Kd.R_drewN | apply Kd.R_drew)); exact HO_5.out) hb); have n1_ := Aside0.mk (below_step (by repeat (first | (with_reducible first | exact HB.out | apply below_alloc | apply pw_below_drewN | apply below_drew1) | exact HB.out)) hb); clear HO_5; clear HB; have HO_5 := n0_; have HB := n1_; clear n0_ n1_; (try clear hb); (try clear hb2); (try clear hk); (try clear hi)) | ((with_reducible refine gate_callee (f := 8) rfl ?_); refine goesL_ (some 30) rfl rfl Try.func8 (by kernel_rfl) rfl #[.slice A0 l0.length c0, .int .u64 x7_1] rfl (by (try simp only [List.map_toArray, List.map_cons, List.map_nil]); first | done | rfl | (simp only [List.length_drop, List.length_take]; rfl)) ?_; (with_reducible refine (signalboxlaw43_suits.calls k1 _ _ l0 x7_1 true _ ?side1 ?side2 A20.out).mono ?_); (case side1 => repeat (first | exact (Kd.C_below HR0.out HB.out) | (with_reducible refine Kd.C_alloc ?_ _) | (with_reducible refine Kd.C_drewN ?_ _) | (with_reducible refine Kd.C_drew ?_))); (case side2 => exact HC0.out); rintro e w30 ⟨rfl, hb⟩; refine ⟨_, rfl, ?_⟩; have n0_ := Aside0.mk (Kd.R_below (by (with_reducible repeat (first | apply Kd.R_alloc | apply Kd.R_drewN | apply Kd.R_drew)); exact HO_5.out) hb); have n1_ := Aside0.mk (below_step (by repeat (first | (with_reducible first | exact HB.out | apply below_alloc | apply pw_below_drewN | apply below_drew1) | exact HB.out)) hb); clear HO_5; clear HB; have HO_5 := n0_; have HB := n1_; clear n0_ n1_; (try clear hb); (try clear hb2); (try clear hk); (try clear hi); obtain ⟨Ao31, co31, eo31⟩ := Kd.R_slice HO_5.out; subst eo31; have p109 : 0 ≤ (x6_1 : Int) := of_decide_eq_true (by first | (with_reducible assumption) | assumption); have q109 : x6_1 < (t104.length : Int) := of_decide_eq_true (by first | (with_reducible assumption) | assumption); obtain ⟨ad109, e109, hx109_0⟩ := Kd.at_int (Kd.R_reads' HO_5.out).2.2 x6_1 p109 q109; cases e109; replace p109 := eq_true p109; replace q109 := eq_true q109))
                     go_roundg k1
                     case measure => have := HK1.out; omega
                     case rel => exact ⟨(wrap64 (x6_1 + 1)), (IntKind.u64.wrap (x7_1 + 1)), (by first | rfl | (simp; done) | (simp [*]; done)), (by first | rfl | (simp; done) | (simp [*]; done)), H', ⟨by have := HK1.out; omega⟩, ⟨by (with_reducible repeat (first | apply Kd.R_alloc | apply Kd.R_drewN | apply Kd.R_drew)); exact HO_5.out⟩, ⟨by repeat (first | (with_reducible first | exact HB.out | apply below_alloc | apply pw_below_drewN | apply below_drew1) | exact HB.out)⟩⟩
                   · rw [if_neg c28] at H
                     have c28b0 : ((rd t104 x6_1) == x7_1) = false := beq_eq_false_iff_ne.mpr c28
                     have c28b1 : ((rd t104 x6_1) != x7_1) = true := bne_iff_ne.mpr c28
                     obtain rfl := Option.some.inj H
                     go_wp2_with (first | ((with_reducible refine gate_callee (f := 10) rfl ?_); refine goesL_ (some 24) rfl rfl Try.func10 (by kernel_rfl) rfl #[.slice A0 l0.length c0] rfl (by (try simp only [List.map_toArray, List.map_cons, List.map_nil]); first | done | rfl | (simp only [List.length_drop, List.length_take]; rfl)) ?_; (with_reducible refine (signalboxlaw43_whole.calls k1 _ _ l0 t107 _ ?side1 ?side2 A18.out).mono ?_); (case side1 => repeat (first | exact (Kd.C_below HR0.out HB.out) | (with_reducible refine Kd.C_alloc ?_ _) | (with_reducible refine Kd.C_drewN ?_ _) | (with_reducible refine Kd.C_drew ?_))); (case side2 => exact HC0.out); rintro e w32 ⟨rfl, hb⟩; refine ⟨_, rfl, ?_⟩; have n0_ := Aside0.mk (Kd.R_below (by (with_reducible repeat (first | apply Kd.R_alloc | apply Kd.R_drewN | apply Kd.R_drew)); exact HO_5.out) hb); have n1_ := Aside0.mk (below_step (by repeat (first | (with_reducible first | exact HB.out | apply below_alloc | apply pw_below_drewN | apply below_drew1) | exact HB.out)) hb); clear HO_5; clear HB; have HO_5 := n0_; have HB := n1_; clear n0_ n1_; (try clear hb); (try clear hb2); (try clear hk); (try clear hi)) | ((with_reducible refine gate_callee (f := 8) rfl ?_); refine goesL_ (some 30) rfl rfl Try.func8 (by kernel_rfl) rfl #[.slice A0 l0.length c0, .int .u64 x7_1] rfl (by (try simp only [List.map_toArray, List.map_cons, List.map_nil]); first | done | rfl | (simp only [List.length_drop, List.length_take]; rfl)) ?_; (with_reducible refine (signalboxlaw43_suits.calls k1 _ _ l0 x7_1 true _ ?side1 ?side2 A20.out).mono ?_); (case side1 => repeat (first | exact (Kd.C_below HR0.out HB.out) | (with_reducible refine Kd.C_alloc ?_ _) | (with_reducible refine Kd.C_drewN ?_ _) | (with_reducible refine Kd.C_drew ?_))); (case side2 => exact HC0.out); rintro e w33 ⟨rfl, hb⟩; refine ⟨_, rfl, ?_⟩; have n0_ := Aside0.mk (Kd.R_below (by (with_reducible repeat (first | apply Kd.R_alloc | apply Kd.R_drewN | apply Kd.R_drew)); exact HO_5.out) hb); have n1_ := Aside0.mk (below_step (by repeat (first | (with_reducible first | exact HB.out | apply below_alloc | apply pw_below_drewN | apply below_drew1) | exact HB.out)) hb); clear HO_5; clear HB; have HO_5 := n0_; have HB := n1_; clear n0_ n1_; (try clear hb); (try clear hb2); (try clear hk); (try clear hi); obtain ⟨Ao34, co34, eo34⟩ := Kd.R_slice HO_5.out; subst eo34; have p109 : 0 ≤ (x6_1 : Int) := of_decide_eq_true (by first | (with_reducible assumption) | assumption); have q109 : x6_1 < (t104.length : Int) := of_decide_eq_true (by first | (with_reducible assumption) | assumption); obtain ⟨ad109, e109, hx109_0⟩ := Kd.at_int (Kd.R_reads' HO_5.out).2.2 x6_1 p109 q109; cases e109; replace p109 := eq_true p109; replace q109 := eq_true q109))
                     go_ret
                     exact ⟨by first | rfl | (simp [errW_none, errW_some] <;> rfl) | (simp [*, errW_none, errW_some] <;> rfl), by repeat (first | (with_reducible first | exact HB.out | apply below_alloc | apply pw_below_drewN | apply below_drew1) | exact HB.out)⟩
                 · rw [if_neg c27] at H
                   exact absurd H (by simp)
               · rw [if_neg c26] at H
                 exact absurd H (by simp)
           · replace c21 := Bool.eq_false_iff.mpr c21
             subst c21
             have H1 : (signalboxlaw43_CyclicSizes.l0 k1 l0 t104 x6_1 (IntKind.u64.wrap (x7_1 + 1))) = some r := by rw [if_neg (show ¬ (false = true) by decide)] at H; exact H
             clear H
             have H := H1
             clear H1
             have H' := Aside0.mk H
             clear H
             go_wp2_with (first | ((with_reducible refine gate_callee (f := 10) rfl ?_); refine goesL_ (some 24) rfl rfl Try.func10 (by kernel_rfl) rfl #[.slice A0 l0.length c0] rfl (by (try simp only [List.map_toArray, List.map_cons, List.map_nil]); first | done | rfl | (simp only [List.length_drop, List.length_take]; rfl)) ?_; (with_reducible refine (signalboxlaw43_whole.calls k1 _ _ l0 t107 _ ?side1 ?side2 A18.out).mono ?_); (case side1 => repeat (first | exact (Kd.C_below HR0.out HB.out) | (with_reducible refine Kd.C_alloc ?_ _) | (with_reducible refine Kd.C_drewN ?_ _) | (with_reducible refine Kd.C_drew ?_))); (case side2 => exact HC0.out); rintro e w35 ⟨rfl, hb⟩; refine ⟨_, rfl, ?_⟩; have n0_ := Aside0.mk (Kd.R_below (by (with_reducible repeat (first | apply Kd.R_alloc | apply Kd.R_drewN | apply Kd.R_drew)); exact HO_5.out) hb); have n1_ := Aside0.mk (below_step (by repeat (first | (with_reducible first | exact HB.out | apply below_alloc | apply pw_below_drewN | apply below_drew1) | exact HB.out)) hb); clear HO_5; clear HB; have HO_5 := n0_; have HB := n1_; clear n0_ n1_; (try clear hb); (try clear hb2); (try clear hk); (try clear hi)) | ((with_reducible refine gate_callee (f := 8) rfl ?_); refine goesL_ (some 30) rfl rfl Try.func8 (by kernel_rfl) rfl #[.slice A0 l0.length c0, .int .u64 x7_1] rfl (by (try simp only [List.map_toArray, List.map_cons, List.map_nil]); first | done | rfl | (simp only [List.length_drop, List.length_take]; rfl)) ?_; (with_reducible refine (signalboxlaw43_suits.calls k1 _ _ l0 x7_1 false _ ?side1 ?side2 A20.out).mono ?_); (case side1 => repeat (first | exact (Kd.C_below HR0.out HB.out) | (with_reducible refine Kd.C_alloc ?_ _) | (with_reducible refine Kd.C_drewN ?_ _) | (with_reducible refine Kd.C_drew ?_))); (case side2 => exact HC0.out); rintro e w36 ⟨rfl, hb⟩; refine ⟨_, rfl, ?_⟩; have n0_ := Aside0.mk (Kd.R_below (by (with_reducible repeat (first | apply Kd.R_alloc | apply Kd.R_drewN | apply Kd.R_drew)); exact HO_5.out) hb); have n1_ := Aside0.mk (below_step (by repeat (first | (with_reducible first | exact HB.out | apply below_alloc | apply pw_below_drewN | apply below_drew1) | exact HB.out)) hb); clear HO_5; clear HB; have HO_5 := n0_; have HB := n1_; clear n0_ n1_; (try clear hb); (try clear hb2); (try clear hk); (try clear hi)))
             go_roundg k1
             case measure => have := HK1.out; omega
             case rel => exact ⟨(x6_1), (IntKind.u64.wrap (x7_1 + 1)), (by first | rfl | (simp; done) | (simp [*]; done)), (by first | rfl | (simp; done) | (simp [*]; done)), H', ⟨by have := HK1.out; omega⟩, ⟨by (with_reducible repeat (first | apply Kd.R_alloc | apply Kd.R_drewN | apply Kd.R_drew)); exact HO_5.out⟩, ⟨by repeat (first | (with_reducible first | exact HB.out | apply below_alloc | apply pw_below_drewN | apply below_drew1) | exact HB.out)⟩⟩
         · rw [if_neg c19] at H
           have c19b0 : decide (x7_1 ≤ t107) = false := decide_eq_false c19
           clear c19
           obtain rfl := Option.some.inj H
           go_wp2_with (first | ((with_reducible refine gate_callee (f := 10) rfl ?_); refine goesL_ (some 24) rfl rfl Try.func10 (by kernel_rfl) rfl #[.slice A0 l0.length c0] rfl (by (try simp only [List.map_toArray, List.map_cons, List.map_nil]); first | done | rfl | (simp only [List.length_drop, List.length_take]; rfl)) ?_; (with_reducible refine (signalboxlaw43_whole.calls k1 _ _ l0 t107 _ ?side1 ?side2 A18.out).mono ?_); (case side1 => repeat (first | exact (Kd.C_below HR0.out HB.out) | (with_reducible refine Kd.C_alloc ?_ _) | (with_reducible refine Kd.C_drewN ?_ _) | (with_reducible refine Kd.C_drew ?_))); (case side2 => exact HC0.out); rintro e w37 ⟨rfl, hb⟩; refine ⟨_, rfl, ?_⟩; have n0_ := Aside0.mk (Kd.R_below (by (with_reducible repeat (first | apply Kd.R_alloc | apply Kd.R_drewN | apply Kd.R_drew)); exact HO_5.out) hb); have n1_ := Aside0.mk (below_step (by repeat (first | (with_reducible first | exact HB.out | apply below_alloc | apply pw_below_drewN | apply below_drew1) | exact HB.out)) hb); clear HO_5; clear HB; have HO_5 := n0_; have HB := n1_; clear n0_ n1_; (try clear hb); (try clear hb2); (try clear hk); (try clear hi); obtain ⟨Ao38, co38, eo38⟩ := Kd.R_slice HO_5.out; subst eo38))
           go_ret
           exact ⟨by first | rfl | (simp [errW_none, errW_some] <;> rfl) | (simp [*, errW_none, errW_some] <;> rfl), by repeat (first | (with_reducible first | exact HB.out | apply below_alloc | apply pw_below_drewN | apply below_drew1) | exact HB.out)⟩
 · replace c4 := Bool.eq_false_iff.mpr c4
   subst c4
   have H1 : (some false) = some r := by rw [if_neg (show ¬ (false = true) by decide)] at H; exact H
   clear H
   have H := H1
   clear H1
   obtain rfl := Option.some.inj H
   go_enter Try.func3, Try.ntmps3
   go_wp2_with (first | ((with_reducible refine gate_callee (f := 6) rfl ?_); refine goesL_ (some 8) rfl rfl Try.func6 (by kernel_rfl) rfl #[] rfl (by (try simp only [List.map_toArray, List.map_cons, List.map_nil]); first | done | rfl | (simp only [List.length_drop, List.length_take]; rfl)) ?_; (with_reducible refine (signalboxlaw43_fixed.calls k  false _ A3.out).mono ?_); rintro e w39 ⟨rfl, hb⟩; refine ⟨_, rfl, ?_⟩; have n0_ := Aside0.mk (below_step (by repeat (first | (with_reducible first | exact HB.out | apply below_alloc | apply pw_below_drewN | apply below_drew1) | exact HB.out)) hb); clear HB; have HB := n0_; clear n0_; (try clear hb); (try clear hb2); (try clear hk); (try clear hi)))
   go_ret
   exact ⟨by first | rfl | (simp [errW_none, errW_some] <;> rfl) | (simp [*, errW_none, errW_some] <;> rfl), by repeat (first | (with_reducible first | exact HB.out | apply below_alloc | apply pw_below_drewN | apply below_drew1) | exact HB.out)⟩
end Go.Proofs.Ytindegbbcdloiaa.P
end
section
namespace Go.Proofs.YtindegbbcdloiaaW.Tell
open Go.RowKit Go.Proofs.YtindegbbcdloiaaW.PrintWords Go.Proofs.Ytindegbbcdloiaa
/-- From some number of rounds on, g says r. -/
def T {α : Type} (g : Nat → Option α) (r : α) : Prop := ∃ K, ∀ k, K ≤ k → g k = some r
theorem T.get {α : Type} {g : Nat → Option α} {r : α} (h : T g r) : ∃ k, g k = some r := by
  obtain ⟨K, h⟩ := h
  exact ⟨K, h K (Nat.le_refl _)⟩
theorem T.pure {α : Type} {r : α} : T (fun _ => some r) r := ⟨0, fun _ _ => rfl⟩
theorem T.eq {α : Type} {r s : α} (h : s = r) : T (fun _ => some s) r := ⟨0, fun _ _ => by rw [h]⟩
theorem T.bind {α β : Type} {g : Nat → Option α} {h : Nat → α → Option β} {a : α} {b : β} (hg : T g a) (hh : T (fun k => h k a) b) : T (fun k => (g k).bind (h k)) b := by
  obtain ⟨K, hg⟩ := hg
  obtain ⟨L, hh⟩ := hh
  refine ⟨max K L, fun k hk => ?_⟩
  show (g k).bind (h k) = some b
  rw [hg k (Nat.le_trans (Nat.le_max_left _ _) hk)]
  exact hh k (Nat.le_trans (Nat.le_max_right _ _) hk)
theorem T.succ {α : Type} {g : Nat → Option α} {r : α} (h : T (fun k => g (k + 1)) r) : T g r := by
  obtain ⟨K, h⟩ := h
  refine ⟨K + 1, fun k hk => ?_⟩
  obtain ⟨m, rfl⟩ : ∃ m, k = m + 1 := ⟨k - 1, by omega⟩
  exact h m (by omega)
theorem T.of_mono {α : Type} {g : Nat → Option α} {r : α} (hm : ∀ k, LeO (g k) (g (k + 1))) {k : Nat} (h : g k = some r) : T g r := by
  refine ⟨k, fun j hj => ?_⟩
  induction j with
  | zero =>
    obtain rfl : k = 0 := by omega
    exact h
  | succ j ih =>
    by_cases hkj : k = j + 1
    · exact hkj ▸ h
    · exact hm j r (ih (by omega))
theorem T.evs {α : Type} {g : Nat → Option α} {r : α} (hm : ∀ k, LeO (g k) (g (k + 1))) (h : T g r) : Fn.evs g = some r := by
  obtain ⟨k, h⟩ := h.get
  exact Fn.evs_of hm h
theorem u64_ {n : Int} (h0 : 0 ≤ n) (h1 : n < 18446744073709551616) : IntKind.u64.wrap n = n := by
  unfold IntKind.wrap
  show n % 18446744073709551616 = n
  exact Int.emod_eq_of_lt h0 h1
theorem w64_ {n : Int} (h0 : -9223372036854775808 ≤ n) (h1 : n < 9223372036854775808) : wrap64 n = n := by unfold wrap64; omega
theorem wf_u64 {n : Int} : (Lit.int .u64 n).wf = true ↔ 0 ≤ n ∧ n < 18446744073709551616 := by
  show (decide ((0 : Int) ≤ n) && decide (n ≤ 18446744073709551615)) = true ↔ _
  simp
  omega
theorem wf_i64 {n : Int} : (Lit.int .i64 n).wf = true ↔ -9223372036854775808 ≤ n ∧ n < 9223372036854775808 := by
  show (decide ((-9223372036854775808 : Int) ≤ n) && decide (n ≤ 9223372036854775807)) = true ↔ _
  simp
  omega
end Go.Proofs.YtindegbbcdloiaaW.Tell
end
section
namespace Go.Proofs.Ytindegbbcdloiaa.Pure
open Go.RowKit Go.Proofs.Ytindegbbcdloiaa.P Go.Proofs.YtindegbbcdloiaaW.Tell Go.Proofs.YtindegbbcdloiaaW.PrintWords Go.Proofs.Ytindegbbcdloiaa
theorem rd_at {xs : List Int} {i : Int} (h : i.toNat < xs.length) : rd xs i = xs[i.toNat] := by simp [rd, h]
theorem rd34_at {xs : List S34} {i : Int} (h : i.toNat < xs.length) : rd_T34 xs i = xs[i.toNat] := by simp [rd_T34, h]
theorem gcd_l : ∀ (n : Nat) (a b : Nat), b ≤ n → T (fun k => hyper_Gcd.l0 k a b) (Nat.gcd a b : Int) := by
  intro n
  induction n with
  | zero =>
    intro a b h
    obtain rfl : b = 0 := by omega
    refine T.succ ?_
    simp only [hyper_Gcd.l0]
    exact T.eq (by simp)
  | succ n ih =>
    intro a b h
    refine T.succ ?_
    simp only [hyper_Gcd.l0]
    by_cases hb : b = 0
    · subst hb
      exact T.eq (by simp)
    · have h1 : ¬ ((b : Int) = 0) := by omega
      simp only [if_neg h1]
      have h2 : Int.tmod (a : Int) (b : Int) = ((a % b : Nat) : Int) := by rw [Int.tmod_eq_emod_of_nonneg (by omega)]; simp
      rw [h2, show Nat.gcd a b = Nat.gcd b (a % b) by rw [Nat.gcd_comm a b, Nat.gcd_rec b a, Nat.gcd_comm]]
      exact ih b (a % b) (by have := Nat.mod_lt a (show b > 0 by omega); omega)
theorem gcd_T (a b : Nat) : T (fun k => hyper_Gcd.f k a b) (Nat.gcd a b : Int) := gcd_l b a b (Nat.le_refl _)
theorem rgcd_l : ∀ (n : Nat) (a b : Nat), b ≤ n → T (fun k => signalboxref32_Gcd.l0 k a b) (Nat.gcd a b : Int) := by
  intro n
  induction n with
  | zero =>
    intro a b h
    obtain rfl : b = 0 := by omega
    refine T.succ ?_
    simp only [signalboxref32_Gcd.l0]
    exact T.eq (by simp)
  | succ n ih =>
    intro a b h
    refine T.succ ?_
    simp only [signalboxref32_Gcd.l0]
    by_cases hb : b = 0
    · subst hb
      exact T.eq (by simp)
    · have h1 : ¬ ((b : Int) = 0) := by omega
      simp only [if_neg h1]
      have h2 : Int.tmod (a : Int) (b : Int) = ((a % b : Nat) : Int) := by rw [Int.tmod_eq_emod_of_nonneg (by omega)]; simp
      rw [h2, show Nat.gcd a b = Nat.gcd b (a % b) by rw [Nat.gcd_comm a b, Nat.gcd_rec b a, Nat.gcd_comm]]
      exact ih b (a % b) (by have := Nat.mod_lt a (show b > 0 by omega); omega)
theorem rgcd_T (a b : Nat) : T (fun k => signalboxref32_Gcd.f k a b) (Nat.gcd a b : Int) := rgcd_l b a b (Nat.le_refl _)
theorem u64_mod (n : Int) : IntKind.u64.wrap n = n % 18446744073709551616 := rfl
theorem mul64 (a b : Nat) (ha : a < 18446744073709551616) (hb : b < 18446744073709551616) : bits_Mul64.f a b = some (((a * b / 18446744073709551616 : Nat) : Int), ((a * b % 18446744073709551616 : Nat) : Int)) := by
  have h := mul64_arith a b (by omega) (by omega) (by omega) (by omega)
  unfold bits_Mul64.f
  rw [and_low32 (a : Int) (by omega) (by omega), and_low32 (b : Int) (by omega) (by omega)]
  simp only [u64_mod]
  rw [and_low32 _ (Int.emod_nonneg _ (by omega)) (Int.emod_lt_of_pos _ (by omega)), h]
  simp
theorem satMul (a b : Nat) (ha : a < 18446744073709551616) (hb : b < 18446744073709551616) : sat_Mul.f a b = some ((min (a * b) 18446744073709551615 : Nat) : Int) := by
  unfold sat_Mul.f
  rw [mul64 a b ha hb]
  simp only [Option.bind_some]
  generalize a * b = n
  by_cases h : ((n / 18446744073709551616 : Nat) : Int) > 0
  · rw [if_pos h]
    congr 1
    omega
  · rw [if_neg h]
    congr 1
    omega
theorem lcm_div (a b : Nat) : a / Nat.gcd a b * b = Nat.lcm a b := by
  unfold Nat.lcm
  rw [Nat.mul_comm a b, Nat.mul_div_assoc b (Nat.gcd_dvd_left a b), Nat.mul_comm]
theorem lcm_T (a b : Nat) (ha0 : 0 < a) (hb0 : 0 < b) (ha : a < 18446744073709551616) (hb : b < 18446744073709551616) : T (fun k => hyper_Lcm.f k a b) ((min (Nat.lcm a b) 18446744073709551615 : Nat) : Int) := by
  have h1 : ¬ ((a : Int) = 0) := by omega
  have h2 : ((b : Int) == 0) = false := by simp; omega
  simp only [hyper_Lcm.f, if_neg h1, h2]
  refine T.succ ?_
  simp only [hyper_Lcm.j0]
  refine T.bind (gcd_T a b) ?_
  have hg : 0 < Nat.gcd a b := Nat.gcd_pos_of_pos_left b ha0
  have h3 : ¬ ((Nat.gcd a b : Int) = 0) := by omega
  simp only [if_neg h3]
  have h4 : Int.tdiv (a : Int) (Nat.gcd a b : Int) = ((a / Nat.gcd a b : Nat) : Int) := by rw [Int.tdiv_eq_ediv_of_nonneg (by omega)]; simp
  have h5 : a / Nat.gcd a b ≤ a := Nat.div_le_self _ _
  have h6 := lcm_div a b
  rw [h4]
  generalize a / Nat.gcd a b = q at *
  rw [u64_ (by omega) (by omega), satMul _ _ (by omega) hb, h6]
  exact T.pure
theorem slcm_T (a b : Nat) (ha0 : 0 < a) (hb0 : 0 < b) (ha : a < 18446744073709551616) (hb : b < 18446744073709551616) : T (fun k => hyper_lcm.f k a b) ((min (Nat.lcm a b) 18446744073709551615 : Nat) : Int) := by
  unfold hyper_lcm.f
  by_cases h : (a : Int) = 18446744073709551615
  · have h2 : ¬ ((b : Int) = 0) := by omega
    simp only [if_pos h, if_neg h2]
    refine T.eq ?_
    have := Nat.le_of_dvd (Nat.lcm_pos ha0 hb0) (Nat.dvd_lcm_left a b)
    omega
  · simp only [if_neg h]
    exact T.bind (lcm_T a b ha0 hb0 ha hb) T.pure
theorem min_lcm (n b : Nat) (hn : 0 < n) (hb : 0 < b) : min (Nat.lcm (min n 18446744073709551615) b) 18446744073709551615 = min (Nat.lcm n b) 18446744073709551615 := by
  by_cases h : n ≤ 18446744073709551615
  · rw [Nat.min_eq_left h]
  · have h1 := Nat.le_of_dvd (Nat.lcm_pos hn hb) (Nat.dvd_lcm_left n b)
    have h2 := Nat.le_of_dvd (Nat.lcm_pos (show 0 < min n 18446744073709551615 by omega) hb) (Nat.dvd_lcm_left (min n 18446744073709551615) b)
    omega
/-- The common multiple of all, from n on. -/
def lcms (n : Nat) (ps : List Nat) : Nat := ps.foldl Nat.lcm n
theorem lcms_pos : ∀ (ps : List Nat) (n : Nat), 0 < n → (∀ p ∈ ps, 0 < p) → 0 < lcms n ps := by
  intro ps
  induction ps with
  | nil => exact fun n h _ => h
  | cons p ps ih => exact fun n h hp => ih _ (Nat.lcm_pos h (hp p (by simp))) (fun q hq => hp q (by simp [hq]))
theorem lcms_dvd : ∀ (ps : List Nat) (n : Nat), n ∣ lcms n ps ∧ ∀ p ∈ ps, p ∣ lcms n ps := by
  intro ps
  induction ps with
  | nil => exact fun n => ⟨Nat.dvd_refl _, by simp⟩
  | cons p ps ih =>
    intro n
    obtain ⟨h1, h2⟩ := ih (Nat.lcm n p)
    refine ⟨Nat.dvd_trans (Nat.dvd_lcm_left n p) h1, fun q hq => ?_⟩
    rcases List.mem_cons.1 hq with rfl | hq
    · exact Nat.dvd_trans (Nat.dvd_lcm_right n q) h1
    · exact h2 q hq
theorem natOf {n : Int} (h : 0 ≤ n) : ∃ m : Nat, n = m := Int.eq_ofNat_of_zero_le h
/-- hyper.All, from place i on. -/
theorem all_l (ps : List Nat) (hp : ∀ p ∈ ps, 0 < p ∧ p < 18446744073709551616) (hl : ps.length < 9223372036854775807) : ∀ (m i : Nat) (n : Nat), i + m = ps.length → 0 < n →
    T (fun k => hyper_All.l0 k ((min n 18446744073709551615 : Nat) : Int) (ps.map Int.ofNat) (ps.length : Int) i) ((min (lcms n (ps.drop i)) 18446744073709551615 : Nat) : Int) := by
  intro m
  induction m with
  | zero =>
    intro i n hi hn
    refine T.succ ?_
    have h1 : ¬ ((i : Int) < (ps.length : Int)) := by omega
    simp only [hyper_All.l0, if_neg h1]
    rw [List.drop_of_length_le (by omega)]
    exact T.pure
  | succ m ih =>
    intro i n hi hn
    refine T.succ ?_
    have h1 : (i : Int) < (ps.length : Int) := by omega
    have h2 : (0 : Int) ≤ (i : Int) := by omega
    have h3 : (i : Int) < ((ps.map Int.ofNat).length : Int) := by simpa using h1
    simp only [hyper_All.l0, if_pos h1, if_pos h2, if_pos h3]
    have hil : i < ps.length := by omega
    obtain ⟨hp0, hp1⟩ := hp ps[i] (List.getElem_mem hil)
    have h4 : rd (ps.map Int.ofNat) (i : Int) = ((ps[i] : Nat) : Int) := by rw [rd_at (by simpa using hil)]; simp
    rw [h4]
    refine T.bind (slcm_T (min n 18446744073709551615) ps[i] (by omega) hp0 (by omega) hp1) ?_
    rw [min_lcm n _ hn hp0, w64_ (by omega) (by omega)]
    have := ih (i + 1) (Nat.lcm n ps[i]) (by omega) (Nat.lcm_pos hn hp0)
    rw [List.drop_eq_getElem_cons hil]
    exact this
end Go.Proofs.Ytindegbbcdloiaa.Pure
end
section
namespace Go.Proofs.Ytindegbbcdloiaa.Pure
open Go.RowKit Go.Proofs.Ytindegbbcdloiaa.P Go.Proofs.YtindegbbcdloiaaW.Tell Go.Proofs.YtindegbbcdloiaaW.PrintWords Go.Proofs.Ytindegbbcdloiaa
def Ok (l : List S34) : Prop := l.length ≤ 12 ∧ ∀ x ∈ l, (0 ≤ x.f0 ∧ x.f0 < 18446744073709551616) ∧ (0 ≤ x.f1 ∧ x.f1 < 18446744073709551616)
def bad (l : List S34) : Bool := l.any fun x => x.f0 == 0 || x.f1 == 0
def per (l : List S34) : List Nat := l.map fun x => x.f1.toNat
def wholeS (l : List S34) : Nat := if l.isEmpty || bad l then 0 else if lcms 1 (per l) ≤ 4096 then lcms 1 (per l) else 0
theorem per_pos {l : List S34} (hl : Ok l) (h : bad l = false) : ∀ p ∈ per l, 0 < p ∧ p < 18446744073709551616 := by
  intro p hp
  obtain ⟨x, hx, rfl⟩ := List.mem_map.1 hp
  have h1 := (hl.2 x hx).2
  have h2 := List.any_eq_false.1 h x hx
  simp at h2
  omega
theorem hypAll {l : List S34} (hl : Ok l) (h : bad l = false) : T (fun k => hyper_All.f k ((per l).map Int.ofNat)) ((min (lcms 1 (per l)) 18446744073709551615 : Nat) : Int) := by
  have := all_l (per l) (per_pos hl h) (by have := hl.1; simp [per]; omega) (per l).length 0 1 (by omega) (by omega)
  unfold hyper_All.f
  simp only [List.length_map]
  exact this
theorem whole_l {l : List S34} (hl : Ok l) : ∀ (m i : Nat), i + m = l.length → bad (l.take i) = false →
    T (fun k => cyclic_whole.l0 k l ((per (l.take i)).map Int.ofNat) l (l.length : Int) i) (wholeS l : Int) := by
  have hl1 := hl.1
  intro m
  induction m with
  | zero =>
    intro i hi hb
    refine T.succ ?_
    have h1 : ¬ ((i : Int) < (l.length : Int)) := by omega
    simp only [cyclic_whole.l0, if_neg h1]
    rw [List.take_of_length_le (by omega)] at hb ⊢
    refine T.bind (hypAll hl hb) ?_
    have hp := lcms_pos (per l) 1 (by omega) (fun p hp => (per_pos hl hb p hp).1)
    unfold wholeS
    rw [hb]
    cases l with
    | nil => exact T.pure
    | cons x l =>
      have h2 : ((x :: l).length : Int) > 0 := by rw [List.length_cons]; omega
      simp only [if_pos h2]
      by_cases h3 : lcms 1 (per (x :: l)) ≤ 4096
      · have h4 : ((min (lcms 1 (per (x :: l))) 18446744073709551615 : Nat) : Int) ≤ 4096 := by omega
        simp only [if_pos h4, if_pos h3]
        exact T.eq (by simp; omega)
      · have h4 : ¬ (((min (lcms 1 (per (x :: l))) 18446744073709551615 : Nat) : Int) ≤ 4096) := by omega
        simp only [if_neg h4, if_neg h3]
        exact T.eq (by simp)
  | succ m ih =>
    intro i hi hb
    refine T.succ ?_
    have h1 : (i : Int) < (l.length : Int) := by omega
    have h2 : (0 : Int) ≤ (i : Int) := by omega
    have hil : i < l.length := by omega
    simp only [cyclic_whole.l0, if_pos h1, if_pos h2]
    rw [show rd_T34 l (i : Int) = l[i] from rd34_at (i := (i : Int)) (by simpa using hil)]
    obtain ⟨⟨c0, c1⟩, p0, p1⟩ := hl.2 l[i] (List.getElem_mem hil)
    have bl : ∀ b : Bool, (l[i].f0 == 0 || l[i].f1 == 0) = true → (l.isEmpty || bad l) = true := by
      intro _ hx
      have : bad l = true := List.any_eq_true.2 ⟨l[i], List.getElem_mem hil, hx⟩
      rw [this]
      simp
    by_cases hc : l[i].f0 = 0
    · simp only [if_pos hc]
      exact T.eq (by unfold wholeS; rw [if_pos (bl true (by simp [hc]))]; rfl)
    · simp only [if_neg hc]
      by_cases hp : l[i].f1 = 0
      · simp only [if_pos hp]
        exact T.eq (by unfold wholeS; rw [if_pos (bl true (by simp [hp]))]; rfl)
      · simp only [if_neg hp]
        have h3 : ((per (l.take i)).map Int.ofNat).length < 17592186044416 := by simp [per]; omega
        simp only [if_pos h3]
        rw [w64_ (by omega) (by omega)]
        have e : (per (l.take i)).map Int.ofNat ++ [l[i].f1] = (per (l.take (i + 1))).map Int.ofNat := by
          have e1 : Int.ofNat l[i].f1.toNat = l[i].f1 := Int.toNat_of_nonneg p0
          rw [List.take_succ_eq_append_getElem hil]
          simp only [per, List.map_append, List.map_cons, List.map_nil, e1]
        rw [e]
        refine ih (i + 1) (by omega) ?_
        rw [List.take_succ_eq_append_getElem hil]
        simp only [bad, List.any_append] at hb ⊢
        rw [hb]
        simp [hc, hp]
theorem whole_T {l : List S34} (hl : Ok l) : T (fun k => cyclic_whole.f k l) (wholeS l : Int) := whole_l hl l.length 0 (by omega) rfl
theorem times_T (a b : Nat) (ha0 : 0 < a) (hb0 : 0 < b) (ha : a ≤ 4096) (hb : b ≤ 4096) : T (fun k => signalboxref32_Times.f k a b) (((a * b : Nat) : Int), true) := by
  have h1 : ¬ ((a : Int) = 0) := by omega
  have h2 : ((b : Int) == 0) = false := by simp; omega
  simp only [signalboxref32_Times.f, if_neg h1, h2]
  refine T.succ ?_
  have h3 : ¬ ((b : Int) = 0) := by omega
  have hq : Int.tdiv (18446744073709551615 : Int) (b : Int) = ((18446744073709551615 / b : Nat) : Int) := by rw [Int.tdiv_eq_ediv_of_nonneg (by omega)]; simp
  have hq1 : 18446744073709551615 / b ≤ 18446744073709551615 := Nat.div_le_self _ _
  have hq2 : 4503599627370495 ≤ 18446744073709551615 / b := (Nat.le_div_iff_mul_le hb0).2 (by omega)
  have hab : a * b ≤ 4096 * 4096 := Nat.mul_le_mul ha hb
  simp only [signalboxref32_Times.j0, if_neg h3, hq]
  generalize 18446744073709551615 / b = q at *
  rw [u64_ (by omega) (by omega)]
  have h4 : ¬ ((a : Int) > (q : Int)) := by omega
  simp only [if_neg h4]
  have h5 : (a : Int) * (b : Int) = ((a * b : Nat) : Int) := by simp
  rw [h5]
  generalize a * b = p at *
  rw [u64_ (by omega) (by omega)]
  refine T.eq ?_
  rw [decide_eq_true (by omega)]
theorem rlcm_T (a b : Nat) (ha0 : 0 < a) (hb0 : 0 < b) (ha : a ≤ 4096) (hb : b ≤ 4096) : T (fun k => signalboxref32_Lcm.f k a b) (Nat.lcm a b : Int) := by
  have h1 : ¬ ((a : Int) = 0) := by omega
  have h2 : ((b : Int) == 0) = false := by simp; omega
  simp only [signalboxref32_Lcm.f, if_neg h1, h2]
  refine T.succ ?_
  simp only [signalboxref32_Lcm.j0]
  refine T.bind (rgcd_T a b) ?_
  have hg : 0 < Nat.gcd a b := Nat.gcd_pos_of_pos_left b ha0
  have h3 : ¬ ((Nat.gcd a b : Int) = 0) := by omega
  simp only [if_neg h3]
  have h4 : Int.tdiv (a : Int) (Nat.gcd a b : Int) = ((a / Nat.gcd a b : Nat) : Int) := by rw [Int.tdiv_eq_ediv_of_nonneg (by omega)]; simp
  have h5 : a / Nat.gcd a b ≤ a := Nat.div_le_self _ _
  have h7 : 0 < a / Nat.gcd a b := Nat.div_pos (Nat.le_of_dvd ha0 (Nat.gcd_dvd_left a b)) hg
  have h6 := lcm_div a b
  rw [h4]
  generalize a / Nat.gcd a b = q at *
  rw [u64_ (by omega) (by omega)]
  refine T.bind (times_T q b h7 hb0 (by omega) hb) ?_
  rw [h6]
  exact T.pure
theorem lcms_ge (ps : List Nat) (n : Nat) (hn : 0 < n) (hp : ∀ p ∈ ps, 0 < p) : n ≤ lcms n ps := Nat.le_of_dvd (lcms_pos ps n hn hp) (lcms_dvd ps n).1
theorem rwhole_l {l : List S34} (hl : Ok l) : ∀ (m i : Nat) (n : Nat), i + m = l.length → bad (l.take i) = false → 0 < n → n ≤ 4096 → (lcms n (per (l.drop i)) = lcms 1 (per l)) →
    T (fun k => signalboxlaw43_whole.l0 k l n l (l.length : Int) i) (wholeS l : Int) := by
  have hl1 := hl.1
  intro m
  induction m with
  | zero =>
    intro i n hi hb hn hn1 he
    refine T.succ ?_
    have h1 : ¬ ((i : Int) < (l.length : Int)) := by omega
    simp only [signalboxlaw43_whole.l0, if_neg h1]
    rw [List.take_of_length_le (by omega)] at hb
    rw [List.drop_of_length_le (by omega)] at he
    unfold wholeS
    rw [hb, ← he]
    cases l with
    | nil => exact T.pure
    | cons x l =>
      have h2 : ¬ (((x :: l).length : Int) = 0) := by rw [List.length_cons]; omega
      simp only [if_neg h2]
      exact T.eq (by simp [lcms, per, hn1])
  | succ m ih =>
    intro i n hi hb hn hn1 he
    refine T.succ ?_
    have h1 : (i : Int) < (l.length : Int) := by omega
    have h2 : (0 : Int) ≤ (i : Int) := by omega
    have hil : i < l.length := by omega
    simp only [signalboxlaw43_whole.l0, if_pos h1, if_pos h2]
    rw [show rd_T34 l (i : Int) = l[i] from rd34_at (i := (i : Int)) (by simpa using hil)]
    obtain ⟨⟨c0, c1⟩, p0, p1⟩ := hl.2 l[i] (List.getElem_mem hil)
    have bl : (l[i].f0 == 0 || l[i].f1 == 0) = true → (l.isEmpty || bad l) = true := by
      intro hx
      have : bad l = true := List.any_eq_true.2 ⟨l[i], List.getElem_mem hil, hx⟩
      rw [this]
      simp
    have big : 4096 < lcms 1 (per l) → wholeS l = 0 := by
      intro hx
      unfold wholeS
      split
      · rfl
      · rw [if_neg (by omega)]
    by_cases hc : l[i].f0 = 0
    · simp only [if_pos hc]
      refine T.succ ?_
      simp only [signalboxlaw43_whole.j1]
      exact T.eq (by unfold wholeS; rw [if_pos (bl (by simp [hc]))]; rfl)
    · simp only [if_neg hc]
      by_cases hp : l[i].f1 = 0
      · simp only [if_pos hp]
        refine T.succ ?_
        simp only [signalboxlaw43_whole.j1]
        exact T.eq (by unfold wholeS; rw [if_pos (bl (by simp [hp]))]; rfl)
      · simp only [if_neg hp]
        refine T.succ ?_
        obtain ⟨p, hp'⟩ := natOf p0
        rw [List.drop_eq_getElem_cons hil] at he
        have he' : lcms (Nat.lcm n p) (per (l.drop (i + 1))) = lcms 1 (per l) := by
          have e2 : l[i].f1.toNat = p := by omega
          rw [← he, ← e2]
          rfl
        have dv : p ∣ lcms 1 (per l) := by
          refine (lcms_dvd (per l) 1).2 p (List.mem_map.2 ⟨l[i], List.getElem_mem hil, by omega⟩)
        have tl : ∀ q ∈ per (l.drop (i + 1)), bad l = false → 0 < q := fun q hq hbad => (per_pos hl hbad q (by
            obtain ⟨x, hx, rfl⟩ := List.mem_map.1 hq
            exact List.mem_map.2 ⟨x, List.mem_of_mem_drop hx, rfl⟩)).1
        by_cases hbad : bad l = true
        · -- a bad one comes later, or the multiple is too great before
          have w0 : wholeS l = 0 := by
            unfold wholeS
            rw [hbad, Bool.or_true]
            rfl
          simp only [signalboxlaw43_whole.j1]
          by_cases hg : l[i].f1 > 4096
          · simp only [decide_eq_true hg, if_true]
            exact T.eq (by rw [w0]; rfl)
          · simp only [decide_eq_false hg, Bool.false_eq_true, if_false]
            rw [hp']
            refine T.bind (rlcm_T n p hn (by omega) hn1 (by omega)) ?_
            by_cases h4 : (Nat.lcm n p : Int) > 4096
            · simp only [if_pos h4]
              exact T.eq (by rw [w0]; rfl)
            · simp only [if_neg h4]
              rw [w64_ (by omega) (by omega)]
              refine ih (i + 1) _ (by omega) ?_ (Nat.lcm_pos hn (by omega)) (by omega) he'
              rw [List.take_succ_eq_append_getElem hil]
              simp only [bad, List.any_append] at hb ⊢
              rw [hb]
              simp [hc, hp]
        · have hbad' : bad l = false := by simpa using hbad
          have lp : 0 < lcms 1 (per l) := lcms_pos _ _ (by omega) (fun q hq => (per_pos hl hbad' q hq).1)
          simp only [signalboxlaw43_whole.j1]
          by_cases hg : l[i].f1 > 4096
          · simp only [decide_eq_true hg, if_true]
            have := Nat.le_of_dvd lp dv
            exact T.eq (by rw [big (by omega)]; rfl)
          · simp only [decide_eq_false hg, Bool.false_eq_true, if_false]
            rw [hp']
            refine T.bind (rlcm_T n p hn (by omega) hn1 (by omega)) ?_
            have ge := lcms_ge (per (l.drop (i + 1))) (Nat.lcm n p) (Nat.lcm_pos hn (by omega)) (fun q hq => tl q hq hbad')
            by_cases h4 : (Nat.lcm n p : Int) > 4096
            · simp only [if_pos h4]
              exact T.eq (by rw [big (by omega)]; rfl)
            · simp only [if_neg h4]
              rw [w64_ (by omega) (by omega)]
              refine ih (i + 1) _ (by omega) ?_ (Nat.lcm_pos hn (by omega)) (by omega) he'
              rw [List.take_succ_eq_append_getElem hil]
              simp only [bad, List.any_append] at hb ⊢
              rw [hb]
              simp [hc, hp]
theorem rwhole_T {l : List S34} (hl : Ok l) : T (fun k => signalboxlaw43_whole.f k l) (wholeS l : Int) := rwhole_l hl l.length 0 1 (by omega) rfl (by omega) (by omega) rfl
end Go.Proofs.Ytindegbbcdloiaa.Pure
end
section
namespace Go.Proofs.Ytindegbbcdloiaa.Pure
open Go.RowKit Go.Proofs.Ytindegbbcdloiaa.P Go.Proofs.YtindegbbcdloiaaW.Tell Go.Proofs.YtindegbbcdloiaaW.PrintWords Go.Proofs.Ytindegbbcdloiaa
def fitsS (f : Nat) (x : S34) : Bool := decide (x.f0 ≤ f) && decide (2 * (f : Int) ≤ x.f1 + (Nat.gcd f x.f1.toNat : Int))
def suitsS (l : List S34) (f : Nat) : Bool := decide (wholeS l ≠ 0) && decide (f ≠ 0) && decide (wholeS l % f = 0) && l.all (fitsS f)
theorem wholeS_le (l : List S34) : wholeS l ≤ 4096 := by
  unfold wholeS
  split
  · omega
  · split <;> omega
/-- slices.IndexFunc with a test that always tells -/
theorem index_l (g : S34 → Option Bool) (b : S34 → Bool) (l : List S34) (hl : l.length ≤ 12) (hg : ∀ x ∈ l, g x = some (b x)) : ∀ (m i : Nat), i + m = l.length →
    ∃ r : Int, T (fun k => cyclic_Item_21.l0 k l g (l.length : Int) i) r ∧ decide (r ≥ 0) = (l.drop i).any b := by
  intro m
  induction m with
  | zero =>
    intro i hi
    have h1 : ¬ ((i : Int) < (l.length : Int)) := by omega
    refine ⟨-1, T.succ ?_, ?_⟩
    · simp only [cyclic_Item_21.l0, if_neg h1]
      exact T.pure
    · rw [List.drop_of_length_le (by omega)]
      rfl
  | succ m ih =>
    intro i hi
    have h1 : (i : Int) < (l.length : Int) := by omega
    have h2 : (0 : Int) ≤ (i : Int) := by omega
    have hil : i < l.length := by omega
    have hx := hg l[i] (List.getElem_mem hil)
    rw [List.drop_eq_getElem_cons hil, List.any_cons]
    have e : rd_T34 l (i : Int) = l[i] := rd34_at (i := (i : Int)) (by simpa using hil)
    by_cases hb : b l[i] = true
    · refine ⟨i, T.succ ?_, by simp [hb]⟩
      simp only [cyclic_Item_21.l0, if_pos h1, if_pos h2, e]
      rw [show g ⟨l[i].f0, l[i].f1⟩ = some true from hx.trans (by rw [hb])]
      exact T.pure
    · obtain ⟨r, h3, h4⟩ := ih (i + 1) (by omega)
      have hb' : b l[i] = false := by simpa using hb
      refine ⟨r, T.succ ?_, by rw [h4, hb']; rfl⟩
      simp only [cyclic_Item_21.l0, if_pos h1, if_pos h2, e]
      rw [show g ⟨l[i].f0, l[i].f1⟩ = some false from hx.trans (by rw [hb'])]
      rw [w64_ (by omega) (by omega)]
      exact h3
theorem contains_T (g : S34 → Option Bool) (b : S34 → Bool) (l : List S34) (hl : l.length ≤ 12) (hg : ∀ x ∈ l, g x = some (b x)) : T (fun k => cyclic_Item_14.f k l g) (l.any b) := by
  obtain ⟨r, h1, h2⟩ := index_l g b l hl hg l.length 0 (by omega)
  unfold cyclic_Item_14.f cyclic_Item_21.f
  exact T.bind h1 (T.eq h2)
theorem suitsFn (f : Nat) (hf0 : 0 < f) (hf : f ≤ 4096) (x : S34) (h0 : 0 ≤ x.f1) : cyclic_Suits.fn f x = some (!fitsS f x) := by
  unfold cyclic_Suits.fn
  refine T.evs (fun k => cyclic_Suits_1.mono _ _ k) ?_
  obtain ⟨p, hp⟩ := natOf h0
  unfold cyclic_Suits_1.f fitsS
  rw [hp]
  by_cases h1 : (f : Int) < x.f0
  · simp only [if_pos h1]
    refine T.eq ?_
    rw [decide_eq_false (show ¬ (x.f0 ≤ (f : Int)) by omega)]
    rfl
  · simp only [if_neg h1]
    refine T.bind (gcd_T f p) (T.eq ?_)
    have hg : Nat.gcd f p ≤ f := Nat.le_of_dvd hf0 (Nat.gcd_dvd_left f p)
    rw [decide_eq_true (show x.f0 ≤ (f : Int) by omega), show ((p : Nat) : Int).toNat = p by omega]
    generalize Nat.gcd f p = g at *
    rw [u64_ (n := 2 * (f : Int)) (by omega) (by omega), u64_ (by omega) (by omega)]
    by_cases h2 : 2 * (f : Int) ≤ (p : Int) + (g : Int)
    · rw [decide_eq_true h2, decide_eq_false (by omega)]
      rfl
    · rw [decide_eq_false h2, decide_eq_true (by omega)]
      rfl
theorem any_not (l : List S34) (b : S34 → Bool) : (!(l.any fun x => !b x)) = l.all b := by
  induction l with
  | nil => rfl
  | cons x l ih => rw [List.any_cons, List.all_cons, ← ih]; cases b x <;> simp
theorem tmod_nat (a b : Nat) : Int.tmod (a : Int) (b : Int) = ((a % b : Nat) : Int) := by rw [Int.tmod_eq_emod_of_nonneg (by omega)]; simp
theorem tdiv_nat (a b : Nat) : Int.tdiv (a : Int) (b : Int) = ((a / b : Nat) : Int) := by rw [Int.tdiv_eq_ediv_of_nonneg (by omega)]; simp
theorem suits_T {l : List S34} (hl : Ok l) (f : Nat) : T (fun k => cyclic_Suits.f k l f) (suitsS l f) := by
  unfold cyclic_Suits.f
  refine T.bind (whole_T hl) ?_
  unfold suitsS
  have hw := wholeS_le l
  by_cases h1 : wholeS l = 0
  · have h1' : (wholeS l : Int) = 0 := by omega
    simp only [if_pos h1']
    exact T.eq (by simp [h1])
  · have h1' : ¬ ((wholeS l : Int) = 0) := by omega
    simp only [if_neg h1']
    by_cases h2 : f = 0
    · have h2' : (f : Int) = 0 := by omega
      simp only [if_pos h2']
      exact T.eq (by simp [h2])
    · have h2' : ¬ ((f : Int) = 0) := by omega
      simp only [if_neg h2', tmod_nat]
      by_cases h3 : wholeS l % f = 0
      · have h3' : ((wholeS l % f : Nat) : Int) = 0 := by omega
        simp only [if_pos h3']
        have hd : f ≤ 4096 := Nat.le_trans (Nat.le_of_dvd (by omega) (Nat.dvd_of_mod_eq_zero h3)) hw
        refine T.bind (contains_T (cyclic_Suits.fn f) (fun x => !fitsS f x) l hl.1 (fun x hx => suitsFn f (by omega) hd x (hl.2 x hx).2.1)) (T.eq ?_)
        rw [any_not, decide_eq_true h1, decide_eq_true h2, decide_eq_true h3]
        simp
      · have h3' : ¬ (((wholeS l % f : Nat) : Int) = 0) := by omega
        simp only [if_neg h3']
        exact T.eq (by simp [h3])
theorem rsuits_l {l : List S34} (hl : Ok l) (f : Nat) (hf0 : 0 < f) (hf : f ≤ 4096) (hp : ∀ x ∈ l, x.f1 ≤ 4096) : ∀ (m i : Nat), i + m = l.length → T (fun k => signalboxlaw43_suits.l0 k f l (l.length : Int) i) ((l.drop i).all (fitsS f)) := by
  have hl1 := hl.1
  intro m
  induction m with
  | zero =>
    intro i hi
    refine T.succ ?_
    have h1 : ¬ ((i : Int) < (l.length : Int)) := by omega
    simp only [signalboxlaw43_suits.l0, if_neg h1]
    rw [List.drop_of_length_le (by omega)]
    exact T.pure
  | succ m ih =>
    intro i hi
    refine T.succ ?_
    have h1 : (i : Int) < (l.length : Int) := by omega
    have h2 : (0 : Int) ≤ (i : Int) := by omega
    have hil : i < l.length := by omega
    have e : rd_T34 l (i : Int) = l[i] := rd34_at (i := (i : Int)) (by simpa using hil)
    obtain ⟨⟨c0, c1⟩, p0, p1⟩ := hl.2 l[i] (List.getElem_mem hil)
    have pm := hp l[i] (List.getElem_mem hil)
    simp only [signalboxlaw43_suits.l0, if_pos h1, if_pos h2, e]
    rw [List.drop_eq_getElem_cons hil, List.all_cons]
    unfold fitsS
    obtain ⟨p, hp'⟩ := natOf p0
    rw [hp'] at pm ⊢
    by_cases h3 : l[i].f0 > (f : Int)
    · simp only [if_pos h3]
      refine T.eq ?_
      rw [decide_eq_false (show ¬ (l[i].f0 ≤ (f : Int)) by omega)]
      rfl
    · simp only [if_neg h3]
      refine T.bind (rgcd_T f p) ?_
      have hg : Nat.gcd f p ≤ f := Nat.le_of_dvd hf0 (Nat.gcd_dvd_left f p)
      rw [decide_eq_true (show l[i].f0 ≤ (f : Int) by omega), show ((p : Nat) : Int).toNat = p by omega]
      have := ih (i + 1) (by omega)
      generalize Nat.gcd f p = g at *
      rw [u64_ (n := 2 * (f : Int)) (by omega) (by omega), u64_ (by omega) (by omega)]
      by_cases h4 : 2 * (f : Int) > (p : Int) + (g : Int)
      · simp only [if_pos h4]
        refine T.eq ?_
        rw [decide_eq_false (by omega)]
        rfl
      · simp only [if_neg h4]
        rw [decide_eq_true (by omega), w64_ (by omega) (by omega), Bool.true_and, Bool.true_and]
        exact this
theorem rsuits_T {l : List S34} (hl : Ok l) (f : Nat) (hfm : f < 18446744073709551616) : T (fun k => signalboxlaw43_suits.f k l f) (suitsS l f) := by
  unfold signalboxlaw43_suits.f
  refine T.bind (rwhole_T hl) ?_
  have hw := wholeS_le l
  unfold suitsS
  have fin : ∀ b : Bool, T (fun k => signalboxlaw43_suits.j0 k l f true) false := by
    intro _
    refine T.succ ?_
    simp only [signalboxlaw43_suits.j0]
    exact T.pure
  by_cases h1 : wholeS l = 0
  · have h1' : (wholeS l : Int) = 0 := by omega
    simp only [if_pos h1']
    rw [show decide (wholeS l ≠ 0) = false by simp [h1]]
    exact fin true
  · have h1' : ¬ ((wholeS l : Int) = 0) := by omega
    simp only [if_neg h1']
    by_cases h2 : f = 0
    · have h2' : (f : Int) = 0 := by omega
      simp only [if_pos h2']
      rw [show decide (f ≠ 0) = false by simp [h2], Bool.and_false]
      exact fin true
    · have h2' : ¬ ((f : Int) = 0) := by omega
      simp only [if_neg h2', tmod_nat]
      by_cases h5 : (f : Int) > (wholeS l : Int)
      · simp only [if_pos h5]
        rw [show decide (wholeS l % f = 0) = false by rw [Nat.mod_eq_of_lt (by omega)]; simp [h1], Bool.and_false]
        exact fin true
      · simp only [if_neg h5]
        by_cases h3 : wholeS l % f = 0
        · have h3' : ((((wholeS l % f : Nat) : Int)) != 0) = false := by simp; omega
          rw [h3', decide_eq_true h1, decide_eq_true h2, decide_eq_true h3]
          refine T.succ ?_
          simp only [signalboxlaw43_suits.j0, Bool.false_eq_true, if_false]
          have hb : bad l = false := by
            cases hb : bad l with
            | false => rfl
            | true => exact absurd (by unfold wholeS; rw [hb, Bool.or_true]; rfl) h1
          have he : l.isEmpty = false := by
            cases he : l.isEmpty with
            | false => rfl
            | true => exact absurd (by unfold wholeS; rw [he]; rfl) h1
          have hlm : lcms 1 (per l) ≤ 4096 := by
            refine Decidable.byContradiction fun hn => h1 ?_
            unfold wholeS
            rw [hb, he, if_neg (by simp), if_neg hn]
          have := rsuits_l hl f (by omega) (by omega) (fun x hx => by
            have h6 := Nat.le_of_dvd (lcms_pos (per l) 1 (by omega) (fun q hq => (per_pos hl hb q hq).1)) ((lcms_dvd (per l) 1).2 x.f1.toNat (List.mem_map.2 ⟨x, hx, rfl⟩))
            have := (hl.2 x hx).2.1
            omega) l.length 0 (by omega)
          exact this
        · have h3' : ((((wholeS l % f : Nat) : Int)) != 0) = true := by simp; omega
          rw [h3', decide_eq_false h3]
          simp only [Bool.and_false, Bool.false_and]
          exact fin true
/-- Those that suit, from x on, n of them asked. -/
def sizesS (l : List S34) (x n : Nat) : List Nat := (List.range' x n).filter fun f => suitsS l f
theorem sizes_l {l : List S34} (hl : Ok l) : ∀ (n x : Nat) (acc : List Int), x + n = wholeS l + 1 → acc.length + n < 17592186044416 →
    T (fun k => cyclic_Sizes.l0 k l acc x) (acc ++ (sizesS l x n).map Int.ofNat) := by
  have hw := wholeS_le l
  intro n
  induction n with
  | zero =>
    intro x acc hx ha
    refine T.succ ?_
    simp only [cyclic_Sizes.l0]
    refine T.bind (whole_T hl) ?_
    have h1 : ¬ ((x : Int) ≤ (wholeS l : Int)) := by omega
    simp only [if_neg h1]
    exact T.eq (by simp [sizesS])
  | succ n ih =>
    intro x acc hx ha
    refine T.succ ?_
    simp only [cyclic_Sizes.l0]
    refine T.bind (whole_T hl) ?_
    have h1 : (x : Int) ≤ (wholeS l : Int) := by omega
    simp only [if_pos h1]
    refine T.bind (suits_T hl x) ?_
    rw [u64_ (by omega) (by omega)]
    have e : sizesS l x (n + 1) = (if suitsS l x then [x] else []) ++ sizesS l (x + 1) n := by
      unfold sizesS
      rw [List.range'_succ, List.filter_cons]
      split <;> simp
    rw [e]
    cases hs : suitsS l x with
    | true =>
      have h2 : acc.length < 17592186044416 := by omega
      simp only [if_true, if_pos h2]
      have := ih (x + 1) (acc ++ [(x : Int)]) (by omega) (by simp; omega)
      simpa using this
    | false =>
      simp only [Bool.false_eq_true, if_false]
      have := ih (x + 1) acc (by omega) (by omega)
      simpa using this
theorem sizes_T {l : List S34} (hl : Ok l) : T (fun k => cyclic_Sizes.f k l) ((sizesS l 1 (wholeS l)).map Int.ofNat) := by
  have hw := wholeS_le l
  have := sizes_l hl (wholeS l) 1 [] (by omega) (by simp; omega)
  exact this
theorem sizesLaw_l {l : List S34} (hl : Ok l) (got : List Nat) (hgl : got.length < 9223372036854775807) : ∀ (n x i : Nat), x + n = wholeS l + 1 → i ≤ got.length → got.drop i = sizesS l x n →
    T (fun k => signalboxlaw43_CyclicSizes.l0 k l (got.map Int.ofNat) i x) true := by
  have hw := wholeS_le l
  intro n
  induction n with
  | zero =>
    intro x i hx hi hd
    refine T.succ ?_
    simp only [signalboxlaw43_CyclicSizes.l0]
    refine T.bind (rwhole_T hl) ?_
    have h1 : ¬ ((x : Int) ≤ (wholeS l : Int)) := by omega
    simp only [if_neg h1]
    refine T.eq ?_
    have : got.length ≤ i := by
      have := congrArg List.length hd
      simp [sizesS] at this
      omega
    simp
    omega
  | succ n ih =>
    intro x i hx hi hd
    refine T.succ ?_
    simp only [signalboxlaw43_CyclicSizes.l0]
    refine T.bind (rwhole_T hl) ?_
    have h1 : (x : Int) ≤ (wholeS l : Int) := by omega
    simp only [if_pos h1]
    refine T.bind (rsuits_T hl x (by omega)) ?_
    rw [u64_ (by omega) (by omega)]
    have e : sizesS l x (n + 1) = (if suitsS l x then [x] else []) ++ sizesS l (x + 1) n := by
      unfold sizesS
      rw [List.range'_succ, List.filter_cons]
      split <;> simp
    rw [e] at hd
    cases hs : suitsS l x with
    | true =>
      rw [hs] at hd
      have hil : i < got.length := by
        have := congrArg List.length hd
        simp at this
        omega
      rw [List.drop_eq_getElem_cons hil] at hd
      simp only [if_true, List.singleton_append, List.cons.injEq] at hd
      have h2 : ¬ ((i : Int) ≥ ((got.map Int.ofNat).length : Int)) := by simp; omega
      have h3 : (0 : Int) ≤ (i : Int) := by omega
      have h4 : (i : Int) < ((got.map Int.ofNat).length : Int) := by simp; omega
      have h5 : rd (got.map Int.ofNat) (i : Int) = (x : Int) := by rw [rd_at (by simpa using hil)]; simp [hd.1]
      simp only [if_true, if_neg h2, if_pos h3, if_pos h4, if_pos h5]
      rw [w64_ (by omega) (by omega)]
      exact ih (x + 1) (i + 1) (by omega) (by omega) hd.2
    | false =>
      rw [hs] at hd
      simp only [Bool.false_eq_true, if_false]
      exact ih (x + 1) i (by omega) hi (by simpa using hd)
theorem sizesLaw {l : List S34} (hl : Ok l) (f : Nat) (hf : f < 18446744073709551616) (hx : T (fun k => signalboxlaw43_fixed.f k) true) : T (fun k => signalboxlaw43_CyclicSizes.f k l f) true := by
  have hw := wholeS_le l
  unfold signalboxlaw43_CyclicSizes.f
  refine T.bind hx ?_
  have h1 : ¬ ((l.length : Int) > 12) := by have := hl.1; omega
  simp only [if_true, if_neg h1]
  refine T.bind (suits_T hl f) (T.bind (rsuits_T hl f hf) ?_)
  simp only [bne_self_eq_false, Bool.false_eq_true, if_false]
  refine T.bind (sizes_T hl) ?_
  have hg : (sizesS l 1 (wholeS l)).length ≤ wholeS l := by
    unfold sizesS
    exact Nat.le_trans (List.length_filter_le _ _) (by simp)
  exact sizesLaw_l hl (sizesS l 1 (wholeS l)) (by omega) (wholeS l) 1 0 (by omega) (by omega) rfl
end Go.Proofs.Ytindegbbcdloiaa.Pure
end
section
namespace Go.Proofs.Ytindegbbcdloiaa.P
instance : DecidableEq S44 := fun a b =>
  if h : a.f0 = b.f0 ∧ a.f1 = b.f1 ∧ a.f2 = b.f2 then isTrue (by cases a; cases b; simp_all) else isFalse (by rintro rfl; exact h ⟨rfl, rfl, rfl⟩)
end Go.Proofs.Ytindegbbcdloiaa.P
namespace Go.Proofs.Ytindegbbcdloiaa.Pure
open Go.RowKit Go.Proofs.Ytindegbbcdloiaa.P Go.Proofs.YtindegbbcdloiaaW.Tell Go.Proofs.YtindegbbcdloiaaW.PrintWords Go.Proofs.Ytindegbbcdloiaa
theorem rd44_at {xs : List S44} {i : Int} (h : i.toNat < xs.length) : rd_T44 xs i = xs[i.toNat] := by simp [rd_T44, h]
theorem rdL6_at {xs : List (List Int)} {i : Int} (h : i.toNat < xs.length) : rd_L6 xs i = xs[i.toNat] := by simp [rd_L6, h]
def relS (f i : Nat) (x : S34) : Nat := i * f / x.f1.toNat * x.f1.toNat
def itemOk (l : List S34) (f i : Nat) (who : Int) : Bool := decide (0 ≤ who ∧ who < (l.length : Int)) && decide (((i * f + f : Nat) : Int) ≤ (relS f i (rd_T34 l who) : Int) + (rd_T34 l who).f1)
def placeS (l : List S34) (f i : Nat) (who : Int) : S44 := ⟨who, (relS f i (rd_T34 l who) : Int), (relS f i (rd_T34 l who) : Int) + (rd_T34 l who).f1⟩
def costS (l : List S34) : List Int → Int
  | [] => 0
  | who :: r => (rd_T34 l who).f0 + costS l r
def frameOk (l : List S34) (f i : Nat) (fr : List Int) : Bool := fr.all (itemOk l f i) && decide (costS l fr ≤ (f : Int))
def framesOk (l : List S34) (f : Nat) : Nat → List (List Int) → Bool
  | _, [] => true
  | i, fr :: t => frameOk l f i fr && framesOk l f (i + 1) t
def places (l : List S34) (f : Nat) : Nat → List (List Int) → List S44
  | _, [] => []
  | i, fr :: t => fr.map (placeS l f i) ++ places l f (i + 1) t
def checkS (l : List S34) (f : Nat) (t : List (List Int)) (W : List S44) : Bool :=
  suitsS l f && decide (t.length = wholeS l / f) && framesOk l f 0 t && W.all fun w => decide ((places l f 0 t).count w = 1)
/-- What is so where a frame suits. -/
structure Fit (l : List S34) (f : Nat) : Prop where
  ok : Ok l
  f0 : 0 < f
  fm : f ≤ 4096
  w0 : 0 < wholeS l
  dv : f ∣ wholeS l
  it : ∀ x ∈ l, 0 < x.f0 ∧ x.f0 ≤ f ∧ 0 < x.f1 ∧ x.f1 ≤ 4096 ∧ x.f1.toNat ∣ wholeS l ∧ 2 * (f : Int) ≤ x.f1 + (Nat.gcd f x.f1.toNat : Int)
theorem fit_of {l : List S34} (hl : Ok l) {f : Nat} (h : suitsS l f = true) : Fit l f := by
  have hw := wholeS_le l
  unfold suitsS at h
  simp only [Bool.and_eq_true, decide_eq_true_eq] at h
  obtain ⟨⟨⟨h1, h2⟩, h3⟩, h4⟩ := h
  have hb : bad l = false := by
    cases hb : bad l with
    | false => rfl
    | true => exact absurd (by unfold wholeS; rw [hb, Bool.or_true]; rfl) h1
  have he : l.isEmpty = false := by
    cases he : l.isEmpty with
    | false => rfl
    | true => exact absurd (by unfold wholeS; rw [he]; rfl) h1
  have hlm : lcms 1 (per l) ≤ 4096 := by
    refine Decidable.byContradiction fun hn => h1 ?_
    unfold wholeS
    rw [hb, he, if_neg (by simp), if_neg hn]
  have hweq : wholeS l = lcms 1 (per l) := by
    unfold wholeS
    rw [hb, he, if_neg (by simp), if_pos hlm]
  have hd := Nat.dvd_of_mod_eq_zero h3
  refine ⟨hl, by omega, Nat.le_trans (Nat.le_of_dvd (by omega) hd) hw, by omega, hd, fun x hx => ?_⟩
  have hf := List.all_eq_true.1 h4 x hx
  simp only [fitsS, Bool.and_eq_true, decide_eq_true_eq] at hf
  have hx2 := hl.2 x hx
  have hbx := List.any_eq_false.1 hb x hx
  simp at hbx
  have dv : x.f1.toNat ∣ wholeS l := by rw [hweq]; exact (lcms_dvd (per l) 1).2 x.f1.toNat (List.mem_map.2 ⟨x, hx, rfl⟩)
  have := Nat.le_of_dvd (by omega) dv
  exact ⟨by omega, hf.1, by omega, by omega, dv, hf.2⟩
def MRep (m : M44) (ps : List S44) : Prop := (∀ w, m.1 w = (ps.count w : Int)) ∧ m.2 = ps.length
theorem MRep.new : MRep M44.new [] := ⟨fun w => by simp [M44.new], rfl⟩
theorem MRep.put {m : M44} {ps : List S44} (h : MRep m ps) (hl : ps.length < 1000000) (s : S44) : MRep (m.put s (wrap64 (m.1 s + 1))) (ps ++ [s]) := by
  have hc : ps.count s ≤ ps.length := List.count_le_length
  rw [w64_ (by rw [h.1]; omega) (by rw [h.1]; omega)]
  refine ⟨fun w => ?_, by simp [M44.put, h.2]⟩
  by_cases hw : w = s
  · subst hw
    rw [M44.put_same, h.1]
    simp
  · rw [M44.put_other _ _ hw, h.1]
    have : ¬ (s = w) := fun e => hw e.symm
    simp [this]
theorem l2_T (W : List S44) (hW : W.length < 1000000) (hwf : ∀ w ∈ W, wf44 w = true) (m : M44) : ∀ (n j : Nat), j + n = W.length → T (fun k => cyclic_Check.l2 k W (W.length : Int) j m) ((W.drop j).all fun w => decide (m.1 w = 1)) := by
  intro n
  induction n with
  | zero =>
    intro j hj
    refine T.succ ?_
    have h1 : ¬ ((j : Int) < (W.length : Int)) := by omega
    simp only [cyclic_Check.l2, if_neg h1]
    rw [List.drop_of_length_le (by omega)]
    exact T.pure
  | succ n ih =>
    intro j hj
    refine T.succ ?_
    have h1 : (j : Int) < (W.length : Int) := by omega
    have h2 : (0 : Int) ≤ (j : Int) := by omega
    have hjl : j < W.length := by omega
    have e : rd_T44 W (j : Int) = W[j] := rd44_at (i := (j : Int)) (by simpa using hjl)
    simp only [cyclic_Check.l2, if_pos h1, if_pos h2, e, if_pos (hwf _ (List.getElem_mem hjl))]
    rw [List.drop_eq_getElem_cons hjl, List.all_cons]
    by_cases h3 : m.1 W[j] = 1
    · simp only [if_pos h3]
      rw [decide_eq_true h3, Bool.true_and, w64_ (by omega) (by omega)]
      exact ih (j + 1) (by omega)
    · simp only [if_neg h3]
      rw [decide_eq_false h3, Bool.false_and]
      exact T.pure
theorem rd34_mem {l : List S34} {who : Int} (h0 : 0 ≤ who) (h1 : who < (l.length : Int)) : rd_T34 l who ∈ l := by
  rw [rd34_at (by omega)]
  exact List.getElem_mem _
/-- One frame. -/
theorem l1_T {l : List S34} {f : Nat} (hF : Fit l f) (t : List (List Int)) (i : Nat) (hi : i < 4096) (fr : List Int) (hfr : fr.length < 100000) (r : Bool) :
    ∀ (n j : Nat) (x : Int) (m : M44) (ps : List S44), j + n = fr.length → MRep m ps → ps.length + n < 1000000 → 0 ≤ x → x ≤ 4096 * j →
      (∀ m', (fr.drop j).all (itemOk l f i) = true → x + costS l (fr.drop j) ≤ (f : Int) → MRep m' (ps ++ (fr.drop j).map (placeS l f i)) → T (fun k => cyclic_Check.l0 k l f t (t.length : Int) (wrap64 ((i : Int) + 1)) m') r) →
      T (fun k => cyclic_Check.l1 k l f i x t (t.length : Int) i fr (fr.length : Int) j m) ((fr.drop j).all (itemOk l f i) && decide (x + costS l (fr.drop j) ≤ (f : Int)) && r) := by
  have hf0 := hF.f0
  have hfm := hF.fm
  have hl := hF.ok.1
  intro n
  induction n with
  | zero =>
    intro j x m ps hj hm hps hx0 hx1 hc
    refine T.succ ?_
    have h1 : ¬ ((j : Int) < (fr.length : Int)) := by omega
    simp only [cyclic_Check.l1, if_neg h1]
    rw [List.drop_of_length_le (by omega)] at hc ⊢
    by_cases h2 : x > (f : Int)
    · simp only [if_pos h2]
      rw [decide_eq_false (by simp [costS]; omega)]
      exact T.eq (by simp)
    · simp only [if_neg h2]
      rw [decide_eq_true (by simp [costS]; omega)]
      have := hc m rfl (by simp [costS]; omega) (by simpa using hm)
      simpa using this
  | succ n ih =>
    intro j x m ps hj hm hps hx0 hx1 hc
    refine T.succ ?_
    have h1 : (j : Int) < (fr.length : Int) := by omega
    have h2 : (0 : Int) ≤ (j : Int) := by omega
    have hjl : j < fr.length := by omega
    have e : rd fr (j : Int) = fr[j] := rd_at (i := (j : Int)) (by simpa using hjl)
    simp only [cyclic_Check.l1, if_pos h1, if_pos h2, e]
    rw [List.drop_eq_getElem_cons hjl] at hc ⊢
    generalize fr[j] = who at *
    rw [List.all_cons] at hc ⊢
    have stop : itemOk l f i who = false → T (fun k => some false) (itemOk l f i who && (fr.drop (j + 1)).all (itemOk l f i) && decide (x + costS l (who :: fr.drop (j + 1)) ≤ (f : Int)) && r) := by
      intro h
      rw [h]
      exact T.eq (by simp)
    by_cases hr0 : who < 0
    · simp only [if_pos hr0]
      refine T.succ ?_
      simp only [cyclic_Check.j3, if_true]
      refine stop ?_
      unfold itemOk
      rw [decide_eq_false (by omega), Bool.false_and]
    · simp only [if_neg hr0]
      refine T.succ ?_
      by_cases hr1 : who ≥ (l.length : Int)
      · simp only [cyclic_Check.j3, decide_eq_true hr1, if_true]
        refine stop ?_
        unfold itemOk
        rw [decide_eq_false (by omega), Bool.false_and]
      · have g0 : 0 ≤ who := by omega
        have g1 : who < (l.length : Int) := by omega
        obtain ⟨c0, cf, p0, p1, pd, _⟩ := hF.it _ (rd34_mem g0 g1)
        have g2 : ¬ ((rd_T34 l who).f1 = 0) := by omega
        simp only [cyclic_Check.j3, decide_eq_false hr1, Bool.false_eq_true, if_false, if_pos g0, if_pos g1, if_neg g2]
        obtain ⟨p, hp⟩ := natOf (Int.le_of_lt p0)
        have hif : i * f ≤ 4096 * 4096 := Nat.mul_le_mul (by omega) hfm
        have hrel : i * f / p * p ≤ i * f := Nat.div_mul_le_self _ _
        have hrq : i * f / p ≤ i * f := Nat.div_le_self _ _
        have e1 : IntKind.u64.wrap (IntKind.u64.wrap (i : Int) * (f : Int)) = ((i * f : Nat) : Int) := by
          rw [u64_ (n := (i : Int)) (by omega) (by omega)]
          have : (i : Int) * (f : Int) = ((i * f : Nat) : Int) := by simp
          rw [this, u64_ (by omega) (by omega)]
        have e2 : IntKind.u64.wrap (IntKind.u64.wrap (Int.tdiv ((i * f : Nat) : Int) (p : Int)) * (p : Int)) = ((i * f / p * p : Nat) : Int) := by
          rw [tdiv_nat]
          have : ((i * f / p : Nat) : Int) * (p : Int) = ((i * f / p * p : Nat) : Int) := by simp
          generalize i * f / p = q at *
          rw [u64_ (n := ((q : Nat) : Int)) (by omega) (by omega), this, u64_ (by omega) (by omega)]
        have e3 : (rd_T34 l who).f1.toNat = p := by omega
        have epl : placeS l f i who = ⟨who, ((i * f / p * p : Nat) : Int), ((i * f / p * p : Nat) : Int) + (p : Int)⟩ := by
          unfold placeS relS
          rw [e3, hp]
        have eok : itemOk l f i who = decide (((i * f + f : Nat) : Int) ≤ ((i * f / p * p : Nat) : Int) + (p : Int)) := by
          unfold itemOk relS
          rw [e3, hp, decide_eq_true (show 0 ≤ who ∧ who < (l.length : Int) from ⟨g0, g1⟩), Bool.true_and]
        rw [hp] at p1
        simp only [hp, e1, e2]
        generalize hR : i * f / p * p = R at *
        generalize hB : i * f = B at *
        have e4 : IntKind.u64.wrap ((B : Int) + (f : Int)) = ((B + f : Nat) : Int) := by rw [u64_ (by omega) (by omega)]; omega
        have e5 : IntKind.u64.wrap ((R : Int) + (p : Int)) = (R : Int) + (p : Int) := u64_ (by omega) (by omega)
        simp only [e4, e5]
        by_cases g3 : ((B + f : Nat) : Int) > (R : Int) + (p : Int)
        · simp only [if_pos g3]
          refine stop ?_
          rw [eok, decide_eq_false (by omega)]
        · have g4 : m.2 < 1099511627776 := by rw [hm.2]; omega
          have g5 : wf44 ⟨who, (R : Int), (R : Int) + (p : Int)⟩ = true := by
            unfold wf44
            simp only [Bool.and_eq_true]
            exact ⟨⟨wf_i64.2 (by omega), wf_u64.2 (by omega)⟩, wf_u64.2 (by omega)⟩
          simp only [if_neg g3, if_pos g4, if_pos g5]
          have hok : itemOk l f i who = true := by rw [eok, decide_eq_true (by omega)]
          rw [hok, Bool.true_and]
          have hcost : costS l (who :: fr.drop (j + 1)) = (rd_T34 l who).f0 + costS l (fr.drop (j + 1)) := rfl
          rw [u64_ (n := x + (rd_T34 l who).f0) (by omega) (by omega), w64_ (n := (j : Int) + 1) (by omega) (by omega), hcost, ← Int.add_assoc]
          refine ih (j + 1) (x + (rd_T34 l who).f0) _ (ps ++ [placeS l f i who]) (by omega) ?_ (by simp; omega) (by omega) (by omega) ?_
          · rw [epl]
            exact hm.put (by omega) _
          · intro m' ha hb hm'
            refine hc m' (by rw [hok, ha]; rfl) (by rw [hcost]; omega) ?_
            simpa using hm'

/-- All frames, and the works behind. -/
theorem l0_T {l : List S34} {f : Nat} (hF : Fit l f) (t : List (List Int)) (ht : t.length ≤ 4096) (hfr : ∀ fr ∈ t, fr.length < 100000) (W : List S44) (hW : W.length < 1000000) (hwf : ∀ w ∈ W, wf44 w = true) (hT : T (fun k => cyclic_works.f k l) W) :
    ∀ (n i : Nat) (m : M44) (ps : List S44), i + n = t.length → MRep m ps → ps.length + ((t.drop i).map List.length).sum < 1000000 →
      T (fun k => cyclic_Check.l0 k l f t (t.length : Int) i m) (framesOk l f i (t.drop i) && W.all fun w => decide ((ps ++ places l f i (t.drop i)).count w = 1)) := by
  intro n
  induction n with
  | zero =>
    intro i m ps hi hm hps
    refine T.succ ?_
    have h1 : ¬ ((i : Int) < (t.length : Int)) := by omega
    simp only [cyclic_Check.l0, if_neg h1]
    rw [List.drop_of_length_le (by omega)]
    refine T.bind hT ?_
    have := l2_T W hW hwf m W.length 0 (by omega)
    simp only [framesOk, places, List.append_nil, Bool.true_and]
    have e : (W.all fun w => decide (ps.count w = 1)) = ((W.drop 0).all fun w => decide (m.1 w = 1)) := by
      rw [List.drop_zero]
      congr 1
      funext w
      rw [hm.1]
      by_cases h : ps.count w = 1
      · rw [decide_eq_true h, decide_eq_true (by omega)]
      · rw [decide_eq_false h, decide_eq_false (by omega)]
    rw [e]
    exact this
  | succ n ih =>
    intro i m ps hi hm hps
    refine T.succ ?_
    have h1 : (i : Int) < (t.length : Int) := by omega
    have h2 : (0 : Int) ≤ (i : Int) := by omega
    have hil : i < t.length := by omega
    have e : rd_L6 t (i : Int) = t[i] := rdL6_at (i := (i : Int)) (by simpa using hil)
    have hfrl := hfr _ (List.getElem_mem hil)
    simp only [cyclic_Check.l0, if_pos h1, if_pos h2, e]
    rw [List.drop_eq_getElem_cons hil] at hps ⊢
    simp only [List.map_cons, List.sum_cons] at hps
    generalize t[i] = fr at *
    have key := l1_T hF t i (by omega) fr hfrl (framesOk l f (i + 1) (t.drop (i + 1)) && W.all fun w => decide (((ps ++ fr.map (placeS l f i)) ++ places l f (i + 1) (t.drop (i + 1))).count w = 1)) fr.length 0 0 m ps (by omega) hm (by omega) (by omega) (by omega)
      (fun m' ha hb hm' => by
        rw [w64_ (by omega) (by omega)]
        rw [List.drop_zero] at hm'
        exact ih (i + 1) m' _ (by omega) hm' (by simp only [List.length_append, List.length_map]; omega))
    simp only [framesOk, places, frameOk]
    simp only [List.drop_zero, Int.zero_add] at key
    rw [List.append_assoc] at key
    simp only [Bool.and_assoc] at key ⊢
    exact key

theorem check_T {l : List S34} (hl : Ok l) (f : Nat) (t : List (List Int)) (htl : t.length < 1000000) (hfr : ∀ fr ∈ t, fr.length < 100000) (hts : (t.map List.length).sum < 1000000) (W : List S44) (hW : W.length < 1000000) (hwf : ∀ w ∈ W, wf44 w = true)
    (hT : suitsS l f = true → T (fun k => cyclic_works.f k l) W) : T (fun k => cyclic_Check.f k l f t) (checkS l f t W) := by
  unfold cyclic_Check.f checkS
  refine T.bind (suits_T hl f) ?_
  cases hs : suitsS l f with
  | false =>
    simp only [Bool.false_eq_true, if_false, Bool.false_and]
    refine T.succ ?_
    simp only [cyclic_Check.j0, if_true]
    exact T.pure
  | true =>
    have hF := fit_of hl hs
    have hf0 := hF.f0
    simp only [if_true, Bool.true_and]
    refine T.bind (whole_T hl) ?_
    have h1 : ¬ ((f : Int) = 0) := by omega
    simp only [if_neg h1, tdiv_nat]
    have hw := wholeS_le l
    have hq : wholeS l / f ≤ wholeS l := Nat.div_le_self _ _
    rw [u64_ (n := ((t.length : Nat) : Int)) (by omega) (by omega)]
    generalize wholeS l / f = q at *
    rw [u64_ (by omega) (by omega)]
    refine T.succ ?_
    by_cases h2 : t.length = q
    · have h3 : ((t.length : Int) != (q : Int)) = false := by simp; omega
      simp only [cyclic_Check.j0, h3, Bool.false_eq_true, if_false]
      rw [decide_eq_true h2, Bool.true_and]
      exact l0_T hF t (by omega) hfr W hW hwf (hT hs) t.length 0 M44.new [] (by omega) MRep.new (by simpa using hts)
    · have h3 : ((t.length : Int) != (q : Int)) = true := by simp; omega
      simp only [cyclic_Check.j0, h3, if_true]
      rw [decide_eq_false h2, Bool.false_and, Bool.false_and]
      exact T.pure
end Go.Proofs.Ytindegbbcdloiaa.Pure
end
section
namespace Go.Proofs.Ytindegbbcdloiaa.Pure
open Go.RowKit Go.Proofs.Ytindegbbcdloiaa.P Go.Proofs.YtindegbbcdloiaaW.Tell Go.Proofs.YtindegbbcdloiaaW.PrintWords Go.Proofs.Ytindegbbcdloiaa
/-- How the works are ordered: by end, then by item. -/
def cmpS (p q : S44) : Int := if p.f2 < q.f2 then -1 else if p.f2 > q.f2 then 1 else if p.f0 < q.f0 then -1 else if p.f0 > q.f0 then 1 else 0
theorem cmp_u (a b : Int) : cmp_Compare_uint64.f a b = some (if a < b then -1 else if a > b then 1 else 0) := by
  unfold cmp_Compare_uint64.f cmp_isNaN_uint64.f
  simp only [bne_self_eq_false, Option.bind_some, Bool.false_eq_true, if_false]
  split
  · rfl
  · split <;> rfl
theorem cmp_i (a b : Int) : cmp_Compare_int.f a b = some (if a < b then -1 else if a > b then 1 else 0) := by
  unfold cmp_Compare_int.f cmp_isNaN_int.f
  simp only [bne_self_eq_false, Option.bind_some, Bool.false_eq_true, if_false]
  split
  · rfl
  · split <;> rfl
theorem or2 (a b : Int) : T (fun k => cmp_Or_int.f k [a, b]) (if a = 0 then b else a) := by
  unfold cmp_Or_int.f
  refine T.succ ?_
  have h1 : (0 : Int) < (([a, b] : List Int).length : Int) := by simp
  have e0 : rd [a, b] 0 = a := rfl
  have e1 : rd [a, b] 1 = b := rfl
  simp only [cmp_Or_int.l0, if_pos h1, if_pos (Int.le_refl 0), e0]
  by_cases ha : a = 0
  · simp only [if_pos ha]
    refine T.succ ?_
    have w1 : wrap64 (0 + 1) = 1 := w64_ (by omega) (by omega)
    have h2 : (1 : Int) < (([a, b] : List Int).length : Int) := by simp
    have h3 : (0 : Int) ≤ 1 := by decide
    simp only [cmp_Or_int.l0, w1, if_pos h2, if_pos h3, e1]
    by_cases hb : b = 0
    · simp only [if_pos hb]
      refine T.succ ?_
      have w2 : wrap64 (1 + 1) = 2 := w64_ (by omega) (by omega)
      have h4 : ¬ ((2 : Int) < (([a, b] : List Int).length : Int)) := by simp
      simp only [cmp_Or_int.l0, w2, if_neg h4]
      exact T.eq hb.symm
    · simp only [if_neg hb]
      exact T.pure
  · simp only [if_neg ha]
    exact T.pure
theorem cmpFn : (fun p0_ p1_ : S44 => Fn.evs fun k_ => cyclic_works_1.f k_ p0_.f0 p0_.f1 p0_.f2 p1_.f0 p1_.f1 p1_.f2) = fun p q => some (cmpS p q) := by
  funext p q
  refine T.evs (fun k => cyclic_works_1.mono _ _ _ _ _ _ k) ?_
  unfold cyclic_works_1.f
  rw [cmp_u, cmp_i]
  simp only [Option.bind_some]
  refine T.bind (or2 _ _) (T.eq ?_)
  unfold cmpS
  by_cases h1 : p.f2 < q.f2
  · rw [if_pos h1, if_pos h1]
    rfl
  · rw [if_neg h1, if_neg h1]
    by_cases h2 : p.f2 > q.f2
    · rw [if_pos h2, if_pos h2]
      rfl
    · rw [if_neg h2, if_neg h2]
      rfl
def rels (i p : Nat) : Nat → Nat → List S44
  | _, 0 => []
  | j, m + 1 => ⟨i, (j * p : Nat), (j * p : Nat) + (p : Int)⟩ :: rels i p (j + 1) m
def gen (n : Nat) : Nat → List S34 → List S44
  | _, [] => []
  | i, x :: r => rels i x.f1.toNat 0 (n / x.f1.toNat) ++ gen n (i + 1) r
theorem rels_len (i p : Nat) : ∀ m j, (rels i p j m).length = m := by
  intro m
  induction m with
  | zero => exact fun _ => rfl
  | succ m ih => exact fun j => by simp [rels, ih]
/-- What is so where there is a whole. -/
structure Has (l : List S34) : Prop where
  ok : Ok l
  w0 : 0 < wholeS l
  it : ∀ x ∈ l, 0 < x.f0 ∧ 0 < x.f1 ∧ x.f1 ≤ 4096 ∧ x.f1.toNat ∣ wholeS l
theorem has_of_fit {l : List S34} {f : Nat} (h : Fit l f) : Has l := ⟨h.ok, h.w0, fun x hx => by have := h.it x hx; exact ⟨this.1, this.2.2.1, this.2.2.2.1, this.2.2.2.2.1⟩⟩
theorem rels_T {l : List S34} (n i : Nat) (hn : n ≤ 4096) (p : Nat) (hp0 : 0 < p) (hp1 : p ≤ 4096) (hd : p ∣ n) (c : Int) (R : List S44) : ∀ (m j : Nat) (acc : List S44), j + m = n / p → acc.length + m < 1000000 →
    T (fun k => cyclic_works.l0 k n (acc ++ rels i p j m) l (l.length : Int) (wrap64 ((i : Int) + 1))) R → T (fun k => cyclic_works.l1 k n acc i ((j * p : Nat) : Int) l (l.length : Int) i c p) R := by
  have hnp : n / p * p = n := Nat.div_mul_cancel hd
  intro m
  induction m with
  | zero =>
    intro j acc hj ha hc
    refine T.succ ?_
    have e : j * p = n := by rw [show j = n / p by omega]; exact hnp
    rw [e]
    have h1 : ¬ ((n : Int) < (n : Int)) := by omega
    simp only [cyclic_works.l1, if_neg h1]
    simpa [rels] using hc
  | succ m ih =>
    intro j acc hj ha hc
    refine T.succ ?_
    have e2 : (j + 1) * p ≤ n := by rw [← hnp]; exact Nat.mul_le_mul_right _ (by omega)
    have e3 : (j + 1) * p = j * p + p := by rw [Nat.add_mul, Nat.one_mul]
    have h1 : ((j * p : Nat) : Int) < (n : Int) := by omega
    have h2 : acc.length < 5864062014805 := by omega
    simp only [cyclic_works.l1, if_pos h1, if_pos h2]
    have e4 : IntKind.u64.wrap (((j * p : Nat) : Int) + (p : Int)) = (((j + 1) * p : Nat) : Int) := by rw [u64_ (by omega) (by omega), e3]; omega
    rw [e4]
    refine ih (j + 1) _ (by omega) (by simp; omega) ?_
    have e5 : (((j + 1) * p : Nat) : Int) = ((j * p : Nat) : Int) + (p : Int) := by omega
    simpa [rels, e5] using hc
theorem works_l {l : List S34} (h : Has l) (W : List S44) (hW : T (fun k => cyclic_work_23.f k (gen (wholeS l) 0 l) fun p q => some (cmpS p q)) W) : ∀ (m i : Nat) (acc : List S44), i + m = l.length → acc.length ≤ 4096 * i → acc ++ gen (wholeS l) i (l.drop i) = gen (wholeS l) 0 l →
    T (fun k => cyclic_works.l0 k (wholeS l) acc l (l.length : Int) i) W := by
  have hw := wholeS_le l
  have hl := h.ok.1
  intro m
  induction m with
  | zero =>
    intro i acc hi ha he
    refine T.succ ?_
    have h1 : ¬ ((i : Int) < (l.length : Int)) := by omega
    simp only [cyclic_works.l0, if_neg h1, cmpFn]
    rw [List.drop_of_length_le (by omega)] at he
    simp only [gen, List.append_nil] at he
    rw [he]
    exact T.bind hW T.pure
  | succ m ih =>
    intro i acc hi ha he
    refine T.succ ?_
    have h1 : (i : Int) < (l.length : Int) := by omega
    have h2 : (0 : Int) ≤ (i : Int) := by omega
    have hil : i < l.length := by omega
    have e : rd_T34 l (i : Int) = l[i] := rd34_at (i := (i : Int)) (by simpa using hil)
    simp only [cyclic_works.l0, if_pos h1, if_pos h2, e]
    obtain ⟨c0, p0, p1, pd⟩ := h.it _ (List.getElem_mem hil)
    rw [List.drop_eq_getElem_cons hil] at he
    obtain ⟨p, hp⟩ := natOf (Int.le_of_lt p0)
    have hp2 : l[i].f1.toNat = p := by omega
    simp only [gen, hp2] at he
    rw [hp2] at pd
    rw [hp] at p0 p1 ⊢
    have hq : wholeS l / p ≤ wholeS l := Nat.div_le_self _ _
    have := rels_T (l := l) (wholeS l) i hw p (by omega) (by omega) pd l[i].f0 W (wholeS l / p) 0 acc (by omega) (by omega) (by
      rw [w64_ (by omega) (by omega)]
      exact ih (i + 1) _ (by omega) (by simp only [List.length_append, rels_len]; omega) (by rw [← he, List.append_assoc]))
    simpa using this
theorem works_T {l : List S34} (h : Has l) (W : List S44) (hW : T (fun k => cyclic_work_23.f k (gen (wholeS l) 0 l) fun p q => some (cmpS p q)) W) : T (fun k => cyclic_works.f k l) W := by
  unfold cyclic_works.f
  exact T.bind (whole_T h.ok) (works_l h W hW l.length 0 [] (by omega) (by simp) rfl)
def items0 : List S34 := [⟨1, 4⟩, ⟨2, 8⟩]
def works0 : List S44 := [⟨0, 0, 4⟩, ⟨0, 4, 8⟩, ⟨1, 0, 8⟩]
theorem ok0 : Ok items0 := ⟨by decide, by decide⟩
theorem fit0 : Fit items0 4 := fit_of ok0 (by decide)
theorem works0_T : T (fun k => cyclic_works.f k items0) works0 := by
  refine works_T (has_of_fit fit0) works0 ?_
  have e : gen (wholeS items0) 0 items0 = works0 := by decide
  rw [e]
  exact T.of_mono (fun k => cyclic_work_23.mono _ _ k) (k := 30) (by kernel_rfl)
theorem table0_T : T (fun k => cyclic_Table.f k items0 4) ([[0, 1], [0]], true) := by
  unfold cyclic_Table.f
  have s4 : suitsS items0 4 = true := by decide
  refine T.bind (show T _ true from s4 ▸ suits_T ok0 4) ?_
  simp only [if_true]
  have w : wholeS items0 = 8 := by decide
  refine T.bind (show T _ ((8 : Nat) : Int) from w ▸ whole_T ok0) ?_
  have e1 : ¬ ((4 : Int) = 0) := by decide
  have e2 : IntKind.u64.wrap (Int.tdiv ((8 : Nat) : Int) 4) = 2 := by rfl
  have e3 : (0 : Int) ≤ 2 := by decide
  have e4 : (2 : Int).toNat ≤ 11728124029610 := by decide
  simp only [if_neg e1, e2, if_pos e3, if_pos e4, Option.bind_some]
  have e5 : List.replicate (2 : Int).toNat ([] : List Int) = [[], []] := by rfl
  have e6 : (0 : Int) ≤ (([[], []] : List (List Int)).length : Int) := by decide
  have e7 : ((([[], []] : List (List Int)).length : Int)).toNat ≤ 35184372088832 := by decide
  simp only [e5, if_pos e6, if_pos e7]
  refine T.bind works0_T ?_
  exact T.of_mono (fun k => (cyclic_Table.mono_l k).1 _ _ _ _ _ _ _) (k := 30) (by kernel_rfl)
theorem fixed_T : T (fun k => signalboxlaw43_fixed.f k) true := by
  unfold signalboxlaw43_fixed.f
  simp only [Option.bind_some]
  refine T.bind table0_T ?_
  have hz : (sizesS items0 1 (wholeS items0)).map Int.ofNat = [2, 4] := by decide
  refine T.bind (show T _ [2, 4] from hz ▸ sizes_T ok0) ?_
  have hwf : ∀ w ∈ works0, wf44 w = true := by decide
  have c1 : checkS items0 4 [[0, 1], [0]] works0 = true := by decide
  have c2 : checkS items0 4 [] works0 = false := by decide
  have k1 := check_T ok0 4 [[0, 1], [0]] (by decide) (by decide) (by decide) works0 (by decide) hwf (fun _ => works0_T)
  have k2 := check_T ok0 4 [] (by decide) (by decide) (by decide) works0 (by decide) hwf (fun _ => works0_T)
  rw [c1] at k1
  rw [c2] at k2
  have s2 : suitsS items0 2 = true := by decide
  have s8 : suitsS items0 8 = false := by decide
  have u2 := suits_T ok0 2
  have u8 := suits_T ok0 8
  rw [s2] at u2
  rw [s8] at u8
  have r0 : rd_L6 [[0, 1], [0]] 0 = [0, 1] := rfl
  have r1 : rd_L6 [[0, 1], [0]] 1 = [0] := rfl
  have r2 : rd [0] 0 = 0 := rfl
  have r3 : rd [2, 4] 0 = 2 := rfl
  simp only [if_true, r0, r1, r2, r3, List.length_cons, List.length_nil]
  have n2 : ((0 + 1 + 1 : Nat) : Int) = 2 := rfl
  have n1 : ((0 + 1 : Nat) : Int) = 1 := rfl
  have d0 : (0 : Int) < 2 := by decide
  have d1 : (1 : Int) < 2 := by decide
  have d2 : (0 : Int) < 1 := by decide
  simp only [n2, n1, if_pos d0, if_pos d1, if_pos d2, if_true]
  refine T.bind k1 ?_
  simp only [if_true]
  refine T.bind u2 ?_
  simp only [if_true]
  refine T.bind u8 ?_
  simp only [Bool.false_eq_true, if_false]
  exact T.bind k2 T.pure
end Go.Proofs.Ytindegbbcdloiaa.Pure
end
section
namespace Go.Proofs.Ytindegbbcdloiaa.Pure
open Go.RowKit Go.Proofs.Ytindegbbcdloiaa.P Go.Proofs.YtindegbbcdloiaaW.Tell Go.Proofs.YtindegbbcdloiaaW.PrintWords Go.Proofs.Ytindegbbcdloiaa
theorem ok_of {l0 : List S34} (h : l0.length ≤ 12) (hw : ∀ x ∈ l0, ((Lit.int .u64 x.f0).wf = true ∧ (Lit.int .u64 x.f1).wf = true)) : Ok l0 :=
  ⟨h, fun x hx => ⟨wf_u64.1 (hw x hx).1, wf_u64.1 (hw x hx).2⟩⟩
theorem CyclicSizes : ∀ (l0 : (List S34)) (a1 : Int), l0.length ≤ maxLen → l0.length * 16 ≤ 140737488351232 → (∀ x ∈ l0, ((Lit.int .u64 x.f0).wf = true ∧ (Lit.int .u64 x.f1).wf = true)) → (Lit.int .u64 a1).wf = true → ∃ k, signalboxlaw43_CyclicSizes.f k l0 a1 = some true := by
  intro l0 a1 _ _ hw ha
  refine T.get ?_
  by_cases h : l0.length ≤ 12
  · have ha' := wf_u64.1 ha
    obtain ⟨f, rfl⟩ := natOf ha'.1
    exact sizesLaw (ok_of h hw) f (by omega) fixed_T
  · unfold signalboxlaw43_CyclicSizes.f
    refine T.bind fixed_T ?_
    have h1 : (l0.length : Int) > 12 := by omega
    simp only [if_true, if_pos h1]
    exact T.pure
end Go.Proofs.Ytindegbbcdloiaa.Pure
end
section
namespace Go.Proofs.YtindegbbcdloiaaW.Open
open Go.ChangeShapes Go.WideShapes Go.Deep Go.Proofs.YtindegbbcdloiaaW.PrintWords
section
variable {H : Type} {enc : TypeId × Value → H} {P : Program} {W : World} {base : Nat} {spare : Nat → Bool} {held : Bool}
/-- What is trodden at type t is a value of the kind d for which ok holds. -/
def Opens (enc : TypeId × Value → H) (P : Program) (W : World) (base : Nat) (spare : Nat → Bool) (held : Bool) {α : Type} (t : TypeId) (d : Kd α) (ok : α → Prop) : Prop :=
  ∀ (fuel : Nat) (cs : List Value) (x : DataW H × List MemPlace), DataW.trod enc P W base spare held fuel t cs = some x → ∃ v, d.K W v cs ∧ ok v

theorem Opens.int {t : TypeId} {k : IntKind} (ht : P.underlying t = some (.int k)) : Opens enc P W base spare held t (Kd.int k) (fun n => (Lit.int k n).wf = true) := by
  intro fuel cs x hx
  obtain ⟨n, rfl, _, hw⟩ := DataW.trod_int ht hx
  exact ⟨n, rfl, hw⟩
theorem choose_list {α : Type} {p : Nat → α → Prop} : ∀ {n : Nat}, (∀ i, i < n → ∃ v, p i v) → ∃ l : List α, l.length = n ∧ ∀ i v, l[i]? = some v → p i v := by
  intro n
  induction n with
  | zero => exact fun _ => ⟨[], rfl, fun i v h => by simp at h⟩
  | succ n ih =>
    intro h
    obtain ⟨l, hl, hp⟩ := ih fun i hi => h i (by omega)
    obtain ⟨v, hv⟩ := h n (by omega)
    refine ⟨l ++ [v], by simp [hl], fun i u hu => ?_⟩
    by_cases hi : i < l.length
    · rw [List.getElem?_append_left hi] at hu
      exact hp i u hu
    · rw [List.getElem?_append_right (by omega)] at hu
      by_cases h0 : i - l.length = 0
      · rw [h0] at hu
        obtain rfl : v = u := by simpa using hu
        rw [show i = n by omega]
        exact hv
      · rw [List.getElem?_eq_none (by simp; omega)] at hu
        exact absurd hu (by simp)
theorem Opens.slice {α : Type} {t e : TypeId} {d : Kd α} {ok : α → Prop} (ht : P.underlying t = some (.slice e)) (hc : P.cellsOf e = d.sz) (he : Opens enc P W base spare held e d ok) :
    Opens enc P W base spare held t (Kd.slice e d) (fun xs => xs.length ≤ maxLen ∧ ∀ x ∈ xs, ok x) := by
  intro fuel cs x hx
  rcases open_slice ht hx with ⟨rfl, _⟩ | ⟨a, len, cap, m, n, D, Pl, rfl, hb, hl, hm, hmm, _, hel⟩
  · exact ⟨[], ⟨none, 0, rfl, Nat.le_refl _, rfl, by simp, fun h => absurd h (by simp)⟩, Nat.zero_le _, by simp⟩
  have hlm : len ≤ m := by rw [hmm]; split <;> omega
  have each : ∀ i, i < len → ∃ v : α, ok v ∧ ∃ c, c.length = d.sz ∧ d.K W v c ∧ ∀ j u, c[j]? = some u → W.cell? (a.add (i * d.sz + j)) = some u := by
    intro i hi
    obtain ⟨cs', h1, h2⟩ := hel i (by omega)
    obtain ⟨v, hk, hv⟩ := he n cs' _ h2
    rw [hc] at h1
    obtain ⟨_, hlen, hcell⟩ := World.cells?_some h1
    refine ⟨v, hv, cs', hlen, hk, fun j u hu => ?_⟩
    have hj : j < d.sz := by have := (List.getElem?_eq_some_iff.1 hu).1; omega
    rw [← Go.Deep.add_add, hcell j hj]
    exact hu
  obtain ⟨l, hll, hp⟩ := choose_list each
  refine ⟨l, ⟨some a, cap, by rw [hll], by omega, rfl, by rw [hll]; simp only [maxLen] at hm; omega, fun _ => ⟨a, rfl, fun j p hp' => (hp j p hp').2⟩⟩, by omega, fun x hx => ?_⟩
  obtain ⟨i, hi⟩ := List.mem_iff_getElem?.1 hx
  exact (hp i x hi).1
/-- A slice's length, by its weight. -/
theorem sized_any {t e : TypeId} {a : Option Addr} {len cap : Nat} {d : DataW H} {ps : List MemPlace} {ts : List TypeId} {ds : List (DataW H)} {j : Nat}
    (hsz : (DataW.weightsEach P ts ds).all (· ≤ reachBytes) = true) (ht : ts[j]? = some t) (hd : ds[j]? = some d) (hu : P.underlying t = some (.slice e)) {B : Nat} (hB : P.bytesOf e = B)
    (h : DataW.Trod enc P W base spare held t (.slice a len cap) d ps) : len * B ≤ 140737488351232 := by
  obtain ⟨fuel, hf⟩ := h
  rcases open_slice hu hf with ⟨hcs, _⟩ | ⟨x, l, c, m, n, D, Pl, hcs, _, hl, _, hmm, hx, _⟩
  · simp [Value.cells] at hcs
    obtain ⟨rfl, rfl, rfl⟩ := hcs
    simp
  · simp [Value.cells] at hcs
    obtain ⟨rfl, rfl, rfl⟩ := hcs
    obtain ⟨hx, _⟩ := Prod.mk.inj hx
    subst hx
    have z := sized_slice hsz ht hd hu
    rw [hB] at z
    simp only [List.length_map, List.length_range] at z
    exact Nat.le_trans (Nat.mul_le_mul_right _ (by omega)) z

/-- The fields from place s on, laid at their offsets. -/
def OpensF (enc : TypeId × Value → H) (P : Program) (W : World) (base : Nat) (spare : Nat → Bool) (held : Bool) {α : Type} (fs : List Field) (s : Nat) (d : Kd α) (ok : α → Prop) : Prop :=
  ∀ (n : Nat) (cs : List Value) (xs : List (DataW H × List MemPlace)), cs.length = s + d.sz → xs.length = fs.length →
    (∀ (i : Nat) (f : Field), fs[i]? = some f → DataW.trod enc P W base spare held n f.type ((cs.drop f.offset).take (P.cellsOf f.type)) = xs[i]?) → ∃ v, d.K W v (cs.drop s) ∧ ok v

theorem OpensF.one {α : Type} {f : Field} {d : Kd α} {ok : α → Prop} (hc : P.cellsOf f.type = d.sz) (h : Opens enc P W base spare held f.type d ok) : OpensF enc P W base spare held [f] f.offset d ok := by
  intro n cs xs hl hx hf
  match xs, hx with
  | [y], _ =>
    have := hf 0 f rfl
    rw [hc, List.take_of_length_le (by rw [List.length_drop]; omega)] at this
    exact h n _ _ this
theorem OpensF.more {α β : Type} {f : Field} {fs : List Field} {s : Nat} {d : Kd α} {d' : Kd β} {ok : α → Prop} {ok' : β → Prop} (hc : P.cellsOf f.type = d.sz) (hs : f.offset + d.sz = s)
    (h : Opens enc P W base spare held f.type d ok) (h' : OpensF enc P W base spare held fs s d' ok') : OpensF enc P W base spare held (f :: fs) f.offset (Kd.pair d d') (fun v => ok v.1 ∧ ok' v.2) := by
  intro n cs xs hl hx hf
  subst hs
  match xs, hx with
  | y :: ys, hx =>
    have h0 := hf 0 f rfl
    rw [hc] at h0
    obtain ⟨v, hk, hv⟩ := h n _ _ h0
    obtain ⟨v', hk', hv'⟩ := h' n cs ys (by rw [hl]; show f.offset + (d.sz + d'.sz) = _; omega) (by simpa using hx) (fun i g hg => by simpa using hf (i + 1) g (by simpa using hg))
    refine ⟨(v, v'), ⟨_, _, ?_, hk, hk'⟩, hv, hv'⟩
    rw [← List.drop_drop, List.take_append_drop]
theorem Opens.struct {α β : Type} {t : TypeId} {fs : List Field} {d : Kd α} {ok : α → Prop} (g : β → α) (hg : ∀ v, ∃ x, g x = v) (ht : P.underlying t = some (.struct fs.toArray)) (hc : P.cellsOf t = d.sz)
    (h : OpensF enc P W base spare held fs 0 d ok) : Opens enc P W base spare held t (Kd.iso d g) (fun x => ok (g x)) := by
  intro fuel cs x hx
  obtain ⟨xs, n, _, _, hcl, hxl, hf⟩ := DataW.trod_struct ht hx
  obtain ⟨v, hk, hv⟩ := h n cs xs (by rw [hcl, hc]; omega) (by simpa using hxl) (fun i f hf' => hf i f (by simpa using hf'))
  obtain ⟨y, rfl⟩ := hg v
  exact ⟨y, hk, hv⟩
end
end Go.Proofs.YtindegbbcdloiaaW.Open
end
