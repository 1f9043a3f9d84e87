/- A part (F) of the proof that the law CyclicSizes returns true for every input: words on the printed functions, functions in plain Lean, and that the program's calls come to them. -/
import Derived.Test.YtindegbbcdloiaaZCyclicSizesE
import Derived.Maps.OwnOps
import Derived.Maps.Views
import Derived.WideKeyEntry
import Derived.DeepKeys4
section
namespace Go.Proofs.Ytindegbbcdloiaa.P
open Go.RowKit Go.Proofs.YtindegbbcdloiaaW.PrintWords Go.Proofs.YtindegbbcdloiaaW.PrintLast Go.Proofs.YtindegbbcdloiaaW.PrintMore
set_option linter.unusedVariables false
set_option linter.unusedSimpArgs false
/-! ### cyclic_Table: function 11 -/
mutual
noncomputable def cyclic_Table.l0 : Nat → List (S34) → Int → List (List Int) → List Int → List (S44) → Int → Int → Option ((List (List Int)) × Bool)
 | 0, _, _, _, _, _, _, _ => none
 | k + 1, x0, x1, x6, x7, x24, x25, x26 => if x26 < x25 then (if 0 ≤ x26 then (if x26 < (x24.length : Int) then (if x1 = 0 then (none) else (cyclic_Table.l1 k x0 x1 x6 x7 (IntKind.u64.wrap (Int.tdiv (IntKind.u64.wrap ((IntKind.u64.wrap (((rd_T44 x24 x26).f1) + x1)) - 1)) x1)) x24 x25 x26 ((rd_T44 x24 x26).f0) ((rd_T44 x24 x26).f1) ((rd_T44 x24 x26).f2))) else (none)) else (none)) else (some (x6, true))
noncomputable def cyclic_Table.l1 : Nat → List (S34) → Int → List (List Int) → List Int → Int → List (S44) → Int → Int → Int → Int → Int → Option ((List (List Int)) × Bool)
 | 0, _, _, _, _, _, _, _, _, _, _, _ => none
 | k + 1, x0, x1, x6, x7, x10, x24, x25, x26, x114000, x114001, x114002 => if (IntKind.u64.wrap ((IntKind.u64.wrap (x10 + 1)) * x1)) ≤ x114002 then (if 0 ≤ x10 then (if x10 < (x7.length : Int) then (if 0 ≤ x114000 then (if x114000 < (x0.length : Int) then (if (IntKind.u64.wrap ((rd x7 x10) + ((rd_T34 x0 x114000).f0))) > x1 then (cyclic_Table.l1 k x0 x1 x6 x7 (IntKind.u64.wrap (x10 + 1)) x24 x25 x26 x114000 x114001 x114002) else (if (IntKind.u64.wrap ((IntKind.u64.wrap (x10 + 1)) * x1)) > x114002 then (some (([] : List (List Int)), false)) else (if x10 < (x6.length : Int) then (if (rd_L6 x6 x10).length < 17592186044416 then (cyclic_Table.l0 k x0 x1 (x6.set (x10 : Int).toNat ((rd_L6 x6 x10) ++ [x114000])) (x7.set (x10 : Int).toNat (IntKind.u64.wrap ((rd x7 x10) + ((rd_T34 x0 x114000).f0)))) x24 x25 (wrap64 (x26 + 1))) else (none)) else (none)))) else (none)) else (none)) else (none)) else (none)) else (if (IntKind.u64.wrap ((IntKind.u64.wrap (x10 + 1)) * x1)) > x114002 then (some (([] : List (List Int)), false)) else (if 0 ≤ x10 then (if x10 < (x7.length : Int) then (if 0 ≤ x114000 then (if x114000 < (x0.length : Int) then (if x10 < (x6.length : Int) then (if (rd_L6 x6 x10).length < 17592186044416 then (cyclic_Table.l0 k x0 x1 (x6.set (x10 : Int).toNat ((rd_L6 x6 x10) ++ [x114000])) (x7.set (x10 : Int).toNat (IntKind.u64.wrap ((rd x7 x10) + ((rd_T34 x0 x114000).f0)))) x24 x25 (wrap64 (x26 + 1))) else (none)) else (none)) else (none)) else (none)) else (none)) else (none)))
end
noncomputable def cyclic_Table.f (k : Nat) (l0 : List (S34)) (a1 : Int) : Option ((List (List Int)) × Bool) := (cyclic_Suits.f k l0 a1).bind fun t101 => (if t101 = true then ((cyclic_whole.f k l0).bind fun t102 => (if a1 = 0 then (none) else (if 0 ≤ (IntKind.u64.wrap (Int.tdiv t102 a1)) then (if (IntKind.u64.wrap (Int.tdiv t102 a1) : Int).toNat ≤ 11728124029610 then ((some (List.replicate (IntKind.u64.wrap (Int.tdiv t102 a1) : Int).toNat [] : List (List Int))).bind fun y103 => (if 0 ≤ (y103.length : Int) then (if ((y103.length : Int) : Int).toNat ≤ 35184372088832 then ((cyclic_works.f k l0).bind fun t109 => (cyclic_Table.l0 k l0 a1 y103 (List.replicate ((y103.length : Int) : Int).toNat 0) t109 (t109.length : Int) 0)) else (none)) else (none))) else (none)) else (none)))) else (some (([] : List (List Int)), false)))
theorem cyclic_Table.mono_l : ∀ k, (∀ y0 y1 y2 y3 y4 y5 y6, LeO (cyclic_Table.l0 k y0 y1 y2 y3 y4 y5 y6) (cyclic_Table.l0 (k + 1) y0 y1 y2 y3 y4 y5 y6)) ∧ (∀ y0 y1 y2 y3 y4 y5 y6 y7 y8 y9 y10, LeO (cyclic_Table.l1 k y0 y1 y2 y3 y4 y5 y6 y7 y8 y9 y10) (cyclic_Table.l1 (k + 1) y0 y1 y2 y3 y4 y5 y6 y7 y8 y9 y10))
 | 0 => ⟨fun _ _ _ _ _ _ _ r h => by simp [cyclic_Table.l0] at h, fun _ _ _ _ _ _ _ _ _ _ _ r h => by simp [cyclic_Table.l1] at h⟩
 | k + 1 => by
  obtain ⟨ih0, ih1⟩ := cyclic_Table.mono_l k
  refine ⟨?_, ?_⟩
  · intro y0 y1 y2 y3 y4 y5 y6
    unfold cyclic_Table.l0
    repeat' first
    | (with_reducible exact ih0 _ _ _ _ _ _ _)
    | (with_reducible exact ih1 _ _ _ _ _ _ _ _ _ _ _)
    | (with_reducible exact cyclic_Suits.mono _ _ _)
    | (with_reducible exact cyclic_whole.mono _ _)
    | (with_reducible exact cyclic_works.mono _ _)
    | (with_reducible exact LeO.refl _)
    | (with_reducible exact LeO.none _)
    | (with_reducible refine LeO.ite ?_ ?_)
    | (with_reducible refine LeO.bind ?_ (fun _ => ?_))
    | exact ih0 _ _ _ _ _ _ _
    | exact ih1 _ _ _ _ _ _ _ _ _ _ _
    | exact cyclic_Suits.mono _ _ _
    | exact cyclic_whole.mono _ _
    | exact cyclic_works.mono _ _
    | exact LeO.none _
    | refine LeO.ite ?_ ?_
    | refine LeO.bind ?_ (fun _ => ?_)
  · intro y0 y1 y2 y3 y4 y5 y6 y7 y8 y9 y10
    unfold cyclic_Table.l1
    repeat' first
    | (with_reducible exact ih0 _ _ _ _ _ _ _)
    | (with_reducible exact ih1 _ _ _ _ _ _ _ _ _ _ _)
    | (with_reducible exact cyclic_Suits.mono _ _ _)
    | (with_reducible exact cyclic_whole.mono _ _)
    | (with_reducible exact cyclic_works.mono _ _)
    | (with_reducible exact LeO.refl _)
    | (with_reducible exact LeO.none _)
    | (with_reducible refine LeO.ite ?_ ?_)
    | (with_reducible refine LeO.bind ?_ (fun _ => ?_))
    | exact ih0 _ _ _ _ _ _ _
    | exact ih1 _ _ _ _ _ _ _ _ _ _ _
    | exact cyclic_Suits.mono _ _ _
    | exact cyclic_whole.mono _ _
    | exact cyclic_works.mono _ _
    | exact LeO.none _
    | refine LeO.ite ?_ ?_
    | refine LeO.bind ?_ (fun _ => ?_)
def cyclic_Table.T9 : Bool × List (List Nat × List Nat) := (true, [([], []), ([0], [0]), ([], []), ([1, 2], [1, 2]), ([], []), ([4], [4]), ([3, 5], [3, 5]), ([6], [6]), ([7], [7]), ([7], [7]), ([8, 9, 7], [7, 8, 9]), ([10, 7], [7, 10]), ([7], [7]), ([7], [7]), ([13, 7], [7, 13]), ([12, 14, 7], [7, 12, 14]), ([15, 7], [7, 15]), ([16, 7], [7, 16]), ([11, 17, 7], [7, 11, 17]), ([7], [7]), ([18, 19, 7], [7, 18, 19]), ([7, 20], [7, 20])])
def cyclic_Table.B9 : List Nat := [0, 1, 0, 7, 0, 16, 63, 127, 255, 255, 1023, 2047, 255, 255, 8447, 28927, 61695, 127231, 262143, 255, 1048575, 2097151]
theorem cyclic_Table.tab9 : rtab .any (opsOf Try.f11 9) = cyclic_Table.T9 := by kernel_rfl
theorem cyclic_Table.bits9 : waitsOk cyclic_Table.T9.2 cyclic_Table.B9 = true := by kernel_rfl
def cyclic_Table.T13 : Bool × List (List Nat × List Nat) := (true, [([], []), ([], []), ([0, 1], [0, 1]), ([2], [2]), ([], []), ([], []), ([5], [5]), ([4, 6], [4, 6]), ([7], [7]), ([8], [8]), ([3, 9], [3, 9]), ([0, 1, 0, 1, 2, 3, 4, 5, 6, 7, 8, 9, 10], [0, 1]), ([11, 10, 0, 1, 2, 3, 4, 5, 6, 7, 8, 9, 10], [10, 11])])
def cyclic_Table.B13 : List Nat := [0, 0, 3, 7, 0, 0, 32, 112, 240, 496, 1023, 2047, 4095]
theorem cyclic_Table.tab13 : rtab .any (opsOf Try.f11 13) = cyclic_Table.T13 := by kernel_rfl
theorem cyclic_Table.bits13 : waitsOk cyclic_Table.T13.2 cyclic_Table.B13 = true := by kernel_rfl
def cyclic_Table.T14 : Bool × List (List Nat × List Nat) := (true, [([], []), ([], []), ([], []), ([], []), ([2, 3], [2, 3]), ([4], [4]), ([], []), ([6], [6]), ([7], [7]), ([5, 8], [5, 8]), ([0, 1, 0, 1, 2, 3, 4, 5, 6, 7, 8, 9], [0, 1]), ([10, 9, 9, 0, 1, 2, 3, 4, 5, 6, 7, 8, 9], [9, 10])])
def cyclic_Table.B14 : List Nat := [0, 0, 0, 0, 12, 28, 0, 64, 192, 508, 1023, 2047]
theorem cyclic_Table.tab14 : rtab .any (opsOf Try.f11 14) = cyclic_Table.T14 := by kernel_rfl
theorem cyclic_Table.bits14 : waitsOk cyclic_Table.T14.2 cyclic_Table.B14 = true := by kernel_rfl
set_option maxHeartbeats 8000000 in
set_option maxRecDepth 100000 in
theorem cyclic_Table.calls (k : Nat) (A0 : Option Addr) (c0 : Nat) (l0 : List (S34)) (a1 : Int) (r1 : List (List Int)) (r2 : Bool) (w : World) (hr0 : Kd.C k34 w A0 l0.length l0) (hc0 : l0.length ≤ c0) (h : cyclic_Table.f k l0 a1 = some (r1, r2)) :
 Calls Try.prog 11 #[.slice A0 l0.length c0, .int .u64 a1] w fun e w' => ∃ v0_ : Value, e = .returned (.tuple #[v0_, .bool r2]) ∧ Kd.S (Kd.slice 3 (Kd.int .i64)) 35 w' w.heap.size (fun _ => True) v0_ r1 ∧ Below w.heap.size w w' := by
 have hu44 := Try.underlying44
 have HR0 := Aside0.mk hr0
 have HC0 := Aside0.mk hc0
 clear hr0 hc0
 have HB := Aside0.mk (Below.refl w.heap.size w)
 have H : ((cyclic_Suits.f k l0 a1).bind fun t101 => (if t101 = true then ((cyclic_whole.f k l0).bind fun t102 => (if a1 = 0 then (none) else (if 0 ≤ (IntKind.u64.wrap (Int.tdiv t102 a1)) then (if (IntKind.u64.wrap (Int.tdiv t102 a1) : Int).toNat ≤ 11728124029610 then ((some (List.replicate (IntKind.u64.wrap (Int.tdiv t102 a1) : Int).toNat [] : List (List Int))).bind fun y103 => (if 0 ≤ (y103.length : Int) then (if ((y103.length : Int) : Int).toNat ≤ 35184372088832 then ((cyclic_works.f k l0).bind fun t109 => (cyclic_Table.l0 k l0 a1 y103 (List.replicate ((y103.length : Int) : Int).toNat 0) t109 (t109.length : Int) 0)) else (none)) else (none))) else (none)) else (none)))) else (some (([] : List (List Int)), false)))) = some (r1, r2) := h
 clear h
 replace H := Option.bind_eq_some_iff.mp H
 obtain ⟨t101, A30, H⟩ := H
 replace H : (if t101 = true then ((cyclic_whole.f k l0).bind fun t102 => (if a1 = 0 then (none) else (if 0 ≤ (IntKind.u64.wrap (Int.tdiv t102 a1)) then (if (IntKind.u64.wrap (Int.tdiv t102 a1) : Int).toNat ≤ 11728124029610 then ((some (List.replicate (IntKind.u64.wrap (Int.tdiv t102 a1) : Int).toNat [] : List (List Int))).bind fun y103 => (if 0 ≤ (y103.length : Int) then (if ((y103.length : Int) : Int).toNat ≤ 35184372088832 then ((cyclic_works.f k l0).bind fun t109 => (cyclic_Table.l0 k l0 a1 y103 (List.replicate ((y103.length : Int) : Int).toNat 0) t109 (t109.length : Int) 0)) else (none)) else (none))) else (none)) else (none)))) else (some (([] : List (List Int)), false))) = some (r1, r2) := H
 have A3 := Aside0.mk A30
 clear A30
 by_cases c4 : t101 = true
 · subst c4
   have H1 : ((cyclic_whole.f k l0).bind fun t102 => (if a1 = 0 then (none) else (if 0 ≤ (IntKind.u64.wrap (Int.tdiv t102 a1)) then (if (IntKind.u64.wrap (Int.tdiv t102 a1) : Int).toNat ≤ 11728124029610 then ((some (List.replicate (IntKind.u64.wrap (Int.tdiv t102 a1) : Int).toNat [] : List (List Int))).bind fun y103 => (if 0 ≤ (y103.length : Int) then (if ((y103.length : Int) : Int).toNat ≤ 35184372088832 then ((cyclic_works.f k l0).bind fun t109 => (cyclic_Table.l0 k l0 a1 y103 (List.replicate ((y103.length : Int) : Int).toNat 0) t109 (t109.length : Int) 0)) else (none)) else (none))) else (none)) else (none)))) = some (r1, r2) := by rw [if_pos rfl] at H; exact H
   clear H
   have H := H1
   clear H1
   replace H := Option.bind_eq_some_iff.mp H
   obtain ⟨t102, A50, H⟩ := H
   replace H : (if a1 = 0 then (none) else (if 0 ≤ (IntKind.u64.wrap (Int.tdiv t102 a1)) then (if (IntKind.u64.wrap (Int.tdiv t102 a1) : Int).toNat ≤ 11728124029610 then ((some (List.replicate (IntKind.u64.wrap (Int.tdiv t102 a1) : Int).toNat [] : List (List Int))).bind fun y103 => (if 0 ≤ (y103.length : Int) then (if ((y103.length : Int) : Int).toNat ≤ 35184372088832 then ((cyclic_works.f k l0).bind fun t109 => (cyclic_Table.l0 k l0 a1 y103 (List.replicate ((y103.length : Int) : Int).toNat 0) t109 (t109.length : Int) 0)) else (none)) else (none))) else (none)) else (none))) = some (r1, r2) := H
   have A5 := Aside0.mk A50
   clear A50
   by_cases c6 : a1 = 0
   · rw [if_pos c6] at H
     exact absurd H (by simp)
   · rw [if_neg c6] at H
     have c6b0 : (a1 == 0) = false := beq_eq_false_iff_ne.mpr c6
     have c6b1 : (a1 != 0) = true := bne_iff_ne.mpr c6
     obtain ⟨ji7, hji7⟩ : ∃ j_ : Int, (IntKind.u64.wrap (Int.tdiv t102 a1)) = j_ := ⟨_, rfl⟩
     replace H : (if 0 ≤ (ji7) then (if (ji7 : Int).toNat ≤ 11728124029610 then ((some (List.replicate (ji7 : Int).toNat [] : List (List Int))).bind fun y103 => (if 0 ≤ (y103.length : Int) then (if ((y103.length : Int) : Int).toNat ≤ 35184372088832 then ((cyclic_works.f k l0).bind fun t109 => (cyclic_Table.l0 k l0 a1 y103 (List.replicate ((y103.length : Int) : Int).toNat 0) t109 (t109.length : Int) 0)) else (none)) else (none))) else (none)) else (none)) = some (r1, r2) := by first | (rw [hji7] at H; exact H) | (simp only [hji7] at H ⊢; exact H)
     (try rw [hji7] at A3)
     (try rw [hji7] at A5)
     by_cases c8 : 0 ≤ (ji7)
     · rw [if_pos c8] at H
       have c8b0 := eq_true c8
       have c8b1 : decide (0 ≤ (ji7)) = true := decide_eq_true c8
       clear c8
       by_cases c9 : (ji7 : Int).toNat ≤ 11728124029610
       · rw [if_pos c9] at H
         have c9b0 := eq_true c9
         have c9b1 : decide ((ji7 : Int).toNat ≤ 11728124029610) = true := decide_eq_true c9
         clear c9
         obtain ⟨y103, hy103⟩ : ∃ y_ : List (List Int), y_ = (List.replicate (ji7 : Int).toNat []) := ⟨_, rfl⟩
         replace H : (if 0 ≤ (y103.length : Int) then (if ((y103.length : Int) : Int).toNat ≤ 35184372088832 then ((cyclic_works.f k l0).bind fun t109 => (cyclic_Table.l0 k l0 a1 y103 (List.replicate ((y103.length : Int) : Int).toNat 0) t109 (t109.length : Int) 0)) else (none)) else (none)) = some (r1, r2) := by first | (rw [hy103]; with_reducible exact H) | (have H2_ := (Option.bind_some _ _).symm.trans H; rw [hy103]; with_reducible exact H2_) | (have H2_ := (Option.bind_some _ _).symm.trans H; with_reducible exact H2_) | with_reducible exact H | (rw [hy103]; exact H) | exact H
         have Ny103 := Aside0.mk hy103
         clear hy103
         by_cases c10 : 0 ≤ (y103.length : Int)
         · rw [if_pos c10] at H
           have c10b0 := eq_true c10
           have c10b1 : decide (0 ≤ (y103.length : Int)) = true := decide_eq_true c10
           clear c10
           by_cases c11 : ((y103.length : Int) : Int).toNat ≤ 35184372088832
           · rw [if_pos c11] at H
             have c11b0 := eq_true c11
             have c11b1 : decide (((y103.length : Int) : Int).toNat ≤ 35184372088832) = true := decide_eq_true c11
             clear c11
             obtain ⟨y106, hy106⟩ : ∃ y_ : List Int, y_ = (List.replicate ((y103.length : Int) : Int).toNat 0) := ⟨_, rfl⟩
             replace H : ((cyclic_works.f k l0).bind fun t109 => (cyclic_Table.l0 k l0 a1 y103 y106 t109 (t109.length : Int) 0)) = some (r1, r2) := by first | (rw [hy106]; with_reducible exact H) | (have H2_ := (Option.bind_some _ _).symm.trans H; rw [hy106]; with_reducible exact H2_) | (have H2_ := (Option.bind_some _ _).symm.trans H; with_reducible exact H2_) | with_reducible exact H | (rw [hy106]; exact H) | exact H
             have Ny106 := Aside0.mk hy106
             clear hy106
             replace H := Option.bind_eq_some_iff.mp H
             obtain ⟨t109, A120, H⟩ := H
             replace H : (cyclic_Table.l0 k l0 a1 y103 y106 t109 (t109.length : Int) 0) = some (r1, r2) := H
             have A12 := Aside0.mk A120
             clear A120
             have H' := Aside0.mk H
             clear H
             go_enter Try.func11, Try.ntmps11
             go_wp2_with (first | ((with_reducible refine gate_callee (f := 7) rfl ?_); refine goesL_ (some 13) rfl rfl Try.func7 (by kernel_rfl) rfl #[.slice A0 l0.length c0, .int .u64 a1] rfl (by (try simp only [List.map_toArray, List.map_cons, List.map_nil]); first | done | rfl | (simp only [List.length_drop, List.length_take]; rfl)) ?_; (with_reducible refine (cyclic_Suits.calls k _ _ l0 a1 true _ ?side1 ?side2 A3.out).mono ?_); (case side1 => repeat (first | exact HR0.out | (with_reducible refine Kd.C_alloc ?_ _) | (with_reducible refine Kd.C_drewN ?_ _) | (with_reducible refine Kd.C_drew ?_))); (case side2 => exact HC0.out); rintro e w13 ⟨rfl, hb⟩; refine ⟨_, rfl, ?_⟩; have n0_ := Aside0.mk (below_step (by repeat (first | (with_reducible first | exact HB.out | apply below_alloc | apply pw_below_drewN | apply below_drew1) | exact HB.out)) hb); clear HB; have HB := n0_; clear n0_; (try clear hb); (try clear hb2); (try clear hk); (try clear hi)) | ((with_reducible refine gate_callee (f := 13) rfl ?_); refine goesL_ (some 16) rfl rfl Try.func13 (by kernel_rfl) rfl #[.slice A0 l0.length c0] rfl (by (try simp only [List.map_toArray, List.map_cons, List.map_nil]); first | done | rfl | (simp only [List.length_drop, List.length_take]; rfl)) ?_; (with_reducible refine (cyclic_whole.calls k _ _ l0 t102 _ ?side1 ?side2 A5.out).mono ?_); (case side1 => repeat (first | exact (Kd.C_below HR0.out HB.out) | (with_reducible refine Kd.C_alloc ?_ _) | (with_reducible refine Kd.C_drewN ?_ _) | (with_reducible refine Kd.C_drew ?_))); (case side2 => exact HC0.out); rintro e w14 ⟨rfl, hb⟩; refine ⟨_, rfl, ?_⟩; have n0_ := Aside0.mk (below_step (by repeat (first | (with_reducible first | exact HB.out | apply below_alloc | apply pw_below_drewN | apply below_drew1) | exact HB.out)) hb); clear HB; have HB := n0_; clear n0_; (try clear hb); (try clear hb2); (try clear hk); (try clear hi)) | ((with_reducible refine gate_dst (N := 19) rfl ?_); refine Fn.S_make_u (Kd.slice 3 (Kd.int .i64)) _ 35 rfl (N := 19) rfl 29 _ _ rfl ji7 rfl rfl Try.underlying29 (.slice none 0 0) 24 info35 rfl (by decide) (by omega) [] (ok := fun _ => True) (okp := fun _ => True) ⟨_, rfl, Kd.R_nil _ _ _ _ _⟩ (fun _ hk => hk) trivial (of_decide_eq_true (by first | (with_reducible assumption) | assumption)) (Nat.le_trans (Nat.mul_le_mul_right _ (of_decide_eq_true (by first | (with_reducible assumption) | assumption) : ji7.toNat ≤ 11728124029610)) (by omega)) (Below.refl _ _) (Nat.le_refl _) ?_; intro v104 w15 ho16 hb hg_ hnew_; clear hg_ hnew_; (first | rw [← Ny103.out] at ho16 | (simp only [Int.reduceToNat] at ho16; rw [← Ny103.out] at ho16)); have n0_ := Aside0.mk (Kd.S_lower ho16 (below_size (by repeat (first | (with_reducible first | exact HB.out | apply below_alloc | apply pw_below_drewN | apply below_drew1) | exact HB.out)))); have n1_ := Aside0.mk (below_step (by repeat (first | (with_reducible first | exact HB.out | apply below_alloc | apply pw_below_drewN | apply below_drew1) | exact HB.out)) hb); clear HB; have HO105 := n0_; have HB := n1_; clear n0_ n1_; clear hb ho16; obtain ⟨Ao17, co17, eo17⟩ := Kd.S_slice HO105.out; subst eo17) | ((with_reducible refine gate_dst (N := 22) rfl ?_); refine Kd.R_make (Kd.int .u64) _ 23 rfl (N := 22) rfl 26 _ _ rfl (y103.length : Int) rfl rfl Try.underlying26 (.int .u64 0) 8 info23 rfl (by decide) (by omega) 0 (ok := fun _ => True) (okp := fun _ => True) rfl (fun _ hk => hk) trivial (of_decide_eq_true (by first | (with_reducible assumption) | assumption)) (Nat.le_trans (Nat.mul_le_mul_right _ (of_decide_eq_true (by first | (with_reducible assumption) | assumption) : (y103.length : Int).toNat ≤ 35184372088832)) (by omega)) (Below.refl _ _) (Nat.le_refl _) ?_; intro v107 w18 ho19 hb hg_ hnew_; clear hg_ hnew_; (first | rw [← Ny106.out] at ho19 | (simp only [Int.reduceToNat] at ho19; rw [← Ny106.out] at ho19)); have n0_ := Aside0.mk (Kd.S_below (by (with_reducible repeat (first | apply Kd.S_alloc | apply Kd.S_drewN | apply Kd.S_drew)); exact HO105.out) hb); have n1_ := Aside0.mk (Kd.R_lower ho19 (below_size (by repeat (first | (with_reducible first | exact HB.out | apply below_alloc | apply pw_below_drewN | apply below_drew1) | exact HB.out)))); have n2_ := Aside0.mk (below_step (by repeat (first | (with_reducible first | exact HB.out | apply below_alloc | apply pw_below_drewN | apply below_drew1) | exact HB.out)) hb); clear HO105; clear HB; have HO105 := n0_; have HO108 := n1_; have HB := n2_; clear n0_ n1_ n2_; clear hb ho19) | ((with_reducible refine gate_callee (f := 19) rfl ?_); refine goesL_ (some 24) rfl rfl Try.func19 (by kernel_rfl) rfl #[.slice A0 l0.length c0] rfl (by (try simp only [List.map_toArray, List.map_cons, List.map_nil]); first | done | rfl | (simp only [List.length_drop, List.length_take]; rfl)) ?_; (with_reducible refine (cyclic_works.calls k _ _ l0 t109 _ ?side1 ?side2 A12.out).mono ?_); (case side1 => repeat (first | exact (Kd.C_below HR0.out HB.out) | (with_reducible refine Kd.C_alloc ?_ _) | (with_reducible refine Kd.C_drewN ?_ _) | (with_reducible refine Kd.C_drew ?_))); (case side2 => exact HC0.out); rintro e w20 ⟨v110, rfl, ho0, hb⟩; refine ⟨_, rfl, ?_⟩; have n0_ := Aside0.mk (Kd.S_below (by (with_reducible repeat (first | apply Kd.S_alloc | apply Kd.S_drewN | apply Kd.S_drew)); exact HO105.out) hb); have n1_ := Aside0.mk (Kd.R_below (by (with_reducible repeat (first | apply Kd.R_alloc | apply Kd.R_drewN | apply Kd.R_drew)); exact HO108.out) hb); have n2_ := Aside0.mk (Kd.R_lower ho0 (below_size (by repeat (first | (with_reducible first | exact HB.out | apply below_alloc | apply pw_below_drewN | apply below_drew1) | exact HB.out)))); have n3_ := Aside0.mk (below_step (by repeat (first | (with_reducible first | exact HB.out | apply below_alloc | apply pw_below_drewN | apply below_drew1) | exact HB.out)) hb); clear HO105; clear HO108; clear HB; have HO105 := n0_; have HO108 := n1_; have HO111 := n2_; have HB := n3_; clear n0_ n1_ n2_ n3_; (try clear hb); (try clear hb2); (try clear hk); (try clear hi); (try clear ho0); obtain ⟨Ao21, co21, eo21⟩ := Kd.R_slice HO111.out; subst eo21))
             (try simp only [Act.put, List.setIfInBounds_toArray, List.set_cons_zero, List.set_cons_succ])
             go_loopg [26] k (fun kq v26 w' => ∃ (x6_1 : List (List Int)) (x7_1 : List Int) (x26_1 : Int), v26 = .int .i64 x26_1 ∧ Aside0 (cyclic_Table.l0 kq l0 a1 x6_1 x7_1 t109 (t109.length : Int) x26_1 = some (r1, r2)) ∧ Aside0 (kq ≤ k) ∧ Aside0 (Kd.S (Kd.slice 3 (Kd.int .i64)) 35 w' w.heap.size (fun _ => True) (.slice Ao17 y103.length co17) x6_1) ∧ Aside0 (Kd.R (Kd.int .u64) 23 w' w.heap.size (fun _ => True) v107 x7_1) ∧ Aside0 (Kd.R k44 44 w' w.heap.size (fun _ => True) (.slice Ao21 t109.length co21) t109) ∧ Aside0 (Below w.heap.size w w'))
             case atStart => exact ⟨(y103), (y106), (0), (by first | rfl | (simp; done) | (simp [*]; done)), H', ⟨Nat.le_refl _⟩, ⟨by (with_reducible repeat (first | apply Kd.S_alloc | apply Kd.S_drewN | apply Kd.S_drew)); exact HO105.out⟩, ⟨by (with_reducible repeat (first | apply Kd.R_alloc | apply Kd.R_drewN | apply Kd.R_drew)); exact HO108.out⟩, ⟨by (with_reducible repeat (first | apply Kd.R_alloc | apply Kd.R_drewN | apply Kd.R_drew)); exact HO111.out⟩, ⟨by repeat (first | (with_reducible first | exact HB.out | apply below_alloc | apply pw_below_drewN | apply below_drew1) | exact HB.out)⟩⟩
             case round =>
              clear H'
              try clear c1
              try clear p2
              try clear c4
              try clear c6
              try clear c6b0
              try clear c6b1
              try clear c7
              try clear c8
              try clear c8b0
              try clear c8b1
              try clear c9
              try clear c9b0
              try clear c9b1
              try clear c10
              try clear c10b0
              try clear c10b1
              try clear c11
              try clear c11b0
              try clear c11b1
              try clear c13
              try clear c19
              obtain ⟨x6_1, x7_1, x26_1, rfl, HA, HK1, HO_6, HO_7, HO_24, HB⟩ := hrel
              have hl6_1 := (Kd.S_reads' HO_6.out).1
              rw [hl6_1] at HO_6
              (try simp only [hl6_1])
              (try simp only [hl6_1] at HO_7)
              (try simp only [hl6_1] at HO_24)
              cases gk with
              | zero => exact absurd HA.out (by simp [cyclic_Table.l0])
              | succ k1 =>
               have H := HA.out
               clear HA
               simp only [cyclic_Table.l0] at H
               by_cases c22 : x26_1 < (t109.length : Int)
               · rw [if_pos c22] at H
                 have c22b0 : decide (x26_1 < (t109.length : Int)) = true := decide_eq_true c22
                 clear c22
                 by_cases c23 : 0 ≤ x26_1
                 · rw [if_pos c23] at H
                   have c23b0 : decide (0 ≤ x26_1) = true := decide_eq_true c23
                   clear c23
                   by_cases c24 : x26_1 < (t109.length : Int)
                   · rw [if_pos c24] at H
                     have c24b0 : decide (x26_1 < (t109.length : Int)) = true := decide_eq_true c24
                     clear c24
                     by_cases c25 : a1 = 0
                     · rw [if_pos c25] at H
                       exact absurd H (by simp)
                     · rw [if_neg c25] at H
                       have c25b0 : (a1 == 0) = false := beq_eq_false_iff_ne.mpr c25
                       have c25b1 : (a1 != 0) = true := bne_iff_ne.mpr c25
                       have H' := Aside0.mk H
                       clear H
                       have p112 : 0 ≤ (x26_1 : Int) := of_decide_eq_true (by first | (with_reducible assumption) | assumption)
                       have q112 : x26_1 < (t109.length : Int) := of_decide_eq_true (by first | (with_reducible assumption) | assumption)
                       obtain ⟨ad112, e112, hx112_0, hx112_1, hx112_2⟩ := at_T44 (Kd.R_reads' HO_24.out).2.2 x26_1 p112 q112
                       cases e112
                       replace p112 := eq_true p112
                       replace q112 := eq_true q112
                       go_wp2_with (first | ((with_reducible refine gate_dst (N := 9) rfl ?_); refine box_event ?hg (N := 9) ?hd (cs := #[.int .i64 0, .int .u64 0, .int .u64 0]) (t := 44) ?hr ?_; (case hd => rfl); (case hg => rfl); (case hr => first | (go_simp; done) | (go_simp; rfl)); intro gb113 hg w26 hbox hb; have n0_ := Aside0.mk (Kd.S_below (by (with_reducible repeat (first | apply Kd.S_alloc | apply Kd.S_drewN | apply Kd.S_drew)); exact HO_6.out) hb); have n1_ := Aside0.mk (Kd.R_below (by (with_reducible repeat (first | apply Kd.R_alloc | apply Kd.R_drewN | apply Kd.R_drew)); exact HO_7.out) hb); have n2_ := Aside0.mk (Kd.R_below (Kd.R_elderB (by (with_reducible repeat (first | apply Kd.R_alloc | apply Kd.R_drewN | apply Kd.R_drew)); exact HO_24.out) gb113 (Nat.le_of_eq hg.symm)) hb); have n3_ := Aside0.mk (below_step (by repeat (first | (with_reducible first | exact HB.out | apply below_alloc | apply pw_below_drewN | apply below_drew1) | exact HB.out)) hb); have n4_ := Aside0.mk (hbox); have n5_ := Aside0.mk ((by rw [hg]; exact (below_size (by repeat (first | (with_reducible first | exact HB.out | apply below_alloc | apply pw_below_drewN | apply below_drew1) | exact HB.out))) : w.heap.size ≤ gb113)); have n6_ := Aside0.mk ((by rw [hg]; exact (below_size (by repeat (first | (with_reducible first | exact HB.out | apply below_alloc | apply pw_below_drewN | apply below_drew1) | exact HB.out))) : w.heap.size ≤ gb113)); clear HO_6; clear HO_7; clear HO_24; clear HB; have HO_6 := n0_; have HO_7 := n1_; have HO_24 := n2_; have HB := n3_; have BK113 := n4_; have GW113 := n5_; have GE113 := n6_; clear n0_ n1_ n2_ n3_ n4_ n5_ n6_; clear hb hbox hg; have hcz27_0 : w26.cell? ⟨gb113, 0, none⟩ = some (.int .i64 0) := (blk_cell BK113.out 0).trans rfl; have hcz27_1 : w26.cell? ⟨gb113, 1, none⟩ = some (.int .u64 0) := (blk_cell BK113.out 1).trans rfl; have hcz27_2 : w26.cell? ⟨gb113, 2, none⟩ = some (.int .u64 0) := (blk_cell BK113.out 2).trans rfl; have hfz27_0 := blk_frozen BK113.out 0; have hfz27_1 := blk_frozen BK113.out 1; have hfz27_2 := blk_frozen BK113.out 2))
                       (try simp only [Act.put, List.setIfInBounds_toArray, List.set_cons_zero, List.set_cons_succ])
                       go_loopg [10] k1 (fun kq v10 w' => ∃ (x10_2 : Int), v10 = .int .u64 x10_2 ∧ Aside0 (cyclic_Table.l1 kq l0 a1 x6_1 x7_1 x10_2 t109 (t109.length : Int) x26_1 ((rd_T44 t109 x26_1).f0) ((rd_T44 t109 x26_1).f1) ((rd_T44 t109 x26_1).f2) = some (r1, r2)) ∧ Aside0 (kq ≤ k1) ∧ Aside0 (Kd.S (Kd.slice 3 (Kd.int .i64)) 35 w' w.heap.size (fun _ => True) (.slice Ao17 x6_1.length co17) x6_1) ∧ Aside0 (Kd.R (Kd.int .u64) 23 w' w.heap.size (fun _ => True) v107 x7_1) ∧ Aside0 (Kd.R k44 44 w' w.heap.size (fun k_ => k_ ≠ gb113) (.slice (some ad112) t109.length co21) t109) ∧ Aside0 (w'.heap[gb113]? = some (.cells #[.int .i64 ((rd_T44 t109 x26_1).f0), .int .u64 ((rd_T44 t109 x26_1).f1), .int .u64 ((rd_T44 t109 x26_1).f2)] 44 (0, 0))) ∧ Aside0 (Below w.heap.size w w'))
                       case atStart => exact ⟨(IntKind.u64.wrap (Int.tdiv (IntKind.u64.wrap ((IntKind.u64.wrap (((rd_T44 t109 x26_1).f1) + a1)) - 1)) a1)), (by first | rfl | (simp; done) | (simp [*]; done)), H', ⟨Nat.le_refl _⟩, ⟨by (try simp only [hl6_1]); (with_reducible repeat (first | apply Kd.S_alloc | apply Kd.S_drewN | apply Kd.S_drew)); exact Kd.S_mono (Kd.S_far (p := ⟨gb113, 2, none⟩) (Kd.S_far (p := ⟨gb113, 1, none⟩) (Kd.S_far (p := ⟨gb113, 0, none⟩) (Kd.S_types HO_6.out BK113.out (by decide)) (fun _ hk => hk.2) (.int .i64 ((rd_T44 t109 x26_1).f0))) (fun _ hk => hk.2) (.int .u64 ((rd_T44 t109 x26_1).f1))) (fun _ hk => hk.2) (.int .u64 ((rd_T44 t109 x26_1).f2))) (fun _ hk => trivial)⟩, ⟨by (try simp only [hl6_1]); (with_reducible repeat (first | apply Kd.R_alloc | apply Kd.R_drewN | apply Kd.R_drew)); exact Kd.R_mono (Kd.R_far (p := ⟨gb113, 2, none⟩) (Kd.R_far (p := ⟨gb113, 1, none⟩) (Kd.R_far (p := ⟨gb113, 0, none⟩) (Kd.R_types HO_7.out BK113.out (by decide)) (fun _ hk => hk.2) (.int .i64 ((rd_T44 t109 x26_1).f0))) (fun _ hk => hk.2) (.int .u64 ((rd_T44 t109 x26_1).f1))) (fun _ hk => hk.2) (.int .u64 ((rd_T44 t109 x26_1).f2))) (fun _ hk => trivial)⟩, ⟨by (try simp only [hl6_1]); (with_reducible repeat (first | apply Kd.R_alloc | apply Kd.R_drewN | apply Kd.R_drew)); exact Kd.R_mono (Kd.R_far (p := ⟨gb113, 2, none⟩) (Kd.R_far (p := ⟨gb113, 1, none⟩) (Kd.R_far (p := ⟨gb113, 0, none⟩) (Kd.R_mono HO_24.out (fun k_ hk => (⟨hk, hk.2⟩ : _ ∧ k_ ≠ gb113))) (fun _ hk => hk.2) (.int .i64 ((rd_T44 t109 x26_1).f0))) (fun _ hk => hk.2) (.int .u64 ((rd_T44 t109 x26_1).f1))) (fun _ hk => hk.2) (.int .u64 ((rd_T44 t109 x26_1).f2))) (fun _ hk => hk.1.2)⟩, ⟨by (try simp only [hl6_1]); (with_reducible repeat (first | refine blk_drewN ?_ _ | refine blk_drew ?_ | refine blk_alloc ?_ _)); refine blk_put (cs := #[.int .i64 ((rd_T44 t109 x26_1).f0), .int .u64 ((rd_T44 t109 x26_1).f1), .int .u64 0]) ?_ 2 _ rfl; (with_reducible repeat (first | refine blk_drewN ?_ _ | refine blk_drew ?_ | refine blk_alloc ?_ _)); refine blk_put (cs := #[.int .i64 ((rd_T44 t109 x26_1).f0), .int .u64 0, .int .u64 0]) ?_ 1 _ rfl; (with_reducible repeat (first | refine blk_drewN ?_ _ | refine blk_drew ?_ | refine blk_alloc ?_ _)); refine blk_put (cs := #[.int .i64 0, .int .u64 0, .int .u64 0]) ?_ 0 _ rfl; (with_reducible repeat (first | refine blk_drewN ?_ _ | refine blk_drew ?_ | refine blk_alloc ?_ _)); exact BK113.out⟩, ⟨by repeat (first | (with_reducible first | exact HB.out | apply below_alloc | apply pw_below_drewN | apply below_drew1 | refine below_set ?_ GE113.out) | exact HB.out)⟩⟩
                       case round =>
                        clear H'
                        try clear c1
                        try clear p1
                        try clear q1
                        try clear hx1
                        try clear c2
                        try clear p2
                        try clear c4
                        try clear c6
                        try clear c6b0
                        try clear c6b1
                        try clear c7
                        try clear c8
                        try clear c8b0
                        try clear c8b1
                        try clear c9
                        try clear c9b0
                        try clear c9b1
                        try clear c10
                        try clear c10b0
                        try clear c10b1
                        try clear c11
                        try clear c11b0
                        try clear c11b1
                        try clear p11
                        try clear q11
                        try clear hx11
                        try clear c13
                        try clear c19
                        try clear c22
                        try clear c22b0
                        try clear c23
                        try clear c23b0
                        try clear c24
                        try clear c24b0
                        try clear c25
                        try clear c25b0
                        try clear c25b1
                        try clear hcz27_0
                        try clear hcz27_1
                        try clear hcz27_2
                        try clear hfz27_0
                        try clear hfz27_1
                        try clear hfz27_2
                        try clear hx112_0
                        try clear hx112_1
                        try clear hx112_2
                        try clear p112
                        try clear p2
                        try clear q112
                        obtain ⟨x10_2, rfl, HA, HK2, HO_6, HO_7, HO_24, BK113, HB⟩ := hrel
                        cases gk with
                        | zero => exact absurd HA.out (by simp [cyclic_Table.l1])
                        | succ k2 =>
                         have H := HA.out
                         clear HA
                         simp only [cyclic_Table.l1] at H
                         by_cases c28 : (IntKind.u64.wrap ((IntKind.u64.wrap (x10_2 + 1)) * a1)) ≤ ((rd_T44 t109 x26_1).f2)
                         · rw [if_pos c28] at H
                           have c28b0 : decide ((IntKind.u64.wrap ((IntKind.u64.wrap (x10_2 + 1)) * a1)) ≤ ((rd_T44 t109 x26_1).f2)) = true := decide_eq_true c28
                           clear c28
                           by_cases c29 : 0 ≤ x10_2
                           · rw [if_pos c29] at H
                             have c29b0 : decide (0 ≤ x10_2) = true := decide_eq_true c29
                             clear c29
                             by_cases c30 : x10_2 < (x7_1.length : Int)
                             · rw [if_pos c30] at H
                               have c30b0 : decide (x10_2 < (x7_1.length : Int)) = true := decide_eq_true c30
                               clear c30
                               by_cases c31 : 0 ≤ ((rd_T44 t109 x26_1).f0)
                               · rw [if_pos c31] at H
                                 have c31b0 : decide (0 ≤ ((rd_T44 t109 x26_1).f0)) = true := decide_eq_true c31
                                 clear c31
                                 by_cases c32 : ((rd_T44 t109 x26_1).f0) < (l0.length : Int)
                                 · rw [if_pos c32] at H
                                   have c32b0 : decide (((rd_T44 t109 x26_1).f0) < (l0.length : Int)) = true := decide_eq_true c32
                                   clear c32
                                   by_cases c33 : (IntKind.u64.wrap ((rd x7_1 x10_2) + ((rd_T34 l0 ((rd_T44 t109 x26_1).f0)).f0))) > a1
                                   · rw [if_pos c33] at H
                                     have c33b0 : decide (a1 < (IntKind.u64.wrap ((rd x7_1 x10_2) + ((rd_T34 l0 ((rd_T44 t109 x26_1).f0)).f0)))) = true := decide_eq_true c33
                                     clear c33
                                     have H' := Aside0.mk H
                                     clear H
                                     try go_wp2
                                     have n0_ := Aside0.mk (Kd.S_drew HO_6.out)
                                     have n1_ := Aside0.mk (Kd.R_drew HO_7.out)
                                     have n2_ := Aside0.mk (Kd.R_drew HO_24.out)
                                     have n3_ := Aside0.mk (blk_drew BK113.out)
                                     have n4_ := Aside0.mk (below_drew1 HB.out)
                                     clear HO_6
                                     clear HO_7
                                     clear HO_24
                                     clear BK113
                                     clear HB
                                     have HO_6 := n0_
                                     have HO_7 := n1_
                                     have HO_24 := n2_
                                     have BK113 := n3_
                                     have HB := n4_
                                     clear n0_ n1_ n2_ n3_ n4_
                                     obtain ⟨Ao35, co35, eo35⟩ := Kd.R_slice HO_7.out
                                     (first | subst eo35 | (injection eo35 with f1_ f2_ f3_; have f4_ := f1_.symm; have f5_ := f3_.symm; clear f1_ f2_ f3_; subst f4_; subst f5_))
                                     have p114 : 0 ≤ (x10_2 : Int) := of_decide_eq_true (by first | (with_reducible assumption) | assumption)
                                     have q114 : x10_2 < (x7_1.length : Int) := of_decide_eq_true (by first | (with_reducible assumption) | assumption)
                                     obtain ⟨ad114, e114, hx114_0⟩ := Kd.at_int (Kd.R_reads' HO_7.out).2.2 x10_2 p114 q114
                                     cases e114
                                     replace p114 := eq_true p114
                                     replace q114 := eq_true q114
                                     have p115 : 0 ≤ (((rd_T44 t109 x26_1).f0) : Int) := of_decide_eq_true (by first | (with_reducible assumption) | assumption)
                                     have q115 : ((rd_T44 t109 x26_1).f0) < (l0.length : Int) := of_decide_eq_true (by first | (with_reducible assumption) | assumption)
                                     obtain ⟨ad115, e115, hx115_0, hx115_1⟩ := at_T34 HR0.out ((rd_T44 t109 x26_1).f0) p115 q115
                                     have hw115_1 := hx115_1
                                     have hw115_0 := hx115_0
                                     cases e115
                                     replace hx115_0 := (HB.out.cell (World.block_lt_of_cell? w _ hx115_0)).trans hx115_0
                                     replace hx115_1 := (HB.out.cell (World.block_lt_of_cell? w _ hx115_1)).trans hx115_1
                                     replace p115 := eq_true p115
                                     replace q115 := eq_true q115
                                     refine start_ (n := 22) (S := fun w' => w'.cell? ⟨gb113, 0, none⟩ = some (.int .i64 ((rd_T44 t109 x26_1).f0)) ∧ w'.cell? ⟨gb113, 1, none⟩ = some (.int .u64 ((rd_T44 t109 x26_1).f1)) ∧ w'.cell? ⟨gb113, 2, none⟩ = some (.int .u64 ((rd_T44 t109 x26_1).f2)) ∧ w'.cell? (ad114.add (x10_2).toNat) = some (.int .u64 (rd x7_1 x10_2)) ∧ w'.cell? (ad115.add ((((rd_T44 t109 x26_1).f0)).toNat * 2)) = some (.int .u64 ((rd_T34 l0 ((rd_T44 t109 x26_1).f0)).f0)) ∧ w'.cell? ⟨(ad115.add ((((rd_T44 t109 x26_1).f0)).toNat * 2)).block, (ad115.add ((((rd_T44 t109 x26_1).f0)).toNat * 2)).off + 1, none⟩ = some (.int .u64 ((rd_T34 l0 ((rd_T44 t109 x26_1).f0)).f1))) (ds := []) #[false, false, false, false, false, false, false, false, false, false, false, false, false, false, false, false, false, false, false, false, false, false] (by kernel_rfl) rfl rfl ⟨(blk_cell BK113.out 0).trans rfl, (blk_cell BK113.out 1).trans rfl, (blk_cell BK113.out 2).trans rfl, hx114_0, ((HB.out.cell (World.block_lt_of_cell? w _ hw115_0)).trans hw115_0), ((HB.out.cell (World.block_lt_of_cell? w _ hw115_1)).trans hw115_1)⟩ (fun hHeld => ?_); refine with_tabW cyclic_Table.tab9 cyclic_Table.bits9 (fun HT_ HW_ => ?_)
                                     generalize wr.drew = w34 at HO_6 HO_7 HO_24 BK113 HB hx114_0 hx115_0 hx115_1 hHeld ⊢
                                     refine pure_ (i := 0) (N := some 37) (v := ?_) (a' := ?_) #[true, false, false, false, false, false, false, false, false, false, false, false, false, false, false, false, false, false, false, false, false, false] rfl rfl (any_of HT_.out (by kernel_rfl)) (fun _ _ _ h => h) (Or.inl ⟨by rfl, ?_⟩) ?_ ?_
                                     rotate_left
                                     · intro w'
                                       go_simp
                                       with_reducible rfl
                                     rotate_left
                                     · simp only [Act.put, List.setIfInBounds_toArray, List.set_cons_zero, List.set_cons_succ, i64_w, i32_w]
                                       rfl
                                     refine pure_ (i := 1) (N := some 38) (v := ?_) (a' := ?_) #[true, true, false, false, false, false, false, false, false, false, false, false, false, false, false, false, false, false, false, false, false, false] rfl rfl (any_of HT_.out (by kernel_rfl)) (fun _ _ _ h => h) (Or.inl ⟨by rfl, ?_⟩) ?_ ?_
                                     rotate_left
                                     · intro w'
                                       go_simp
                                       with_reducible rfl
                                     rotate_left
                                     · simp only [Act.put, List.setIfInBounds_toArray, List.set_cons_zero, List.set_cons_succ, i64_w, i32_w]
                                       rfl
                                     refine pure_ (i := 2) (N := some 39) (v := ?_) (a' := ?_) #[true, true, true, false, false, false, false, false, false, false, false, false, false, false, false, false, false, false, false, false, false, false] rfl rfl (any_of HT_.out (by kernel_rfl)) (fun _ _ _ h => h) (Or.inl ⟨by rfl, ?_⟩) ?_ ?_
                                     rotate_left
                                     · intro w'
                                       go_simp
                                       with_reducible rfl
                                     rotate_left
                                     · simp only [Act.put, List.setIfInBounds_toArray, List.set_cons_zero, List.set_cons_succ, i64_w, i32_w]
                                       rfl
                                     refine pure_ (i := 3) (N := some 40) (v := ?_) (a' := ?_) #[true, true, true, true, false, false, false, false, false, false, false, false, false, false, false, false, false, false, false, false, false, false] rfl rfl (any_of HT_.out (by kernel_rfl)) (fun _ _ _ h => h) (Or.inl ⟨by rfl, ?_⟩) ?_ ?_
                                     rotate_left
                                     · intro w'
                                       go_simp
                                       with_reducible rfl
                                     rotate_left
                                     · simp only [Act.put, List.setIfInBounds_toArray, List.set_cons_zero, List.set_cons_succ, i64_w, i32_w]
                                       rfl
                                     refine pure_ (i := 4) (N := some 41) (v := ?_) (a' := ?_) #[true, true, true, true, true, false, false, false, false, false, false, false, false, false, false, false, false, false, false, false, false, false] rfl rfl (any_of HT_.out (by kernel_rfl)) (fun _ _ _ h => h) (Or.inl ⟨by rfl, ?_⟩) ?_ ?_
                                     rotate_left
                                     · intro w'
                                       go_simp
                                       with_reducible rfl
                                     rotate_left
                                     · simp only [Act.put, List.setIfInBounds_toArray, List.set_cons_zero, List.set_cons_succ, i64_w, i32_w]
                                       rfl
                                     refine take_ (i := 5) (N := some 42) (v := ?_) (a' := ?_) #[true, true, true, true, true, true, false, false, false, false, false, false, false, false, false, false, false, false, false, false, false, false] rfl rfl (take_ofW HT_.out HW_.out (by kernel_rfl)) (fun _ _ _ h => h) (Or.inl ⟨by rfl, ?_⟩) hHeld ?_ ?_
                                     rotate_left
                                     · rintro w' ⟨s0, s1, s2, s3, s4, s5⟩
                                       go_simp
                                       with_reducible rfl
                                     rotate_left
                                     · simp only [Act.put, List.setIfInBounds_toArray, List.set_cons_zero, List.set_cons_succ, i64_w, i32_w]
                                       rfl
                                     refine pure_ (i := 6) (N := some 43) (v := ?_) (a' := ?_) #[true, true, true, true, true, true, true, false, false, false, false, false, false, false, false, false, false, false, false, false, false, false] rfl rfl (any_of HT_.out (by kernel_rfl)) (fun _ _ _ h => h) (Or.inl ⟨by rfl, ?_⟩) ?_ ?_
                                     rotate_left
                                     · intro w'
                                       go_simp
                                       with_reducible rfl
                                     rotate_left
                                     · simp only [Act.put, List.setIfInBounds_toArray, List.set_cons_zero, List.set_cons_succ, i64_w, i32_w]
                                       rfl
                                     refine pure_ (i := 7) (N := some 44) (v := ?_) (a' := ?_) #[true, true, true, true, true, true, true, true, false, false, false, false, false, false, false, false, false, false, false, false, false, false] rfl rfl (any_of HT_.out (by kernel_rfl)) (fun _ _ _ h => h) (Or.inl ⟨by rfl, ?_⟩) ?_ ?_
                                     rotate_left
                                     · intro w'
                                       go_simp
                                       with_reducible rfl
                                     rotate_left
                                     · simp only [Act.put, List.setIfInBounds_toArray, List.set_cons_zero, List.set_cons_succ, i64_w, i32_w]
                                       rfl
                                     refine pure_ (i := 8) (N := some 45) (v := ?_) (a' := ?_) #[true, true, true, true, true, true, true, true, true, false, false, false, false, false, false, false, false, false, false, false, false, false] rfl rfl (any_of HT_.out (by kernel_rfl)) (fun _ _ _ h => h) (Or.inl ⟨by rfl, ?_⟩) ?_ ?_
                                     rotate_left
                                     · intro w'
                                       go_simp
                                       with_reducible rfl
                                     rotate_left
                                     · simp only [Act.put, List.setIfInBounds_toArray, List.set_cons_zero, List.set_cons_succ, i64_w, i32_w]
                                       rfl
                                     refine pure_ (i := 9) (N := some 46) (v := ?_) (a' := ?_) #[true, true, true, true, true, true, true, true, true, true, false, false, false, false, false, false, false, false, false, false, false, false] rfl rfl (any_of HT_.out (by kernel_rfl)) (fun _ _ _ h => h) (Or.inl ⟨by rfl, ?_⟩) ?_ ?_
                                     rotate_left
                                     · intro w'
                                       go_simp
                                       with_reducible rfl
                                     rotate_left
                                     · simp only [Act.put, List.setIfInBounds_toArray, List.set_cons_zero, List.set_cons_succ, i64_w, i32_w]
                                       rfl
                                     refine pure_ (i := 10) (N := some 47) (v := ?_) (a' := ?_) #[true, true, true, true, true, true, true, true, true, true, true, false, false, false, false, false, false, false, false, false, false, false] rfl rfl (any_of HT_.out (by kernel_rfl)) (fun _ _ _ h => h) (Or.inl ⟨by rfl, ?_⟩) ?_ ?_
                                     rotate_left
                                     · intro w'
                                       go_simp
                                       with_reducible rfl
                                     rotate_left
                                     · simp only [Act.put, List.setIfInBounds_toArray, List.set_cons_zero, List.set_cons_succ, i64_w, i32_w]
                                       rfl
                                     refine pure_ (i := 12) (N := some 49) (v := ?_) (a' := ?_) #[true, true, true, true, true, true, true, true, true, true, true, false, true, false, false, false, false, false, false, false, false, false] rfl rfl (any_of HT_.out (by kernel_rfl)) (fun _ _ _ h => h) (Or.inl ⟨by rfl, ?_⟩) ?_ ?_
                                     rotate_left
                                     · intro w'
                                       go_simp
                                       with_reducible rfl
                                     rotate_left
                                     · simp only [Act.put, List.setIfInBounds_toArray, List.set_cons_zero, List.set_cons_succ, i64_w, i32_w]
                                       rfl
                                     refine pure_ (i := 13) (N := some 50) (v := ?_) (a' := ?_) #[true, true, true, true, true, true, true, true, true, true, true, false, true, true, false, false, false, false, false, false, false, false] rfl rfl (any_of HT_.out (by kernel_rfl)) (fun _ _ _ h => h) (Or.inl ⟨by rfl, ?_⟩) ?_ ?_
                                     rotate_left
                                     · intro w'
                                       go_simp
                                       with_reducible rfl
                                     rotate_left
                                     · simp only [Act.put, List.setIfInBounds_toArray, List.set_cons_zero, List.set_cons_succ, i64_w, i32_w]
                                       rfl
                                     refine pure_ (i := 19) (N := some 56) (v := ?_) (a' := ?_) #[true, true, true, true, true, true, true, true, true, true, true, false, true, true, false, false, false, false, false, true, false, false] rfl rfl (any_of HT_.out (by kernel_rfl)) (fun _ _ _ h => h) (Or.inl ⟨by rfl, ?_⟩) ?_ ?_
                                     rotate_left
                                     · intro w'
                                       go_simp
                                       with_reducible rfl
                                     rotate_left
                                     · simp only [Act.put, List.setIfInBounds_toArray, List.set_cons_zero, List.set_cons_succ, i64_w, i32_w]
                                       rfl
                                     refine take_ (i := 11) (N := some 48) (v := ?_) (a' := ?_) #[true, true, true, true, true, true, true, true, true, true, true, true, true, true, false, false, false, false, false, true, false, false] rfl rfl (take_ofW HT_.out HW_.out (by kernel_rfl)) (fun _ _ _ h => h) (Or.inl ⟨by rfl, ?_⟩) hHeld ?_ ?_
                                     rotate_left
                                     · rintro w' ⟨s0, s1, s2, s3, s4, s5⟩
                                       go_simp
                                       with_reducible rfl
                                     rotate_left
                                     · simp only [Act.put, List.setIfInBounds_toArray, List.set_cons_zero, List.set_cons_succ, i64_w, i32_w]
                                       rfl
                                     refine take_ (i := 14) (N := some 51) (v := ?_) (a' := ?_) #[true, true, true, true, true, true, true, true, true, true, true, true, true, true, true, false, false, false, false, true, false, false] rfl rfl (take_ofW HT_.out HW_.out (by kernel_rfl)) (fun _ _ _ h => h) (Or.inl ⟨by rfl, ?_⟩) hHeld ?_ ?_
                                     rotate_left
                                     · rintro w' ⟨s0, s1, s2, s3, s4, s5⟩
                                       go_simp
                                       with_reducible rfl
                                     rotate_left
                                     · simp only [Act.put, List.setIfInBounds_toArray, List.set_cons_zero, List.set_cons_succ, i64_w, i32_w]
                                       rfl
                                     refine pure_ (i := 15) (N := some 52) (v := ?_) (a' := ?_) #[true, true, true, true, true, true, true, true, true, true, true, true, true, true, true, true, false, false, false, true, false, false] rfl rfl (any_of HT_.out (by kernel_rfl)) (fun _ _ _ h => h) (Or.inl ⟨by rfl, ?_⟩) ?_ ?_
                                     rotate_left
                                     · intro w'
                                       go_simp
                                       with_reducible rfl
                                     rotate_left
                                     · simp only [Act.put, List.setIfInBounds_toArray, List.set_cons_zero, List.set_cons_succ, i64_w, i32_w]
                                       rfl
                                     refine pure_ (i := 16) (N := some 53) (v := ?_) (a' := ?_) #[true, true, true, true, true, true, true, true, true, true, true, true, true, true, true, true, true, false, false, true, false, false] rfl rfl (any_of HT_.out (by kernel_rfl)) (fun _ _ _ h => h) (Or.inl ⟨by rfl, ?_⟩) ?_ ?_
                                     rotate_left
                                     · intro w'
                                       go_simp
                                       with_reducible rfl
                                     rotate_left
                                     · simp only [Act.put, List.setIfInBounds_toArray, List.set_cons_zero, List.set_cons_succ, i64_w, i32_w]
                                       rfl
                                     refine take_ (i := 17) (N := some 54) (v := ?_) (a' := ?_) #[true, true, true, true, true, true, true, true, true, true, true, true, true, true, true, true, true, true, false, true, false, false] rfl rfl (take_ofW HT_.out HW_.out (by kernel_rfl)) (fun _ _ _ h => h) (Or.inl ⟨by rfl, ?_⟩) hHeld ?_ ?_
                                     rotate_left
                                     · rintro w' ⟨s0, s1, s2, s3, s4, s5⟩
                                       go_simp
                                       with_reducible rfl
                                     rotate_left
                                     · simp only [Act.put, List.setIfInBounds_toArray, List.set_cons_zero, List.set_cons_succ, i64_w, i32_w]
                                       rfl
                                     refine pure_ (i := 18) (N := some 55) (v := ?_) (a' := ?_) #[true, true, true, true, true, true, true, true, true, true, true, true, true, true, true, true, true, true, true, true, false, false] rfl rfl (any_of HT_.out (by kernel_rfl)) (fun _ _ _ h => h) (Or.inl ⟨by rfl, ?_⟩) ?_ ?_
                                     rotate_left
                                     · intro w'
                                       go_simp
                                       with_reducible rfl
                                     rotate_left
                                     · simp only [Act.put, List.setIfInBounds_toArray, List.set_cons_zero, List.set_cons_succ, i64_w, i32_w]
                                       rfl
                                     refine pure_ (i := 20) (N := some 57) (v := ?_) (a' := ?_) #[true, true, true, true, true, true, true, true, true, true, true, true, true, true, true, true, true, true, true, true, true, false] rfl rfl (any_of HT_.out (by kernel_rfl)) (fun _ _ _ h => h) (Or.inl ⟨by rfl, ?_⟩) ?_ ?_
                                     rotate_left
                                     · intro w'
                                       go_simp
                                       with_reducible rfl
                                     rotate_left
                                     · simp only [Act.put, List.setIfInBounds_toArray, List.set_cons_zero, List.set_cons_succ, i64_w, i32_w]
                                       rfl
                                     refine pure_ (i := 21) (N := some 58) (v := ?_) (a' := ?_) #[true, true, true, true, true, true, true, true, true, true, true, true, true, true, true, true, true, true, true, true, true, true] rfl rfl (any_of HT_.out (by kernel_rfl)) (fun _ _ _ h => h) (Or.inl ⟨by rfl, ?_⟩) ?_ ?_
                                     rotate_left
                                     · intro w'
                                       go_simp
                                       with_reducible rfl
                                     rotate_left
                                     · simp only [Act.put, List.setIfInBounds_toArray, List.set_cons_zero, List.set_cons_succ, i64_w, i32_w]
                                       rfl
                                     refine done_ (done_of HT_.out (by kernel_rfl)) ?_
                                     try go_wp2
                                     go_roundg k2
                                     case measure => have := HK1.out; have := HK2.out; omega
                                     case rel => exact ⟨(IntKind.u64.wrap (x10_2 + 1)), (by first | rfl | (simp; done) | (simp [*]; done)), H', ⟨by have := HK1.out; have := HK2.out; omega⟩, ⟨by (try simp only [hl6_1]); (with_reducible repeat (first | apply Kd.S_alloc | apply Kd.S_drewN | apply Kd.S_drew)); exact HO_6.out⟩, ⟨by (try simp only [hl6_1]); (with_reducible repeat (first | apply Kd.R_alloc | apply Kd.R_drewN | apply Kd.R_drew)); exact HO_7.out⟩, ⟨by (try simp only [hl6_1]); (with_reducible repeat (first | apply Kd.R_alloc | apply Kd.R_drewN | apply Kd.R_drew)); exact HO_24.out⟩, ⟨by (try simp only [hl6_1]); (with_reducible repeat (first | refine blk_drewN ?_ _ | refine blk_drew ?_ | refine blk_alloc ?_ _)); exact BK113.out⟩, ⟨by repeat (first | (with_reducible first | exact HB.out | apply below_alloc | apply pw_below_drewN | apply below_drew1 | refine below_set ?_ GE113.out) | exact HB.out)⟩⟩
                                   · rw [if_neg c33] at H
                                     have c33b0 : decide (a1 < (IntKind.u64.wrap ((rd x7_1 x10_2) + ((rd_T34 l0 ((rd_T44 t109 x26_1).f0)).f0)))) = false := decide_eq_false c33
                                     clear c33
                                     by_cases c36 : (IntKind.u64.wrap ((IntKind.u64.wrap (x10_2 + 1)) * a1)) > ((rd_T44 t109 x26_1).f2)
                                     · rw [if_pos c36] at H
                                       have c36b0 : decide (((rd_T44 t109 x26_1).f2) < (IntKind.u64.wrap ((IntKind.u64.wrap (x10_2 + 1)) * a1))) = true := decide_eq_true c36
                                       clear c36
                                       simp only [Option.some.injEq, Prod.mk.injEq] at H
                                       obtain ⟨rfl, rfl⟩ := H
                                       try go_wp2
                                       have n0_ := Aside0.mk (Kd.S_drew HO_6.out)
                                       have n1_ := Aside0.mk (Kd.R_drew HO_7.out)
                                       have n2_ := Aside0.mk (Kd.R_drew HO_24.out)
                                       have n3_ := Aside0.mk (blk_drew BK113.out)
                                       have n4_ := Aside0.mk (below_drew1 HB.out)
                                       clear HO_6
                                       clear HO_7
                                       clear HO_24
                                       clear BK113
                                       clear HB
                                       have HO_6 := n0_
                                       have HO_7 := n1_
                                       have HO_24 := n2_
                                       have BK113 := n3_
                                       have HB := n4_
                                       clear n0_ n1_ n2_ n3_ n4_
                                       obtain ⟨Ao38, co38, eo38⟩ := Kd.R_slice HO_7.out
                                       (first | subst eo38 | (injection eo38 with f1_ f2_ f3_; have f4_ := f1_.symm; have f5_ := f3_.symm; clear f1_ f2_ f3_; subst f4_; subst f5_))
                                       have p114 : 0 ≤ (x10_2 : Int) := of_decide_eq_true (by first | (with_reducible assumption) | assumption)
                                       have q114 : x10_2 < (x7_1.length : Int) := of_decide_eq_true (by first | (with_reducible assumption) | assumption)
                                       obtain ⟨ad114, e114, hx114_0⟩ := Kd.at_int (Kd.R_reads' HO_7.out).2.2 x10_2 p114 q114
                                       cases e114
                                       replace p114 := eq_true p114
                                       replace q114 := eq_true q114
                                       have p115 : 0 ≤ (((rd_T44 t109 x26_1).f0) : Int) := of_decide_eq_true (by first | (with_reducible assumption) | assumption)
                                       have q115 : ((rd_T44 t109 x26_1).f0) < (l0.length : Int) := of_decide_eq_true (by first | (with_reducible assumption) | assumption)
                                       obtain ⟨ad115, e115, hx115_0, hx115_1⟩ := at_T34 HR0.out ((rd_T44 t109 x26_1).f0) p115 q115
                                       have hw115_1 := hx115_1
                                       have hw115_0 := hx115_0
                                       cases e115
                                       replace hx115_0 := (HB.out.cell (World.block_lt_of_cell? w _ hx115_0)).trans hx115_0
                                       replace hx115_1 := (HB.out.cell (World.block_lt_of_cell? w _ hx115_1)).trans hx115_1
                                       replace p115 := eq_true p115
                                       replace q115 := eq_true q115
                                       refine start_ (n := 22) (S := fun w' => w'.cell? ⟨gb113, 0, none⟩ = some (.int .i64 ((rd_T44 t109 x26_1).f0)) ∧ w'.cell? ⟨gb113, 1, none⟩ = some (.int .u64 ((rd_T44 t109 x26_1).f1)) ∧ w'.cell? ⟨gb113, 2, none⟩ = some (.int .u64 ((rd_T44 t109 x26_1).f2)) ∧ w'.cell? (ad114.add (x10_2).toNat) = some (.int .u64 (rd x7_1 x10_2)) ∧ w'.cell? (ad115.add ((((rd_T44 t109 x26_1).f0)).toNat * 2)) = some (.int .u64 ((rd_T34 l0 ((rd_T44 t109 x26_1).f0)).f0)) ∧ w'.cell? ⟨(ad115.add ((((rd_T44 t109 x26_1).f0)).toNat * 2)).block, (ad115.add ((((rd_T44 t109 x26_1).f0)).toNat * 2)).off + 1, none⟩ = some (.int .u64 ((rd_T34 l0 ((rd_T44 t109 x26_1).f0)).f1))) (ds := []) #[false, false, false, false, false, false, false, false, false, false, false, false, false, false, false, false, false, false, false, false, false, false] (by kernel_rfl) rfl rfl ⟨(blk_cell BK113.out 0).trans rfl, (blk_cell BK113.out 1).trans rfl, (blk_cell BK113.out 2).trans rfl, hx114_0, ((HB.out.cell (World.block_lt_of_cell? w _ hw115_0)).trans hw115_0), ((HB.out.cell (World.block_lt_of_cell? w _ hw115_1)).trans hw115_1)⟩ (fun hHeld => ?_); refine with_tabW cyclic_Table.tab9 cyclic_Table.bits9 (fun HT_ HW_ => ?_)
                                       generalize wr.drew = w37 at HO_6 HO_7 HO_24 BK113 HB hx114_0 hx115_0 hx115_1 hHeld ⊢
                                       refine pure_ (i := 0) (N := some 37) (v := ?_) (a' := ?_) #[true, false, false, false, false, false, false, false, false, false, false, false, false, false, false, false, false, false, false, false, false, false] rfl rfl (any_of HT_.out (by kernel_rfl)) (fun _ _ _ h => h) (Or.inl ⟨by rfl, ?_⟩) ?_ ?_
                                       rotate_left
                                       · intro w'
                                         go_simp
                                         with_reducible rfl
                                       rotate_left
                                       · simp only [Act.put, List.setIfInBounds_toArray, List.set_cons_zero, List.set_cons_succ, i64_w, i32_w]
                                         rfl
                                       refine pure_ (i := 1) (N := some 38) (v := ?_) (a' := ?_) #[true, true, false, false, false, false, false, false, false, false, false, false, false, false, false, false, false, false, false, false, false, false] rfl rfl (any_of HT_.out (by kernel_rfl)) (fun _ _ _ h => h) (Or.inl ⟨by rfl, ?_⟩) ?_ ?_
                                       rotate_left
                                       · intro w'
                                         go_simp
                                         with_reducible rfl
                                       rotate_left
                                       · simp only [Act.put, List.setIfInBounds_toArray, List.set_cons_zero, List.set_cons_succ, i64_w, i32_w]
                                         rfl
                                       refine pure_ (i := 2) (N := some 39) (v := ?_) (a' := ?_) #[true, true, true, false, false, false, false, false, false, false, false, false, false, false, false, false, false, false, false, false, false, false] rfl rfl (any_of HT_.out (by kernel_rfl)) (fun _ _ _ h => h) (Or.inl ⟨by rfl, ?_⟩) ?_ ?_
                                       rotate_left
                                       · intro w'
                                         go_simp
                                         with_reducible rfl
                                       rotate_left
                                       · simp only [Act.put, List.setIfInBounds_toArray, List.set_cons_zero, List.set_cons_succ, i64_w, i32_w]
                                         rfl
                                       refine pure_ (i := 3) (N := some 40) (v := ?_) (a' := ?_) #[true, true, true, true, false, false, false, false, false, false, false, false, false, false, false, false, false, false, false, false, false, false] rfl rfl (any_of HT_.out (by kernel_rfl)) (fun _ _ _ h => h) (Or.inl ⟨by rfl, ?_⟩) ?_ ?_
                                       rotate_left
                                       · intro w'
                                         go_simp
                                         with_reducible rfl
                                       rotate_left
                                       · simp only [Act.put, List.setIfInBounds_toArray, List.set_cons_zero, List.set_cons_succ, i64_w, i32_w]
                                         rfl
                                       refine pure_ (i := 4) (N := some 41) (v := ?_) (a' := ?_) #[true, true, true, true, true, false, false, false, false, false, false, false, false, false, false, false, false, false, false, false, false, false] rfl rfl (any_of HT_.out (by kernel_rfl)) (fun _ _ _ h => h) (Or.inl ⟨by rfl, ?_⟩) ?_ ?_
                                       rotate_left
                                       · intro w'
                                         go_simp
                                         with_reducible rfl
                                       rotate_left
                                       · simp only [Act.put, List.setIfInBounds_toArray, List.set_cons_zero, List.set_cons_succ, i64_w, i32_w]
                                         rfl
                                       refine take_ (i := 5) (N := some 42) (v := ?_) (a' := ?_) #[true, true, true, true, true, true, false, false, false, false, false, false, false, false, false, false, false, false, false, false, false, false] rfl rfl (take_ofW HT_.out HW_.out (by kernel_rfl)) (fun _ _ _ h => h) (Or.inl ⟨by rfl, ?_⟩) hHeld ?_ ?_
                                       rotate_left
                                       · rintro w' ⟨s0, s1, s2, s3, s4, s5⟩
                                         go_simp
                                         with_reducible rfl
                                       rotate_left
                                       · simp only [Act.put, List.setIfInBounds_toArray, List.set_cons_zero, List.set_cons_succ, i64_w, i32_w]
                                         rfl
                                       refine pure_ (i := 6) (N := some 43) (v := ?_) (a' := ?_) #[true, true, true, true, true, true, true, false, false, false, false, false, false, false, false, false, false, false, false, false, false, false] rfl rfl (any_of HT_.out (by kernel_rfl)) (fun _ _ _ h => h) (Or.inl ⟨by rfl, ?_⟩) ?_ ?_
                                       rotate_left
                                       · intro w'
                                         go_simp
                                         with_reducible rfl
                                       rotate_left
                                       · simp only [Act.put, List.setIfInBounds_toArray, List.set_cons_zero, List.set_cons_succ, i64_w, i32_w]
                                         rfl
                                       refine pure_ (i := 7) (N := some 44) (v := ?_) (a' := ?_) #[true, true, true, true, true, true, true, true, false, false, false, false, false, false, false, false, false, false, false, false, false, false] rfl rfl (any_of HT_.out (by kernel_rfl)) (fun _ _ _ h => h) (Or.inl ⟨by rfl, ?_⟩) ?_ ?_
                                       rotate_left
                                       · intro w'
                                         go_simp
                                         with_reducible rfl
                                       rotate_left
                                       · simp only [Act.put, List.setIfInBounds_toArray, List.set_cons_zero, List.set_cons_succ, i64_w, i32_w]
                                         rfl
                                       refine pure_ (i := 8) (N := some 45) (v := ?_) (a' := ?_) #[true, true, true, true, true, true, true, true, true, false, false, false, false, false, false, false, false, false, false, false, false, false] rfl rfl (any_of HT_.out (by kernel_rfl)) (fun _ _ _ h => h) (Or.inl ⟨by rfl, ?_⟩) ?_ ?_
                                       rotate_left
                                       · intro w'
                                         go_simp
                                         with_reducible rfl
                                       rotate_left
                                       · simp only [Act.put, List.setIfInBounds_toArray, List.set_cons_zero, List.set_cons_succ, i64_w, i32_w]
                                         rfl
                                       refine pure_ (i := 9) (N := some 46) (v := ?_) (a' := ?_) #[true, true, true, true, true, true, true, true, true, true, false, false, false, false, false, false, false, false, false, false, false, false] rfl rfl (any_of HT_.out (by kernel_rfl)) (fun _ _ _ h => h) (Or.inl ⟨by rfl, ?_⟩) ?_ ?_
                                       rotate_left
                                       · intro w'
                                         go_simp
                                         with_reducible rfl
                                       rotate_left
                                       · simp only [Act.put, List.setIfInBounds_toArray, List.set_cons_zero, List.set_cons_succ, i64_w, i32_w]
                                         rfl
                                       refine pure_ (i := 10) (N := some 47) (v := ?_) (a' := ?_) #[true, true, true, true, true, true, true, true, true, true, true, false, false, false, false, false, false, false, false, false, false, false] rfl rfl (any_of HT_.out (by kernel_rfl)) (fun _ _ _ h => h) (Or.inl ⟨by rfl, ?_⟩) ?_ ?_
                                       rotate_left
                                       · intro w'
                                         go_simp
                                         with_reducible rfl
                                       rotate_left
                                       · simp only [Act.put, List.setIfInBounds_toArray, List.set_cons_zero, List.set_cons_succ, i64_w, i32_w]
                                         rfl
                                       refine pure_ (i := 12) (N := some 49) (v := ?_) (a' := ?_) #[true, true, true, true, true, true, true, true, true, true, true, false, true, false, false, false, false, false, false, false, false, false] rfl rfl (any_of HT_.out (by kernel_rfl)) (fun _ _ _ h => h) (Or.inl ⟨by rfl, ?_⟩) ?_ ?_
                                       rotate_left
                                       · intro w'
                                         go_simp
                                         with_reducible rfl
                                       rotate_left
                                       · simp only [Act.put, List.setIfInBounds_toArray, List.set_cons_zero, List.set_cons_succ, i64_w, i32_w]
                                         rfl
                                       refine pure_ (i := 13) (N := some 50) (v := ?_) (a' := ?_) #[true, true, true, true, true, true, true, true, true, true, true, false, true, true, false, false, false, false, false, false, false, false] rfl rfl (any_of HT_.out (by kernel_rfl)) (fun _ _ _ h => h) (Or.inl ⟨by rfl, ?_⟩) ?_ ?_
                                       rotate_left
                                       · intro w'
                                         go_simp
                                         with_reducible rfl
                                       rotate_left
                                       · simp only [Act.put, List.setIfInBounds_toArray, List.set_cons_zero, List.set_cons_succ, i64_w, i32_w]
                                         rfl
                                       refine pure_ (i := 19) (N := some 56) (v := ?_) (a' := ?_) #[true, true, true, true, true, true, true, true, true, true, true, false, true, true, false, false, false, false, false, true, false, false] rfl rfl (any_of HT_.out (by kernel_rfl)) (fun _ _ _ h => h) (Or.inl ⟨by rfl, ?_⟩) ?_ ?_
                                       rotate_left
                                       · intro w'
                                         go_simp
                                         with_reducible rfl
                                       rotate_left
                                       · simp only [Act.put, List.setIfInBounds_toArray, List.set_cons_zero, List.set_cons_succ, i64_w, i32_w]
                                         rfl
                                       refine take_ (i := 11) (N := some 48) (v := ?_) (a' := ?_) #[true, true, true, true, true, true, true, true, true, true, true, true, true, true, false, false, false, false, false, true, false, false] rfl rfl (take_ofW HT_.out HW_.out (by kernel_rfl)) (fun _ _ _ h => h) (Or.inl ⟨by rfl, ?_⟩) hHeld ?_ ?_
                                       rotate_left
                                       · rintro w' ⟨s0, s1, s2, s3, s4, s5⟩
                                         go_simp
                                         with_reducible rfl
                                       rotate_left
                                       · simp only [Act.put, List.setIfInBounds_toArray, List.set_cons_zero, List.set_cons_succ, i64_w, i32_w]
                                         rfl
                                       refine take_ (i := 14) (N := some 51) (v := ?_) (a' := ?_) #[true, true, true, true, true, true, true, true, true, true, true, true, true, true, true, false, false, false, false, true, false, false] rfl rfl (take_ofW HT_.out HW_.out (by kernel_rfl)) (fun _ _ _ h => h) (Or.inl ⟨by rfl, ?_⟩) hHeld ?_ ?_
                                       rotate_left
                                       · rintro w' ⟨s0, s1, s2, s3, s4, s5⟩
                                         go_simp
                                         with_reducible rfl
                                       rotate_left
                                       · simp only [Act.put, List.setIfInBounds_toArray, List.set_cons_zero, List.set_cons_succ, i64_w, i32_w]
                                         rfl
                                       refine pure_ (i := 15) (N := some 52) (v := ?_) (a' := ?_) #[true, true, true, true, true, true, true, true, true, true, true, true, true, true, true, true, false, false, false, true, false, false] rfl rfl (any_of HT_.out (by kernel_rfl)) (fun _ _ _ h => h) (Or.inl ⟨by rfl, ?_⟩) ?_ ?_
                                       rotate_left
                                       · intro w'
                                         go_simp
                                         with_reducible rfl
                                       rotate_left
                                       · simp only [Act.put, List.setIfInBounds_toArray, List.set_cons_zero, List.set_cons_succ, i64_w, i32_w]
                                         rfl
                                       refine pure_ (i := 16) (N := some 53) (v := ?_) (a' := ?_) #[true, true, true, true, true, true, true, true, true, true, true, true, true, true, true, true, true, false, false, true, false, false] rfl rfl (any_of HT_.out (by kernel_rfl)) (fun _ _ _ h => h) (Or.inl ⟨by rfl, ?_⟩) ?_ ?_
                                       rotate_left
                                       · intro w'
                                         go_simp
                                         with_reducible rfl
                                       rotate_left
                                       · simp only [Act.put, List.setIfInBounds_toArray, List.set_cons_zero, List.set_cons_succ, i64_w, i32_w]
                                         rfl
                                       refine take_ (i := 17) (N := some 54) (v := ?_) (a' := ?_) #[true, true, true, true, true, true, true, true, true, true, true, true, true, true, true, true, true, true, false, true, false, false] rfl rfl (take_ofW HT_.out HW_.out (by kernel_rfl)) (fun _ _ _ h => h) (Or.inl ⟨by rfl, ?_⟩) hHeld ?_ ?_
                                       rotate_left
                                       · rintro w' ⟨s0, s1, s2, s3, s4, s5⟩
                                         go_simp
                                         with_reducible rfl
                                       rotate_left
                                       · simp only [Act.put, List.setIfInBounds_toArray, List.set_cons_zero, List.set_cons_succ, i64_w, i32_w]
                                         rfl
                                       refine pure_ (i := 18) (N := some 55) (v := ?_) (a' := ?_) #[true, true, true, true, true, true, true, true, true, true, true, true, true, true, true, true, true, true, true, true, false, false] rfl rfl (any_of HT_.out (by kernel_rfl)) (fun _ _ _ h => h) (Or.inl ⟨by rfl, ?_⟩) ?_ ?_
                                       rotate_left
                                       · intro w'
                                         go_simp
                                         with_reducible rfl
                                       rotate_left
                                       · simp only [Act.put, List.setIfInBounds_toArray, List.set_cons_zero, List.set_cons_succ, i64_w, i32_w]
                                         rfl
                                       refine pure_ (i := 20) (N := some 57) (v := ?_) (a' := ?_) #[true, true, true, true, true, true, true, true, true, true, true, true, true, true, true, true, true, true, true, true, true, false] rfl rfl (any_of HT_.out (by kernel_rfl)) (fun _ _ _ h => h) (Or.inl ⟨by rfl, ?_⟩) ?_ ?_
                                       rotate_left
                                       · intro w'
                                         go_simp
                                         with_reducible rfl
                                       rotate_left
                                       · simp only [Act.put, List.setIfInBounds_toArray, List.set_cons_zero, List.set_cons_succ, i64_w, i32_w]
                                         rfl
                                       refine pure_ (i := 21) (N := some 58) (v := ?_) (a' := ?_) #[true, true, true, true, true, true, true, true, true, true, true, true, true, true, true, true, true, true, true, true, true, true] rfl rfl (any_of HT_.out (by kernel_rfl)) (fun _ _ _ h => h) (Or.inl ⟨by rfl, ?_⟩) ?_ ?_
                                       rotate_left
                                       · intro w'
                                         go_simp
                                         with_reducible rfl
                                       rotate_left
                                       · simp only [Act.put, List.setIfInBounds_toArray, List.set_cons_zero, List.set_cons_succ, i64_w, i32_w]
                                         rfl
                                       refine done_ (done_of HT_.out (by kernel_rfl)) ?_
                                       have hcz39_0 : w37.cell? ⟨gb113, 0, none⟩ = some (.int .i64 ((rd_T44 t109 x26_1).f0)) := (blk_cell BK113.out 0).trans rfl
                                       have hcz39_1 : w37.cell? ⟨gb113, 1, none⟩ = some (.int .u64 ((rd_T44 t109 x26_1).f1)) := (blk_cell BK113.out 1).trans rfl
                                       have hcz39_2 : w37.cell? ⟨gb113, 2, none⟩ = some (.int .u64 ((rd_T44 t109 x26_1).f2)) := (blk_cell BK113.out 2).trans rfl
                                       have hfz39_0 := blk_frozen BK113.out 0
                                       have hfz39_1 := blk_frozen BK113.out 1
                                       have hfz39_2 := blk_frozen BK113.out 2
                                       try go_wp2
                                       go_ret2
                                       exact ⟨_, by first | rfl | (simp [errW_none, errW_some] <;> rfl) | (simp only [← hji7]; first | rfl | (simp [errW_none, errW_some] <;> rfl)) | (simp [*, errW_none, errW_some] <;> rfl), by first | exact Kd.S_nil _ _ _ _ _ | exact Kd.N_nil _ _ _ _ _ | exact Kd.V_nil _ _ _ _ _ | exact Kd.Q_nil _ _ _ _ _ | exact Kd.R_nil _ _ _ _ _, by repeat (first | (with_reducible first | exact HB.out | apply below_alloc | apply pw_below_drewN | apply below_drew1 | refine below_set ?_ GE113.out) | exact HB.out)⟩
                                     · rw [if_neg c36] at H
                                       have c36b0 : decide (((rd_T44 t109 x26_1).f2) < (IntKind.u64.wrap ((IntKind.u64.wrap (x10_2 + 1)) * a1))) = false := decide_eq_false c36
                                       clear c36
                                       obtain ⟨y118, hy118⟩ : ∃ y_ : List Int, y_ = (x7_1.set (x10_2 : Int).toNat (IntKind.u64.wrap ((rd x7_1 x10_2) + ((rd_T34 l0 ((rd_T44 t109 x26_1).f0)).f0)))) := ⟨_, rfl⟩
                                       replace H : (if x10_2 < (x6_1.length : Int) then (if (rd_L6 x6_1 x10_2).length < 17592186044416 then (cyclic_Table.l0 k2 l0 a1 (x6_1.set (x10_2 : Int).toNat ((rd_L6 x6_1 x10_2) ++ [((rd_T44 t109 x26_1).f0)])) y118 t109 (t109.length : Int) (wrap64 (x26_1 + 1))) else (none)) else (none)) = some (r1, r2) := by first | (rw [hy118]; with_reducible exact H) | (have H2_ := (Option.bind_some _ _).symm.trans H; rw [hy118]; with_reducible exact H2_) | (have H2_ := (Option.bind_some _ _).symm.trans H; with_reducible exact H2_) | with_reducible exact H | (rw [hy118]; exact H) | exact H
                                       have Ny118 := Aside0.mk hy118
                                       clear hy118
                                       by_cases c41 : x10_2 < (x6_1.length : Int)
                                       · rw [if_pos c41] at H
                                         have c41b0 : decide (x10_2 < (x6_1.length : Int)) = true := decide_eq_true c41
                                         clear c41
                                         by_cases c42 : (rd_L6 x6_1 x10_2).length < 17592186044416
                                         · rw [if_pos c42] at H
                                           have LMc42 := Aside0.mk c42
                                           clear c42
                                           obtain ⟨y120, hy120⟩ : ∃ y_ : List Int, y_ = ((rd_L6 x6_1 x10_2) ++ [((rd_T44 t109 x26_1).f0)]) := ⟨_, rfl⟩
                                           replace H : (cyclic_Table.l0 k2 l0 a1 (x6_1.set (x10_2 : Int).toNat y120) y118 t109 (t109.length : Int) (wrap64 (x26_1 + 1))) = some (r1, r2) := by first | (rw [hy120]; with_reducible exact H) | (have H2_ := (Option.bind_some _ _).symm.trans H; rw [hy120]; with_reducible exact H2_) | (have H2_ := (Option.bind_some _ _).symm.trans H; with_reducible exact H2_) | with_reducible exact H | (rw [hy120]; exact H) | exact H
                                           have Ny120 := Aside0.mk hy120
                                           clear hy120
                                           obtain ⟨y123, hy123⟩ : ∃ y_ : List (List Int), y_ = (x6_1.set (x10_2 : Int).toNat y120) := ⟨_, rfl⟩
                                           replace H : (cyclic_Table.l0 k2 l0 a1 y123 y118 t109 (t109.length : Int) (wrap64 (x26_1 + 1))) = some (r1, r2) := by first | (rw [hy123]; with_reducible exact H) | (have H2_ := (Option.bind_some _ _).symm.trans H; rw [hy123]; with_reducible exact H2_) | (have H2_ := (Option.bind_some _ _).symm.trans H; with_reducible exact H2_) | with_reducible exact H | (rw [hy123]; exact H) | exact H
                                           have Ny123 := Aside0.mk hy123
                                           clear hy123
                                           have H' := Aside0.mk H
                                           clear H
                                           try go_wp2
                                           have n0_ := Aside0.mk (Kd.S_drew HO_6.out)
                                           have n1_ := Aside0.mk (Kd.R_drew HO_7.out)
                                           have n2_ := Aside0.mk (Kd.R_drew HO_24.out)
                                           have n3_ := Aside0.mk (blk_drew BK113.out)
                                           have n4_ := Aside0.mk (below_drew1 HB.out)
                                           clear HO_6
                                           clear HO_7
                                           clear HO_24
                                           clear BK113
                                           clear HB
                                           have HO_6 := n0_
                                           have HO_7 := n1_
                                           have HO_24 := n2_
                                           have BK113 := n3_
                                           have HB := n4_
                                           clear n0_ n1_ n2_ n3_ n4_
                                           obtain ⟨Ao45, co45, eo45⟩ := Kd.R_slice HO_7.out
                                           (first | subst eo45 | (injection eo45 with f1_ f2_ f3_; have f4_ := f1_.symm; have f5_ := f3_.symm; clear f1_ f2_ f3_; subst f4_; subst f5_))
                                           have p114 : 0 ≤ (x10_2 : Int) := of_decide_eq_true (by first | (with_reducible assumption) | assumption)
                                           have q114 : x10_2 < (x7_1.length : Int) := of_decide_eq_true (by first | (with_reducible assumption) | assumption)
                                           obtain ⟨ad114, e114, hx114_0⟩ := Kd.at_int (Kd.R_reads' HO_7.out).2.2 x10_2 p114 q114
                                           cases e114
                                           replace p114 := eq_true p114
                                           replace q114 := eq_true q114
                                           have p115 : 0 ≤ (((rd_T44 t109 x26_1).f0) : Int) := of_decide_eq_true (by first | (with_reducible assumption) | assumption)
                                           have q115 : ((rd_T44 t109 x26_1).f0) < (l0.length : Int) := of_decide_eq_true (by first | (with_reducible assumption) | assumption)
                                           obtain ⟨ad115, e115, hx115_0, hx115_1⟩ := at_T34 HR0.out ((rd_T44 t109 x26_1).f0) p115 q115
                                           have hw115_1 := hx115_1
                                           have hw115_0 := hx115_0
                                           cases e115
                                           replace hx115_0 := (HB.out.cell (World.block_lt_of_cell? w _ hx115_0)).trans hx115_0
                                           replace hx115_1 := (HB.out.cell (World.block_lt_of_cell? w _ hx115_1)).trans hx115_1
                                           replace p115 := eq_true p115
                                           replace q115 := eq_true q115
                                           refine start_ (n := 22) (S := fun w' => w'.cell? ⟨gb113, 0, none⟩ = some (.int .i64 ((rd_T44 t109 x26_1).f0)) ∧ w'.cell? ⟨gb113, 1, none⟩ = some (.int .u64 ((rd_T44 t109 x26_1).f1)) ∧ w'.cell? ⟨gb113, 2, none⟩ = some (.int .u64 ((rd_T44 t109 x26_1).f2)) ∧ w'.cell? (ad114.add (x10_2).toNat) = some (.int .u64 (rd x7_1 x10_2)) ∧ w'.cell? (ad115.add ((((rd_T44 t109 x26_1).f0)).toNat * 2)) = some (.int .u64 ((rd_T34 l0 ((rd_T44 t109 x26_1).f0)).f0)) ∧ w'.cell? ⟨(ad115.add ((((rd_T44 t109 x26_1).f0)).toNat * 2)).block, (ad115.add ((((rd_T44 t109 x26_1).f0)).toNat * 2)).off + 1, none⟩ = some (.int .u64 ((rd_T34 l0 ((rd_T44 t109 x26_1).f0)).f1))) (ds := []) #[false, false, false, false, false, false, false, false, false, false, false, false, false, false, false, false, false, false, false, false, false, false] (by kernel_rfl) rfl rfl ⟨(blk_cell BK113.out 0).trans rfl, (blk_cell BK113.out 1).trans rfl, (blk_cell BK113.out 2).trans rfl, hx114_0, ((HB.out.cell (World.block_lt_of_cell? w _ hw115_0)).trans hw115_0), ((HB.out.cell (World.block_lt_of_cell? w _ hw115_1)).trans hw115_1)⟩ (fun hHeld => ?_); refine with_tabW cyclic_Table.tab9 cyclic_Table.bits9 (fun HT_ HW_ => ?_)
                                           generalize wr.drew = w44 at HO_6 HO_7 HO_24 BK113 HB hx114_0 hx115_0 hx115_1 hHeld ⊢
                                           refine pure_ (i := 0) (N := some 37) (v := ?_) (a' := ?_) #[true, false, false, false, false, false, false, false, false, false, false, false, false, false, false, false, false, false, false, false, false, false] rfl rfl (any_of HT_.out (by kernel_rfl)) (fun _ _ _ h => h) (Or.inl ⟨by rfl, ?_⟩) ?_ ?_
                                           rotate_left
                                           · intro w'
                                             go_simp
                                             with_reducible rfl
                                           rotate_left
                                           · simp only [Act.put, List.setIfInBounds_toArray, List.set_cons_zero, List.set_cons_succ, i64_w, i32_w]
                                             rfl
                                           refine pure_ (i := 1) (N := some 38) (v := ?_) (a' := ?_) #[true, true, false, false, false, false, false, false, false, false, false, false, false, false, false, false, false, false, false, false, false, false] rfl rfl (any_of HT_.out (by kernel_rfl)) (fun _ _ _ h => h) (Or.inl ⟨by rfl, ?_⟩) ?_ ?_
                                           rotate_left
                                           · intro w'
                                             go_simp
                                             with_reducible rfl
                                           rotate_left
                                           · simp only [Act.put, List.setIfInBounds_toArray, List.set_cons_zero, List.set_cons_succ, i64_w, i32_w]
                                             rfl
                                           refine pure_ (i := 2) (N := some 39) (v := ?_) (a' := ?_) #[true, true, true, false, false, false, false, false, false, false, false, false, false, false, false, false, false, false, false, false, false, false] rfl rfl (any_of HT_.out (by kernel_rfl)) (fun _ _ _ h => h) (Or.inl ⟨by rfl, ?_⟩) ?_ ?_
                                           rotate_left
                                           · intro w'
                                             go_simp
                                             with_reducible rfl
                                           rotate_left
                                           · simp only [Act.put, List.setIfInBounds_toArray, List.set_cons_zero, List.set_cons_succ, i64_w, i32_w]
                                             rfl
                                           refine pure_ (i := 3) (N := some 40) (v := ?_) (a' := ?_) #[true, true, true, true, false, false, false, false, false, false, false, false, false, false, false, false, false, false, false, false, false, false] rfl rfl (any_of HT_.out (by kernel_rfl)) (fun _ _ _ h => h) (Or.inl ⟨by rfl, ?_⟩) ?_ ?_
                                           rotate_left
                                           · intro w'
                                             go_simp
                                             with_reducible rfl
                                           rotate_left
                                           · simp only [Act.put, List.setIfInBounds_toArray, List.set_cons_zero, List.set_cons_succ, i64_w, i32_w]
                                             rfl
                                           refine pure_ (i := 4) (N := some 41) (v := ?_) (a' := ?_) #[true, true, true, true, true, false, false, false, false, false, false, false, false, false, false, false, false, false, false, false, false, false] rfl rfl (any_of HT_.out (by kernel_rfl)) (fun _ _ _ h => h) (Or.inl ⟨by rfl, ?_⟩) ?_ ?_
                                           rotate_left
                                           · intro w'
                                             go_simp
                                             with_reducible rfl
                                           rotate_left
                                           · simp only [Act.put, List.setIfInBounds_toArray, List.set_cons_zero, List.set_cons_succ, i64_w, i32_w]
                                             rfl
                                           refine take_ (i := 5) (N := some 42) (v := ?_) (a' := ?_) #[true, true, true, true, true, true, false, false, false, false, false, false, false, false, false, false, false, false, false, false, false, false] rfl rfl (take_ofW HT_.out HW_.out (by kernel_rfl)) (fun _ _ _ h => h) (Or.inl ⟨by rfl, ?_⟩) hHeld ?_ ?_
                                           rotate_left
                                           · rintro w' ⟨s0, s1, s2, s3, s4, s5⟩
                                             go_simp
                                             with_reducible rfl
                                           rotate_left
                                           · simp only [Act.put, List.setIfInBounds_toArray, List.set_cons_zero, List.set_cons_succ, i64_w, i32_w]
                                             rfl
                                           refine pure_ (i := 6) (N := some 43) (v := ?_) (a' := ?_) #[true, true, true, true, true, true, true, false, false, false, false, false, false, false, false, false, false, false, false, false, false, false] rfl rfl (any_of HT_.out (by kernel_rfl)) (fun _ _ _ h => h) (Or.inl ⟨by rfl, ?_⟩) ?_ ?_
                                           rotate_left
                                           · intro w'
                                             go_simp
                                             with_reducible rfl
                                           rotate_left
                                           · simp only [Act.put, List.setIfInBounds_toArray, List.set_cons_zero, List.set_cons_succ, i64_w, i32_w]
                                             rfl
                                           refine pure_ (i := 7) (N := some 44) (v := ?_) (a' := ?_) #[true, true, true, true, true, true, true, true, false, false, false, false, false, false, false, false, false, false, false, false, false, false] rfl rfl (any_of HT_.out (by kernel_rfl)) (fun _ _ _ h => h) (Or.inl ⟨by rfl, ?_⟩) ?_ ?_
                                           rotate_left
                                           · intro w'
                                             go_simp
                                             with_reducible rfl
                                           rotate_left
                                           · simp only [Act.put, List.setIfInBounds_toArray, List.set_cons_zero, List.set_cons_succ, i64_w, i32_w]
                                             rfl
                                           refine pure_ (i := 8) (N := some 45) (v := ?_) (a' := ?_) #[true, true, true, true, true, true, true, true, true, false, false, false, false, false, false, false, false, false, false, false, false, false] rfl rfl (any_of HT_.out (by kernel_rfl)) (fun _ _ _ h => h) (Or.inl ⟨by rfl, ?_⟩) ?_ ?_
                                           rotate_left
                                           · intro w'
                                             go_simp
                                             with_reducible rfl
                                           rotate_left
                                           · simp only [Act.put, List.setIfInBounds_toArray, List.set_cons_zero, List.set_cons_succ, i64_w, i32_w]
                                             rfl
                                           refine pure_ (i := 9) (N := some 46) (v := ?_) (a' := ?_) #[true, true, true, true, true, true, true, true, true, true, false, false, false, false, false, false, false, false, false, false, false, false] rfl rfl (any_of HT_.out (by kernel_rfl)) (fun _ _ _ h => h) (Or.inl ⟨by rfl, ?_⟩) ?_ ?_
                                           rotate_left
                                           · intro w'
                                             go_simp
                                             with_reducible rfl
                                           rotate_left
                                           · simp only [Act.put, List.setIfInBounds_toArray, List.set_cons_zero, List.set_cons_succ, i64_w, i32_w]
                                             rfl
                                           refine pure_ (i := 10) (N := some 47) (v := ?_) (a' := ?_) #[true, true, true, true, true, true, true, true, true, true, true, false, false, false, false, false, false, false, false, false, false, false] rfl rfl (any_of HT_.out (by kernel_rfl)) (fun _ _ _ h => h) (Or.inl ⟨by rfl, ?_⟩) ?_ ?_
                                           rotate_left
                                           · intro w'
                                             go_simp
                                             with_reducible rfl
                                           rotate_left
                                           · simp only [Act.put, List.setIfInBounds_toArray, List.set_cons_zero, List.set_cons_succ, i64_w, i32_w]
                                             rfl
                                           refine pure_ (i := 12) (N := some 49) (v := ?_) (a' := ?_) #[true, true, true, true, true, true, true, true, true, true, true, false, true, false, false, false, false, false, false, false, false, false] rfl rfl (any_of HT_.out (by kernel_rfl)) (fun _ _ _ h => h) (Or.inl ⟨by rfl, ?_⟩) ?_ ?_
                                           rotate_left
                                           · intro w'
                                             go_simp
                                             with_reducible rfl
                                           rotate_left
                                           · simp only [Act.put, List.setIfInBounds_toArray, List.set_cons_zero, List.set_cons_succ, i64_w, i32_w]
                                             rfl
                                           refine pure_ (i := 13) (N := some 50) (v := ?_) (a' := ?_) #[true, true, true, true, true, true, true, true, true, true, true, false, true, true, false, false, false, false, false, false, false, false] rfl rfl (any_of HT_.out (by kernel_rfl)) (fun _ _ _ h => h) (Or.inl ⟨by rfl, ?_⟩) ?_ ?_
                                           rotate_left
                                           · intro w'
                                             go_simp
                                             with_reducible rfl
                                           rotate_left
                                           · simp only [Act.put, List.setIfInBounds_toArray, List.set_cons_zero, List.set_cons_succ, i64_w, i32_w]
                                             rfl
                                           refine pure_ (i := 19) (N := some 56) (v := ?_) (a' := ?_) #[true, true, true, true, true, true, true, true, true, true, true, false, true, true, false, false, false, false, false, true, false, false] rfl rfl (any_of HT_.out (by kernel_rfl)) (fun _ _ _ h => h) (Or.inl ⟨by rfl, ?_⟩) ?_ ?_
                                           rotate_left
                                           · intro w'
                                             go_simp
                                             with_reducible rfl
                                           rotate_left
                                           · simp only [Act.put, List.setIfInBounds_toArray, List.set_cons_zero, List.set_cons_succ, i64_w, i32_w]
                                             rfl
                                           refine take_ (i := 11) (N := some 48) (v := ?_) (a' := ?_) #[true, true, true, true, true, true, true, true, true, true, true, true, true, true, false, false, false, false, false, true, false, false] rfl rfl (take_ofW HT_.out HW_.out (by kernel_rfl)) (fun _ _ _ h => h) (Or.inl ⟨by rfl, ?_⟩) hHeld ?_ ?_
                                           rotate_left
                                           · rintro w' ⟨s0, s1, s2, s3, s4, s5⟩
                                             go_simp
                                             with_reducible rfl
                                           rotate_left
                                           · simp only [Act.put, List.setIfInBounds_toArray, List.set_cons_zero, List.set_cons_succ, i64_w, i32_w]
                                             rfl
                                           refine take_ (i := 14) (N := some 51) (v := ?_) (a' := ?_) #[true, true, true, true, true, true, true, true, true, true, true, true, true, true, true, false, false, false, false, true, false, false] rfl rfl (take_ofW HT_.out HW_.out (by kernel_rfl)) (fun _ _ _ h => h) (Or.inl ⟨by rfl, ?_⟩) hHeld ?_ ?_
                                           rotate_left
                                           · rintro w' ⟨s0, s1, s2, s3, s4, s5⟩
                                             go_simp
                                             with_reducible rfl
                                           rotate_left
                                           · simp only [Act.put, List.setIfInBounds_toArray, List.set_cons_zero, List.set_cons_succ, i64_w, i32_w]
                                             rfl
                                           refine pure_ (i := 15) (N := some 52) (v := ?_) (a' := ?_) #[true, true, true, true, true, true, true, true, true, true, true, true, true, true, true, true, false, false, false, true, false, false] rfl rfl (any_of HT_.out (by kernel_rfl)) (fun _ _ _ h => h) (Or.inl ⟨by rfl, ?_⟩) ?_ ?_
                                           rotate_left
                                           · intro w'
                                             go_simp
                                             with_reducible rfl
                                           rotate_left
                                           · simp only [Act.put, List.setIfInBounds_toArray, List.set_cons_zero, List.set_cons_succ, i64_w, i32_w]
                                             rfl
                                           refine pure_ (i := 16) (N := some 53) (v := ?_) (a' := ?_) #[true, true, true, true, true, true, true, true, true, true, true, true, true, true, true, true, true, false, false, true, false, false] rfl rfl (any_of HT_.out (by kernel_rfl)) (fun _ _ _ h => h) (Or.inl ⟨by rfl, ?_⟩) ?_ ?_
                                           rotate_left
                                           · intro w'
                                             go_simp
                                             with_reducible rfl
                                           rotate_left
                                           · simp only [Act.put, List.setIfInBounds_toArray, List.set_cons_zero, List.set_cons_succ, i64_w, i32_w]
                                             rfl
                                           refine take_ (i := 17) (N := some 54) (v := ?_) (a' := ?_) #[true, true, true, true, true, true, true, true, true, true, true, true, true, true, true, true, true, true, false, true, false, false] rfl rfl (take_ofW HT_.out HW_.out (by kernel_rfl)) (fun _ _ _ h => h) (Or.inl ⟨by rfl, ?_⟩) hHeld ?_ ?_
                                           rotate_left
                                           · rintro w' ⟨s0, s1, s2, s3, s4, s5⟩
                                             go_simp
                                             with_reducible rfl
                                           rotate_left
                                           · simp only [Act.put, List.setIfInBounds_toArray, List.set_cons_zero, List.set_cons_succ, i64_w, i32_w]
                                             rfl
                                           refine pure_ (i := 18) (N := some 55) (v := ?_) (a' := ?_) #[true, true, true, true, true, true, true, true, true, true, true, true, true, true, true, true, true, true, true, true, false, false] rfl rfl (any_of HT_.out (by kernel_rfl)) (fun _ _ _ h => h) (Or.inl ⟨by rfl, ?_⟩) ?_ ?_
                                           rotate_left
                                           · intro w'
                                             go_simp
                                             with_reducible rfl
                                           rotate_left
                                           · simp only [Act.put, List.setIfInBounds_toArray, List.set_cons_zero, List.set_cons_succ, i64_w, i32_w]
                                             rfl
                                           refine pure_ (i := 20) (N := some 57) (v := ?_) (a' := ?_) #[true, true, true, true, true, true, true, true, true, true, true, true, true, true, true, true, true, true, true, true, true, false] rfl rfl (any_of HT_.out (by kernel_rfl)) (fun _ _ _ h => h) (Or.inl ⟨by rfl, ?_⟩) ?_ ?_
                                           rotate_left
                                           · intro w'
                                             go_simp
                                             with_reducible rfl
                                           rotate_left
                                           · simp only [Act.put, List.setIfInBounds_toArray, List.set_cons_zero, List.set_cons_succ, i64_w, i32_w]
                                             rfl
                                           refine pure_ (i := 21) (N := some 58) (v := ?_) (a' := ?_) #[true, true, true, true, true, true, true, true, true, true, true, true, true, true, true, true, true, true, true, true, true, true] rfl rfl (any_of HT_.out (by kernel_rfl)) (fun _ _ _ h => h) (Or.inl ⟨by rfl, ?_⟩) ?_ ?_
                                           rotate_left
                                           · intro w'
                                             go_simp
                                             with_reducible rfl
                                           rotate_left
                                           · simp only [Act.put, List.setIfInBounds_toArray, List.set_cons_zero, List.set_cons_succ, i64_w, i32_w]
                                             rfl
                                           refine done_ (done_of HT_.out (by kernel_rfl)) ?_
                                           have hcz46_0 : w44.cell? ⟨gb113, 0, none⟩ = some (.int .i64 ((rd_T44 t109 x26_1).f0)) := (blk_cell BK113.out 0).trans rfl
                                           have hcz46_1 : w44.cell? ⟨gb113, 1, none⟩ = some (.int .u64 ((rd_T44 t109 x26_1).f1)) := (blk_cell BK113.out 1).trans rfl
                                           have hcz46_2 : w44.cell? ⟨gb113, 2, none⟩ = some (.int .u64 ((rd_T44 t109 x26_1).f2)) := (blk_cell BK113.out 2).trans rfl
                                           have hfz46_0 := blk_frozen BK113.out 0
                                           have hfz46_1 := blk_frozen BK113.out 1
                                           have hfz46_2 := blk_frozen BK113.out 2
                                           try go_wp2
                                           have n0_ := Aside0.mk (Kd.S_drew HO_6.out)
                                           have n1_ := Aside0.mk (Kd.R_drew HO_7.out)
                                           have n2_ := Aside0.mk (Kd.R_drew HO_24.out)
                                           have n3_ := Aside0.mk (blk_drew BK113.out)
                                           have n4_ := Aside0.mk (below_drew1 HB.out)
                                           clear HO_6
                                           clear HO_7
                                           clear HO_24
                                           clear BK113
                                           clear HB
                                           have HO_6 := n0_
                                           have HO_7 := n1_
                                           have HO_24 := n2_
                                           have BK113 := n3_
                                           have HB := n4_
                                           clear n0_ n1_ n2_ n3_ n4_
                                           have p116 : 0 ≤ (x10_2 : Int) := of_decide_eq_true (by first | (with_reducible assumption) | assumption)
                                           have q116 : x10_2 < (x7_1.length : Int) := of_decide_eq_true (by first | (with_reducible assumption) | assumption)
                                           obtain ⟨ad116, e116, hx116_0⟩ := Kd.at_int (Kd.R_reads' HO_7.out).2.2 x10_2 p116 q116
                                           obtain rfl : ad114 = ad116 := (by injection e116)
                                           replace p116 := eq_true p116
                                           replace q116 := eq_true q116
                                           have p117 : 0 ≤ (((rd_T44 t109 x26_1).f0) : Int) := of_decide_eq_true (by first | (with_reducible assumption) | assumption)
                                           have q117 : ((rd_T44 t109 x26_1).f0) < (l0.length : Int) := of_decide_eq_true (by first | (with_reducible assumption) | assumption)
                                           obtain ⟨ad117, e117, hx117_0, hx117_1⟩ := at_T34 HR0.out ((rd_T44 t109 x26_1).f0) p117 q117
                                           have hw117_1 := hx117_1
                                           have hw117_0 := hx117_0
                                           obtain rfl : ad115 = ad117 := (by injection e117)
                                           replace hx117_0 := (HB.out.cell (World.block_lt_of_cell? w _ hx117_0)).trans hx117_0
                                           replace hx117_1 := (HB.out.cell (World.block_lt_of_cell? w _ hx117_1)).trans hx117_1
                                           replace p117 := eq_true p117
                                           replace q117 := eq_true q117
                                           have p40 : 0 ≤ (x10_2 : Int) := of_decide_eq_true (by first | (with_reducible assumption) | assumption)
                                           have q40 : (x10_2 : Int) < ((x7_1.length : Int) : Int) := of_decide_eq_true (by first | (with_reducible assumption) | assumption)
                                           obtain ⟨go40, co40, eo40, gb40, gl40, cl40, HG40⟩ := Kd.R_form HO_7.out (by omega)
                                           (first | cases eo40 | (injection eo40 with ea_ en_ ec_; (first | subst ea_ | (injection ea_ with ea_; subst ea_)); subst ec_; clear en_))
                                           have GB40 := Aside0.mk gb40
                                           have GG40 := Aside0.mk HG40
                                           clear gb40 gl40 HG40
                                           (first | simp only [add_plain] at hx114_0 | skip)
                                           (first | simp only [add_plain] at hx116_0 | skip)
                                           obtain ⟨hx40_0, hf40_0⟩ := Kd.R_celln 0 HO_7.out (x10_2 : Int) p40 q40
                                           replace p40 := eq_true p40
                                           replace q40 := eq_true q40
                                           have HP48 := Kd.R_putn HO_7.out (x10_2 : Int) (IntKind.u64.wrap ((rd x7_1 x10_2) + ((rd_T34 l0 ((rd_T44 t109 x26_1).f0)).f0)))
                                           rw [← Ny118.out] at HP48
                                           have HQ48 := Aside0.mk HP48
                                           clear HP48
                                           refine start_ (n := 13) (S := fun w' => w'.cell? ⟨gb113, 0, none⟩ = some (.int .i64 ((rd_T44 t109 x26_1).f0)) ∧ w'.cell? ⟨gb113, 1, none⟩ = some (.int .u64 ((rd_T44 t109 x26_1).f1)) ∧ w'.cell? ⟨gb113, 2, none⟩ = some (.int .u64 ((rd_T44 t109 x26_1).f2)) ∧ w'.cell? ⟨go40, (x10_2).toNat, none⟩ = some (.int .u64 (rd x7_1 x10_2)) ∧ w'.cell? (ad115.add ((((rd_T44 t109 x26_1).f0)).toNat * 2)) = some (.int .u64 ((rd_T34 l0 ((rd_T44 t109 x26_1).f0)).f0)) ∧ w'.cell? ⟨(ad115.add ((((rd_T44 t109 x26_1).f0)).toNat * 2)).block, (ad115.add ((((rd_T44 t109 x26_1).f0)).toNat * 2)).off + 1, none⟩ = some (.int .u64 ((rd_T34 l0 ((rd_T44 t109 x26_1).f0)).f1))) (ds := [12]) #[false, false, false, false, false, false, false, false, false, false, false, false, false] (by kernel_rfl) rfl rfl ⟨(blk_cell BK113.out 0).trans rfl, (blk_cell BK113.out 1).trans rfl, (blk_cell BK113.out 2).trans rfl, hx116_0, ((HB.out.cell (World.block_lt_of_cell? w _ hw117_0)).trans hw117_0), ((HB.out.cell (World.block_lt_of_cell? w _ hw117_1)).trans hw117_1)⟩ (fun hHeld => ?_); refine with_tabW cyclic_Table.tab13 cyclic_Table.bits13 (fun HT_ HW_ => ?_)
                                           generalize w44.drew = w47 at HO_6 HO_7 HO_24 BK113 HB GG40 HQ48 hf40_0 hx114_0 hx116_0 hx117_0 hx117_1 hx40_0 hHeld ⊢
                                           refine pure_ (i := 0) (N := some 68) (v := ?_) (a' := ?_) #[true, false, false, false, false, false, false, false, false, false, false, false, false] rfl rfl (any_of HT_.out (by kernel_rfl)) (fun _ _ _ h => h) (Or.inl ⟨by rfl, ?_⟩) ?_ ?_
                                           rotate_left
                                           · intro w'
                                             go_simp
                                             with_reducible rfl
                                           rotate_left
                                           · simp only [Act.put, List.setIfInBounds_toArray, List.set_cons_zero, List.set_cons_succ, i64_w, i32_w]
                                             rfl
                                           refine pure_ (i := 1) (N := some 69) (v := ?_) (a' := ?_) #[true, true, false, false, false, false, false, false, false, false, false, false, false] rfl rfl (any_of HT_.out (by kernel_rfl)) (fun _ _ _ h => h) (Or.inl ⟨by rfl, ?_⟩) ?_ ?_
                                           rotate_left
                                           · intro w'
                                             go_simp
                                             with_reducible rfl
                                           rotate_left
                                           · simp only [Act.put, List.setIfInBounds_toArray, List.set_cons_zero, List.set_cons_succ, i64_w, i32_w]
                                             rfl
                                           refine pure_ (i := 2) (N := some 70) (v := ?_) (a' := ?_) #[true, true, true, false, false, false, false, false, false, false, false, false, false] rfl rfl (any_of HT_.out (by kernel_rfl)) (fun _ _ _ h => h) (Or.inl ⟨by rfl, ?_⟩) ?_ ?_
                                           rotate_left
                                           · intro w'
                                             go_simp
                                             with_reducible rfl
                                           rotate_left
                                           · simp only [Act.put, List.setIfInBounds_toArray, List.set_cons_zero, List.set_cons_succ, i64_w, i32_w]
                                             rfl
                                           refine pure_ (i := 4) (N := some 72) (v := ?_) (a' := ?_) #[true, true, true, false, true, false, false, false, false, false, false, false, false] rfl rfl (any_of HT_.out (by kernel_rfl)) (fun _ _ _ h => h) (Or.inl ⟨by rfl, ?_⟩) ?_ ?_
                                           rotate_left
                                           · intro w'
                                             go_simp
                                             with_reducible rfl
                                           rotate_left
                                           · simp only [Act.put, List.setIfInBounds_toArray, List.set_cons_zero, List.set_cons_succ, i64_w, i32_w]
                                             rfl
                                           refine pure_ (i := 5) (N := some 73) (v := ?_) (a' := ?_) #[true, true, true, false, true, true, false, false, false, false, false, false, false] rfl rfl (any_of HT_.out (by kernel_rfl)) (fun _ _ _ h => h) (Or.inl ⟨by rfl, ?_⟩) ?_ ?_
                                           rotate_left
                                           · intro w'
                                             go_simp
                                             with_reducible rfl
                                           rotate_left
                                           · simp only [Act.put, List.setIfInBounds_toArray, List.set_cons_zero, List.set_cons_succ, i64_w, i32_w]
                                             rfl
                                           refine take_ (i := 3) (N := some 71) (v := ?_) (a' := ?_) #[true, true, true, true, true, true, false, false, false, false, false, false, false] rfl rfl (take_ofW HT_.out HW_.out (by kernel_rfl)) (fun _ _ _ h => h) (Or.inl ⟨by rfl, ?_⟩) hHeld ?_ ?_
                                           rotate_left
                                           · rintro w' ⟨s0, s1, s2, s3, s4, s5⟩
                                             go_simp
                                             with_reducible rfl
                                           rotate_left
                                           · simp only [Act.put, List.setIfInBounds_toArray, List.set_cons_zero, List.set_cons_succ, i64_w, i32_w]
                                             rfl
                                           refine take_ (i := 6) (N := some 74) (v := ?_) (a' := ?_) #[true, true, true, true, true, true, true, false, false, false, false, false, false] rfl rfl (take_ofW HT_.out HW_.out (by kernel_rfl)) (fun _ _ _ h => h) (Or.inl ⟨by rfl, ?_⟩) hHeld ?_ ?_
                                           rotate_left
                                           · rintro w' ⟨s0, s1, s2, s3, s4, s5⟩
                                             go_simp
                                             with_reducible rfl
                                           rotate_left
                                           · simp only [Act.put, List.setIfInBounds_toArray, List.set_cons_zero, List.set_cons_succ, i64_w, i32_w]
                                             rfl
                                           refine pure_ (i := 7) (N := some 75) (v := ?_) (a' := ?_) #[true, true, true, true, true, true, true, true, false, false, false, false, false] rfl rfl (any_of HT_.out (by kernel_rfl)) (fun _ _ _ h => h) (Or.inl ⟨by rfl, ?_⟩) ?_ ?_
                                           rotate_left
                                           · intro w'
                                             go_simp
                                             with_reducible rfl
                                           rotate_left
                                           · simp only [Act.put, List.setIfInBounds_toArray, List.set_cons_zero, List.set_cons_succ, i64_w, i32_w]
                                             rfl
                                           refine pure_ (i := 8) (N := some 76) (v := ?_) (a' := ?_) #[true, true, true, true, true, true, true, true, true, false, false, false, false] rfl rfl (any_of HT_.out (by kernel_rfl)) (fun _ _ _ h => h) (Or.inl ⟨by rfl, ?_⟩) ?_ ?_
                                           rotate_left
                                           · intro w'
                                             go_simp
                                             with_reducible rfl
                                           rotate_left
                                           · simp only [Act.put, List.setIfInBounds_toArray, List.set_cons_zero, List.set_cons_succ, i64_w, i32_w]
                                             rfl
                                           refine take_ (i := 9) (N := some 77) (v := ?_) (a' := ?_) #[true, true, true, true, true, true, true, true, true, true, false, false, false] rfl rfl (take_ofW HT_.out HW_.out (by kernel_rfl)) (fun _ _ _ h => h) (Or.inl ⟨by rfl, ?_⟩) hHeld ?_ ?_
                                           rotate_left
                                           · rintro w' ⟨s0, s1, s2, s3, s4, s5⟩
                                             go_simp
                                             with_reducible rfl
                                           rotate_left
                                           · simp only [Act.put, List.setIfInBounds_toArray, List.set_cons_zero, List.set_cons_succ, i64_w, i32_w]
                                             rfl
                                           refine pure_ (i := 10) (N := some 78) (v := ?_) (a' := ?_) #[true, true, true, true, true, true, true, true, true, true, true, false, false] rfl rfl (any_of HT_.out (by kernel_rfl)) (fun _ _ _ h => h) (Or.inl ⟨by rfl, ?_⟩) ?_ ?_
                                           rotate_left
                                           · intro w'
                                             go_simp
                                             with_reducible rfl
                                           rotate_left
                                           · simp only [Act.put, List.setIfInBounds_toArray, List.set_cons_zero, List.set_cons_succ, i64_w, i32_w]
                                             rfl
                                           refine pure_ (i := 11) (N := some 79) (v := ?_) (a' := ?_) #[true, true, true, true, true, true, true, true, true, true, true, true, false] rfl rfl (any_of HT_.out (by kernel_rfl)) (fun _ _ _ h => h) (Or.inl ⟨by rfl, ?_⟩) ?_ ?_
                                           rotate_left
                                           · intro w'
                                             go_simp
                                             with_reducible rfl
                                           rotate_left
                                           · simp only [Act.put, List.setIfInBounds_toArray, List.set_cons_zero, List.set_cons_succ, i64_w, i32_w]
                                             rfl
                                           refine last_ (i := 12) (N := none) #[true, true, true, true, true, true, true, true, true, true, true, true, true] rfl rfl (one_of HT_.out (by kernel_rfl)) (by decide) (fun K hK => ?_)
                                           refine skip_ (w1 := ?_) (by rfl) rfl ?_ ?_
                                           rotate_left
                                           · go_simp
                                             rfl
                                           refine hK.out _ _ ?_
                                           clear hK K
                                           refine done_ (done_of HT_.out (by kernel_rfl)) ?_
                                           try go_wp2
                                           have n0_ : Aside0 (Kd.S (Kd.slice 3 (Kd.int .i64)) 35 (w47.setCell ⟨go40, (x10_2 : Int).toNat, none⟩ (.int .u64 (IntKind.u64.wrap ((rd x7_1 x10_2) + ((rd_T34 l0 ((rd_T44 t109 x26_1).f0)).f0))))) w.heap.size (fun _ => True) (.slice Ao17 x6_1.length co17) x6_1) := ⟨by (with_reducible repeat (first | apply Kd.S_alloc | apply Kd.S_drewN | apply Kd.S_drew)); exact Kd.S_mono (Kd.S_far (p := ⟨go40, (x10_2 : Int).toNat, none⟩) (Kd.S_types HO_6.out GG40.out (by decide)) (fun _ hk => hk.2) (.int .u64 (IntKind.u64.wrap ((rd x7_1 x10_2) + ((rd_T34 l0 ((rd_T44 t109 x26_1).f0)).f0))))) (fun _ hk => trivial)⟩
                                           have n1_ : Aside0 (Kd.R (Kd.int .u64) 23 (w47.setCell ⟨go40, (x10_2 : Int).toNat, none⟩ (.int .u64 (IntKind.u64.wrap ((rd x7_1 x10_2) + ((rd_T34 l0 ((rd_T44 t109 x26_1).f0)).f0))))) w.heap.size (fun _ => True) (.slice (some ⟨go40, 0, none⟩) x7_1.length co45) y118) := ⟨by (with_reducible repeat (first | apply Kd.R_alloc | apply Kd.R_drewN | apply Kd.R_drew)); exact HQ48.out⟩
                                           have n2_ : Aside0 (Kd.R k44 44 (w47.setCell ⟨go40, (x10_2 : Int).toNat, none⟩ (.int .u64 (IntKind.u64.wrap ((rd x7_1 x10_2) + ((rd_T34 l0 ((rd_T44 t109 x26_1).f0)).f0))))) w.heap.size (fun k_ => k_ ≠ gb113) (.slice (some ad112) t109.length co21) t109) := ⟨by (with_reducible repeat (first | apply Kd.R_alloc | apply Kd.R_drewN | apply Kd.R_drew)); exact Kd.R_mono (Kd.R_far (p := ⟨go40, (x10_2 : Int).toNat, none⟩) (Kd.R_types HO_24.out GG40.out (by decide)) (fun _ hk => hk.2) (.int .u64 (IntKind.u64.wrap ((rd x7_1 x10_2) + ((rd_T34 l0 ((rd_T44 t109 x26_1).f0)).f0))))) (fun _ hk => hk.1)⟩
                                           have n3_ : Aside0 ((w47.setCell ⟨go40, (x10_2 : Int).toNat, none⟩ (.int .u64 (IntKind.u64.wrap ((rd x7_1 x10_2) + ((rd_T34 l0 ((rd_T44 t109 x26_1).f0)).f0))))).heap[gb113]? = some (.cells #[.int .i64 ((rd_T44 t109 x26_1).f0), .int .u64 ((rd_T44 t109 x26_1).f1), .int .u64 ((rd_T44 t109 x26_1).f2)] 44 (0, 0))) := ⟨by (with_reducible repeat (first | refine blk_drewN ?_ _ | refine blk_drew ?_ | refine blk_alloc ?_ _)); refine blk_far ?_ (by have h_ := Kd.R_ne HO_7.out BK113.out (by decide); intro e_; exact h_ (by rw [e_]; rfl)) _; (with_reducible repeat (first | refine blk_drewN ?_ _ | refine blk_drew ?_ | refine blk_alloc ?_ _)); exact BK113.out⟩
                                           have n4_ : Aside0 (Below w.heap.size w (w47.setCell ⟨go40, (x10_2 : Int).toNat, none⟩ (.int .u64 (IntKind.u64.wrap ((rd x7_1 x10_2) + ((rd_T34 l0 ((rd_T44 t109 x26_1).f0)).f0)))))) := ⟨by repeat (first | (with_reducible first | exact HB.out | apply below_alloc | apply pw_below_drewN | apply below_drew1 | refine below_set ?_ GB40.out | refine below_set ?_ GE113.out) | exact HB.out)⟩
                                           (try clear HO_6)
                                           (try clear HO_7)
                                           (try clear HO_24)
                                           (try clear BK113)
                                           (try clear HB)
                                           generalize (w47.setCell ⟨go40, (x10_2 : Int).toNat, none⟩ (.int .u64 (IntKind.u64.wrap ((rd x7_1 x10_2) + ((rd_T34 l0 ((rd_T44 t109 x26_1).f0)).f0))))) = w49 at n0_ n1_ n2_ n3_ n4_ ⊢
                                           have HO_6 := n0_
                                           have HO_7 := n1_
                                           have HO_24 := n2_
                                           have BK113 := n3_
                                           have HB := n4_
                                           clear n0_ n1_ n2_ n3_ n4_
                                           have n0_ := Aside0.mk (Kd.S_drew HO_6.out)
                                           have n1_ := Aside0.mk (Kd.R_drew HO_7.out)
                                           have n2_ := Aside0.mk (Kd.R_drew HO_24.out)
                                           have n3_ := Aside0.mk (blk_drew BK113.out)
                                           have n4_ := Aside0.mk (below_drew1 HB.out)
                                           clear HO_6
                                           clear HO_7
                                           clear HO_24
                                           clear BK113
                                           clear HB
                                           have HO_6 := n0_
                                           have HO_7 := n1_
                                           have HO_24 := n2_
                                           have BK113 := n3_
                                           have HB := n4_
                                           clear n0_ n1_ n2_ n3_ n4_
                                           have p119 : 0 ≤ (x10_2 : Int) := of_decide_eq_true (by first | (with_reducible assumption) | assumption)
                                           have q119 : x10_2 < (x6_1.length : Int) := of_decide_eq_true (by first | (with_reducible assumption) | assumption)
                                           obtain ⟨ad119, A119_0, c119_0, e119, hx119_0, hl119_0, hi119_0⟩ := at_L6 (Kd.S_reads' HO_6.out).2.2 x10_2 p119 q119
                                           cases e119
                                           obtain ⟨ce119, hce119, hMe119, hcc119⟩ := Kd.S_get HO_6.out [] x10_2 p119 (by first | exact q119 | exact of_decide_eq_true (by first | (with_reducible assumption) | assumption) | (have e_ := (Kd.S_reads' HO_6.out).1; omega))
                                           obtain ⟨ve119_0, rfl, ge119_0⟩ := hMe119
                                           have hv119_0 := hcc119 0 _ rfl
                                           rw [Nat.add_zero, show ((Kd.slice 3 (Kd.int .i64))).sz = 1 from rfl, Nat.mul_one] at hv119_0
                                           replace hv119_0 := Option.some.inj (hv119_0.symm.trans hx119_0)
                                           rw [hv119_0] at ge119_0
                                           have HL119_0 := Aside0.mk (show Kd.R (Kd.int .i64) 3 _ _ _ _ (rd_L6 x6_1 x10_2) from ge119_0)
                                           clear hv119_0 ge119_0
                                           have HX119_0 := Aside0.mk hx119_0
                                           clear hcc119 hce119
                                           have HR119_0 := Aside0.mk hi119_0
                                           have HC119_0 := Aside0.mk hl119_0
                                           clear hi119_0 hl119_0
                                           replace p119 := eq_true p119
                                           replace q119 := eq_true q119
                                           obtain ⟨go51, co51, eo51, gb51, gl51, cl51, HG51⟩ := Kd.S_form HO_6.out (by have h_ : (x10_2 : Int) < ((x6_1.length : Int) : Int) := of_decide_eq_true (by first | (with_reducible assumption) | assumption); have h2_ : 0 ≤ (x10_2 : Int) := (of_decide_eq_true (by first | (with_reducible assumption) | assumption)); omega)
                                           (first | cases eo51 | (injection eo51 with ea_ en_ ec_; (first | subst ea_ | (injection ea_ with ea_; subst ea_)); subst ec_; clear en_))
                                           have GB51 := Aside0.mk gb51
                                           have GG51 := Aside0.mk HG51
                                           clear gb51 gl51 HG51
                                           (first | simp only [add_plain] at hx119_0 | skip)
                                           obtain ⟨oki51, ce51, hcl51, hM51, hcc51, _, _, hH51⟩ := Kd.S_elem HO_6.out [] (x10_2 : Int) (of_decide_eq_true (by first | (with_reducible assumption) | assumption)) (by have h_ : (x10_2 : Int) < ((x6_1.length : Int) : Int) := of_decide_eq_true (by first | (with_reducible assumption) | assumption); first | exact h_ | (have e_ := (Kd.S_reads' HO_6.out).1; omega) | simpa using h_)
                                           obtain ⟨ve51_0, rfl, ge51_0⟩ := hM51
                                           have hv51 := hcc51 0 _ rfl
                                           have hX51 := HX119_0.out
                                           (try simp only [add_plain] at hX51)
                                           (try simp only [Nat.add_zero] at hv51)
                                           (try rw [show ((Kd.slice 3 (Kd.int .i64))).sz = 1 from rfl, Nat.mul_one] at hv51)
                                           replace hv51 := Option.some.inj (hv51.symm.trans hX51)
                                           subst hv51
                                           clear hX51 hcc51 hcl51
                                           have UU51 := Aside0.mk (show Kd.R (Kd.int .i64) 3 _ w.heap.size oki51 (.slice A119_0 (rd_L6 x6_1 x10_2).length c119_0) (rd_L6 x6_1 x10_2) from ge51_0)
                                           have HH51 := Aside0.mk hH51
                                           have HN51 := Aside0.mk (Kd.S_reads' HO_6.out).1
                                           clear hH51 ge51_0
                                           refine start_ (n := 12) (S := fun w' => w'.cell? ⟨gb113, 0, none⟩ = some (.int .i64 ((rd_T44 t109 x26_1).f0)) ∧ w'.cell? ⟨gb113, 1, none⟩ = some (.int .u64 ((rd_T44 t109 x26_1).f1)) ∧ w'.cell? ⟨gb113, 2, none⟩ = some (.int .u64 ((rd_T44 t109 x26_1).f2)) ∧ w'.cell? ⟨go51, (x10_2).toNat, none⟩ = some (.slice A119_0 (rd_L6 x6_1 x10_2).length c119_0)) (ds := [11]) #[false, false, false, false, false, false, false, false, false, false, false, false] (by kernel_rfl) rfl rfl ⟨(blk_cell BK113.out 0).trans rfl, (blk_cell BK113.out 1).trans rfl, (blk_cell BK113.out 2).trans rfl, hx119_0⟩ (fun hHeld => ?_); refine with_tabW cyclic_Table.tab14 cyclic_Table.bits14 (fun HT_ HW_ => ?_)
                                           generalize w49.drew = w50 at HO_6 HO_7 HO_24 BK113 HB GG51 HH51 HL119_0 HQ48 HR119_0 HX119_0 UU51 hx119_0 hHeld ⊢
                                           refine pure_ (i := 0) (N := some 80) (v := ?_) (a' := ?_) #[true, false, false, false, false, false, false, false, false, false, false, false] rfl rfl (any_of HT_.out (by kernel_rfl)) (fun _ _ _ h => h) (Or.inl ⟨by rfl, ?_⟩) ?_ ?_
                                           rotate_left
                                           · intro w'
                                             go_simp
                                             with_reducible rfl
                                           rotate_left
                                           · simp only [Act.put, List.setIfInBounds_toArray, List.set_cons_zero, List.set_cons_succ, i64_w, i32_w]
                                             rfl
                                           refine pure_ (i := 1) (N := some 81) (v := ?_) (a' := ?_) #[true, true, false, false, false, false, false, false, false, false, false, false] rfl rfl (any_of HT_.out (by kernel_rfl)) (fun _ _ _ h => h) (Or.inl ⟨by rfl, ?_⟩) ?_ ?_
                                           rotate_left
                                           · intro w'
                                             go_simp
                                             with_reducible rfl
                                           rotate_left
                                           · simp only [Act.put, List.setIfInBounds_toArray, List.set_cons_zero, List.set_cons_succ, i64_w, i32_w]
                                             rfl
                                           refine pure_ (i := 2) (N := some 82) (v := ?_) (a' := ?_) #[true, true, true, false, false, false, false, false, false, false, false, false] rfl rfl (any_of HT_.out (by kernel_rfl)) (fun _ _ _ h => h) (Or.inl ⟨by rfl, ?_⟩) ?_ ?_
                                           rotate_left
                                           · intro w'
                                             go_simp
                                             with_reducible rfl
                                           rotate_left
                                           · simp only [Act.put, List.setIfInBounds_toArray, List.set_cons_zero, List.set_cons_succ, i64_w, i32_w]
                                             rfl
                                           refine pure_ (i := 3) (N := some 83) (v := ?_) (a' := ?_) #[true, true, true, true, false, false, false, false, false, false, false, false] rfl rfl (any_of HT_.out (by kernel_rfl)) (fun _ _ _ h => h) (Or.inl ⟨by rfl, ?_⟩) ?_ ?_
                                           rotate_left
                                           · intro w'
                                             go_simp
                                             with_reducible rfl
                                           rotate_left
                                           · simp only [Act.put, List.setIfInBounds_toArray, List.set_cons_zero, List.set_cons_succ, i64_w, i32_w]
                                             rfl
                                           refine pure_ (i := 4) (N := some 84) (v := ?_) (a' := ?_) #[true, true, true, true, true, false, false, false, false, false, false, false] rfl rfl (any_of HT_.out (by kernel_rfl)) (fun _ _ _ h => h) (Or.inl ⟨by rfl, ?_⟩) ?_ ?_
                                           rotate_left
                                           · intro w'
                                             go_simp
                                             with_reducible rfl
                                           rotate_left
                                           · simp only [Act.put, List.setIfInBounds_toArray, List.set_cons_zero, List.set_cons_succ, i64_w, i32_w]
                                             rfl
                                           refine pure_ (i := 6) (N := some 86) (v := ?_) (a' := ?_) #[true, true, true, true, true, false, true, false, false, false, false, false] rfl rfl (any_of HT_.out (by kernel_rfl)) (fun _ _ _ h => h) (Or.inl ⟨by rfl, ?_⟩) ?_ ?_
                                           rotate_left
                                           · intro w'
                                             go_simp
                                             with_reducible rfl
                                           rotate_left
                                           · simp only [Act.put, List.setIfInBounds_toArray, List.set_cons_zero, List.set_cons_succ, i64_w, i32_w]
                                             rfl
                                           refine take_ (i := 5) (N := some 85) (v := ?_) (a' := ?_) #[true, true, true, true, true, true, true, false, false, false, false, false] rfl rfl (take_ofW HT_.out HW_.out (by kernel_rfl)) (fun _ _ _ h => h) (Or.inl ⟨by rfl, ?_⟩) hHeld ?_ ?_
                                           rotate_left
                                           · rintro w' ⟨s0, s1, s2, s3⟩
                                             go_simp
                                             with_reducible rfl
                                           rotate_left
                                           · simp only [Act.put, List.setIfInBounds_toArray, List.set_cons_zero, List.set_cons_succ, i64_w, i32_w]
                                             rfl
                                           refine take_ (i := 7) (N := some 87) (v := ?_) (a' := ?_) #[true, true, true, true, true, true, true, true, false, false, false, false] rfl rfl (take_ofW HT_.out HW_.out (by kernel_rfl)) (fun _ _ _ h => h) (Or.inl ⟨by rfl, ?_⟩) hHeld ?_ ?_
                                           rotate_left
                                           · rintro w' ⟨s0, s1, s2, s3⟩
                                             go_simp
                                             with_reducible rfl
                                           rotate_left
                                           · simp only [Act.put, List.setIfInBounds_toArray, List.set_cons_zero, List.set_cons_succ, i64_w, i32_w]
                                             rfl
                                           refine one_ (i := 8) (N := some 88) #[true, true, true, true, true, true, true, true, true, false, false, false] rfl rfl (one_of HT_.out (by kernel_rfl)) (by decide) (fun K hK => ?_)
                                           refine value_ (w1 := ?_) (v := ?_) (by rfl) rfl ?_ ?_
                                           rotate_left 2
                                           · go_simp
                                             constructor
                                             · rfl
                                             · rfl
                                           refine hK.out _ _ ⟨(blk_cell (blk_alloc BK113.out _) 0).trans rfl, (blk_cell (blk_alloc BK113.out _) 1).trans rfl, (blk_cell (blk_alloc BK113.out _) 2).trans rfl, (World.cell?_alloc_lt _ _ _ (World.block_lt_of_cell? _ _ (hHeld.2.2.2))).trans (hHeld.2.2.2)⟩ (fun hHeld => ?_)
                                           clear hK K
                                           refine norm_ (a' := ?_) ?_ ?_
                                           rotate_left
                                           · show Act.put _ (some 88) _ = _
                                             simp only [Act.put, List.setIfInBounds_toArray, List.set_cons_zero, List.set_cons_succ, i64_w, i32_w]
                                             rfl
                                           refine one_ (i := 9) (N := some 89) #[true, true, true, true, true, true, true, true, true, true, false, false] rfl rfl (one_of HT_.out (by kernel_rfl)) (by decide) (fun K hK => ?_)
                                           refine Kd.R_append_step (Kd.int .i64) (w0 := w) w.heap.size (by rfl) (.tmp 85) (.tmp 88) 35 3 (.int .i64 0) 8 rfl Try.underlying35 info3 rfl (by decide) (by omega) (.slice A119_0 (rd_L6 x6_1 x10_2).length c119_0) (rd_L6 x6_1 x10_2) ((rd_T44 t109 x26_1).f0) [.int .i64 ((rd_T44 t109 x26_1).f0)] (fun k_ => oki51 k_ ∨ ((fun _ => True)) k_ ∧ w50.heap.size ≤ k_) (fun _ => False) rfl rfl ?aP (fun _ hk => hk.elim) ?aF ?aO ?aB ?aS ?aL ?_
                                           (case aP => exact rfl)
                                           (case aB => exact (by repeat (first | (with_reducible first | exact HB.out | apply below_alloc | apply pw_below_drewN | apply below_drew1 | refine below_set ?_ GE113.out) | exact HB.out)))
                                           (case aF => exact (fun k_ hk => .inr ⟨trivial, hk⟩))
                                           (case aO => exact (by (with_reducible repeat (first | apply Kd.R_alloc | apply Kd.R_drewN | apply Kd.R_drew)); exact Kd.R_mono UU51.out (fun _ hk => .inl hk)))
                                           (case aS => exact (below_size (by repeat (first | (with_reducible first | exact HB.out | apply below_alloc | apply pw_below_drewN | apply below_drew1 | refine below_set ?_ GE113.out) | exact HB.out))))
                                           (case aL => have := LMc42.out; omega)
                                           intro v121 w52 ho hb hg hat
                                           (first | have HS3_ := cell_grown hg (hHeld.2.2.2) (by first | (rw [add_block]; exact (fun e_ => ((HL119_0.out.1 _ e_.symm).2) rfl)) | (show some (Addr.add _ _).block ≠ _; rw [add_block]; exact (fun e_ => ((HL119_0.out.1 _ e_.symm).2) rfl)) | exact (fun e_ => ((HL119_0.out.1 _ e_.symm).2) rfl)) | have HS3_ := cell_grown hg (cell_unalloc (hHeld.2.2.2) (by first | (rw [add_block]; exact Kd.S_lt HO_6.out _ rfl) | (show (Addr.add _ _).block < _; rw [add_block]; exact Kd.S_lt HO_6.out _ rfl) | exact Kd.S_lt HO_6.out _ rfl)) (by first | (rw [add_block]; exact (fun e_ => ((HL119_0.out.1 _ e_.symm).2) rfl)) | (show some (Addr.add _ _).block ≠ _; rw [add_block]; exact (fun e_ => ((HL119_0.out.1 _ e_.symm).2) rfl)) | exact (fun e_ => ((HL119_0.out.1 _ e_.symm).2) rfl)))
                                           rw [← Ny120.out] at ho
                                           have n0_ := Aside0.mk (Kd.R_over' (v := (.slice A119_0 (rd_L6 x6_1 x10_2).length c119_0)) (by (with_reducible repeat (first | apply Kd.R_alloc | apply Kd.R_drewN | apply Kd.R_drew)); exact HO_7.out) (Kd.R_typed HL119_0.out) (by decide) hg)
                                           have n1_ := Aside0.mk (Kd.R_over' (v := (.slice A119_0 (rd_L6 x6_1 x10_2).length c119_0)) (by (with_reducible repeat (first | apply Kd.R_alloc | apply Kd.R_drewN | apply Kd.R_drew)); exact HO_24.out) (Kd.R_typed HL119_0.out) (by decide) hg)
                                           have n2_ := Aside0.mk (blk_grown (g := gb113) (o := .cells #[.int .i64 ((rd_T44 t109 x26_1).f0), .int .u64 ((rd_T44 t109 x26_1).f1), .int .u64 ((rd_T44 t109 x26_1).f2)] 44 (0, 0)) (by (with_reducible repeat (first | refine blk_drewN ?_ _ | refine blk_drew ?_ | refine blk_alloc ?_ _)); exact BK113.out) hg (Kd.R_ne HL119_0.out BK113.out (by decide)))
                                           have n3_ := Aside0.mk (hb)
                                           have n4_ := Aside0.mk (Kd.H_grown (Kd.H_widen (by repeat (first | exact HH51.out | refine Kd.H_alloc ?_ _ | refine Kd.H_drewN ?_ _ | refine Kd.H_drew ?_))) hg (fun k_ e_ => .inl (UU51.out.1 k_ e_)))
                                           have n5_ := Aside0.mk (ho)
                                           clear HO_7
                                           clear HO_24
                                           clear BK113
                                           clear HB
                                           clear HH51
                                           clear HO_6
                                           clear UU51
                                           clear HL119_0
                                           have HO_7 := n0_
                                           have HO_24 := n1_
                                           have BK113 := n2_
                                           have HB := n3_
                                           have HH51 := n4_
                                           have HO122 := n5_
                                           clear n0_ n1_ n2_ n3_ n4_ n5_
                                           clear ho hb hg hat
                                           have p43 : 0 ≤ (x10_2 : Int) := of_decide_eq_true (by first | (with_reducible assumption) | assumption)
                                           have q43 : (x10_2 : Int) < ((x6_1.length : Int) : Int) := of_decide_eq_true (by first | (with_reducible assumption) | assumption)
                                           replace p43 := eq_true p43
                                           replace q43 := eq_true q43
                                           obtain ⟨Ao55, co55, eo55⟩ := Kd.R_slice HO122.out
                                           (first | subst eo55 | (injection eo55 with f1_ f2_ f3_; have f4_ := f1_.symm; have f5_ := f3_.symm; clear f1_ f2_ f3_; subst f4_; subst f5_))
                                           obtain ⟨_, _, hraw53, _, _, hcc53, _⟩ := Kd.H_raw HH51.out (of_decide_eq_true (by first | (with_reducible assumption) | assumption)) (by have h_ : (x10_2 : Int) < ((x6_1.length : Int) : Int) := of_decide_eq_true (by first | (with_reducible assumption) | assumption); first | exact h_ | (have e_ := (HN51.out); omega) | simpa using h_)
                                           obtain ⟨_, hfr53⟩ := Kd.H_at HH51.out (of_decide_eq_true (by first | (with_reducible assumption) | assumption)) (by have h_ : (x10_2 : Int) < ((x6_1.length : Int) : Int) := of_decide_eq_true (by first | (with_reducible assumption) | assumption); first | exact h_ | (have e_ := (HN51.out); omega) | simpa using h_)
                                           have hx53_0 := hcc53 0 _ rfl
                                           have hf53_0 := hfr53 0
                                           (try simp only [Nat.add_zero] at hx53_0 hf53_0)
                                           (try rw [show ((Kd.slice 3 (Kd.int .i64))).sz = 1 from rfl, Nat.mul_one] at hx53_0)
                                           (try rw [show ((Kd.slice 3 (Kd.int .i64))).sz = 1 from rfl, Nat.mul_one] at hf53_0)
                                           have HP53 := Kd.S_seg0 HH51.out (of_decide_eq_true (by first | (with_reducible assumption) | assumption)) (by have h_ : (x10_2 : Int) < ((x6_1.length : Int) : Int) := of_decide_eq_true (by first | (with_reducible assumption) | assumption); first | exact h_ | (have e_ := (HN51.out); omega) | simpa using h_) (seg := [.slice Ao55 y120.length co55]) (j := 0) (show 1 ≤ 1 from by decide) (x' := y120) (Kd.M_row HO122.out) (fun _ hk => hk)
                                           (try simp only [show ((Kd.slice 3 (Kd.int .i64))).sz = 1 from rfl, Nat.mul_one, Nat.add_zero] at HP53)
                                           clear hcc53 hfr53
                                           have HNB113_go51 := Aside0.mk (show gb113 ≠ go51 from by have h_ := Kd.R_ne hraw53 BK113.out (by decide); intro e_; exact h_ (by rw [e_]; rfl))
                                           have HS53 := HP53.1
                                           rw [← Ny123.out] at HS53
                                           have HQ53 := Aside0.mk HS53
                                           obtain ⟨_, hgg53⟩ := Kd.R_typed hraw53 go51 rfl
                                           have GG53_ := Aside0.mk hgg53
                                           clear HP53 HS53 hgg53
                                           refine hK.out _ _ ⟨(blk_cell BK113.out 0).trans rfl, (blk_cell BK113.out 1).trans rfl, (blk_cell BK113.out 2).trans rfl, HS3_⟩ (fun hHeld => ?_)
                                           clear hK K
                                           refine norm_ (a' := ?_) ?_ ?_
                                           rotate_left
                                           · show Act.put _ (some 89) _ = _
                                             simp only [Act.put, List.setIfInBounds_toArray, List.set_cons_zero, List.set_cons_succ, i64_w, i32_w]
                                             rfl
                                           refine pure_ (i := 10) (N := some 90) (v := ?_) (a' := ?_) #[true, true, true, true, true, true, true, true, true, true, true, false] rfl rfl (any_of HT_.out (by kernel_rfl)) (fun _ _ _ h => h) (Or.inl ⟨by rfl, ?_⟩) ?_ ?_
                                           rotate_left
                                           · intro w'
                                             go_simp
                                             with_reducible rfl
                                           rotate_left
                                           · simp only [Act.put, List.setIfInBounds_toArray, List.set_cons_zero, List.set_cons_succ, i64_w, i32_w]
                                             rfl
                                           refine last_ (i := 11) (N := none) #[true, true, true, true, true, true, true, true, true, true, true, true] rfl rfl (one_of HT_.out (by kernel_rfl)) (by decide) (fun K hK => ?_)
                                           refine skip_ (w1 := ?_) (by rfl) rfl ?_ ?_
                                           rotate_left
                                           · go_simp
                                             rfl
                                           refine hK.out _ _ ?_
                                           clear hK K
                                           refine done_ (done_of HT_.out (by kernel_rfl)) ?_
                                           try go_wp2
                                           (try simp only [← hl6_1])
                                           go_roundg k2
                                           case measure => have := HK1.out; have := HK2.out; omega
                                           case rel => exact ⟨(y123), (y118), (wrap64 (x26_1 + 1)), (by first | rfl | (simp; done) | (simp [*]; done)), H', ⟨by have := HK1.out; have := HK2.out; omega⟩, ⟨by (try simp only [hl6_1]); (with_reducible repeat (first | apply Kd.S_alloc | apply Kd.S_drewN | apply Kd.S_drew)); exact HQ53.out⟩, ⟨by (try simp only [hl6_1]); (with_reducible repeat (first | apply Kd.R_alloc | apply Kd.R_drewN | apply Kd.R_drew)); exact Kd.R_mono (Kd.R_far (p := ⟨go51, (x10_2 : Int).toNat, none⟩) (Kd.R_types HO_7.out GG53_.out (by decide)) (fun _ hk => hk.2) (.slice Ao55 y120.length co55)) (fun _ hk => trivial)⟩, ⟨by (try simp only [hl6_1]); (with_reducible repeat (first | apply Kd.R_alloc | apply Kd.R_drewN | apply Kd.R_drew)); exact Kd.R_mono (Kd.R_far (p := ⟨go51, (x10_2 : Int).toNat, none⟩) (Kd.R_types HO_24.out GG53_.out (by decide)) (fun _ hk => hk.2) (.slice Ao55 y120.length co55)) (fun _ hk => trivial)⟩, ⟨by repeat (first | (with_reducible first | exact HB.out | apply below_alloc | apply pw_below_drewN | apply below_drew1 | refine below_set ?_ GB51.out | refine below_set ?_ GE113.out) | exact HB.out)⟩⟩
                                         · rw [if_neg c42] at H
                                           exact absurd H (by simp)
                                       · rw [if_neg c41] at H
                                         exact absurd H (by simp)
                                 · rw [if_neg c32] at H
                                   exact absurd H (by simp)
                               · rw [if_neg c31] at H
                                 exact absurd H (by simp)
                             · rw [if_neg c30] at H
                               exact absurd H (by simp)
                           · rw [if_neg c29] at H
                             exact absurd H (by simp)
                         · rw [if_neg c28] at H
                           have c28b0 : decide ((IntKind.u64.wrap ((IntKind.u64.wrap (x10_2 + 1)) * a1)) ≤ ((rd_T44 t109 x26_1).f2)) = false := decide_eq_false c28
                           clear c28
                           by_cases c56 : (IntKind.u64.wrap ((IntKind.u64.wrap (x10_2 + 1)) * a1)) > ((rd_T44 t109 x26_1).f2)
                           · rw [if_pos c56] at H
                             have c56b0 : decide (((rd_T44 t109 x26_1).f2) < (IntKind.u64.wrap ((IntKind.u64.wrap (x10_2 + 1)) * a1))) = true := decide_eq_true c56
                             clear c56
                             simp only [Option.some.injEq, Prod.mk.injEq] at H
                             obtain ⟨rfl, rfl⟩ := H
                             try go_wp2
                             have n0_ := Aside0.mk (Kd.S_drew HO_6.out)
                             have n1_ := Aside0.mk (Kd.R_drew HO_7.out)
                             have n2_ := Aside0.mk (Kd.R_drew HO_24.out)
                             have n3_ := Aside0.mk (blk_drew BK113.out)
                             have n4_ := Aside0.mk (below_drew1 HB.out)
                             clear HO_6
                             clear HO_7
                             clear HO_24
                             clear BK113
                             clear HB
                             have HO_6 := n0_
                             have HO_7 := n1_
                             have HO_24 := n2_
                             have BK113 := n3_
                             have HB := n4_
                             clear n0_ n1_ n2_ n3_ n4_
                             refine start_ (n := 22) (S := fun w' => w'.cell? ⟨gb113, 0, none⟩ = some (.int .i64 ((rd_T44 t109 x26_1).f0)) ∧ w'.cell? ⟨gb113, 1, none⟩ = some (.int .u64 ((rd_T44 t109 x26_1).f1)) ∧ w'.cell? ⟨gb113, 2, none⟩ = some (.int .u64 ((rd_T44 t109 x26_1).f2))) (ds := []) #[false, false, false, false, false, false, false, false, false, false, false, false, false, false, false, false, false, false, false, false, false, false] (by kernel_rfl) rfl rfl ⟨(blk_cell BK113.out 0).trans rfl, (blk_cell BK113.out 1).trans rfl, (blk_cell BK113.out 2).trans rfl⟩ (fun hHeld => ?_); refine with_tabW cyclic_Table.tab9 cyclic_Table.bits9 (fun HT_ HW_ => ?_)
                             generalize wr.drew = w57 at HO_6 HO_7 HO_24 BK113 HB hHeld ⊢
                             refine pure_ (i := 0) (N := some 37) (v := ?_) (a' := ?_) #[true, false, false, false, false, false, false, false, false, false, false, false, false, false, false, false, false, false, false, false, false, false] rfl rfl (any_of HT_.out (by kernel_rfl)) (fun _ _ _ h => h) (Or.inl ⟨by rfl, ?_⟩) ?_ ?_
                             rotate_left
                             · intro w'
                               go_simp
                               with_reducible rfl
                             rotate_left
                             · simp only [Act.put, List.setIfInBounds_toArray, List.set_cons_zero, List.set_cons_succ, i64_w, i32_w]
                               rfl
                             refine pure_ (i := 1) (N := some 38) (v := ?_) (a' := ?_) #[true, true, false, false, false, false, false, false, false, false, false, false, false, false, false, false, false, false, false, false, false, false] rfl rfl (any_of HT_.out (by kernel_rfl)) (fun _ _ _ h => h) (Or.inl ⟨by rfl, ?_⟩) ?_ ?_
                             rotate_left
                             · intro w'
                               go_simp
                               with_reducible rfl
                             rotate_left
                             · simp only [Act.put, List.setIfInBounds_toArray, List.set_cons_zero, List.set_cons_succ, i64_w, i32_w]
                               rfl
                             refine pure_ (i := 2) (N := some 39) (v := ?_) (a' := ?_) #[true, true, true, false, false, false, false, false, false, false, false, false, false, false, false, false, false, false, false, false, false, false] rfl rfl (any_of HT_.out (by kernel_rfl)) (fun _ _ _ h => h) (Or.inl ⟨by rfl, ?_⟩) ?_ ?_
                             rotate_left
                             · intro w'
                               go_simp
                               with_reducible rfl
                             rotate_left
                             · simp only [Act.put, List.setIfInBounds_toArray, List.set_cons_zero, List.set_cons_succ, i64_w, i32_w]
                               rfl
                             refine pure_ (i := 3) (N := some 40) (v := ?_) (a' := ?_) #[true, true, true, true, false, false, false, false, false, false, false, false, false, false, false, false, false, false, false, false, false, false] rfl rfl (any_of HT_.out (by kernel_rfl)) (fun _ _ _ h => h) (Or.inl ⟨by rfl, ?_⟩) ?_ ?_
                             rotate_left
                             · intro w'
                               go_simp
                               with_reducible rfl
                             rotate_left
                             · simp only [Act.put, List.setIfInBounds_toArray, List.set_cons_zero, List.set_cons_succ, i64_w, i32_w]
                               rfl
                             refine pure_ (i := 4) (N := some 41) (v := ?_) (a' := ?_) #[true, true, true, true, true, false, false, false, false, false, false, false, false, false, false, false, false, false, false, false, false, false] rfl rfl (any_of HT_.out (by kernel_rfl)) (fun _ _ _ h => h) (Or.inl ⟨by rfl, ?_⟩) ?_ ?_
                             rotate_left
                             · intro w'
                               go_simp
                               with_reducible rfl
                             rotate_left
                             · simp only [Act.put, List.setIfInBounds_toArray, List.set_cons_zero, List.set_cons_succ, i64_w, i32_w]
                               rfl
                             refine take_ (i := 5) (N := some 42) (v := ?_) (a' := ?_) #[true, true, true, true, true, true, false, false, false, false, false, false, false, false, false, false, false, false, false, false, false, false] rfl rfl (take_ofW HT_.out HW_.out (by kernel_rfl)) (fun _ _ _ h => h) (Or.inl ⟨by rfl, ?_⟩) hHeld ?_ ?_
                             rotate_left
                             · rintro w' ⟨s0, s1, s2⟩
                               go_simp
                               with_reducible rfl
                             rotate_left
                             · simp only [Act.put, List.setIfInBounds_toArray, List.set_cons_zero, List.set_cons_succ, i64_w, i32_w]
                               rfl
                             refine pure_ (i := 6) (N := some 43) (v := ?_) (a' := ?_) #[true, true, true, true, true, true, true, false, false, false, false, false, false, false, false, false, false, false, false, false, false, false] rfl rfl (any_of HT_.out (by kernel_rfl)) (fun _ _ _ h => h) (Or.inl ⟨by rfl, ?_⟩) ?_ ?_
                             rotate_left
                             · intro w'
                               go_simp
                               with_reducible rfl
                             rotate_left
                             · simp only [Act.put, List.setIfInBounds_toArray, List.set_cons_zero, List.set_cons_succ, i64_w, i32_w]
                               rfl
                             refine pure_ (i := 7) (N := some 44) (v := ?_) (a' := ?_) #[true, true, true, true, true, true, true, true, false, false, false, false, false, false, false, false, false, false, false, false, false, false] rfl rfl (any_of HT_.out (by kernel_rfl)) (fun _ _ _ h => h) (Or.inl ⟨by rfl, ?_⟩) ?_ ?_
                             rotate_left
                             · intro w'
                               go_simp
                               with_reducible rfl
                             rotate_left
                             · simp only [Act.put, List.setIfInBounds_toArray, List.set_cons_zero, List.set_cons_succ, i64_w, i32_w]
                               rfl
                             refine pure_ (i := 8) (N := some 45) (v := undef) (a' := ?_) #[true, true, true, true, true, true, true, true, true, false, false, false, false, false, false, false, false, false, false, false, false, false] rfl rfl (any_of HT_.out (by kernel_rfl)) (fun _ _ _ h => h) (Or.inr ⟨by rfl, rfl⟩) ?_ ?_
                             rotate_left
                             · simp only [Act.put, List.setIfInBounds_toArray, List.set_cons_zero, List.set_cons_succ, i64_w, i32_w]
                               rfl
                             refine pure_ (i := 9) (N := some 46) (v := undef) (a' := ?_) #[true, true, true, true, true, true, true, true, true, true, false, false, false, false, false, false, false, false, false, false, false, false] rfl rfl (any_of HT_.out (by kernel_rfl)) (fun _ _ _ h => h) (Or.inr ⟨by rfl, rfl⟩) ?_ ?_
                             rotate_left
                             · simp only [Act.put, List.setIfInBounds_toArray, List.set_cons_zero, List.set_cons_succ, i64_w, i32_w]
                               rfl
                             refine pure_ (i := 10) (N := some 47) (v := undef) (a' := ?_) #[true, true, true, true, true, true, true, true, true, true, true, false, false, false, false, false, false, false, false, false, false, false] rfl rfl (any_of HT_.out (by kernel_rfl)) (fun _ _ _ h => h) (Or.inr ⟨by rfl, rfl⟩) ?_ ?_
                             rotate_left
                             · simp only [Act.put, List.setIfInBounds_toArray, List.set_cons_zero, List.set_cons_succ, i64_w, i32_w]
                               rfl
                             refine pure_ (i := 11) (N := some 48) (v := undef) (a' := ?_) #[true, true, true, true, true, true, true, true, true, true, true, true, false, false, false, false, false, false, false, false, false, false] rfl rfl (any_of HT_.out (by kernel_rfl)) (fun _ _ _ h => h) (Or.inr ⟨by rfl, rfl⟩) ?_ ?_
                             rotate_left
                             · simp only [Act.put, List.setIfInBounds_toArray, List.set_cons_zero, List.set_cons_succ, i64_w, i32_w]
                               rfl
                             refine pure_ (i := 12) (N := some 49) (v := undef) (a' := ?_) #[true, true, true, true, true, true, true, true, true, true, true, true, true, false, false, false, false, false, false, false, false, false] rfl rfl (any_of HT_.out (by kernel_rfl)) (fun _ _ _ h => h) (Or.inr ⟨by rfl, rfl⟩) ?_ ?_
                             rotate_left
                             · simp only [Act.put, List.setIfInBounds_toArray, List.set_cons_zero, List.set_cons_succ, i64_w, i32_w]
                               rfl
                             refine pure_ (i := 13) (N := some 50) (v := undef) (a' := ?_) #[true, true, true, true, true, true, true, true, true, true, true, true, true, true, false, false, false, false, false, false, false, false] rfl rfl (any_of HT_.out (by kernel_rfl)) (fun _ _ _ h => h) (Or.inr ⟨by rfl, rfl⟩) ?_ ?_
                             rotate_left
                             · simp only [Act.put, List.setIfInBounds_toArray, List.set_cons_zero, List.set_cons_succ, i64_w, i32_w]
                               rfl
                             refine pure_ (i := 14) (N := some 51) (v := undef) (a' := ?_) #[true, true, true, true, true, true, true, true, true, true, true, true, true, true, true, false, false, false, false, false, false, false] rfl rfl (any_of HT_.out (by kernel_rfl)) (fun _ _ _ h => h) (Or.inr ⟨by rfl, rfl⟩) ?_ ?_
                             rotate_left
                             · simp only [Act.put, List.setIfInBounds_toArray, List.set_cons_zero, List.set_cons_succ, i64_w, i32_w]
                               rfl
                             refine pure_ (i := 15) (N := some 52) (v := undef) (a' := ?_) #[true, true, true, true, true, true, true, true, true, true, true, true, true, true, true, true, false, false, false, false, false, false] rfl rfl (any_of HT_.out (by kernel_rfl)) (fun _ _ _ h => h) (Or.inr ⟨by rfl, rfl⟩) ?_ ?_
                             rotate_left
                             · simp only [Act.put, List.setIfInBounds_toArray, List.set_cons_zero, List.set_cons_succ, i64_w, i32_w]
                               rfl
                             refine pure_ (i := 16) (N := some 53) (v := undef) (a' := ?_) #[true, true, true, true, true, true, true, true, true, true, true, true, true, true, true, true, true, false, false, false, false, false] rfl rfl (any_of HT_.out (by kernel_rfl)) (fun _ _ _ h => h) (Or.inr ⟨by rfl, rfl⟩) ?_ ?_
                             rotate_left
                             · simp only [Act.put, List.setIfInBounds_toArray, List.set_cons_zero, List.set_cons_succ, i64_w, i32_w]
                               rfl
                             refine pure_ (i := 17) (N := some 54) (v := undef) (a' := ?_) #[true, true, true, true, true, true, true, true, true, true, true, true, true, true, true, true, true, true, false, false, false, false] rfl rfl (any_of HT_.out (by kernel_rfl)) (fun _ _ _ h => h) (Or.inr ⟨by rfl, rfl⟩) ?_ ?_
                             rotate_left
                             · simp only [Act.put, List.setIfInBounds_toArray, List.set_cons_zero, List.set_cons_succ, i64_w, i32_w]
                               rfl
                             refine pure_ (i := 18) (N := some 55) (v := undef) (a' := ?_) #[true, true, true, true, true, true, true, true, true, true, true, true, true, true, true, true, true, true, true, false, false, false] rfl rfl (any_of HT_.out (by kernel_rfl)) (fun _ _ _ h => h) (Or.inr ⟨by rfl, rfl⟩) ?_ ?_
                             rotate_left
                             · simp only [Act.put, List.setIfInBounds_toArray, List.set_cons_zero, List.set_cons_succ, i64_w, i32_w]
                               rfl
                             refine pure_ (i := 19) (N := some 56) (v := undef) (a' := ?_) #[true, true, true, true, true, true, true, true, true, true, true, true, true, true, true, true, true, true, true, true, false, false] rfl rfl (any_of HT_.out (by kernel_rfl)) (fun _ _ _ h => h) (Or.inr ⟨by rfl, rfl⟩) ?_ ?_
                             rotate_left
                             · simp only [Act.put, List.setIfInBounds_toArray, List.set_cons_zero, List.set_cons_succ, i64_w, i32_w]
                               rfl
                             refine pure_ (i := 20) (N := some 57) (v := undef) (a' := ?_) #[true, true, true, true, true, true, true, true, true, true, true, true, true, true, true, true, true, true, true, true, true, false] rfl rfl (any_of HT_.out (by kernel_rfl)) (fun _ _ _ h => h) (Or.inr ⟨by rfl, rfl⟩) ?_ ?_
                             rotate_left
                             · simp only [Act.put, List.setIfInBounds_toArray, List.set_cons_zero, List.set_cons_succ, i64_w, i32_w]
                               rfl
                             refine pure_ (i := 21) (N := some 58) (v := ?_) (a' := ?_) #[true, true, true, true, true, true, true, true, true, true, true, true, true, true, true, true, true, true, true, true, true, true] rfl rfl (any_of HT_.out (by kernel_rfl)) (fun _ _ _ h => h) (Or.inl ⟨by rfl, ?_⟩) ?_ ?_
                             rotate_left
                             · intro w'
                               go_simp
                               with_reducible rfl
                             rotate_left
                             · simp only [Act.put, List.setIfInBounds_toArray, List.set_cons_zero, List.set_cons_succ, i64_w, i32_w]
                               rfl
                             refine done_ (done_of HT_.out (by kernel_rfl)) ?_
                             have hcz58_0 : w57.cell? ⟨gb113, 0, none⟩ = some (.int .i64 ((rd_T44 t109 x26_1).f0)) := (blk_cell BK113.out 0).trans rfl
                             have hcz58_1 : w57.cell? ⟨gb113, 1, none⟩ = some (.int .u64 ((rd_T44 t109 x26_1).f1)) := (blk_cell BK113.out 1).trans rfl
                             have hcz58_2 : w57.cell? ⟨gb113, 2, none⟩ = some (.int .u64 ((rd_T44 t109 x26_1).f2)) := (blk_cell BK113.out 2).trans rfl
                             have hfz58_0 := blk_frozen BK113.out 0
                             have hfz58_1 := blk_frozen BK113.out 1
                             have hfz58_2 := blk_frozen BK113.out 2
                             try go_wp2
                             go_ret2
                             exact ⟨_, by first | rfl | (simp [errW_none, errW_some] <;> rfl) | (simp only [← hji7]; first | rfl | (simp [errW_none, errW_some] <;> rfl)) | (simp [*, errW_none, errW_some] <;> rfl), by first | exact Kd.S_nil _ _ _ _ _ | exact Kd.N_nil _ _ _ _ _ | exact Kd.V_nil _ _ _ _ _ | exact Kd.Q_nil _ _ _ _ _ | exact Kd.R_nil _ _ _ _ _, by repeat (first | (with_reducible first | exact HB.out | apply below_alloc | apply pw_below_drewN | apply below_drew1 | refine below_set ?_ GE113.out) | exact HB.out)⟩
                           · rw [if_neg c56] at H
                             have c56b0 : decide (((rd_T44 t109 x26_1).f2) < (IntKind.u64.wrap ((IntKind.u64.wrap (x10_2 + 1)) * a1))) = false := decide_eq_false c56
                             clear c56
                             by_cases c59 : 0 ≤ x10_2
                             · rw [if_pos c59] at H
                               have c59b0 : decide (0 ≤ x10_2) = true := decide_eq_true c59
                               clear c59
                               by_cases c60 : x10_2 < (x7_1.length : Int)
                               · rw [if_pos c60] at H
                                 have c60b0 : decide (x10_2 < (x7_1.length : Int)) = true := decide_eq_true c60
                                 clear c60
                                 by_cases c61 : 0 ≤ ((rd_T44 t109 x26_1).f0)
                                 · rw [if_pos c61] at H
                                   have c61b0 : decide (0 ≤ ((rd_T44 t109 x26_1).f0)) = true := decide_eq_true c61
                                   clear c61
                                   by_cases c62 : ((rd_T44 t109 x26_1).f0) < (l0.length : Int)
                                   · rw [if_pos c62] at H
                                     have c62b0 : decide (((rd_T44 t109 x26_1).f0) < (l0.length : Int)) = true := decide_eq_true c62
                                     clear c62
                                     obtain ⟨y126, hy126⟩ : ∃ y_ : List Int, y_ = (x7_1.set (x10_2 : Int).toNat (IntKind.u64.wrap ((rd x7_1 x10_2) + ((rd_T34 l0 ((rd_T44 t109 x26_1).f0)).f0)))) := ⟨_, rfl⟩
                                     replace H : (if x10_2 < (x6_1.length : Int) then (if (rd_L6 x6_1 x10_2).length < 17592186044416 then (cyclic_Table.l0 k2 l0 a1 (x6_1.set (x10_2 : Int).toNat ((rd_L6 x6_1 x10_2) ++ [((rd_T44 t109 x26_1).f0)])) y126 t109 (t109.length : Int) (wrap64 (x26_1 + 1))) else (none)) else (none)) = some (r1, r2) := by first | (rw [hy126]; with_reducible exact H) | (have H2_ := (Option.bind_some _ _).symm.trans H; rw [hy126]; with_reducible exact H2_) | (have H2_ := (Option.bind_some _ _).symm.trans H; with_reducible exact H2_) | with_reducible exact H | (rw [hy126]; exact H) | exact H
                                     have Ny126 := Aside0.mk hy126
                                     clear hy126
                                     by_cases c64 : x10_2 < (x6_1.length : Int)
                                     · rw [if_pos c64] at H
                                       have c64b0 : decide (x10_2 < (x6_1.length : Int)) = true := decide_eq_true c64
                                       clear c64
                                       by_cases c65 : (rd_L6 x6_1 x10_2).length < 17592186044416
                                       · rw [if_pos c65] at H
                                         have LMc65 := Aside0.mk c65
                                         clear c65
                                         obtain ⟨y128, hy128⟩ : ∃ y_ : List Int, y_ = ((rd_L6 x6_1 x10_2) ++ [((rd_T44 t109 x26_1).f0)]) := ⟨_, rfl⟩
                                         replace H : (cyclic_Table.l0 k2 l0 a1 (x6_1.set (x10_2 : Int).toNat y128) y126 t109 (t109.length : Int) (wrap64 (x26_1 + 1))) = some (r1, r2) := by first | (rw [hy128]; with_reducible exact H) | (have H2_ := (Option.bind_some _ _).symm.trans H; rw [hy128]; with_reducible exact H2_) | (have H2_ := (Option.bind_some _ _).symm.trans H; with_reducible exact H2_) | with_reducible exact H | (rw [hy128]; exact H) | exact H
                                         have Ny128 := Aside0.mk hy128
                                         clear hy128
                                         obtain ⟨y131, hy131⟩ : ∃ y_ : List (List Int), y_ = (x6_1.set (x10_2 : Int).toNat y128) := ⟨_, rfl⟩
                                         replace H : (cyclic_Table.l0 k2 l0 a1 y131 y126 t109 (t109.length : Int) (wrap64 (x26_1 + 1))) = some (r1, r2) := by first | (rw [hy131]; with_reducible exact H) | (have H2_ := (Option.bind_some _ _).symm.trans H; rw [hy131]; with_reducible exact H2_) | (have H2_ := (Option.bind_some _ _).symm.trans H; with_reducible exact H2_) | with_reducible exact H | (rw [hy131]; exact H) | exact H
                                         have Ny131 := Aside0.mk hy131
                                         clear hy131
                                         have H' := Aside0.mk H
                                         clear H
                                         try go_wp2
                                         have n0_ := Aside0.mk (Kd.S_drew HO_6.out)
                                         have n1_ := Aside0.mk (Kd.R_drew HO_7.out)
                                         have n2_ := Aside0.mk (Kd.R_drew HO_24.out)
                                         have n3_ := Aside0.mk (blk_drew BK113.out)
                                         have n4_ := Aside0.mk (below_drew1 HB.out)
                                         clear HO_6
                                         clear HO_7
                                         clear HO_24
                                         clear BK113
                                         clear HB
                                         have HO_6 := n0_
                                         have HO_7 := n1_
                                         have HO_24 := n2_
                                         have BK113 := n3_
                                         have HB := n4_
                                         clear n0_ n1_ n2_ n3_ n4_
                                         refine start_ (n := 22) (S := fun w' => w'.cell? ⟨gb113, 0, none⟩ = some (.int .i64 ((rd_T44 t109 x26_1).f0)) ∧ w'.cell? ⟨gb113, 1, none⟩ = some (.int .u64 ((rd_T44 t109 x26_1).f1)) ∧ w'.cell? ⟨gb113, 2, none⟩ = some (.int .u64 ((rd_T44 t109 x26_1).f2))) (ds := []) #[false, false, false, false, false, false, false, false, false, false, false, false, false, false, false, false, false, false, false, false, false, false] (by kernel_rfl) rfl rfl ⟨(blk_cell BK113.out 0).trans rfl, (blk_cell BK113.out 1).trans rfl, (blk_cell BK113.out 2).trans rfl⟩ (fun hHeld => ?_); refine with_tabW cyclic_Table.tab9 cyclic_Table.bits9 (fun HT_ HW_ => ?_)
                                         generalize wr.drew = w67 at HO_6 HO_7 HO_24 BK113 HB hHeld ⊢
                                         refine pure_ (i := 0) (N := some 37) (v := ?_) (a' := ?_) #[true, false, false, false, false, false, false, false, false, false, false, false, false, false, false, false, false, false, false, false, false, false] rfl rfl (any_of HT_.out (by kernel_rfl)) (fun _ _ _ h => h) (Or.inl ⟨by rfl, ?_⟩) ?_ ?_
                                         rotate_left
                                         · intro w'
                                           go_simp
                                           with_reducible rfl
                                         rotate_left
                                         · simp only [Act.put, List.setIfInBounds_toArray, List.set_cons_zero, List.set_cons_succ, i64_w, i32_w]
                                           rfl
                                         refine pure_ (i := 1) (N := some 38) (v := ?_) (a' := ?_) #[true, true, false, false, false, false, false, false, false, false, false, false, false, false, false, false, false, false, false, false, false, false] rfl rfl (any_of HT_.out (by kernel_rfl)) (fun _ _ _ h => h) (Or.inl ⟨by rfl, ?_⟩) ?_ ?_
                                         rotate_left
                                         · intro w'
                                           go_simp
                                           with_reducible rfl
                                         rotate_left
                                         · simp only [Act.put, List.setIfInBounds_toArray, List.set_cons_zero, List.set_cons_succ, i64_w, i32_w]
                                           rfl
                                         refine pure_ (i := 2) (N := some 39) (v := ?_) (a' := ?_) #[true, true, true, false, false, false, false, false, false, false, false, false, false, false, false, false, false, false, false, false, false, false] rfl rfl (any_of HT_.out (by kernel_rfl)) (fun _ _ _ h => h) (Or.inl ⟨by rfl, ?_⟩) ?_ ?_
                                         rotate_left
                                         · intro w'
                                           go_simp
                                           with_reducible rfl
                                         rotate_left
                                         · simp only [Act.put, List.setIfInBounds_toArray, List.set_cons_zero, List.set_cons_succ, i64_w, i32_w]
                                           rfl
                                         refine pure_ (i := 3) (N := some 40) (v := ?_) (a' := ?_) #[true, true, true, true, false, false, false, false, false, false, false, false, false, false, false, false, false, false, false, false, false, false] rfl rfl (any_of HT_.out (by kernel_rfl)) (fun _ _ _ h => h) (Or.inl ⟨by rfl, ?_⟩) ?_ ?_
                                         rotate_left
                                         · intro w'
                                           go_simp
                                           with_reducible rfl
                                         rotate_left
                                         · simp only [Act.put, List.setIfInBounds_toArray, List.set_cons_zero, List.set_cons_succ, i64_w, i32_w]
                                           rfl
                                         refine pure_ (i := 4) (N := some 41) (v := ?_) (a' := ?_) #[true, true, true, true, true, false, false, false, false, false, false, false, false, false, false, false, false, false, false, false, false, false] rfl rfl (any_of HT_.out (by kernel_rfl)) (fun _ _ _ h => h) (Or.inl ⟨by rfl, ?_⟩) ?_ ?_
                                         rotate_left
                                         · intro w'
                                           go_simp
                                           with_reducible rfl
                                         rotate_left
                                         · simp only [Act.put, List.setIfInBounds_toArray, List.set_cons_zero, List.set_cons_succ, i64_w, i32_w]
                                           rfl
                                         refine take_ (i := 5) (N := some 42) (v := ?_) (a' := ?_) #[true, true, true, true, true, true, false, false, false, false, false, false, false, false, false, false, false, false, false, false, false, false] rfl rfl (take_ofW HT_.out HW_.out (by kernel_rfl)) (fun _ _ _ h => h) (Or.inl ⟨by rfl, ?_⟩) hHeld ?_ ?_
                                         rotate_left
                                         · rintro w' ⟨s0, s1, s2⟩
                                           go_simp
                                           with_reducible rfl
                                         rotate_left
                                         · simp only [Act.put, List.setIfInBounds_toArray, List.set_cons_zero, List.set_cons_succ, i64_w, i32_w]
                                           rfl
                                         refine pure_ (i := 6) (N := some 43) (v := ?_) (a' := ?_) #[true, true, true, true, true, true, true, false, false, false, false, false, false, false, false, false, false, false, false, false, false, false] rfl rfl (any_of HT_.out (by kernel_rfl)) (fun _ _ _ h => h) (Or.inl ⟨by rfl, ?_⟩) ?_ ?_
                                         rotate_left
                                         · intro w'
                                           go_simp
                                           with_reducible rfl
                                         rotate_left
                                         · simp only [Act.put, List.setIfInBounds_toArray, List.set_cons_zero, List.set_cons_succ, i64_w, i32_w]
                                           rfl
                                         refine pure_ (i := 7) (N := some 44) (v := ?_) (a' := ?_) #[true, true, true, true, true, true, true, true, false, false, false, false, false, false, false, false, false, false, false, false, false, false] rfl rfl (any_of HT_.out (by kernel_rfl)) (fun _ _ _ h => h) (Or.inl ⟨by rfl, ?_⟩) ?_ ?_
                                         rotate_left
                                         · intro w'
                                           go_simp
                                           with_reducible rfl
                                         rotate_left
                                         · simp only [Act.put, List.setIfInBounds_toArray, List.set_cons_zero, List.set_cons_succ, i64_w, i32_w]
                                           rfl
                                         refine pure_ (i := 8) (N := some 45) (v := undef) (a' := ?_) #[true, true, true, true, true, true, true, true, true, false, false, false, false, false, false, false, false, false, false, false, false, false] rfl rfl (any_of HT_.out (by kernel_rfl)) (fun _ _ _ h => h) (Or.inr ⟨by rfl, rfl⟩) ?_ ?_
                                         rotate_left
                                         · simp only [Act.put, List.setIfInBounds_toArray, List.set_cons_zero, List.set_cons_succ, i64_w, i32_w]
                                           rfl
                                         refine pure_ (i := 9) (N := some 46) (v := undef) (a' := ?_) #[true, true, true, true, true, true, true, true, true, true, false, false, false, false, false, false, false, false, false, false, false, false] rfl rfl (any_of HT_.out (by kernel_rfl)) (fun _ _ _ h => h) (Or.inr ⟨by rfl, rfl⟩) ?_ ?_
                                         rotate_left
                                         · simp only [Act.put, List.setIfInBounds_toArray, List.set_cons_zero, List.set_cons_succ, i64_w, i32_w]
                                           rfl
                                         refine pure_ (i := 10) (N := some 47) (v := undef) (a' := ?_) #[true, true, true, true, true, true, true, true, true, true, true, false, false, false, false, false, false, false, false, false, false, false] rfl rfl (any_of HT_.out (by kernel_rfl)) (fun _ _ _ h => h) (Or.inr ⟨by rfl, rfl⟩) ?_ ?_
                                         rotate_left
                                         · simp only [Act.put, List.setIfInBounds_toArray, List.set_cons_zero, List.set_cons_succ, i64_w, i32_w]
                                           rfl
                                         refine pure_ (i := 11) (N := some 48) (v := undef) (a' := ?_) #[true, true, true, true, true, true, true, true, true, true, true, true, false, false, false, false, false, false, false, false, false, false] rfl rfl (any_of HT_.out (by kernel_rfl)) (fun _ _ _ h => h) (Or.inr ⟨by rfl, rfl⟩) ?_ ?_
                                         rotate_left
                                         · simp only [Act.put, List.setIfInBounds_toArray, List.set_cons_zero, List.set_cons_succ, i64_w, i32_w]
                                           rfl
                                         refine pure_ (i := 12) (N := some 49) (v := undef) (a' := ?_) #[true, true, true, true, true, true, true, true, true, true, true, true, true, false, false, false, false, false, false, false, false, false] rfl rfl (any_of HT_.out (by kernel_rfl)) (fun _ _ _ h => h) (Or.inr ⟨by rfl, rfl⟩) ?_ ?_
                                         rotate_left
                                         · simp only [Act.put, List.setIfInBounds_toArray, List.set_cons_zero, List.set_cons_succ, i64_w, i32_w]
                                           rfl
                                         refine pure_ (i := 13) (N := some 50) (v := undef) (a' := ?_) #[true, true, true, true, true, true, true, true, true, true, true, true, true, true, false, false, false, false, false, false, false, false] rfl rfl (any_of HT_.out (by kernel_rfl)) (fun _ _ _ h => h) (Or.inr ⟨by rfl, rfl⟩) ?_ ?_
                                         rotate_left
                                         · simp only [Act.put, List.setIfInBounds_toArray, List.set_cons_zero, List.set_cons_succ, i64_w, i32_w]
                                           rfl
                                         refine pure_ (i := 14) (N := some 51) (v := undef) (a' := ?_) #[true, true, true, true, true, true, true, true, true, true, true, true, true, true, true, false, false, false, false, false, false, false] rfl rfl (any_of HT_.out (by kernel_rfl)) (fun _ _ _ h => h) (Or.inr ⟨by rfl, rfl⟩) ?_ ?_
                                         rotate_left
                                         · simp only [Act.put, List.setIfInBounds_toArray, List.set_cons_zero, List.set_cons_succ, i64_w, i32_w]
                                           rfl
                                         refine pure_ (i := 15) (N := some 52) (v := undef) (a' := ?_) #[true, true, true, true, true, true, true, true, true, true, true, true, true, true, true, true, false, false, false, false, false, false] rfl rfl (any_of HT_.out (by kernel_rfl)) (fun _ _ _ h => h) (Or.inr ⟨by rfl, rfl⟩) ?_ ?_
                                         rotate_left
                                         · simp only [Act.put, List.setIfInBounds_toArray, List.set_cons_zero, List.set_cons_succ, i64_w, i32_w]
                                           rfl
                                         refine pure_ (i := 16) (N := some 53) (v := undef) (a' := ?_) #[true, true, true, true, true, true, true, true, true, true, true, true, true, true, true, true, true, false, false, false, false, false] rfl rfl (any_of HT_.out (by kernel_rfl)) (fun _ _ _ h => h) (Or.inr ⟨by rfl, rfl⟩) ?_ ?_
                                         rotate_left
                                         · simp only [Act.put, List.setIfInBounds_toArray, List.set_cons_zero, List.set_cons_succ, i64_w, i32_w]
                                           rfl
                                         refine pure_ (i := 17) (N := some 54) (v := undef) (a' := ?_) #[true, true, true, true, true, true, true, true, true, true, true, true, true, true, true, true, true, true, false, false, false, false] rfl rfl (any_of HT_.out (by kernel_rfl)) (fun _ _ _ h => h) (Or.inr ⟨by rfl, rfl⟩) ?_ ?_
                                         rotate_left
                                         · simp only [Act.put, List.setIfInBounds_toArray, List.set_cons_zero, List.set_cons_succ, i64_w, i32_w]
                                           rfl
                                         refine pure_ (i := 18) (N := some 55) (v := undef) (a' := ?_) #[true, true, true, true, true, true, true, true, true, true, true, true, true, true, true, true, true, true, true, false, false, false] rfl rfl (any_of HT_.out (by kernel_rfl)) (fun _ _ _ h => h) (Or.inr ⟨by rfl, rfl⟩) ?_ ?_
                                         rotate_left
                                         · simp only [Act.put, List.setIfInBounds_toArray, List.set_cons_zero, List.set_cons_succ, i64_w, i32_w]
                                           rfl
                                         refine pure_ (i := 19) (N := some 56) (v := undef) (a' := ?_) #[true, true, true, true, true, true, true, true, true, true, true, true, true, true, true, true, true, true, true, true, false, false] rfl rfl (any_of HT_.out (by kernel_rfl)) (fun _ _ _ h => h) (Or.inr ⟨by rfl, rfl⟩) ?_ ?_
                                         rotate_left
                                         · simp only [Act.put, List.setIfInBounds_toArray, List.set_cons_zero, List.set_cons_succ, i64_w, i32_w]
                                           rfl
                                         refine pure_ (i := 20) (N := some 57) (v := undef) (a' := ?_) #[true, true, true, true, true, true, true, true, true, true, true, true, true, true, true, true, true, true, true, true, true, false] rfl rfl (any_of HT_.out (by kernel_rfl)) (fun _ _ _ h => h) (Or.inr ⟨by rfl, rfl⟩) ?_ ?_
                                         rotate_left
                                         · simp only [Act.put, List.setIfInBounds_toArray, List.set_cons_zero, List.set_cons_succ, i64_w, i32_w]
                                           rfl
                                         refine pure_ (i := 21) (N := some 58) (v := ?_) (a' := ?_) #[true, true, true, true, true, true, true, true, true, true, true, true, true, true, true, true, true, true, true, true, true, true] rfl rfl (any_of HT_.out (by kernel_rfl)) (fun _ _ _ h => h) (Or.inl ⟨by rfl, ?_⟩) ?_ ?_
                                         rotate_left
                                         · intro w'
                                           go_simp
                                           with_reducible rfl
                                         rotate_left
                                         · simp only [Act.put, List.setIfInBounds_toArray, List.set_cons_zero, List.set_cons_succ, i64_w, i32_w]
                                           rfl
                                         refine done_ (done_of HT_.out (by kernel_rfl)) ?_
                                         have hcz68_0 : w67.cell? ⟨gb113, 0, none⟩ = some (.int .i64 ((rd_T44 t109 x26_1).f0)) := (blk_cell BK113.out 0).trans rfl
                                         have hcz68_1 : w67.cell? ⟨gb113, 1, none⟩ = some (.int .u64 ((rd_T44 t109 x26_1).f1)) := (blk_cell BK113.out 1).trans rfl
                                         have hcz68_2 : w67.cell? ⟨gb113, 2, none⟩ = some (.int .u64 ((rd_T44 t109 x26_1).f2)) := (blk_cell BK113.out 2).trans rfl
                                         have hfz68_0 := blk_frozen BK113.out 0
                                         have hfz68_1 := blk_frozen BK113.out 1
                                         have hfz68_2 := blk_frozen BK113.out 2
                                         try go_wp2
                                         have n0_ := Aside0.mk (Kd.S_drew HO_6.out)
                                         have n1_ := Aside0.mk (Kd.R_drew HO_7.out)
                                         have n2_ := Aside0.mk (Kd.R_drew HO_24.out)
                                         have n3_ := Aside0.mk (blk_drew BK113.out)
                                         have n4_ := Aside0.mk (below_drew1 HB.out)
                                         clear HO_6
                                         clear HO_7
                                         clear HO_24
                                         clear BK113
                                         clear HB
                                         have HO_6 := n0_
                                         have HO_7 := n1_
                                         have HO_24 := n2_
                                         have BK113 := n3_
                                         have HB := n4_
                                         clear n0_ n1_ n2_ n3_ n4_
                                         obtain ⟨Ao70, co70, eo70⟩ := Kd.R_slice HO_7.out
                                         (first | subst eo70 | (injection eo70 with f1_ f2_ f3_; have f4_ := f1_.symm; have f5_ := f3_.symm; clear f1_ f2_ f3_; subst f4_; subst f5_))
                                         have p124 : 0 ≤ (x10_2 : Int) := of_decide_eq_true (by first | (with_reducible assumption) | assumption)
                                         have q124 : x10_2 < (x7_1.length : Int) := of_decide_eq_true (by first | (with_reducible assumption) | assumption)
                                         obtain ⟨ad124, e124, hx124_0⟩ := Kd.at_int (Kd.R_reads' HO_7.out).2.2 x10_2 p124 q124
                                         cases e124
                                         replace p124 := eq_true p124
                                         replace q124 := eq_true q124
                                         have p125 : 0 ≤ (((rd_T44 t109 x26_1).f0) : Int) := of_decide_eq_true (by first | (with_reducible assumption) | assumption)
                                         have q125 : ((rd_T44 t109 x26_1).f0) < (l0.length : Int) := of_decide_eq_true (by first | (with_reducible assumption) | assumption)
                                         obtain ⟨ad125, e125, hx125_0, hx125_1⟩ := at_T34 HR0.out ((rd_T44 t109 x26_1).f0) p125 q125
                                         have hw125_1 := hx125_1
                                         have hw125_0 := hx125_0
                                         cases e125
                                         replace hx125_0 := (HB.out.cell (World.block_lt_of_cell? w _ hx125_0)).trans hx125_0
                                         replace hx125_1 := (HB.out.cell (World.block_lt_of_cell? w _ hx125_1)).trans hx125_1
                                         replace p125 := eq_true p125
                                         replace q125 := eq_true q125
                                         have p63 : 0 ≤ (x10_2 : Int) := of_decide_eq_true (by first | (with_reducible assumption) | assumption)
                                         have q63 : (x10_2 : Int) < ((x7_1.length : Int) : Int) := of_decide_eq_true (by first | (with_reducible assumption) | assumption)
                                         obtain ⟨go63, co63, eo63, gb63, gl63, cl63, HG63⟩ := Kd.R_form HO_7.out (by omega)
                                         (first | cases eo63 | (injection eo63 with ea_ en_ ec_; (first | subst ea_ | (injection ea_ with ea_; subst ea_)); subst ec_; clear en_))
                                         have GB63 := Aside0.mk gb63
                                         have GG63 := Aside0.mk HG63
                                         clear gb63 gl63 HG63
                                         (first | simp only [add_plain] at hx124_0 | skip)
                                         obtain ⟨hx63_0, hf63_0⟩ := Kd.R_celln 0 HO_7.out (x10_2 : Int) p63 q63
                                         replace p63 := eq_true p63
                                         replace q63 := eq_true q63
                                         have HP71 := Kd.R_putn HO_7.out (x10_2 : Int) (IntKind.u64.wrap ((rd x7_1 x10_2) + ((rd_T34 l0 ((rd_T44 t109 x26_1).f0)).f0)))
                                         rw [← Ny126.out] at HP71
                                         have HQ71 := Aside0.mk HP71
                                         clear HP71
                                         refine start_ (n := 13) (S := fun w' => w'.cell? ⟨gb113, 0, none⟩ = some (.int .i64 ((rd_T44 t109 x26_1).f0)) ∧ w'.cell? ⟨gb113, 1, none⟩ = some (.int .u64 ((rd_T44 t109 x26_1).f1)) ∧ w'.cell? ⟨gb113, 2, none⟩ = some (.int .u64 ((rd_T44 t109 x26_1).f2)) ∧ w'.cell? ⟨go63, (x10_2).toNat, none⟩ = some (.int .u64 (rd x7_1 x10_2)) ∧ w'.cell? (ad125.add ((((rd_T44 t109 x26_1).f0)).toNat * 2)) = some (.int .u64 ((rd_T34 l0 ((rd_T44 t109 x26_1).f0)).f0)) ∧ w'.cell? ⟨(ad125.add ((((rd_T44 t109 x26_1).f0)).toNat * 2)).block, (ad125.add ((((rd_T44 t109 x26_1).f0)).toNat * 2)).off + 1, none⟩ = some (.int .u64 ((rd_T34 l0 ((rd_T44 t109 x26_1).f0)).f1))) (ds := [12]) #[false, false, false, false, false, false, false, false, false, false, false, false, false] (by kernel_rfl) rfl rfl ⟨(blk_cell BK113.out 0).trans rfl, (blk_cell BK113.out 1).trans rfl, (blk_cell BK113.out 2).trans rfl, hx124_0, ((HB.out.cell (World.block_lt_of_cell? w _ hw125_0)).trans hw125_0), ((HB.out.cell (World.block_lt_of_cell? w _ hw125_1)).trans hw125_1)⟩ (fun hHeld => ?_); refine with_tabW cyclic_Table.tab13 cyclic_Table.bits13 (fun HT_ HW_ => ?_)
                                         generalize w67.drew = w69 at HO_6 HO_7 HO_24 BK113 HB GG63 HQ71 hf63_0 hx124_0 hx125_0 hx125_1 hx63_0 hHeld ⊢
                                         refine pure_ (i := 0) (N := some 68) (v := ?_) (a' := ?_) #[true, false, false, false, false, false, false, false, false, false, false, false, false] rfl rfl (any_of HT_.out (by kernel_rfl)) (fun _ _ _ h => h) (Or.inl ⟨by rfl, ?_⟩) ?_ ?_
                                         rotate_left
                                         · intro w'
                                           go_simp
                                           with_reducible rfl
                                         rotate_left
                                         · simp only [Act.put, List.setIfInBounds_toArray, List.set_cons_zero, List.set_cons_succ, i64_w, i32_w]
                                           rfl
                                         refine pure_ (i := 1) (N := some 69) (v := ?_) (a' := ?_) #[true, true, false, false, false, false, false, false, false, false, false, false, false] rfl rfl (any_of HT_.out (by kernel_rfl)) (fun _ _ _ h => h) (Or.inl ⟨by rfl, ?_⟩) ?_ ?_
                                         rotate_left
                                         · intro w'
                                           go_simp
                                           with_reducible rfl
                                         rotate_left
                                         · simp only [Act.put, List.setIfInBounds_toArray, List.set_cons_zero, List.set_cons_succ, i64_w, i32_w]
                                           rfl
                                         refine pure_ (i := 2) (N := some 70) (v := ?_) (a' := ?_) #[true, true, true, false, false, false, false, false, false, false, false, false, false] rfl rfl (any_of HT_.out (by kernel_rfl)) (fun _ _ _ h => h) (Or.inl ⟨by rfl, ?_⟩) ?_ ?_
                                         rotate_left
                                         · intro w'
                                           go_simp
                                           with_reducible rfl
                                         rotate_left
                                         · simp only [Act.put, List.setIfInBounds_toArray, List.set_cons_zero, List.set_cons_succ, i64_w, i32_w]
                                           rfl
                                         refine pure_ (i := 4) (N := some 72) (v := ?_) (a' := ?_) #[true, true, true, false, true, false, false, false, false, false, false, false, false] rfl rfl (any_of HT_.out (by kernel_rfl)) (fun _ _ _ h => h) (Or.inl ⟨by rfl, ?_⟩) ?_ ?_
                                         rotate_left
                                         · intro w'
                                           go_simp
                                           with_reducible rfl
                                         rotate_left
                                         · simp only [Act.put, List.setIfInBounds_toArray, List.set_cons_zero, List.set_cons_succ, i64_w, i32_w]
                                           rfl
                                         refine pure_ (i := 5) (N := some 73) (v := ?_) (a' := ?_) #[true, true, true, false, true, true, false, false, false, false, false, false, false] rfl rfl (any_of HT_.out (by kernel_rfl)) (fun _ _ _ h => h) (Or.inl ⟨by rfl, ?_⟩) ?_ ?_
                                         rotate_left
                                         · intro w'
                                           go_simp
                                           with_reducible rfl
                                         rotate_left
                                         · simp only [Act.put, List.setIfInBounds_toArray, List.set_cons_zero, List.set_cons_succ, i64_w, i32_w]
                                           rfl
                                         refine take_ (i := 3) (N := some 71) (v := ?_) (a' := ?_) #[true, true, true, true, true, true, false, false, false, false, false, false, false] rfl rfl (take_ofW HT_.out HW_.out (by kernel_rfl)) (fun _ _ _ h => h) (Or.inl ⟨by rfl, ?_⟩) hHeld ?_ ?_
                                         rotate_left
                                         · rintro w' ⟨s0, s1, s2, s3, s4, s5⟩
                                           go_simp
                                           with_reducible rfl
                                         rotate_left
                                         · simp only [Act.put, List.setIfInBounds_toArray, List.set_cons_zero, List.set_cons_succ, i64_w, i32_w]
                                           rfl
                                         refine take_ (i := 6) (N := some 74) (v := ?_) (a' := ?_) #[true, true, true, true, true, true, true, false, false, false, false, false, false] rfl rfl (take_ofW HT_.out HW_.out (by kernel_rfl)) (fun _ _ _ h => h) (Or.inl ⟨by rfl, ?_⟩) hHeld ?_ ?_
                                         rotate_left
                                         · rintro w' ⟨s0, s1, s2, s3, s4, s5⟩
                                           go_simp
                                           with_reducible rfl
                                         rotate_left
                                         · simp only [Act.put, List.setIfInBounds_toArray, List.set_cons_zero, List.set_cons_succ, i64_w, i32_w]
                                           rfl
                                         refine pure_ (i := 7) (N := some 75) (v := ?_) (a' := ?_) #[true, true, true, true, true, true, true, true, false, false, false, false, false] rfl rfl (any_of HT_.out (by kernel_rfl)) (fun _ _ _ h => h) (Or.inl ⟨by rfl, ?_⟩) ?_ ?_
                                         rotate_left
                                         · intro w'
                                           go_simp
                                           with_reducible rfl
                                         rotate_left
                                         · simp only [Act.put, List.setIfInBounds_toArray, List.set_cons_zero, List.set_cons_succ, i64_w, i32_w]
                                           rfl
                                         refine pure_ (i := 8) (N := some 76) (v := ?_) (a' := ?_) #[true, true, true, true, true, true, true, true, true, false, false, false, false] rfl rfl (any_of HT_.out (by kernel_rfl)) (fun _ _ _ h => h) (Or.inl ⟨by rfl, ?_⟩) ?_ ?_
                                         rotate_left
                                         · intro w'
                                           go_simp
                                           with_reducible rfl
                                         rotate_left
                                         · simp only [Act.put, List.setIfInBounds_toArray, List.set_cons_zero, List.set_cons_succ, i64_w, i32_w]
                                           rfl
                                         refine take_ (i := 9) (N := some 77) (v := ?_) (a' := ?_) #[true, true, true, true, true, true, true, true, true, true, false, false, false] rfl rfl (take_ofW HT_.out HW_.out (by kernel_rfl)) (fun _ _ _ h => h) (Or.inl ⟨by rfl, ?_⟩) hHeld ?_ ?_
                                         rotate_left
                                         · rintro w' ⟨s0, s1, s2, s3, s4, s5⟩
                                           go_simp
                                           with_reducible rfl
                                         rotate_left
                                         · simp only [Act.put, List.setIfInBounds_toArray, List.set_cons_zero, List.set_cons_succ, i64_w, i32_w]
                                           rfl
                                         refine pure_ (i := 10) (N := some 78) (v := ?_) (a' := ?_) #[true, true, true, true, true, true, true, true, true, true, true, false, false] rfl rfl (any_of HT_.out (by kernel_rfl)) (fun _ _ _ h => h) (Or.inl ⟨by rfl, ?_⟩) ?_ ?_
                                         rotate_left
                                         · intro w'
                                           go_simp
                                           with_reducible rfl
                                         rotate_left
                                         · simp only [Act.put, List.setIfInBounds_toArray, List.set_cons_zero, List.set_cons_succ, i64_w, i32_w]
                                           rfl
                                         refine pure_ (i := 11) (N := some 79) (v := ?_) (a' := ?_) #[true, true, true, true, true, true, true, true, true, true, true, true, false] rfl rfl (any_of HT_.out (by kernel_rfl)) (fun _ _ _ h => h) (Or.inl ⟨by rfl, ?_⟩) ?_ ?_
                                         rotate_left
                                         · intro w'
                                           go_simp
                                           with_reducible rfl
                                         rotate_left
                                         · simp only [Act.put, List.setIfInBounds_toArray, List.set_cons_zero, List.set_cons_succ, i64_w, i32_w]
                                           rfl
                                         refine last_ (i := 12) (N := none) #[true, true, true, true, true, true, true, true, true, true, true, true, true] rfl rfl (one_of HT_.out (by kernel_rfl)) (by decide) (fun K hK => ?_)
                                         refine skip_ (w1 := ?_) (by rfl) rfl ?_ ?_
                                         rotate_left
                                         · go_simp
                                           rfl
                                         refine hK.out _ _ ?_
                                         clear hK K
                                         refine done_ (done_of HT_.out (by kernel_rfl)) ?_
                                         try go_wp2
                                         have n0_ : Aside0 (Kd.S (Kd.slice 3 (Kd.int .i64)) 35 (w69.setCell ⟨go63, (x10_2 : Int).toNat, none⟩ (.int .u64 (IntKind.u64.wrap ((rd x7_1 x10_2) + ((rd_T34 l0 ((rd_T44 t109 x26_1).f0)).f0))))) w.heap.size (fun _ => True) (.slice Ao17 x6_1.length co17) x6_1) := ⟨by (with_reducible repeat (first | apply Kd.S_alloc | apply Kd.S_drewN | apply Kd.S_drew)); exact Kd.S_mono (Kd.S_far (p := ⟨go63, (x10_2 : Int).toNat, none⟩) (Kd.S_types HO_6.out GG63.out (by decide)) (fun _ hk => hk.2) (.int .u64 (IntKind.u64.wrap ((rd x7_1 x10_2) + ((rd_T34 l0 ((rd_T44 t109 x26_1).f0)).f0))))) (fun _ hk => trivial)⟩
                                         have n1_ : Aside0 (Kd.R (Kd.int .u64) 23 (w69.setCell ⟨go63, (x10_2 : Int).toNat, none⟩ (.int .u64 (IntKind.u64.wrap ((rd x7_1 x10_2) + ((rd_T34 l0 ((rd_T44 t109 x26_1).f0)).f0))))) w.heap.size (fun _ => True) (.slice (some ⟨go63, 0, none⟩) x7_1.length co70) y126) := ⟨by (with_reducible repeat (first | apply Kd.R_alloc | apply Kd.R_drewN | apply Kd.R_drew)); exact HQ71.out⟩
                                         have n2_ : Aside0 (Kd.R k44 44 (w69.setCell ⟨go63, (x10_2 : Int).toNat, none⟩ (.int .u64 (IntKind.u64.wrap ((rd x7_1 x10_2) + ((rd_T34 l0 ((rd_T44 t109 x26_1).f0)).f0))))) w.heap.size (fun k_ => k_ ≠ gb113) (.slice (some ad112) t109.length co21) t109) := ⟨by (with_reducible repeat (first | apply Kd.R_alloc | apply Kd.R_drewN | apply Kd.R_drew)); exact Kd.R_mono (Kd.R_far (p := ⟨go63, (x10_2 : Int).toNat, none⟩) (Kd.R_types HO_24.out GG63.out (by decide)) (fun _ hk => hk.2) (.int .u64 (IntKind.u64.wrap ((rd x7_1 x10_2) + ((rd_T34 l0 ((rd_T44 t109 x26_1).f0)).f0))))) (fun _ hk => hk.1)⟩
                                         have n3_ : Aside0 ((w69.setCell ⟨go63, (x10_2 : Int).toNat, none⟩ (.int .u64 (IntKind.u64.wrap ((rd x7_1 x10_2) + ((rd_T34 l0 ((rd_T44 t109 x26_1).f0)).f0))))).heap[gb113]? = some (.cells #[.int .i64 ((rd_T44 t109 x26_1).f0), .int .u64 ((rd_T44 t109 x26_1).f1), .int .u64 ((rd_T44 t109 x26_1).f2)] 44 (0, 0))) := ⟨by (with_reducible repeat (first | refine blk_drewN ?_ _ | refine blk_drew ?_ | refine blk_alloc ?_ _)); refine blk_far ?_ (by have h_ := Kd.R_ne HO_7.out BK113.out (by decide); intro e_; exact h_ (by rw [e_]; rfl)) _; (with_reducible repeat (first | refine blk_drewN ?_ _ | refine blk_drew ?_ | refine blk_alloc ?_ _)); exact BK113.out⟩
                                         have n4_ : Aside0 (Below w.heap.size w (w69.setCell ⟨go63, (x10_2 : Int).toNat, none⟩ (.int .u64 (IntKind.u64.wrap ((rd x7_1 x10_2) + ((rd_T34 l0 ((rd_T44 t109 x26_1).f0)).f0)))))) := ⟨by repeat (first | (with_reducible first | exact HB.out | apply below_alloc | apply pw_below_drewN | apply below_drew1 | refine below_set ?_ GB63.out | refine below_set ?_ GE113.out) | exact HB.out)⟩
                                         (try clear HO_6)
                                         (try clear HO_7)
                                         (try clear HO_24)
                                         (try clear BK113)
                                         (try clear HB)
                                         generalize (w69.setCell ⟨go63, (x10_2 : Int).toNat, none⟩ (.int .u64 (IntKind.u64.wrap ((rd x7_1 x10_2) + ((rd_T34 l0 ((rd_T44 t109 x26_1).f0)).f0))))) = w72 at n0_ n1_ n2_ n3_ n4_ ⊢
                                         have HO_6 := n0_
                                         have HO_7 := n1_
                                         have HO_24 := n2_
                                         have BK113 := n3_
                                         have HB := n4_
                                         clear n0_ n1_ n2_ n3_ n4_
                                         have n0_ := Aside0.mk (Kd.S_drew HO_6.out)
                                         have n1_ := Aside0.mk (Kd.R_drew HO_7.out)
                                         have n2_ := Aside0.mk (Kd.R_drew HO_24.out)
                                         have n3_ := Aside0.mk (blk_drew BK113.out)
                                         have n4_ := Aside0.mk (below_drew1 HB.out)
                                         clear HO_6
                                         clear HO_7
                                         clear HO_24
                                         clear BK113
                                         clear HB
                                         have HO_6 := n0_
                                         have HO_7 := n1_
                                         have HO_24 := n2_
                                         have BK113 := n3_
                                         have HB := n4_
                                         clear n0_ n1_ n2_ n3_ n4_
                                         have p127 : 0 ≤ (x10_2 : Int) := of_decide_eq_true (by first | (with_reducible assumption) | assumption)
                                         have q127 : x10_2 < (x6_1.length : Int) := of_decide_eq_true (by first | (with_reducible assumption) | assumption)
                                         obtain ⟨ad127, A127_0, c127_0, e127, hx127_0, hl127_0, hi127_0⟩ := at_L6 (Kd.S_reads' HO_6.out).2.2 x10_2 p127 q127
                                         cases e127
                                         obtain ⟨ce127, hce127, hMe127, hcc127⟩ := Kd.S_get HO_6.out [] x10_2 p127 (by first | exact q127 | exact of_decide_eq_true (by first | (with_reducible assumption) | assumption) | (have e_ := (Kd.S_reads' HO_6.out).1; omega))
                                         obtain ⟨ve127_0, rfl, ge127_0⟩ := hMe127
                                         have hv127_0 := hcc127 0 _ rfl
                                         rw [Nat.add_zero, show ((Kd.slice 3 (Kd.int .i64))).sz = 1 from rfl, Nat.mul_one] at hv127_0
                                         replace hv127_0 := Option.some.inj (hv127_0.symm.trans hx127_0)
                                         rw [hv127_0] at ge127_0
                                         have HL127_0 := Aside0.mk (show Kd.R (Kd.int .i64) 3 _ _ _ _ (rd_L6 x6_1 x10_2) from ge127_0)
                                         clear hv127_0 ge127_0
                                         have HX127_0 := Aside0.mk hx127_0
                                         clear hcc127 hce127
                                         have HR127_0 := Aside0.mk hi127_0
                                         have HC127_0 := Aside0.mk hl127_0
                                         clear hi127_0 hl127_0
                                         replace p127 := eq_true p127
                                         replace q127 := eq_true q127
                                         obtain ⟨go74, co74, eo74, gb74, gl74, cl74, HG74⟩ := Kd.S_form HO_6.out (by have h_ : (x10_2 : Int) < ((x6_1.length : Int) : Int) := of_decide_eq_true (by first | (with_reducible assumption) | assumption); have h2_ : 0 ≤ (x10_2 : Int) := (of_decide_eq_true (by first | (with_reducible assumption) | assumption)); omega)
                                         (first | cases eo74 | (injection eo74 with ea_ en_ ec_; (first | subst ea_ | (injection ea_ with ea_; subst ea_)); subst ec_; clear en_))
                                         have GB74 := Aside0.mk gb74
                                         have GG74 := Aside0.mk HG74
                                         clear gb74 gl74 HG74
                                         (first | simp only [add_plain] at hx127_0 | skip)
                                         obtain ⟨oki74, ce74, hcl74, hM74, hcc74, _, _, hH74⟩ := Kd.S_elem HO_6.out [] (x10_2 : Int) (of_decide_eq_true (by first | (with_reducible assumption) | assumption)) (by have h_ : (x10_2 : Int) < ((x6_1.length : Int) : Int) := of_decide_eq_true (by first | (with_reducible assumption) | assumption); first | exact h_ | (have e_ := (Kd.S_reads' HO_6.out).1; omega) | simpa using h_)
                                         obtain ⟨ve74_0, rfl, ge74_0⟩ := hM74
                                         have hv74 := hcc74 0 _ rfl
                                         have hX74 := HX127_0.out
                                         (try simp only [add_plain] at hX74)
                                         (try simp only [Nat.add_zero] at hv74)
                                         (try rw [show ((Kd.slice 3 (Kd.int .i64))).sz = 1 from rfl, Nat.mul_one] at hv74)
                                         replace hv74 := Option.some.inj (hv74.symm.trans hX74)
                                         subst hv74
                                         clear hX74 hcc74 hcl74
                                         have UU74 := Aside0.mk (show Kd.R (Kd.int .i64) 3 _ w.heap.size oki74 (.slice A127_0 (rd_L6 x6_1 x10_2).length c127_0) (rd_L6 x6_1 x10_2) from ge74_0)
                                         have HH74 := Aside0.mk hH74
                                         have HN74 := Aside0.mk (Kd.S_reads' HO_6.out).1
                                         clear hH74 ge74_0
                                         refine start_ (n := 12) (S := fun w' => w'.cell? ⟨gb113, 0, none⟩ = some (.int .i64 ((rd_T44 t109 x26_1).f0)) ∧ w'.cell? ⟨gb113, 1, none⟩ = some (.int .u64 ((rd_T44 t109 x26_1).f1)) ∧ w'.cell? ⟨gb113, 2, none⟩ = some (.int .u64 ((rd_T44 t109 x26_1).f2)) ∧ w'.cell? ⟨go74, (x10_2).toNat, none⟩ = some (.slice A127_0 (rd_L6 x6_1 x10_2).length c127_0)) (ds := [11]) #[false, false, false, false, false, false, false, false, false, false, false, false] (by kernel_rfl) rfl rfl ⟨(blk_cell BK113.out 0).trans rfl, (blk_cell BK113.out 1).trans rfl, (blk_cell BK113.out 2).trans rfl, hx127_0⟩ (fun hHeld => ?_); refine with_tabW cyclic_Table.tab14 cyclic_Table.bits14 (fun HT_ HW_ => ?_)
                                         generalize w72.drew = w73 at HO_6 HO_7 HO_24 BK113 HB GG74 HH74 HL127_0 HQ71 HR127_0 HX127_0 UU74 hx127_0 hHeld ⊢
                                         refine pure_ (i := 0) (N := some 80) (v := ?_) (a' := ?_) #[true, false, false, false, false, false, false, false, false, false, false, false] rfl rfl (any_of HT_.out (by kernel_rfl)) (fun _ _ _ h => h) (Or.inl ⟨by rfl, ?_⟩) ?_ ?_
                                         rotate_left
                                         · intro w'
                                           go_simp
                                           with_reducible rfl
                                         rotate_left
                                         · simp only [Act.put, List.setIfInBounds_toArray, List.set_cons_zero, List.set_cons_succ, i64_w, i32_w]
                                           rfl
                                         refine pure_ (i := 1) (N := some 81) (v := ?_) (a' := ?_) #[true, true, false, false, false, false, false, false, false, false, false, false] rfl rfl (any_of HT_.out (by kernel_rfl)) (fun _ _ _ h => h) (Or.inl ⟨by rfl, ?_⟩) ?_ ?_
                                         rotate_left
                                         · intro w'
                                           go_simp
                                           with_reducible rfl
                                         rotate_left
                                         · simp only [Act.put, List.setIfInBounds_toArray, List.set_cons_zero, List.set_cons_succ, i64_w, i32_w]
                                           rfl
                                         refine pure_ (i := 2) (N := some 82) (v := ?_) (a' := ?_) #[true, true, true, false, false, false, false, false, false, false, false, false] rfl rfl (any_of HT_.out (by kernel_rfl)) (fun _ _ _ h => h) (Or.inl ⟨by rfl, ?_⟩) ?_ ?_
                                         rotate_left
                                         · intro w'
                                           go_simp
                                           with_reducible rfl
                                         rotate_left
                                         · simp only [Act.put, List.setIfInBounds_toArray, List.set_cons_zero, List.set_cons_succ, i64_w, i32_w]
                                           rfl
                                         refine pure_ (i := 3) (N := some 83) (v := ?_) (a' := ?_) #[true, true, true, true, false, false, false, false, false, false, false, false] rfl rfl (any_of HT_.out (by kernel_rfl)) (fun _ _ _ h => h) (Or.inl ⟨by rfl, ?_⟩) ?_ ?_
                                         rotate_left
                                         · intro w'
                                           go_simp
                                           with_reducible rfl
                                         rotate_left
                                         · simp only [Act.put, List.setIfInBounds_toArray, List.set_cons_zero, List.set_cons_succ, i64_w, i32_w]
                                           rfl
                                         refine pure_ (i := 4) (N := some 84) (v := ?_) (a' := ?_) #[true, true, true, true, true, false, false, false, false, false, false, false] rfl rfl (any_of HT_.out (by kernel_rfl)) (fun _ _ _ h => h) (Or.inl ⟨by rfl, ?_⟩) ?_ ?_
                                         rotate_left
                                         · intro w'
                                           go_simp
                                           with_reducible rfl
                                         rotate_left
                                         · simp only [Act.put, List.setIfInBounds_toArray, List.set_cons_zero, List.set_cons_succ, i64_w, i32_w]
                                           rfl
                                         refine pure_ (i := 6) (N := some 86) (v := ?_) (a' := ?_) #[true, true, true, true, true, false, true, false, false, false, false, false] rfl rfl (any_of HT_.out (by kernel_rfl)) (fun _ _ _ h => h) (Or.inl ⟨by rfl, ?_⟩) ?_ ?_
                                         rotate_left
                                         · intro w'
                                           go_simp
                                           with_reducible rfl
                                         rotate_left
                                         · simp only [Act.put, List.setIfInBounds_toArray, List.set_cons_zero, List.set_cons_succ, i64_w, i32_w]
                                           rfl
                                         refine take_ (i := 5) (N := some 85) (v := ?_) (a' := ?_) #[true, true, true, true, true, true, true, false, false, false, false, false] rfl rfl (take_ofW HT_.out HW_.out (by kernel_rfl)) (fun _ _ _ h => h) (Or.inl ⟨by rfl, ?_⟩) hHeld ?_ ?_
                                         rotate_left
                                         · rintro w' ⟨s0, s1, s2, s3⟩
                                           go_simp
                                           with_reducible rfl
                                         rotate_left
                                         · simp only [Act.put, List.setIfInBounds_toArray, List.set_cons_zero, List.set_cons_succ, i64_w, i32_w]
                                           rfl
                                         refine take_ (i := 7) (N := some 87) (v := ?_) (a' := ?_) #[true, true, true, true, true, true, true, true, false, false, false, false] rfl rfl (take_ofW HT_.out HW_.out (by kernel_rfl)) (fun _ _ _ h => h) (Or.inl ⟨by rfl, ?_⟩) hHeld ?_ ?_
                                         rotate_left
                                         · rintro w' ⟨s0, s1, s2, s3⟩
                                           go_simp
                                           with_reducible rfl
                                         rotate_left
                                         · simp only [Act.put, List.setIfInBounds_toArray, List.set_cons_zero, List.set_cons_succ, i64_w, i32_w]
                                           rfl
                                         refine one_ (i := 8) (N := some 88) #[true, true, true, true, true, true, true, true, true, false, false, false] rfl rfl (one_of HT_.out (by kernel_rfl)) (by decide) (fun K hK => ?_)
                                         refine value_ (w1 := ?_) (v := ?_) (by rfl) rfl ?_ ?_
                                         rotate_left 2
                                         · go_simp
                                           constructor
                                           · rfl
                                           · rfl
                                         refine hK.out _ _ ⟨(blk_cell (blk_alloc BK113.out _) 0).trans rfl, (blk_cell (blk_alloc BK113.out _) 1).trans rfl, (blk_cell (blk_alloc BK113.out _) 2).trans rfl, (World.cell?_alloc_lt _ _ _ (World.block_lt_of_cell? _ _ (hHeld.2.2.2))).trans (hHeld.2.2.2)⟩ (fun hHeld => ?_)
                                         clear hK K
                                         refine norm_ (a' := ?_) ?_ ?_
                                         rotate_left
                                         · show Act.put _ (some 88) _ = _
                                           simp only [Act.put, List.setIfInBounds_toArray, List.set_cons_zero, List.set_cons_succ, i64_w, i32_w]
                                           rfl
                                         refine one_ (i := 9) (N := some 89) #[true, true, true, true, true, true, true, true, true, true, false, false] rfl rfl (one_of HT_.out (by kernel_rfl)) (by decide) (fun K hK => ?_)
                                         refine Kd.R_append_step (Kd.int .i64) (w0 := w) w.heap.size (by rfl) (.tmp 85) (.tmp 88) 35 3 (.int .i64 0) 8 rfl Try.underlying35 info3 rfl (by decide) (by omega) (.slice A127_0 (rd_L6 x6_1 x10_2).length c127_0) (rd_L6 x6_1 x10_2) ((rd_T44 t109 x26_1).f0) [.int .i64 ((rd_T44 t109 x26_1).f0)] (fun k_ => oki74 k_ ∨ ((fun _ => True)) k_ ∧ w73.heap.size ≤ k_) (fun _ => False) rfl rfl ?aP (fun _ hk => hk.elim) ?aF ?aO ?aB ?aS ?aL ?_
                                         (case aP => exact rfl)
                                         (case aB => exact (by repeat (first | (with_reducible first | exact HB.out | apply below_alloc | apply pw_below_drewN | apply below_drew1 | refine below_set ?_ GE113.out) | exact HB.out)))
                                         (case aF => exact (fun k_ hk => .inr ⟨trivial, hk⟩))
                                         (case aO => exact (by (with_reducible repeat (first | apply Kd.R_alloc | apply Kd.R_drewN | apply Kd.R_drew)); exact Kd.R_mono UU74.out (fun _ hk => .inl hk)))
                                         (case aS => exact (below_size (by repeat (first | (with_reducible first | exact HB.out | apply below_alloc | apply pw_below_drewN | apply below_drew1 | refine below_set ?_ GE113.out) | exact HB.out))))
                                         (case aL => have := LMc65.out; omega)
                                         intro v129 w75 ho hb hg hat
                                         (first | have HS3_ := cell_grown hg (hHeld.2.2.2) (by first | (rw [add_block]; exact (fun e_ => ((HL127_0.out.1 _ e_.symm).2) rfl)) | (show some (Addr.add _ _).block ≠ _; rw [add_block]; exact (fun e_ => ((HL127_0.out.1 _ e_.symm).2) rfl)) | exact (fun e_ => ((HL127_0.out.1 _ e_.symm).2) rfl)) | have HS3_ := cell_grown hg (cell_unalloc (hHeld.2.2.2) (by first | (rw [add_block]; exact Kd.S_lt HO_6.out _ rfl) | (show (Addr.add _ _).block < _; rw [add_block]; exact Kd.S_lt HO_6.out _ rfl) | exact Kd.S_lt HO_6.out _ rfl)) (by first | (rw [add_block]; exact (fun e_ => ((HL127_0.out.1 _ e_.symm).2) rfl)) | (show some (Addr.add _ _).block ≠ _; rw [add_block]; exact (fun e_ => ((HL127_0.out.1 _ e_.symm).2) rfl)) | exact (fun e_ => ((HL127_0.out.1 _ e_.symm).2) rfl)))
                                         rw [← Ny128.out] at ho
                                         have n0_ := Aside0.mk (Kd.R_over' (v := (.slice A127_0 (rd_L6 x6_1 x10_2).length c127_0)) (by (with_reducible repeat (first | apply Kd.R_alloc | apply Kd.R_drewN | apply Kd.R_drew)); exact HO_7.out) (Kd.R_typed HL127_0.out) (by decide) hg)
                                         have n1_ := Aside0.mk (Kd.R_over' (v := (.slice A127_0 (rd_L6 x6_1 x10_2).length c127_0)) (by (with_reducible repeat (first | apply Kd.R_alloc | apply Kd.R_drewN | apply Kd.R_drew)); exact HO_24.out) (Kd.R_typed HL127_0.out) (by decide) hg)
                                         have n2_ := Aside0.mk (blk_grown (g := gb113) (o := .cells #[.int .i64 ((rd_T44 t109 x26_1).f0), .int .u64 ((rd_T44 t109 x26_1).f1), .int .u64 ((rd_T44 t109 x26_1).f2)] 44 (0, 0)) (by (with_reducible repeat (first | refine blk_drewN ?_ _ | refine blk_drew ?_ | refine blk_alloc ?_ _)); exact BK113.out) hg (Kd.R_ne HL127_0.out BK113.out (by decide)))
                                         have n3_ := Aside0.mk (hb)
                                         have n4_ := Aside0.mk (Kd.H_grown (Kd.H_widen (by repeat (first | exact HH74.out | refine Kd.H_alloc ?_ _ | refine Kd.H_drewN ?_ _ | refine Kd.H_drew ?_))) hg (fun k_ e_ => .inl (UU74.out.1 k_ e_)))
                                         have n5_ := Aside0.mk (ho)
                                         clear HO_7
                                         clear HO_24
                                         clear BK113
                                         clear HB
                                         clear HH74
                                         clear HO_6
                                         clear UU74
                                         clear HL127_0
                                         have HO_7 := n0_
                                         have HO_24 := n1_
                                         have BK113 := n2_
                                         have HB := n3_
                                         have HH74 := n4_
                                         have HO130 := n5_
                                         clear n0_ n1_ n2_ n3_ n4_ n5_
                                         clear ho hb hg hat
                                         have p66 : 0 ≤ (x10_2 : Int) := of_decide_eq_true (by first | (with_reducible assumption) | assumption)
                                         have q66 : (x10_2 : Int) < ((x6_1.length : Int) : Int) := of_decide_eq_true (by first | (with_reducible assumption) | assumption)
                                         replace p66 := eq_true p66
                                         replace q66 := eq_true q66
                                         obtain ⟨Ao78, co78, eo78⟩ := Kd.R_slice HO130.out
                                         (first | subst eo78 | (injection eo78 with f1_ f2_ f3_; have f4_ := f1_.symm; have f5_ := f3_.symm; clear f1_ f2_ f3_; subst f4_; subst f5_))
                                         obtain ⟨_, _, hraw76, _, _, hcc76, _⟩ := Kd.H_raw HH74.out (of_decide_eq_true (by first | (with_reducible assumption) | assumption)) (by have h_ : (x10_2 : Int) < ((x6_1.length : Int) : Int) := of_decide_eq_true (by first | (with_reducible assumption) | assumption); first | exact h_ | (have e_ := (HN74.out); omega) | simpa using h_)
                                         obtain ⟨_, hfr76⟩ := Kd.H_at HH74.out (of_decide_eq_true (by first | (with_reducible assumption) | assumption)) (by have h_ : (x10_2 : Int) < ((x6_1.length : Int) : Int) := of_decide_eq_true (by first | (with_reducible assumption) | assumption); first | exact h_ | (have e_ := (HN74.out); omega) | simpa using h_)
                                         have hx76_0 := hcc76 0 _ rfl
                                         have hf76_0 := hfr76 0
                                         (try simp only [Nat.add_zero] at hx76_0 hf76_0)
                                         (try rw [show ((Kd.slice 3 (Kd.int .i64))).sz = 1 from rfl, Nat.mul_one] at hx76_0)
                                         (try rw [show ((Kd.slice 3 (Kd.int .i64))).sz = 1 from rfl, Nat.mul_one] at hf76_0)
                                         have HP76 := Kd.S_seg0 HH74.out (of_decide_eq_true (by first | (with_reducible assumption) | assumption)) (by have h_ : (x10_2 : Int) < ((x6_1.length : Int) : Int) := of_decide_eq_true (by first | (with_reducible assumption) | assumption); first | exact h_ | (have e_ := (HN74.out); omega) | simpa using h_) (seg := [.slice Ao78 y128.length co78]) (j := 0) (show 1 ≤ 1 from by decide) (x' := y128) (Kd.M_row HO130.out) (fun _ hk => hk)
                                         (try simp only [show ((Kd.slice 3 (Kd.int .i64))).sz = 1 from rfl, Nat.mul_one, Nat.add_zero] at HP76)
                                         clear hcc76 hfr76
                                         have HNB113_go74 := Aside0.mk (show gb113 ≠ go74 from by have h_ := Kd.R_ne hraw76 BK113.out (by decide); intro e_; exact h_ (by rw [e_]; rfl))
                                         have HS76 := HP76.1
                                         rw [← Ny131.out] at HS76
                                         have HQ76 := Aside0.mk HS76
                                         obtain ⟨_, hgg76⟩ := Kd.R_typed hraw76 go74 rfl
                                         have GG76_ := Aside0.mk hgg76
                                         clear HP76 HS76 hgg76
                                         refine hK.out _ _ ⟨(blk_cell BK113.out 0).trans rfl, (blk_cell BK113.out 1).trans rfl, (blk_cell BK113.out 2).trans rfl, HS3_⟩ (fun hHeld => ?_)
                                         clear hK K
                                         refine norm_ (a' := ?_) ?_ ?_
                                         rotate_left
                                         · show Act.put _ (some 89) _ = _
                                           simp only [Act.put, List.setIfInBounds_toArray, List.set_cons_zero, List.set_cons_succ, i64_w, i32_w]
                                           rfl
                                         refine pure_ (i := 10) (N := some 90) (v := ?_) (a' := ?_) #[true, true, true, true, true, true, true, true, true, true, true, false] rfl rfl (any_of HT_.out (by kernel_rfl)) (fun _ _ _ h => h) (Or.inl ⟨by rfl, ?_⟩) ?_ ?_
                                         rotate_left
                                         · intro w'
                                           go_simp
                                           with_reducible rfl
                                         rotate_left
                                         · simp only [Act.put, List.setIfInBounds_toArray, List.set_cons_zero, List.set_cons_succ, i64_w, i32_w]
                                           rfl
                                         refine last_ (i := 11) (N := none) #[true, true, true, true, true, true, true, true, true, true, true, true] rfl rfl (one_of HT_.out (by kernel_rfl)) (by decide) (fun K hK => ?_)
                                         refine skip_ (w1 := ?_) (by rfl) rfl ?_ ?_
                                         rotate_left
                                         · go_simp
                                           rfl
                                         refine hK.out _ _ ?_
                                         clear hK K
                                         refine done_ (done_of HT_.out (by kernel_rfl)) ?_
                                         try go_wp2
                                         (try simp only [← hl6_1])
                                         go_roundg k2
                                         case measure => have := HK1.out; have := HK2.out; omega
                                         case rel => exact ⟨(y131), (y126), (wrap64 (x26_1 + 1)), (by first | rfl | (simp; done) | (simp [*]; done)), H', ⟨by have := HK1.out; have := HK2.out; omega⟩, ⟨by (try simp only [hl6_1]); (with_reducible repeat (first | apply Kd.S_alloc | apply Kd.S_drewN | apply Kd.S_drew)); exact HQ76.out⟩, ⟨by (try simp only [hl6_1]); (with_reducible repeat (first | apply Kd.R_alloc | apply Kd.R_drewN | apply Kd.R_drew)); exact Kd.R_mono (Kd.R_far (p := ⟨go74, (x10_2 : Int).toNat, none⟩) (Kd.R_types HO_7.out GG76_.out (by decide)) (fun _ hk => hk.2) (.slice Ao78 y128.length co78)) (fun _ hk => trivial)⟩, ⟨by (try simp only [hl6_1]); (with_reducible repeat (first | apply Kd.R_alloc | apply Kd.R_drewN | apply Kd.R_drew)); exact Kd.R_mono (Kd.R_far (p := ⟨go74, (x10_2 : Int).toNat, none⟩) (Kd.R_types HO_24.out GG76_.out (by decide)) (fun _ hk => hk.2) (.slice Ao78 y128.length co78)) (fun _ hk => trivial)⟩, ⟨by repeat (first | (with_reducible first | exact HB.out | apply below_alloc | apply pw_below_drewN | apply below_drew1 | refine below_set ?_ GB74.out | refine below_set ?_ GE113.out) | exact HB.out)⟩⟩
                                       · rw [if_neg c65] at H
                                         exact absurd H (by simp)
                                     · rw [if_neg c64] at H
                                       exact absurd H (by simp)
                                   · rw [if_neg c62] at H
                                     exact absurd H (by simp)
                                 · rw [if_neg c61] at H
                                   exact absurd H (by simp)
                               · rw [if_neg c60] at H
                                 exact absurd H (by simp)
                             · rw [if_neg c59] at H
                               exact absurd H (by simp)
                   · rw [if_neg c24] at H
                     exact absurd H (by simp)
                 · rw [if_neg c23] at H
                   exact absurd H (by simp)
               · rw [if_neg c22] at H
                 have c22b0 : decide (x26_1 < (t109.length : Int)) = false := decide_eq_false c22
                 clear c22
                 simp only [Option.some.injEq, Prod.mk.injEq] at H
                 obtain ⟨rfl, rfl⟩ := H
                 go_wp2
                 go_ret2
                 exact ⟨_, by first | rfl | (simp [errW_none, errW_some] <;> rfl) | (simp only [← hji7]; first | rfl | (simp [errW_none, errW_some] <;> rfl)) | (simp [*, errW_none, errW_some] <;> rfl), by (with_reducible repeat (first | apply Kd.S_alloc | apply Kd.S_drewN | apply Kd.S_drew)); exact HO_6.out, by repeat (first | (with_reducible first | exact HB.out | apply below_alloc | apply pw_below_drewN | apply below_drew1) | exact HB.out)⟩
           · rw [if_neg c11] at H
             exact absurd H (by simp)
         · rw [if_neg c10] at H
           exact absurd H (by simp)
       · rw [if_neg c9] at H
         exact absurd H (by simp)
     · rw [if_neg c8] at H
       exact absurd H (by simp)
 · replace c4 := Bool.eq_false_iff.mpr c4
   subst c4
   have H1 : (some (([] : List (List Int)), false)) = some (r1, r2) := by rw [if_neg (show ¬ (false = true) by decide)] at H; exact H
   clear H
   have H := H1
   clear H1
   simp only [Option.some.injEq, Prod.mk.injEq] at H
   obtain ⟨rfl, rfl⟩ := H
   go_enter Try.func11, Try.ntmps11
   go_wp2_with (first | ((with_reducible refine gate_callee (f := 7) rfl ?_); refine goesL_ (some 13) rfl rfl Try.func7 (by kernel_rfl) rfl #[.slice A0 l0.length c0, .int .u64 a1] rfl (by (try simp only [List.map_toArray, List.map_cons, List.map_nil]); first | done | rfl | (simp only [List.length_drop, List.length_take]; rfl)) ?_; (with_reducible refine (cyclic_Suits.calls k _ _ l0 a1 false _ ?side1 ?side2 A3.out).mono ?_); (case side1 => repeat (first | exact HR0.out | (with_reducible refine Kd.C_alloc ?_ _) | (with_reducible refine Kd.C_drewN ?_ _) | (with_reducible refine Kd.C_drew ?_))); (case side2 => exact HC0.out); rintro e w79 ⟨rfl, hb⟩; refine ⟨_, rfl, ?_⟩; have n0_ := Aside0.mk (below_step (by repeat (first | (with_reducible first | exact HB.out | apply below_alloc | apply pw_below_drewN | apply below_drew1) | exact HB.out)) hb); clear HB; have HB := n0_; clear n0_; (try clear hb); (try clear hb2); (try clear hk); (try clear hi)))
   go_ret2
   exact ⟨_, by first | rfl | (simp [errW_none, errW_some] <;> rfl) | (simp [*, errW_none, errW_some] <;> rfl), by first | exact Kd.S_nil _ _ _ _ _ | exact Kd.N_nil _ _ _ _ _ | exact Kd.V_nil _ _ _ _ _ | exact Kd.Q_nil _ _ _ _ _ | exact Kd.R_nil _ _ _ _ _, by repeat (first | (with_reducible first | exact HB.out | apply below_alloc | apply pw_below_drewN | apply below_drew1) | exact HB.out)⟩
end Go.Proofs.Ytindegbbcdloiaa.P
end
section
namespace Go.Proofs.Ytindegbbcdloiaa.P
open Go.RowKit Go.Proofs.YtindegbbcdloiaaW.PrintWords Go.Proofs.YtindegbbcdloiaaW.PrintLast Go.Proofs.YtindegbbcdloiaaW.PrintMore
open Go.Maps Go.ChangeMaps Go.WideElems
theorem laidOut : laidOutB Try.prog = true := by kernel_rfl
theorem law44 : WideMaps.KeyLaw Try.prog 44 := deep_law_laid laidOut (m := 3) (by omega) (of_decide_eq_true (by kernel_rfl)) (by kernel_rfl) (by kernel_rfl)
theorem zero3 (w : World) : (zeroValue 3).run Try.prog w = .ok (.int .i64 0) w := by kernel_rfl
def enc44 (s : S44) : Value := .agg #[.int .i64 s.f0, .int .u64 s.f1, .int .u64 s.f2]
theorem enc44_inj {s t : S44} (h : enc44 s = enc44 t) : s = t := by
  obtain ⟨a, b, c⟩ := s
  obtain ⟨a', b', c'⟩ := t
  simp [enc44] at h
  obtain ⟨rfl, rfl, rfl⟩ := h
  rfl
def wf44 (s : S44) : Bool := (Lit.int .i64 s.f0).wf && (Lit.int .u64 s.f1).wf && (Lit.int .u64 s.f2).wf
theorem key44 (s : S44) (h : wf44 s = true) : ∃ l, keyOf Try.prog 44 (enc44 s) = some l := by
  simp only [wf44, Bool.and_eq_true] at h
  obtain ⟨⟨h0, h1⟩, h2⟩ := h
  have hk : Try.prog.keyType 44 = true := by kernel_rfl
  have h2' : 2 ≤ Try.prog.types.size := of_decide_eq_true (by kernel_rfl)
  obtain ⟨m, hm⟩ : ∃ m, Try.prog.types.size = m + 1 := ⟨Try.prog.types.size - 1, by omega⟩
  have c44 : Try.prog.cellsOf 44 = 3 := by kernel_rfl
  have c3 : Try.prog.cellsOf 3 = 1 := by kernel_rfl
  have c23 : Try.prog.cellsOf 23 = 1 := by kernel_rfl
  refine ⟨.string (keyBytes [.int .i64 s.f0, .int .u64 s.f1, .int .u64 s.f2]), ?_⟩
  unfold keyOf
  simp only [Try.underlying44]
  rw [if_pos (by simp [hk, Value.formed, enc44, Try.underlying44, c44]), hm]
  obtain ⟨q, rfl⟩ : ∃ q, m = q + 1 := ⟨m - 1, by omega⟩
  unfold Program.keyLits
  simp only [Try.underlying44, Value.cells, enc44]
  simp [c44, c3, c23, Program.keyLits, Try.underlying3, Try.underlying23, h0, h1, h2]
/-- What a map holds, as a function, and how often it was written. -/
abbrev M44 := (S44 → Int) × Nat
def M44.new : M44 := (fun _ => 0, 0)
def M44.put (m : M44) (s : S44) (v : Int) : M44 := (fun x => if x.f0 = s.f0 ∧ x.f1 = s.f1 ∧ x.f2 = s.f2 then v else m.1 x, m.2 + 1)
theorem M44.put_same (m : M44) (s : S44) (v : Int) : (m.put s v).1 s = v := by simp [M44.put]
theorem M44.put_other (m : M44) {s x : S44} (v : Int) (h : x ≠ s) : (m.put s v).1 x = m.1 x := by
  obtain ⟨a, b, c⟩ := s
  obtain ⟨a', b', c'⟩ := x
  have : ¬ (a' = a ∧ b' = b ∧ c' = c) := fun ⟨h1, h2, h3⟩ => h (by rw [h1, h2, h3])
  simp [M44.put, this]
def Map44 (W : World) (B : Nat) (m : M44) : Prop :=
  ∃ D : DataW Unit, W.ownsMap Try.prog 44 (plainElem Try.prog 3) B m.2 D ∧ IsMap D ∧ ∀ s l, keyOf Try.prog 44 (enc44 s) = some l → D.atKey l (.lit (.int .i64 0)) = .lit (.int .i64 (m.1 s))
section
variable {W W1 : World} {B : Nat} {m : M44}
theorem Map44.made (W : World) : Map44 (W.alloc (.map #[] 0)) W.heap.size M44.new := ⟨_, World.ownsMap_made W Try.prog 44 _, ⟨_, rfl⟩, fun _ _ _ => rfl⟩
theorem Map44.kept {row : Option Nat} (h : Map44 W B m) (hg : W.grownBy W1 row) (hne : some B ≠ row) : Map44 W1 B m := by
  obtain ⟨D, h, r⟩ := h
  exact ⟨D, h.kept hg hne, r⟩
theorem Map44.below (h : Map44 W B m) (hb : Below W.heap.size W W1) : Map44 W1 B m := h.kept (grown_of_below hb none) (by simp)
theorem Map44.drew (h : Map44 W B m) : Map44 W.drew B m := h
theorem Map44.drewN (h : Map44 W B m) (n : Nat) : Map44 (W.drewN n) B m := h
theorem Map44.far {p : Addr} (h : Map44 W B m) (hne : B ≠ p.block) (u : Value) : Map44 (W.setCell p u) B m := by
  obtain ⟨D, ⟨es, ck, hb, r1⟩, r⟩ := h
  exact ⟨D, ⟨es, ck, (Below.heap_setCell W p u B hne).trans hb, r1⟩, r⟩
/-- It is no block of cells. -/
theorem Map44.ne {g : Nat} {cs : Array Value} {t : TypeId} {fr : Nat × Nat} (h : Map44 W B m) (hb : W.heap[g]? = some (.cells cs t fr)) : B ≠ g := by
  obtain ⟨D, ⟨es, ck, hb1, r1⟩, r⟩ := h
  rintro rfl
  rw [hb] at hb1
  cases hb1
theorem Map44.look (h : Map44 W B m) (s : S44) (hw : wf44 s = true) : (Instr.lookup 45 (.map (some B)) (enc44 s) false).run Try.prog W = .ok (.int .i64 (m.1 s)) W ∧ (Lit.int .i64 (m.1 s)).wf = true := by
  obtain ⟨D, h, _, hv⟩ := h
  obtain ⟨l, hl⟩ := key44 s hw
  obtain ⟨c, hrun, hat, hwc⟩ := h.lookup_int (Keyed.of_law law44) Try.underlying45 Try.underlying3 (zero3 W) hl
  have := hv s l hl
  rw [hat] at this
  obtain rfl : c = m.1 s := by injection this with this; injection this
  exact ⟨hrun, hwc⟩
theorem put44 {D : DataW Unit} (hD : IsMap D) (hv : ∀ s l, keyOf Try.prog 44 (enc44 s) = some l → D.atKey l (.lit (.int .i64 0)) = .lit (.int .i64 (m.1 s))) {s : S44} {l : Lit} (hl : keyOf Try.prog 44 (enc44 s) = some l) (v : Int) :
    ∀ s' l', keyOf Try.prog 44 (enc44 s') = some l' → (D.put l (.lit (.int .i64 v))).atKey l' (.lit (.int .i64 0)) = .lit (.int .i64 ((m.put s v).1 s')) := by
  intro s' l' hl'
  obtain ⟨x, rfl⟩ := law44.str hl
  by_cases e : s' = s
  · subst e
    rw [hl] at hl'
    cases hl'
    rw [atKey_put_same hD (show WideAt.IsKeyLit (.string x) from trivial), M44.put_same]
  · rw [atKey_put_other (fun e1 => e (enc44_inj (law44.inj hl' (by rw [e1]; exact hl)))), M44.put_other _ _ e]
    exact hv s' l' hl'
theorem Map44.update (h : Map44 W B m) (hn : m.2 < 1099511627776) (s : S44) (hw : wf44 s = true) (v : Int) (hv : (Lit.int .i64 v).wf = true) :
    ∃ W3, (Instr.mapUpdate 45 (.map (some B)) (enc44 s) (.int .i64 v)).run Try.prog W = .ok () W3 ∧ Map44 W3 B (m.put s v) ∧ W.grownBy W3 (some B) := by
  obtain ⟨D, h, hD, hx⟩ := h
  obtain ⟨l, hl⟩ := key44 s hw
  obtain ⟨W3, hrun, hown, hg⟩ := h.update (Keyed.of_law law44) Try.underlying45 (by unfold maxLen; omega) hl (plainElem_int Try.underlying3 hv)
  exact ⟨W3, hrun, ⟨_, hown, hD.put _ _, put44 hD hx hl v⟩, hg⟩
/-- 'm[s] += ..': the entry is found, or made with 0, then it is stored into; what is looked up in between is as it was. -/
theorem Map44.entry (h : Map44 W B m) (hn : m.2 < 1099511627776) (s : S44) (hw : wf44 s = true) :
    ∃ (v0 : Value) (st : Nat) (W1 : World), (Instr.mapEntry 45 (.map (some B)) (enc44 s)).run Try.prog W = .ok (.tuple #[v0, .int .i64 st]) W1 ∧ W.grownBy W1 (some B) ∧
      (Instr.lookup 45 (.map (some B)) (enc44 s) false).run Try.prog W1 = .ok (.int .i64 (m.1 s)) W1 ∧
      ∀ v, (Lit.int .i64 v).wf = true → ∃ W3, (Instr.entryStore 45 (.map (some B)) (.int .i64 st) (.int .i64 v)).run Try.prog W1 = .ok () W3 ∧ Map44 W3 B (m.put s v) ∧ W.grownBy W3 (some B) := by
  have hlook := (h.look s hw).1
  have hup := fun v hv => h.update hn s hw v hv
  obtain ⟨D, ⟨es, ck, hb, F, hs, hDe⟩, hD, hx⟩ := h
  obtain ⟨l, hl⟩ := key44 s hw
  obtain ⟨v0, st, es1, ck1, hent, hcase, hst⟩ := entry_then_store law44 (Try.underlying45 : Try.prog.underlying 45 = some (.map 44 3)) (z := .int .i64 0) zero3 hb F hl
  have hb1 : (setBlock W B (.map es1 ck1)).heap[B]? = some (.map es1 ck1) := heap_setBlock_same hb _
  have hg1 : W.grownBy (setBlock W B (.map es1 ck1)) (some B) := ⟨rfl, rfl, rfl, by simp [setBlock], fun i _ hi => heap_setBlock_other hb _ (fun e => hi (by rw [e]))⟩
  refine ⟨v0, st, _, hent, hg1, ?_, fun v hv => ?_⟩
  · rcases law44.find W hl es.toList F.keys with ⟨h1, h2⟩ | ⟨j, e0, h1, h2, h3⟩
    · have hz : m.1 s = 0 := by
        have hr : (Instr.lookup 45 (.map (some B)) (enc44 s) false).run Try.prog W = .ok (.int .i64 0) W := by
          simp [Instr.lookup, run_underlying (Try.underlying45 : Try.prog.underlying 45 = some (.map 44 3)), MapKept.run_getObj_map hb, law44.check W es.isEmpty hl, h1, Result.andThen]
        rw [hlook] at hr
        injection hr with hr
        injection hr
      have hr : (Instr.mapEntry 45 (.map (some B)) (enc44 s)).run Try.prog W = .ok (.tuple #[.int .i64 0, goInt ck]) (setBlock W B (.map (es.push ⟨enc44 s, .int .i64 0, ck⟩) (ck + 1))) := by
        simp [Instr.mapEntry, run_underlying (Try.underlying45 : Try.prog.underlying 45 = some (.map 44 3)), MapKept.run_getObj_map hb, law44.check W false hl, h1, MapKept.run_setObj_map _ hb, Result.andThen, setBlock]
      have hr := congrArg (fun w : World => w.heap[B]?) (Result.ok.inj (hent.symm.trans hr)).2
      simp only [heap_setBlock_same hb, Option.some.injEq, Obj.map.injEq] at hr
      obtain ⟨hr, _⟩ := hr
      subst hr
      have hk : ∀ e ∈ (es.push ⟨enc44 s, .int .i64 0, ck⟩).toList, ∃ l, keyOf Try.prog 44 e.key = some l := by
        intro e he
        simp only [Array.toList_push, List.mem_append, List.mem_singleton] at he
        rcases he with he | rfl
        · exact F.keys e he
        · exact ⟨l, hl⟩
      rcases law44.find (setBlock W B (.map (es.push ⟨enc44 s, .int .i64 0, ck⟩) ck1)) hl _ hk with ⟨_, k2⟩ | ⟨j, e0, k1, k2, k3⟩
      · exact absurd rfl (k2 ⟨enc44 s, .int .i64 0, ck⟩ (by simp))
      · have hv : e0.val = .int .i64 0 := by
          have he := List.mem_of_getElem? k2
          simp only [Array.toList_push, List.mem_append, List.mem_singleton] at he
          rcases he with he | rfl
          · exact absurd k3 (h2 e0 he)
          · rfl
        rw [hz]
        clear hst hent hr hg1 hk k2
        generalize es.push ⟨enc44 s, .int .i64 0, ck⟩ = esp at hb1 k1 ⊢
        simp [Instr.lookup, run_underlying (Try.underlying45 : Try.prog.underlying 45 = some (.map 44 3)), MapKept.run_getObj_map hb1, law44.check (setBlock W B (.map esp ck1)) _ hl, k1, hv, Result.andThen]
    · have hj : es[j]? = some e0 := by simpa using h2
      have hsame : es.modify j (fun e => { e with key := enc44 s }) = es := by
        apply Array.ext'
        rw [Array.toList_modify, modify_eq_set _ _ _ _ h2]
        have : ({ e0 with key := enc44 s } : MapEntry) = e0 := by rw [← h3]
        rw [this]
        exact set_self _ _ _ h2
      have hr : (Instr.mapEntry 45 (.map (some B)) (enc44 s)).run Try.prog W = .ok (.tuple #[e0.val, goInt e0.born]) (setBlock W B (.map es ck)) := by
        simp [Instr.mapEntry, run_underlying (Try.underlying45 : Try.prog.underlying 45 = some (.map 44 3)), MapKept.run_getObj_map hb, law44.check W false hl, h1, hj, h3, law44.stays W hl, hsame, MapKept.run_setObj_map _ hb, Result.andThen, setBlock]
      have hr := congrArg (fun w : World => w.heap[B]?) (Result.ok.inj (hent.symm.trans hr)).2
      simp only [heap_setBlock_same hb, Option.some.injEq, Obj.map.injEq] at hr
      obtain ⟨hr, hr2⟩ := hr
      subst hr
      subst hr2
      have hm : Map44 (setBlock W B (.map es1 ck1)) B m := ⟨D, ⟨es1, ck1, hb1, F, hs, hDe⟩, hD, hx⟩
      exact (hm.look s hw).1
  · obtain ⟨W3, hrun, hm, hg⟩ := hup v hv
    obtain ⟨es', ck', h1, h2⟩ := hst _ (.int .i64 v) hb1
    rw [hrun] at h2
    injection h2 with _ h2
    subst h2
    have e2 : setBlock (setBlock W B (.map es1 ck1)) B (.map es' ck') = setBlock W B (.map es' ck') := by simp [setBlock]
    rw [e2] at h1
    exact ⟨_, h1, hm, hg⟩
end
section
variable {ops : Array Oper} {Q : Exit → Act → World → Prop} {rest : List Oper} {o : Oper} {a : Act} {W : World} {B : Nat} {m : M44}
theorem wp_look44 (hg : o.guard = none) (x y : Tmp) (hop : o.op = .lookup 45 (.tmp x) (.tmp y) false) (hm : a.eval (.tmp x) = .map (some B)) {s : S44} (hx : a.eval (.tmp y) = enc44 s) (hM : Map44 W B m) (hw : wf44 s = true)
    (h : wpList Try.prog ops Q rest (a.put o.dst (.int .i64 (m.1 s))) W) : wpList Try.prog ops Q (o :: rest) a W := by
  refine wpList_plain hg fun K hK => ?_
  unfold Oper.wp
  simp [execOp, hop, hm, hx, (hM.look s hw).1, Result.andThen]
  exact hK _ _ h
theorem map44_event (hg : o.guard = none) (hop : o.op = .makeMap 45 none)
    (h : ∀ g w1, W.heap.size ≤ g → Map44 w1 g M44.new → Below W.heap.size W w1 → wpList Try.prog ops Q rest (a.put o.dst (.map (some g))) w1) : wpList Try.prog ops Q (o :: rest) a W := by
  refine wpList_plain hg fun K hK => ?_
  unfold Oper.wp
  simp [execOp, hop, run_makeMap, Result.andThen]
  exact hK _ _ (h _ _ (Nat.le_refl _) (Map44.made W) (below_alloc (Below.refl _ _) _))
theorem world_of {P : Program} {c : Code} {Q : Exit → Act → World → Prop} {a : Act} {W : World} (F : World → Prop) (h : F W) (k : ∀ W, F W → Code.wp P c Q a W) : Code.wp P c Q a W := k W h
end
end Go.Proofs.Ytindegbbcdloiaa.P
end
