/- A part (C) of the proof that the law CyclicSizes returns true for every input: words on the printed functions, functions in plain Lean, and that the program's calls come to them. -/
import Derived.Test.YtindegbbcdloiaaZCyclicSizesB
import Derived.Test.YtindegbbcdloiaaProg
import Derived.Below
import Derived.Deep.Draws
import Derived.Deep.AppendLies
import Derived.Maps.AppendAt
import Derived.OwnWalk
import Derived.Laws.BytesArg
import Derived.Laws.MakeOwn
import Derived.Laws.OwnMore
import Derived.Deep.OwnRows
import Derived.Tactics
import Derived.Lib.ConvBytes
import Derived.Laws.Slices
import Derived.WalkKit
import Derived.KernelRfl
import Derived.RowKit3
import Derived.Deep.LoopGhost
import Derived.Deep.QuietTactic
import Derived.BigQuiet
import Derived.WideLaws
import Derived.Deep.DeepCutAuto
import Derived.Deep.CutBlock
import Derived.Deep.RegionHeld3
import Derived.Laws.Rows
import Derived.Lib.AppendStr
import Derived.ArgAppend
import Derived.Laws.IdiomCopy
import Derived.OrdersHeld
import Derived.Laws.BitsLemmas
import Derived.RowKit
section
namespace Go.Proofs.Ytindegbbcdloiaa.P
open Go.RowKit Go.Proofs.YtindegbbcdloiaaW.PrintWords Go.Proofs.YtindegbbcdloiaaW.PrintLast Go.Proofs.YtindegbbcdloiaaW.PrintMore
set_option linter.unusedVariables false
set_option linter.unusedSimpArgs false
def errW : Option Int → Value
 | none => .nilIface
 | some c => .iface 0 (.int .i64 c)
theorem errW_none : errW none = .nilIface := rfl
theorem errW_some (c : Int) : errW (some c) = .iface 0 (.int .i64 c) := rfl
theorem info3 : (Try.prog.info? 3).map (fun i => (i.zero, i.size, i.bytes)) = some (some (.int .i64 0), 1, 8) := by kernel_rfl
theorem info23 : (Try.prog.info? 23).map (fun i => (i.zero, i.size, i.bytes)) = some (some (.int .u64 0), 1, 8) := by kernel_rfl
theorem info35 : (Try.prog.info? 35).map (fun i => (i.zero, i.size, i.bytes)) = some (some (.slice none 0 0), 1, 24) := by kernel_rfl
theorem info44 : (Try.prog.info? 44).map (fun i => (i.zero, i.size, i.bytes)) = some (some (.agg #[(.int .i64 0), (.int .u64 0), (.int .u64 0)]), 3, 24) := by kernel_rfl
structure S34 where
 f0 : Int
 f1 : Int
def z34 : S34 := ⟨(0 : Int), (0 : Int)⟩
def k34 : Kd S34 := Kd.iso (Kd.pair (Kd.int .u64) (Kd.int .u64)) (fun x : S34 => (x.f0, x.f1))
theorem k34_open {w : World} {x : S34} {cs : List Value} (h : k34.K w x cs) : cs = [.int .u64 x.f0, .int .u64 x.f1] := by
 obtain ⟨_, _, rfl, rfl, rfl⟩ := h
 exact rfl
theorem k34_mkM (w : World) (base : Nat) (ok : Nat → Prop) (x : S34)  : k34.M w base ok x [.int .u64 x.f0, .int .u64 x.f1] := ⟨[.int .u64 x.f0], [.int .u64 x.f1], rfl, rfl, rfl⟩
def rd_T34 (xs : List S34) (i : Int) : S34 := xs.getD i.toNat z34
theorem at_T34 {w : World} {A : Option Addr} {n : Nat} {xs : List S34} (h : Kd.C k34 w A n xs) (i : Int) (h0 : 0 ≤ i) (h1 : i < n) : ∃ ad , A = some ad ∧ w.cell? (ad.add (i.toNat * 2)) = some (.int .u64 (rd_T34 xs i).f0) ∧ w.cell? ⟨(ad.add (i.toNat * 2)).block, (ad.add (i.toNat * 2)).off + 1, none⟩ = some (.int .u64 (rd_T34 xs i).f1) := by
 obtain ⟨ad, c, e, _, hK, hc0⟩ := Kd.C_get h z34 i h0 h1
 have hc : ∀ j u, c[j]? = some u → w.cell? (ad.add (i.toNat * 2 + j)) = some u := hc0
 obtain rfl := k34_open hK
 exact ⟨ad, e, hc 0 _ rfl, by rw [← add_field _ _ 1 (by omega)]; exact hc 1 _ rfl⟩
structure S44 where
 f0 : Int
 f1 : Int
 f2 : Int
def z44 : S44 := ⟨(0 : Int), (0 : Int), (0 : Int)⟩
def k44 : Kd S44 := Kd.iso (Kd.pair (Kd.int .i64) (Kd.pair (Kd.int .u64) (Kd.int .u64))) (fun x : S44 => (x.f0, x.f1, x.f2))
theorem k44_open {w : World} {x : S44} {cs : List Value} (h : k44.K w x cs) : cs = [.int .i64 x.f0, .int .u64 x.f1, .int .u64 x.f2] := by
 obtain ⟨_, _, rfl, rfl, ⟨_, _, rfl, rfl, rfl⟩⟩ := h
 exact rfl
theorem k44_openM {w : World} {base : Nat} {ok : Nat → Prop} {x : S44} {cs : List Value} (h : k44.M w base ok x cs) : cs = [.int .i64 x.f0, .int .u64 x.f1, .int .u64 x.f2] := by
 obtain ⟨_, _, rfl, rfl, ⟨_, _, rfl, rfl, rfl⟩⟩ := h
 exact rfl
theorem k44_mkM (w : World) (base : Nat) (ok : Nat → Prop) (x : S44)  : k44.M w base ok x [.int .i64 x.f0, .int .u64 x.f1, .int .u64 x.f2] := ⟨[.int .i64 x.f0], [.int .u64 x.f1, .int .u64 x.f2], rfl, rfl, ⟨[.int .u64 x.f1], [.int .u64 x.f2], rfl, rfl, rfl⟩⟩
def rd_T44 (xs : List S44) (i : Int) : S44 := xs.getD i.toNat z44
theorem at_T44 {w : World} {A : Option Addr} {n : Nat} {xs : List S44} (h : Kd.C k44 w A n xs) (i : Int) (h0 : 0 ≤ i) (h1 : i < n) : ∃ ad , A = some ad ∧ w.cell? (ad.add (i.toNat * 3)) = some (.int .i64 (rd_T44 xs i).f0) ∧ w.cell? ⟨(ad.add (i.toNat * 3)).block, (ad.add (i.toNat * 3)).off + 1, none⟩ = some (.int .u64 (rd_T44 xs i).f1) ∧ w.cell? ⟨(ad.add (i.toNat * 3)).block, (ad.add (i.toNat * 3)).off + 2, none⟩ = some (.int .u64 (rd_T44 xs i).f2) := by
 obtain ⟨ad, c, e, _, hK, hc0⟩ := Kd.C_get h z44 i h0 h1
 have hc : ∀ j u, c[j]? = some u → w.cell? (ad.add (i.toNat * 3 + j)) = some u := hc0
 obtain rfl := k44_open hK
 exact ⟨ad, e, hc 0 _ rfl, by rw [← add_field _ _ 1 (by omega)]; exact hc 1 _ rfl, by rw [← add_field _ _ 2 (by omega)]; exact hc 2 _ rfl⟩
def rd_L6 (xs : List (List Int)) (i : Int) : (List Int) := xs.getD i.toNat ([] : List Int)
theorem at_L6 {w : World} {A : Option Addr} {n : Nat} {xs : List (List Int)} (h : Kd.C (Kd.slice 3 (Kd.int .i64)) w A n xs) (i : Int) (h0 : 0 ≤ i) (h1 : i < n) : ∃ ad A0 c0, A = some ad ∧ w.cell? (ad.add i.toNat) = some (.slice A0 (rd_L6 xs i).length c0) ∧ (rd_L6 xs i).length ≤ c0 ∧ (Kd.int .i64).C w A0 (rd_L6 xs i).length (rd_L6 xs i) := by
 obtain ⟨ad, c, e, _, hK, hc0⟩ := Kd.C_get h ([] : List Int) i h0 h1
 have hc : ∀ j u, c[j]? = some u → w.cell? (ad.add (i.toNat * 1 + j)) = some u := hc0
 obtain ⟨A0, c0, rfl, l0, g0⟩ := hK
 exact ⟨ad, A0, c0, e, by have hq := hc 0 _ rfl; rwa [Nat.mul_one, Nat.add_zero] at hq, l0, g0⟩
end Go.Proofs.Ytindegbbcdloiaa.P
end
section
namespace Go.Proofs.Ytindegbbcdloiaa.P
open Go.RowKit Go.Proofs.YtindegbbcdloiaaW.PrintWords Go.Proofs.YtindegbbcdloiaaW.PrintLast Go.Proofs.YtindegbbcdloiaaW.PrintMore
set_option linter.unusedVariables false
set_option linter.unusedSimpArgs false
noncomputable def hyper_Gcd.l0 : Nat → Int → Int → Option (Int)
 | 0, _, _ => none
 | k + 1, x0, x1 => if x1 = 0 then (some x0) else (hyper_Gcd.l0 k x1 (Int.tmod x0 x1))
noncomputable def hyper_Gcd.f (k : Nat) (a0 : Int) (a1 : Int) : Option (Int) := hyper_Gcd.l0 k a0 a1
theorem hyper_Gcd.mono_l : ∀ k, (∀ y0 y1, LeO (hyper_Gcd.l0 k y0 y1) (hyper_Gcd.l0 (k + 1) y0 y1))
 | 0 => fun _ _ r h => by simp [hyper_Gcd.l0] at h
 | k + 1 => by
  have ih0 := hyper_Gcd.mono_l k
  · intro y0 y1
    unfold hyper_Gcd.l0
    repeat' first
    | (with_reducible exact ih0 _ _)
    | (with_reducible exact LeO.refl _)
    | (with_reducible exact LeO.none _)
    | (with_reducible refine LeO.ite ?_ ?_)
    | (with_reducible refine LeO.bind ?_ (fun _ => ?_))
    | exact ih0 _ _
    | exact LeO.none _
    | refine LeO.ite ?_ ?_
    | refine LeO.bind ?_ (fun _ => ?_)
theorem hyper_Gcd.mono : ∀ a0 a1 k, LeO (hyper_Gcd.f k a0 a1) (hyper_Gcd.f (k + 1) a0 a1) := by
 intro a0 a1 k
 have ih0 := hyper_Gcd.mono_l k
 unfold hyper_Gcd.f
 repeat' first
  | (with_reducible exact ih0 _ _)
  | (with_reducible exact LeO.refl _)
  | (with_reducible exact LeO.none _)
  | (with_reducible refine LeO.ite ?_ ?_)
  | (with_reducible refine LeO.bind ?_ (fun _ => ?_))
  | exact ih0 _ _
  | exact LeO.none _
  | refine LeO.ite ?_ ?_
  | refine LeO.bind ?_ (fun _ => ?_)
set_option maxHeartbeats 8000000 in
set_option maxRecDepth 100000 in
theorem hyper_Gcd.calls (k : Nat) (a0 : Int) (a1 : Int) (r : Int) (w : World) (h : hyper_Gcd.f k a0 a1 = some r) :
 Calls Try.prog 16 #[.int .u64 a0, .int .u64 a1] w fun e w' => e = .returned (.int .u64 r) ∧ Drawn0 w w' := by
 have H : (hyper_Gcd.l0 k a0 a1) = some r := h
 clear h
 have H' := Aside0.mk H
 clear H
 go_enter Try.func16, Try.ntmps16
 go_wp2
 repeat (go_quiet (fail); try go_wp2)
 go_loopg [0, 1] k (fun kq v0 v1 w' => ∃ (x0_1 : Int) (x1_1 : Int), v0 = .int .u64 x0_1 ∧ v1 = .int .u64 x1_1 ∧ Aside0 (hyper_Gcd.l0 kq x0_1 x1_1 = some r) ∧ Aside0 (kq ≤ k) ∧ Drawn0 w w')
 case atStart => exact ⟨(a0), (a1), (by first | rfl | (simp; done) | (simp [*]; done)), (by first | rfl | (simp; done) | (simp [*]; done)), H', ⟨Nat.le_refl _⟩, by repeat (first | exact Drawn0.refl _ | apply Drawn0.step)⟩
 case round =>
  clear H'
  try clear c1
  try clear p2
  obtain ⟨x0_1, x1_1, rfl, rfl, HA, HK1, ⟨m1, rfl⟩⟩ := hrel
  cases gk with
  | zero => exact absurd HA.out (by simp [hyper_Gcd.l0])
  | succ k1 =>
   have H := HA.out
   clear HA
   simp only [hyper_Gcd.l0] at H
   by_cases c3 : x1_1 = 0
   · rw [if_pos c3] at H
     have c3b0 : (x1_1 == 0) = true := beq_iff_eq.mpr c3
     have c3b1 : (x1_1 != 0) = false := bne_eq_false_iff_eq.mpr c3
     clear c3
     obtain rfl := Option.some.inj H
     go_wp2
     repeat (go_quiet (fail); try go_wp2)
     go_ret
     exact ⟨by first | rfl | (simp; done) | (simp [*]; done), by repeat (first | exact Drawn0.refl _ | apply Drawn0.step)⟩
   · rw [if_neg c3] at H
     have c3b0 : (x1_1 == 0) = false := beq_eq_false_iff_ne.mpr c3
     have c3b1 : (x1_1 != 0) = true := bne_iff_ne.mpr c3
     have H' := Aside0.mk H
     clear H
     go_wp2
     repeat (go_quiet (fail); try go_wp2)
     go_roundg k1
     case measure => have := HK1.out; omega
     case rel => exact ⟨(x1_1), (Int.tmod x0_1 x1_1), (by first | rfl | (simp; done) | (simp [*]; done)), (by first | rfl | (simp; done) | (simp [*]; done)), H', ⟨by have := HK1.out; omega⟩, by repeat (first | exact Drawn0.refl _ | apply Drawn0.step)⟩
end Go.Proofs.Ytindegbbcdloiaa.P
end
section
namespace Go.Proofs.Ytindegbbcdloiaa.P
open Go.RowKit Go.Proofs.YtindegbbcdloiaaW.PrintWords Go.Proofs.YtindegbbcdloiaaW.PrintLast Go.Proofs.YtindegbbcdloiaaW.PrintMore
set_option linter.unusedVariables false
set_option linter.unusedSimpArgs false
noncomputable def bits_Mul64.f (a0 : Int) (a1 : Int) : Option (Int × Int) := some (IntKind.u64.wrap ((IntKind.u64.wrap ((IntKind.u64.wrap ((a0 / 4294967296) * (a1 / 4294967296))) + ((IntKind.u64.wrap ((IntKind.u64.wrap ((a0 / 4294967296) * (Go.bits .and .u64 a1 4294967295))) + ((IntKind.u64.wrap ((Go.bits .and .u64 a0 4294967295) * (Go.bits .and .u64 a1 4294967295))) / 4294967296))) / 4294967296))) + ((IntKind.u64.wrap ((Go.bits .and .u64 (IntKind.u64.wrap ((IntKind.u64.wrap ((a0 / 4294967296) * (Go.bits .and .u64 a1 4294967295))) + ((IntKind.u64.wrap ((Go.bits .and .u64 a0 4294967295) * (Go.bits .and .u64 a1 4294967295))) / 4294967296))) 4294967295) + (IntKind.u64.wrap ((Go.bits .and .u64 a0 4294967295) * (a1 / 4294967296))))) / 4294967296)), IntKind.u64.wrap (a0 * a1))
set_option maxHeartbeats 8000000 in
set_option maxRecDepth 100000 in
theorem bits_Mul64.calls (a0 : Int) (a1 : Int) (r1 : Int) (r2 : Int) (w : World) (h : bits_Mul64.f a0 a1 = some (r1, r2)) :
 Calls Try.prog 37 #[.int .u64 a0, .int .u64 a1] w fun e w' => e = .returned (.tuple #[.int .u64 r1, .int .u64 r2]) ∧ Drawn0 w w' := by
 have H : (some (IntKind.u64.wrap ((IntKind.u64.wrap ((IntKind.u64.wrap ((a0 / 4294967296) * (a1 / 4294967296))) + ((IntKind.u64.wrap ((IntKind.u64.wrap ((a0 / 4294967296) * (Go.bits .and .u64 a1 4294967295))) + ((IntKind.u64.wrap ((Go.bits .and .u64 a0 4294967295) * (Go.bits .and .u64 a1 4294967295))) / 4294967296))) / 4294967296))) + ((IntKind.u64.wrap ((Go.bits .and .u64 (IntKind.u64.wrap ((IntKind.u64.wrap ((a0 / 4294967296) * (Go.bits .and .u64 a1 4294967295))) + ((IntKind.u64.wrap ((Go.bits .and .u64 a0 4294967295) * (Go.bits .and .u64 a1 4294967295))) / 4294967296))) 4294967295) + (IntKind.u64.wrap ((Go.bits .and .u64 a0 4294967295) * (a1 / 4294967296))))) / 4294967296)), IntKind.u64.wrap (a0 * a1))) = some (r1, r2) := h
 clear h
 simp only [Option.some.injEq, Prod.mk.injEq] at H
 obtain ⟨rfl, rfl⟩ := H
 go_enter Try.func37, Try.ntmps37
 go_wp2
 go_ret2
 exact ⟨by first | rfl | (simp; done) | (simp [*]; done), by repeat (first | exact Drawn0.refl _ | apply Drawn0.step)⟩
end Go.Proofs.Ytindegbbcdloiaa.P
end
section
namespace Go.Proofs.Ytindegbbcdloiaa.P
open Go.RowKit Go.Proofs.YtindegbbcdloiaaW.PrintWords Go.Proofs.YtindegbbcdloiaaW.PrintLast Go.Proofs.YtindegbbcdloiaaW.PrintMore
set_option linter.unusedVariables false
set_option linter.unusedSimpArgs false
noncomputable def sat_Mul.f (a0 : Int) (a1 : Int) : Option (Int) := (bits_Mul64.f a0 a1).bind fun bt101 => (if bt101.1 > 0 then (some 18446744073709551615) else (some bt101.2))
set_option maxHeartbeats 8000000 in
set_option maxRecDepth 100000 in
theorem sat_Mul.calls (a0 : Int) (a1 : Int) (r : Int) (w : World) (h : sat_Mul.f a0 a1 = some r) :
 Calls Try.prog 35 #[.int .u64 a0, .int .u64 a1] w fun e w' => e = .returned (.int .u64 r) ∧ Drawn0 w w' := by
 have H : ((bits_Mul64.f a0 a1).bind fun bt101 => (if bt101.1 > 0 then (some 18446744073709551615) else (some bt101.2))) = some r := h
 clear h
 replace H := Option.bind_eq_some_iff.mp H
 obtain ⟨⟨t101, t102⟩, A30, H⟩ := H
 replace H : (if t101 > 0 then (some 18446744073709551615) else (some t102)) = some r := H
 have A3 := Aside0.mk A30
 clear A30
 by_cases c4 : t101 > 0
 · rw [if_pos c4] at H
   have c4b0 : decide (0 < t101) = true := decide_eq_true c4
   clear c4
   obtain rfl := Option.some.inj H
   go_enter Try.func35, Try.ntmps35
   go_wp2_with (first | ((with_reducible refine gate_callee (f := 37) rfl ?_); refine goesL_ (some 10) rfl rfl Try.func37 (by kernel_rfl) rfl #[.int .u64 a0, .int .u64 a1] rfl (by (try simp only [List.map_toArray, List.map_cons, List.map_nil]); first | done | rfl | (simp only [List.length_drop, List.length_take]; rfl)) ?_; (with_reducible refine (bits_Mul64.calls a0 a1 t101 t102 _ A3.out).mono ?_); rintro e w' ⟨rfl, ⟨nd, rfl⟩⟩; refine ⟨_, rfl, ?_⟩))
   go_ret
   exact ⟨by first | rfl | (simp; done) | (simp [*]; done), by repeat (first | exact Drawn0.refl _ | apply Drawn0.step)⟩
 · rw [if_neg c4] at H
   have c4b0 : decide (0 < t101) = false := decide_eq_false c4
   clear c4
   obtain rfl := Option.some.inj H
   go_enter Try.func35, Try.ntmps35
   go_wp2_with (first | ((with_reducible refine gate_callee (f := 37) rfl ?_); refine goesL_ (some 10) rfl rfl Try.func37 (by kernel_rfl) rfl #[.int .u64 a0, .int .u64 a1] rfl (by (try simp only [List.map_toArray, List.map_cons, List.map_nil]); first | done | rfl | (simp only [List.length_drop, List.length_take]; rfl)) ?_; (with_reducible refine (bits_Mul64.calls a0 a1 t101 t102 _ A3.out).mono ?_); rintro e w' ⟨rfl, ⟨nd, rfl⟩⟩; refine ⟨_, rfl, ?_⟩))
   go_ret
   exact ⟨by first | rfl | (simp; done) | (simp [*]; done), by repeat (first | exact Drawn0.refl _ | apply Drawn0.step)⟩
end Go.Proofs.Ytindegbbcdloiaa.P
end
section
namespace Go.Proofs.Ytindegbbcdloiaa.P
open Go.RowKit Go.Proofs.YtindegbbcdloiaaW.PrintWords Go.Proofs.YtindegbbcdloiaaW.PrintLast Go.Proofs.YtindegbbcdloiaaW.PrintMore
set_option linter.unusedVariables false
set_option linter.unusedSimpArgs false
noncomputable def hyper_Lcm.j0 : Nat → Int → Int → Bool → Option (Int)
 | 0, _, _, _ => none
 | k + 1, x0, x1, x10 => if x10 = true then (some 0) else ((hyper_Gcd.f k x0 x1).bind fun t101 => (if t101 = 0 then (none) else ((sat_Mul.f (IntKind.u64.wrap (Int.tdiv x0 t101)) x1).bind fun t102 => (some t102))))
noncomputable def hyper_Lcm.f (k : Nat) (a0 : Int) (a1 : Int) : Option (Int) := if a0 = 0 then (hyper_Lcm.j0 k a0 a1 true) else (hyper_Lcm.j0 k a0 a1 (a1 == 0))
set_option maxHeartbeats 8000000 in
set_option maxRecDepth 100000 in
theorem hyper_Lcm.calls (k : Nat) (a0 : Int) (a1 : Int) (r : Int) (w : World) (h : hyper_Lcm.f k a0 a1 = some r) :
 Calls Try.prog 32 #[.int .u64 a0, .int .u64 a1] w fun e w' => e = .returned (.int .u64 r) ∧ Drawn0 w w' := by
 have H : (if a0 = 0 then (hyper_Lcm.j0 k a0 a1 true) else (hyper_Lcm.j0 k a0 a1 (a1 == 0))) = some r := h
 clear h
 have HC3 := Aside0.mk H
 clear H
 go_enter Try.func32, Try.ntmps32
 go_upto_region 1 with (fail)
 go_cut [10] (fun v10 wc => ∃ (kq : Nat) (x10_2 : Bool), v10 = .bool x10_2 ∧ Aside0 (hyper_Lcm.j0 kq a0 a1 x10_2 = some r) ∧ Aside0 (kq ≤ k) ∧ Drawn0 w wc)
 case first =>
  have H := HC3.out
  clear HC3
  by_cases c4 : a0 = 0
  · rw [if_pos c4] at H
    have c4b0 : (a0 == 0) = true := beq_iff_eq.mpr c4
    have c4b1 : (a0 != 0) = false := bne_eq_false_iff_eq.mpr c4
    clear c4
    (first | rw [c4b0] | (simp only [i64_w, i32_w]; rw [c4b0]) | skip)
    have H' := Aside0.mk H
    clear H
    go_wp2
    go_meet
    case rel => exact ⟨_, (true), (by first | rfl | (simp; done) | (simp [*]; done)), H', ⟨by first | omega | exact Nat.le_refl _⟩, by repeat (first | exact Drawn0.refl _ | apply Drawn0.step)⟩
  · rw [if_neg c4] at H
    have c4b0 : (a0 == 0) = false := beq_eq_false_iff_ne.mpr c4
    have c4b1 : (a0 != 0) = true := bne_iff_ne.mpr c4
    (first | rw [c4b0] | (simp only [i64_w, i32_w]; rw [c4b0]) | skip)
    have H' := Aside0.mk H
    clear H
    go_wp2
    go_meet
    case rel => exact ⟨_, ((a1 == 0)), (by first | rfl | (simp; done) | (simp [*]; done)), H', ⟨by first | omega | exact Nat.le_refl _⟩, by repeat (first | exact Drawn0.refl _ | apply Drawn0.step)⟩
 case rest =>
  clear HC3
  try clear p2
  try clear c3
  try clear c4
  try clear c4b0
  try clear c4b1
  obtain ⟨kq, x10_2, rfl, HA, HJ2, ⟨mc2, rfl⟩⟩ := hcut
  cases kq with
  | zero => exact absurd HA.out (by simp [hyper_Lcm.j0])
  | succ kj2 =>
   have H := HA.out
   clear HA
   simp only [hyper_Lcm.j0] at H
   by_cases c5 : x10_2 = true
   · subst c5
     have H1 : (some 0) = some r := by rw [if_pos rfl] at H; exact H
     clear H
     have H := H1
     clear H1
     obtain rfl := Option.some.inj H
     go_wp2
     go_ret
     exact ⟨by first | rfl | (simp; done) | (simp [*]; done), by repeat (first | exact Drawn0.refl _ | apply Drawn0.step)⟩
   · replace c5 := Bool.eq_false_iff.mpr c5
     subst c5
     have H1 : ((hyper_Gcd.f kj2 a0 a1).bind fun t101 => (if t101 = 0 then (none) else ((sat_Mul.f (IntKind.u64.wrap (Int.tdiv a0 t101)) a1).bind fun t102 => (some t102)))) = some r := by rw [if_neg (show ¬ (false = true) by decide)] at H; exact H
     clear H
     have H := H1
     clear H1
     replace H := Option.bind_eq_some_iff.mp H
     obtain ⟨t101, A60, H⟩ := H
     replace H : (if t101 = 0 then (none) else ((sat_Mul.f (IntKind.u64.wrap (Int.tdiv a0 t101)) a1).bind fun t102 => (some t102))) = some r := H
     have A6 := Aside0.mk A60
     clear A60
     by_cases c7 : t101 = 0
     · rw [if_pos c7] at H
       exact absurd H (by simp)
     · rw [if_neg c7] at H
       have c7b0 : (t101 == 0) = false := beq_eq_false_iff_ne.mpr c7
       have c7b1 : (t101 != 0) = true := bne_iff_ne.mpr c7
       replace H := Option.bind_eq_some_iff.mp H
       obtain ⟨t102, A80, H⟩ := H
       replace H : (some t102) = some r := H
       have A8 := Aside0.mk A80
       clear A80
       obtain rfl := Option.some.inj H
       go_wp2_with (first | ((with_reducible refine gate_callee (f := 16) rfl ?_); refine goesL_ (some 14) rfl rfl Try.func16 (by kernel_rfl) rfl #[.int .u64 a0, .int .u64 a1] rfl (by (try simp only [List.map_toArray, List.map_cons, List.map_nil]); first | done | rfl | (simp only [List.length_drop, List.length_take]; rfl)) ?_; (with_reducible refine (hyper_Gcd.calls kj2 a0 a1 t101 _ A6.out).mono ?_); rintro e w' ⟨rfl, ⟨nd, rfl⟩⟩; refine ⟨_, rfl, ?_⟩) | ((with_reducible refine gate_callee (f := 35) rfl ?_); refine goesL_ (some 17) rfl rfl Try.func35 (by kernel_rfl) rfl #[.int .u64 (IntKind.u64.wrap (Int.tdiv a0 t101)), .int .u64 a1] rfl (by (try simp only [List.map_toArray, List.map_cons, List.map_nil]); first | done | rfl | (simp only [List.length_drop, List.length_take]; rfl)) ?_; (with_reducible refine (sat_Mul.calls (IntKind.u64.wrap (Int.tdiv a0 t101)) a1 t102 _ A8.out).mono ?_); rintro e w' ⟨rfl, ⟨nd, rfl⟩⟩; refine ⟨_, rfl, ?_⟩))
       go_ret
       exact ⟨by first | rfl | (simp; done) | (simp [*]; done), by repeat (first | exact Drawn0.refl _ | apply Drawn0.step)⟩
end Go.Proofs.Ytindegbbcdloiaa.P
end
section
namespace Go.Proofs.Ytindegbbcdloiaa.P
open Go.RowKit Go.Proofs.YtindegbbcdloiaaW.PrintWords Go.Proofs.YtindegbbcdloiaaW.PrintLast Go.Proofs.YtindegbbcdloiaaW.PrintMore
set_option linter.unusedVariables false
set_option linter.unusedSimpArgs false
noncomputable def hyper_lcm.f (k : Nat) (a0 : Int) (a1 : Int) : Option (Int) := if a0 = 18446744073709551615 then (if a1 = 0 then ((hyper_Lcm.f k a0 a1).bind fun t101 => (some t101)) else (some a0)) else ((hyper_Lcm.f k a0 a1).bind fun t102 => (some t102))
set_option maxHeartbeats 8000000 in
set_option maxRecDepth 100000 in
theorem hyper_lcm.calls (k : Nat) (a0 : Int) (a1 : Int) (r : Int) (w : World) (h : hyper_lcm.f k a0 a1 = some r) :
 Calls Try.prog 28 #[.int .u64 a0, .int .u64 a1] w fun e w' => e = .returned (.int .u64 r) ∧ Drawn0 w w' := by
 have H : (if a0 = 18446744073709551615 then (if a1 = 0 then ((hyper_Lcm.f k a0 a1).bind fun t101 => (some t101)) else (some a0)) else ((hyper_Lcm.f k a0 a1).bind fun t102 => (some t102))) = some r := h
 clear h
 by_cases c3 : a0 = 18446744073709551615
 · rw [if_pos c3] at H
   have c3b0 : (a0 == 18446744073709551615) = true := beq_iff_eq.mpr c3
   have c3b1 : (a0 != 18446744073709551615) = false := bne_eq_false_iff_eq.mpr c3
   clear c3
   by_cases c4 : a1 = 0
   · rw [if_pos c4] at H
     have c4b0 : (a1 == 0) = true := beq_iff_eq.mpr c4
     have c4b1 : (a1 != 0) = false := bne_eq_false_iff_eq.mpr c4
     clear c4
     replace H := Option.bind_eq_some_iff.mp H
     obtain ⟨t101, A50, H⟩ := H
     replace H : (some t101) = some r := H
     have A5 := Aside0.mk A50
     clear A50
     obtain rfl := Option.some.inj H
     go_enter Try.func28, Try.ntmps28
     go_wp2_with (first | ((with_reducible refine gate_callee (f := 32) rfl ?_); refine goesL_ (some 14) rfl rfl Try.func32 (by kernel_rfl) rfl #[.int .u64 a0, .int .u64 a1] rfl (by (try simp only [List.map_toArray, List.map_cons, List.map_nil]); first | done | rfl | (simp only [List.length_drop, List.length_take]; rfl)) ?_; (with_reducible refine (hyper_Lcm.calls k a0 a1 t101 _ A5.out).mono ?_); rintro e w' ⟨rfl, ⟨nd, rfl⟩⟩; refine ⟨_, rfl, ?_⟩))
     go_ret
     exact ⟨by first | rfl | (simp; done) | (simp [*]; done), by repeat (first | exact Drawn0.refl _ | apply Drawn0.step)⟩
   · rw [if_neg c4] at H
     have c4b0 : (a1 == 0) = false := beq_eq_false_iff_ne.mpr c4
     have c4b1 : (a1 != 0) = true := bne_iff_ne.mpr c4
     obtain rfl := Option.some.inj H
     go_enter Try.func28, Try.ntmps28
     go_wp2
     go_ret
     exact ⟨by first | rfl | (simp; done) | (simp [*]; done), by repeat (first | exact Drawn0.refl _ | apply Drawn0.step)⟩
 · rw [if_neg c3] at H
   have c3b0 : (a0 == 18446744073709551615) = false := beq_eq_false_iff_ne.mpr c3
   have c3b1 : (a0 != 18446744073709551615) = true := bne_iff_ne.mpr c3
   replace H := Option.bind_eq_some_iff.mp H
   obtain ⟨t102, A60, H⟩ := H
   replace H : (some t102) = some r := H
   have A6 := Aside0.mk A60
   clear A60
   obtain rfl := Option.some.inj H
   go_enter Try.func28, Try.ntmps28
   go_wp2_with (first | ((with_reducible refine gate_callee (f := 32) rfl ?_); refine goesL_ (some 14) rfl rfl Try.func32 (by kernel_rfl) rfl #[.int .u64 a0, .int .u64 a1] rfl (by (try simp only [List.map_toArray, List.map_cons, List.map_nil]); first | done | rfl | (simp only [List.length_drop, List.length_take]; rfl)) ?_; (with_reducible refine (hyper_Lcm.calls k a0 a1 t102 _ A6.out).mono ?_); rintro e w' ⟨rfl, ⟨nd, rfl⟩⟩; refine ⟨_, rfl, ?_⟩))
   go_ret
   exact ⟨by first | rfl | (simp; done) | (simp [*]; done), by repeat (first | exact Drawn0.refl _ | apply Drawn0.step)⟩
end Go.Proofs.Ytindegbbcdloiaa.P
end
section
namespace Go.Proofs.Ytindegbbcdloiaa.P
open Go.RowKit Go.Proofs.YtindegbbcdloiaaW.PrintWords Go.Proofs.YtindegbbcdloiaaW.PrintLast Go.Proofs.YtindegbbcdloiaaW.PrintMore
set_option linter.unusedVariables false
set_option linter.unusedSimpArgs false
noncomputable def hyper_All.l0 : Nat → Int → List Int → Int → Int → Option (Int)
 | 0, _, _, _, _ => none
 | k + 1, x3, x6, x7, x8 => if x8 < x7 then (if 0 ≤ x8 then (if x8 < (x6.length : Int) then ((hyper_lcm.f k x3 (rd x6 x8)).bind fun t102 => (hyper_All.l0 k t102 x6 x7 (wrap64 (x8 + 1)))) else (none)) else (none)) else (some x3)
noncomputable def hyper_All.f (k : Nat) (l0 : List Int) : Option (Int) := hyper_All.l0 k 1 l0 (l0.length : Int) 0
set_option maxHeartbeats 8000000 in
set_option maxRecDepth 100000 in
theorem hyper_All.calls (k : Nat) (A0 : Option Addr) (c0 : Nat) (l0 : List Int) (r : Int) (w : World) (hr0 : Kd.C (Kd.int .u64) w A0 l0.length l0) (hc0 : l0.length ≤ c0) (h : hyper_All.f k l0 = some r) :
 Calls Try.prog 20 #[.slice A0 l0.length c0] w fun e w' => e = .returned (.int .u64 r) ∧ Drawn0 w w' := by
 have HR0 := Aside0.mk hr0
 have HC0 := Aside0.mk hc0
 clear hr0 hc0
 have H : (hyper_All.l0 k 1 l0 (l0.length : Int) 0) = some r := h
 clear h
 have H' := Aside0.mk H
 clear H
 go_enter Try.func20, Try.ntmps20
 go_wp2
 go_loopg [3, 8] k (fun kq v3 v8 w' => ∃ (x3_1 : Int) (x8_1 : Int), v3 = .int .u64 x3_1 ∧ v8 = .int .i64 x8_1 ∧ Aside0 (hyper_All.l0 kq x3_1 l0 (l0.length : Int) x8_1 = some r) ∧ Aside0 (kq ≤ k) ∧ Drawn0 w w')
 case atStart => exact ⟨(1), (0), (by first | rfl | (simp; done) | (simp [*]; done)), (by first | rfl | (simp; done) | (simp [*]; done)), H', ⟨Nat.le_refl _⟩, by repeat (first | exact Drawn0.refl _ | apply Drawn0.step)⟩
 case round =>
  clear H'
  obtain ⟨x3_1, x8_1, rfl, rfl, HA, HK1, ⟨m1, rfl⟩⟩ := hrel
  cases gk with
  | zero => exact absurd HA.out (by simp [hyper_All.l0])
  | succ k1 =>
   have H := HA.out
   clear HA
   simp only [hyper_All.l0] at H
   by_cases c2 : x8_1 < (l0.length : Int)
   · rw [if_pos c2] at H
     have c2b0 : decide (x8_1 < (l0.length : Int)) = true := decide_eq_true c2
     clear c2
     by_cases c3 : 0 ≤ x8_1
     · rw [if_pos c3] at H
       have c3b0 : decide (0 ≤ x8_1) = true := decide_eq_true c3
       clear c3
       by_cases c4 : x8_1 < (l0.length : Int)
       · rw [if_pos c4] at H
         have c4b0 : decide (x8_1 < (l0.length : Int)) = true := decide_eq_true c4
         clear c4
         replace H := Option.bind_eq_some_iff.mp H
         obtain ⟨t102, A50, H⟩ := H
         replace H : (hyper_All.l0 k1 t102 l0 (l0.length : Int) (wrap64 (x8_1 + 1))) = some r := H
         have A5 := Aside0.mk A50
         clear A50
         have H' := Aside0.mk H
         clear H
         have p101 : 0 ≤ (x8_1 : Int) := of_decide_eq_true (by first | (with_reducible assumption) | assumption)
         have q101 : x8_1 < (l0.length : Int) := of_decide_eq_true (by first | (with_reducible assumption) | assumption)
         obtain ⟨ad101, e101, hx101_0⟩ := Kd.at_int HR0.out x8_1 p101 q101
         cases e101
         replace p101 := eq_true p101
         replace q101 := eq_true q101
         go_wp2_with (first | ((with_reducible refine gate_callee (f := 28) rfl ?_); refine goesL_ (some 14) rfl rfl Try.func28 (by kernel_rfl) rfl #[.int .u64 x3_1, .int .u64 (rd l0 x8_1)] rfl (by (try simp only [List.map_toArray, List.map_cons, List.map_nil]); first | done | rfl | (simp only [List.length_drop, List.length_take]; rfl)) ?_; (with_reducible refine (hyper_lcm.calls k1 x3_1 (rd l0 x8_1) t102 _ A5.out).mono ?_); rintro e w' ⟨rfl, ⟨nd, rfl⟩⟩; refine ⟨_, rfl, ?_⟩))
         go_roundg k1
         case measure => have := HK1.out; omega
         case rel => exact ⟨(t102), (wrap64 (x8_1 + 1)), (by first | rfl | (simp; done) | (simp [*]; done)), (by first | rfl | (simp; done) | (simp [*]; done)), H', ⟨by have := HK1.out; omega⟩, by repeat (first | exact Drawn0.refl _ | apply Drawn0.step)⟩
       · rw [if_neg c4] at H
         exact absurd H (by simp)
     · rw [if_neg c3] at H
       exact absurd H (by simp)
   · rw [if_neg c2] at H
     have c2b0 : decide (x8_1 < (l0.length : Int)) = false := decide_eq_false c2
     clear c2
     obtain rfl := Option.some.inj H
     go_wp2
     go_ret
     exact ⟨by first | rfl | (simp; done) | (simp [*]; done), by repeat (first | exact Drawn0.refl _ | apply Drawn0.step)⟩
end Go.Proofs.Ytindegbbcdloiaa.P
end
section
namespace Go.Proofs.Ytindegbbcdloiaa.P
open Go.RowKit Go.Proofs.YtindegbbcdloiaaW.PrintWords Go.Proofs.YtindegbbcdloiaaW.PrintLast Go.Proofs.YtindegbbcdloiaaW.PrintMore
set_option linter.unusedVariables false
set_option linter.unusedSimpArgs false
noncomputable def cyclic_whole.l0 : Nat → List (S34) → List Int → List (S34) → Int → Int → Option (Int)
 | 0, _, _, _, _, _ => none
 | k + 1, x0, x3, x7, x8, x9 => if x9 < x8 then (if 0 ≤ x9 then (if x9 < (x7.length : Int) then (if ((rd_T34 x7 x9).f0) = 0 then (some 0) else (if ((rd_T34 x7 x9).f1) = 0 then (some 0) else (if x3.length < 17592186044416 then (cyclic_whole.l0 k x0 (x3 ++ [(rd_T34 x7 x9).f1]) x7 x8 (wrap64 (x9 + 1))) else (none)))) else (none)) else (none)) else ((hyper_All.f k x3).bind fun t106 => (if (x0.length : Int) > 0 then (if t106 ≤ 4096 then (some t106) else (some 0)) else (some 0)))
noncomputable def cyclic_whole.f (k : Nat) (l0 : List (S34)) : Option (Int) := cyclic_whole.l0 k l0 ([] : List Int) l0 (l0.length : Int) 0
set_option maxHeartbeats 8000000 in
set_option maxRecDepth 100000 in
theorem cyclic_whole.calls (k : Nat) (A0 : Option Addr) (c0 : Nat) (l0 : List (S34)) (r : Int) (w : World) (hr0 : Kd.C k34 w A0 l0.length l0) (hc0 : l0.length ≤ c0) (h : cyclic_whole.f k l0 = some r) :
 Calls Try.prog 13 #[.slice A0 l0.length c0] w fun e w' => e = .returned (.int .u64 r) ∧ Below w.heap.size w w' := by
 have hu34 := Try.underlying34
 have HR0 := Aside0.mk hr0
 have HC0 := Aside0.mk hc0
 clear hr0 hc0
 have HB := Aside0.mk (Below.refl w.heap.size w)
 have H : (cyclic_whole.l0 k l0 ([] : List Int) l0 (l0.length : Int) 0) = some r := h
 clear h
 have H' := Aside0.mk H
 clear H
 go_enter Try.func13, Try.ntmps13
 go_wp2
 go_loopg [3, 9] k (fun kq v3 v9 w' => ∃ (x3_1 : List Int) (x9_1 : Int), v9 = .int .i64 x9_1 ∧ Aside0 (cyclic_whole.l0 kq l0 x3_1 l0 (l0.length : Int) x9_1 = some r) ∧ Aside0 (kq ≤ k) ∧ Aside0 (Kd.R (Kd.int .u64) 23 w' w.heap.size (fun _ => True) v3 x3_1) ∧ Aside0 (Below w.heap.size w w'))
 case atStart => exact ⟨(([] : List Int)), (0), (by first | rfl | (simp; done) | (simp [*]; done)), H', ⟨Nat.le_refl _⟩, ⟨by first | exact Kd.R_nil _ _ _ _ _ | exact Kd.N_nil _ _ _ _ _ | exact Kd.V_nil _ _ _ _ _ | exact Kd.Q_nil _ _ _ _ _ | exact Kd.S_nil _ _ _ _ _⟩, ⟨by repeat (first | (with_reducible first | exact HB.out | apply below_alloc | apply pw_below_drewN | apply below_drew1) | exact HB.out)⟩⟩
 case round =>
  clear H'
  try clear c1
  obtain ⟨x3_1, x9_1, rfl, HA, HK1, HO_3, HB⟩ := hrel
  cases gk with
  | zero => exact absurd HA.out (by simp [cyclic_whole.l0])
  | succ k1 =>
   have H := HA.out
   clear HA
   simp only [cyclic_whole.l0] at H
   by_cases c2 : x9_1 < (l0.length : Int)
   · rw [if_pos c2] at H
     have c2b0 : decide (x9_1 < (l0.length : Int)) = true := decide_eq_true c2
     clear c2
     by_cases c3 : 0 ≤ x9_1
     · rw [if_pos c3] at H
       have c3b0 : decide (0 ≤ x9_1) = true := decide_eq_true c3
       clear c3
       by_cases c4 : x9_1 < (l0.length : Int)
       · rw [if_pos c4] at H
         have c4b0 : decide (x9_1 < (l0.length : Int)) = true := decide_eq_true c4
         clear c4
         by_cases c5 : ((rd_T34 l0 x9_1).f0) = 0
         · rw [if_pos c5] at H
           have c5b0 : (((rd_T34 l0 x9_1).f0) == 0) = true := beq_iff_eq.mpr c5
           have c5b1 : (((rd_T34 l0 x9_1).f0) != 0) = false := bne_eq_false_iff_eq.mpr c5
           clear c5
           obtain rfl := Option.some.inj H
           have p101 : 0 ≤ (x9_1 : Int) := of_decide_eq_true (by first | (with_reducible assumption) | assumption)
           have q101 : x9_1 < (l0.length : Int) := of_decide_eq_true (by first | (with_reducible assumption) | assumption)
           obtain ⟨ad101, e101, hx101_0, hx101_1⟩ := at_T34 HR0.out x9_1 p101 q101
           cases e101
           replace hx101_0 := (HB.out.cell (World.block_lt_of_cell? w _ hx101_0)).trans hx101_0
           replace hx101_1 := (HB.out.cell (World.block_lt_of_cell? w _ hx101_1)).trans hx101_1
           replace p101 := eq_true p101
           replace q101 := eq_true q101
           go_wp2_with (first | ((with_reducible refine gate_dst (N := 5) rfl ?_); refine box_event ?hg (N := 5) ?hd (cs := #[.int .u64 0, .int .u64 0]) (t := 34) ?hr ?_; (case hd => rfl); (case hg => rfl); (case hr => first | (go_simp; done) | (go_simp; rfl)); intro gb102 hg w6 hbox hb; have n0_ := Aside0.mk (Kd.R_below (by (with_reducible repeat (first | apply Kd.R_alloc | apply Kd.R_drewN | apply Kd.R_drew)); exact HO_3.out) hb); have n1_ := Aside0.mk (below_step (by repeat (first | (with_reducible first | exact HB.out | apply below_alloc | apply pw_below_drewN | apply below_drew1) | exact HB.out)) hb); have n2_ := Aside0.mk (hbox); have n3_ := Aside0.mk ((by rw [hg]; exact (below_size (by repeat (first | (with_reducible first | exact HB.out | apply below_alloc | apply pw_below_drewN | apply below_drew1) | exact HB.out))) : w.heap.size ≤ gb102)); have n4_ := Aside0.mk ((by rw [hg]; exact (below_size (by repeat (first | (with_reducible first | exact HB.out | apply below_alloc | apply pw_below_drewN | apply below_drew1) | exact HB.out))) : w.heap.size ≤ gb102)); clear HO_3; clear HB; have HO_3 := n0_; have HB := n1_; have BK102 := n2_; have GW102 := n3_; have GE102 := n4_; clear n0_ n1_ n2_ n3_ n4_; clear hb hbox hg; have hcz7_0 : w6.cell? ⟨gb102, 0, none⟩ = some (.int .u64 0) := (blk_cell BK102.out 0).trans rfl; have hcz7_1 : w6.cell? ⟨gb102, 1, none⟩ = some (.int .u64 0) := (blk_cell BK102.out 1).trans rfl; have hfz7_0 := blk_frozen BK102.out 0; have hfz7_1 := blk_frozen BK102.out 1))
           go_ret
           exact ⟨by first | rfl | (simp [errW_none, errW_some] <;> rfl) | (simp [*, errW_none, errW_some] <;> rfl), by repeat (first | (with_reducible first | exact HB.out | apply below_alloc | apply pw_below_drewN | apply below_drew1 | refine below_set ?_ GE102.out) | exact HB.out)⟩
         · rw [if_neg c5] at H
           have c5b0 : (((rd_T34 l0 x9_1).f0) == 0) = false := beq_eq_false_iff_ne.mpr c5
           have c5b1 : (((rd_T34 l0 x9_1).f0) != 0) = true := bne_iff_ne.mpr c5
           by_cases c8 : ((rd_T34 l0 x9_1).f1) = 0
           · rw [if_pos c8] at H
             have c8b0 : (((rd_T34 l0 x9_1).f1) == 0) = true := beq_iff_eq.mpr c8
             have c8b1 : (((rd_T34 l0 x9_1).f1) != 0) = false := bne_eq_false_iff_eq.mpr c8
             clear c8
             obtain rfl := Option.some.inj H
             have p101 : 0 ≤ (x9_1 : Int) := of_decide_eq_true (by first | (with_reducible assumption) | assumption)
             have q101 : x9_1 < (l0.length : Int) := of_decide_eq_true (by first | (with_reducible assumption) | assumption)
             obtain ⟨ad101, e101, hx101_0, hx101_1⟩ := at_T34 HR0.out x9_1 p101 q101
             cases e101
             replace hx101_0 := (HB.out.cell (World.block_lt_of_cell? w _ hx101_0)).trans hx101_0
             replace hx101_1 := (HB.out.cell (World.block_lt_of_cell? w _ hx101_1)).trans hx101_1
             replace p101 := eq_true p101
             replace q101 := eq_true q101
             go_wp2_with (first | ((with_reducible refine gate_dst (N := 5) rfl ?_); refine box_event ?hg (N := 5) ?hd (cs := #[.int .u64 0, .int .u64 0]) (t := 34) ?hr ?_; (case hd => rfl); (case hg => rfl); (case hr => first | (go_simp; done) | (go_simp; rfl)); intro gb102 hg w9 hbox hb; have n0_ := Aside0.mk (Kd.R_below (by (with_reducible repeat (first | apply Kd.R_alloc | apply Kd.R_drewN | apply Kd.R_drew)); exact HO_3.out) hb); have n1_ := Aside0.mk (below_step (by repeat (first | (with_reducible first | exact HB.out | apply below_alloc | apply pw_below_drewN | apply below_drew1) | exact HB.out)) hb); have n2_ := Aside0.mk (hbox); have n3_ := Aside0.mk ((by rw [hg]; exact (below_size (by repeat (first | (with_reducible first | exact HB.out | apply below_alloc | apply pw_below_drewN | apply below_drew1) | exact HB.out))) : w.heap.size ≤ gb102)); have n4_ := Aside0.mk ((by rw [hg]; exact (below_size (by repeat (first | (with_reducible first | exact HB.out | apply below_alloc | apply pw_below_drewN | apply below_drew1) | exact HB.out))) : w.heap.size ≤ gb102)); clear HO_3; clear HB; have HO_3 := n0_; have HB := n1_; have BK102 := n2_; have GW102 := n3_; have GE102 := n4_; clear n0_ n1_ n2_ n3_ n4_; clear hb hbox hg; have hcz10_0 : w9.cell? ⟨gb102, 0, none⟩ = some (.int .u64 0) := (blk_cell BK102.out 0).trans rfl; have hcz10_1 : w9.cell? ⟨gb102, 1, none⟩ = some (.int .u64 0) := (blk_cell BK102.out 1).trans rfl; have hfz10_0 := blk_frozen BK102.out 0; have hfz10_1 := blk_frozen BK102.out 1))
             go_ret
             exact ⟨by first | rfl | (simp [errW_none, errW_some] <;> rfl) | (simp [*, errW_none, errW_some] <;> rfl), by repeat (first | (with_reducible first | exact HB.out | apply below_alloc | apply pw_below_drewN | apply below_drew1 | refine below_set ?_ GE102.out) | exact HB.out)⟩
           · rw [if_neg c8] at H
             have c8b0 : (((rd_T34 l0 x9_1).f1) == 0) = false := beq_eq_false_iff_ne.mpr c8
             have c8b1 : (((rd_T34 l0 x9_1).f1) != 0) = true := bne_iff_ne.mpr c8
             by_cases c11 : x3_1.length < 17592186044416
             · rw [if_pos c11] at H
               have LMc11 := Aside0.mk c11
               clear c11
               obtain ⟨y103, hy103⟩ : ∃ y_ : List Int, y_ = (x3_1 ++ [(rd_T34 l0 x9_1).f1]) := ⟨_, rfl⟩
               replace H : (cyclic_whole.l0 k1 l0 y103 l0 (l0.length : Int) (wrap64 (x9_1 + 1))) = some r := by first | (rw [hy103]; with_reducible exact H) | (have H2_ := (Option.bind_some _ _).symm.trans H; rw [hy103]; with_reducible exact H2_) | (have H2_ := (Option.bind_some _ _).symm.trans H; with_reducible exact H2_) | with_reducible exact H | (rw [hy103]; exact H) | exact H
               have Ny103 := Aside0.mk hy103
               clear hy103
               have H' := Aside0.mk H
               clear H
               have p101 : 0 ≤ (x9_1 : Int) := of_decide_eq_true (by first | (with_reducible assumption) | assumption)
               have q101 : x9_1 < (l0.length : Int) := of_decide_eq_true (by first | (with_reducible assumption) | assumption)
               obtain ⟨ad101, e101, hx101_0, hx101_1⟩ := at_T34 HR0.out x9_1 p101 q101
               cases e101
               replace hx101_0 := (HB.out.cell (World.block_lt_of_cell? w _ hx101_0)).trans hx101_0
               replace hx101_1 := (HB.out.cell (World.block_lt_of_cell? w _ hx101_1)).trans hx101_1
               replace p101 := eq_true p101
               replace q101 := eq_true q101
               go_wp2_with (first | ((with_reducible refine gate_dst (N := 5) rfl ?_); refine box_event ?hg (N := 5) ?hd (cs := #[.int .u64 0, .int .u64 0]) (t := 34) ?hr ?_; (case hd => rfl); (case hg => rfl); (case hr => first | (go_simp; done) | (go_simp; rfl)); intro gb102 hg w12 hbox hb; have n0_ := Aside0.mk (Kd.R_below (by (with_reducible repeat (first | apply Kd.R_alloc | apply Kd.R_drewN | apply Kd.R_drew)); exact HO_3.out) hb); have n1_ := Aside0.mk (below_step (by repeat (first | (with_reducible first | exact HB.out | apply below_alloc | apply pw_below_drewN | apply below_drew1) | exact HB.out)) hb); have n2_ := Aside0.mk (hbox); have n3_ := Aside0.mk ((by rw [hg]; exact (below_size (by repeat (first | (with_reducible first | exact HB.out | apply below_alloc | apply pw_below_drewN | apply below_drew1) | exact HB.out))) : w.heap.size ≤ gb102)); have n4_ := Aside0.mk ((by rw [hg]; exact (below_size (by repeat (first | (with_reducible first | exact HB.out | apply below_alloc | apply pw_below_drewN | apply below_drew1) | exact HB.out))) : w.heap.size ≤ gb102)); clear HO_3; clear HB; have HO_3 := n0_; have HB := n1_; have BK102 := n2_; have GW102 := n3_; have GE102 := n4_; clear n0_ n1_ n2_ n3_ n4_; clear hb hbox hg; have hcz13_0 : w12.cell? ⟨gb102, 0, none⟩ = some (.int .u64 0) := (blk_cell BK102.out 0).trans rfl; have hcz13_1 : w12.cell? ⟨gb102, 1, none⟩ = some (.int .u64 0) := (blk_cell BK102.out 1).trans rfl; have hfz13_0 := blk_frozen BK102.out 0; have hfz13_1 := blk_frozen BK102.out 1) | ((with_reducible refine gate_builtin (b := .append) (xs := #[.tmp 21, .tmp 24]) rfl ?_); at_builtin; refine Kd.R_append (Kd.int .u64) (w0 := w) w.heap.size rfl (.tmp 21) (.tmp 24) 26 23 (.int .u64 0) 8 rfl Try.underlying26 info23 rfl (by decide) (by omega) u3 x3_1 ((rd_T34 l0 x9_1).f1) [.int .u64 ((rd_T34 l0 x9_1).f1)] (fun _ => True) (fun _ => False) rfl (by first | (go_simp; done) | (go_simp; rfl)) ?aP (fun _ hk => hk.elim) ?aF ?aO ?aB ?aS ?aL ?_; (case aP => exact rfl); (case aB => exact (by repeat (first | (with_reducible first | exact HB.out | apply below_alloc | apply pw_below_drewN | apply below_drew1 | refine below_set ?_ GE102.out) | exact HB.out))); (case aF => exact (fun _ _ => trivial)); (case aO => exact (by (with_reducible repeat (first | apply Kd.R_alloc | apply Kd.R_drewN | apply Kd.R_drew)); exact Kd.R_mono (Kd.R_far (p := ⟨gb102, 1, none⟩) (Kd.R_far (p := ⟨gb102, 0, none⟩) (Kd.R_types HO_3.out BK102.out (by decide)) (fun _ hk => hk.2) (.int .u64 ((rd_T34 l0 x9_1).f0))) (fun _ hk => hk.2) (.int .u64 ((rd_T34 l0 x9_1).f1))) (fun _ hk => trivial))); (case aS => exact (below_size (by repeat (first | (with_reducible first | exact HB.out | apply below_alloc | apply pw_below_drewN | apply below_drew1 | refine below_set ?_ GE102.out) | exact HB.out)))); (case aL => have := LMc11.out; omega); intro v104 w14 ho hb hg hat; rw [← Ny103.out] at ho; have n0_ := Aside0.mk (blk_grown (g := gb102) (o := .cells #[.int .u64 ((rd_T34 l0 x9_1).f0), .int .u64 ((rd_T34 l0 x9_1).f1)] 34 (0, 0)) (by (with_reducible repeat (first | refine blk_drewN ?_ _ | refine blk_drew ?_ | refine blk_alloc ?_ _)); refine blk_put (cs := #[.int .u64 ((rd_T34 l0 x9_1).f0), .int .u64 0]) ?_ 1 _ rfl; (with_reducible repeat (first | refine blk_drewN ?_ _ | refine blk_drew ?_ | refine blk_alloc ?_ _)); refine blk_put (cs := #[.int .u64 0, .int .u64 0]) ?_ 0 _ rfl; (with_reducible repeat (first | refine blk_drewN ?_ _ | refine blk_drew ?_ | refine blk_alloc ?_ _)); exact BK102.out) hg (Kd.R_ne HO_3.out BK102.out (by decide))); have n1_ := Aside0.mk (hb); have n2_ := Aside0.mk (ho); clear BK102; clear HB; clear HO_3; have BK102 := n0_; have HB := n1_; have HO105 := n2_; clear n0_ n1_ n2_; clear ho hb hg hat))
               go_roundg k1
               case measure => have := HK1.out; omega
               case rel => exact ⟨(y103), (wrap64 (x9_1 + 1)), (by first | rfl | (simp; done) | (simp [*]; done)), H', ⟨by have := HK1.out; omega⟩, ⟨by (with_reducible repeat (first | apply Kd.R_alloc | apply Kd.R_drewN | apply Kd.R_drew)); exact HO105.out⟩, ⟨by repeat (first | (with_reducible first | exact HB.out | apply below_alloc | apply pw_below_drewN | apply below_drew1 | refine below_set ?_ GE102.out) | exact HB.out)⟩⟩
             · rw [if_neg c11] at H
               exact absurd H (by simp)
       · rw [if_neg c4] at H
         exact absurd H (by simp)
     · rw [if_neg c3] at H
       exact absurd H (by simp)
   · rw [if_neg c2] at H
     have c2b0 : decide (x9_1 < (l0.length : Int)) = false := decide_eq_false c2
     clear c2
     replace H := Option.bind_eq_some_iff.mp H
     obtain ⟨t106, A150, H⟩ := H
     replace H : (if (l0.length : Int) > 0 then (if t106 ≤ 4096 then (some t106) else (some 0)) else (some 0)) = some r := H
     have A15 := Aside0.mk A150
     clear A150
     by_cases c16 : (l0.length : Int) > 0
     · rw [if_pos c16] at H
       have c16b0 : decide (0 < (l0.length : Int)) = true := decide_eq_true c16
       have c16b1 : decide (0 < l0.length) = true := decide_eq_true (by omega)
       clear c16
       by_cases c17 : t106 ≤ 4096
       · rw [if_pos c17] at H
         have c17b0 : decide (t106 ≤ 4096) = true := decide_eq_true c17
         clear c17
         obtain rfl := Option.some.inj H
         obtain ⟨Ao18, co18, eo18⟩ := Kd.R_slice HO_3.out
         subst eo18
         go_wp2_with (first | ((with_reducible refine gate_callee (f := 20) rfl ?_); refine goesL_ (some 28) rfl rfl Try.func20 (by kernel_rfl) rfl #[.slice Ao18 x3_1.length co18] rfl (by (try simp only [List.map_toArray, List.map_cons, List.map_nil]); first | done | rfl | (simp only [List.length_drop, List.length_take]; rfl)) ?_; (with_reducible refine (hyper_All.calls k1 _ _ x3_1 t106 _ ?side1 ?side2 A15.out).mono ?_); (case side1 => repeat (first | exact (Kd.R_reads' HO_3.out).2.2 | (with_reducible refine Kd.C_alloc ?_ _) | (with_reducible refine Kd.C_drewN ?_ _) | (with_reducible refine Kd.C_drew ?_))); (case side2 => exact (Kd.R_reads' HO_3.out).2.1); rintro e w' ⟨rfl, ⟨nd, rfl⟩⟩; refine ⟨_, rfl, ?_⟩))
         go_ret
         exact ⟨by first | rfl | (simp [errW_none, errW_some] <;> rfl) | (simp [*, errW_none, errW_some] <;> rfl), by repeat (first | (with_reducible first | exact HB.out | apply below_alloc | apply pw_below_drewN | apply below_drew1) | exact HB.out)⟩
       · rw [if_neg c17] at H
         have c17b0 : decide (t106 ≤ 4096) = false := decide_eq_false c17
         clear c17
         obtain rfl := Option.some.inj H
         obtain ⟨Ao19, co19, eo19⟩ := Kd.R_slice HO_3.out
         subst eo19
         go_wp2_with (first | ((with_reducible refine gate_callee (f := 20) rfl ?_); refine goesL_ (some 28) rfl rfl Try.func20 (by kernel_rfl) rfl #[.slice Ao19 x3_1.length co19] rfl (by (try simp only [List.map_toArray, List.map_cons, List.map_nil]); first | done | rfl | (simp only [List.length_drop, List.length_take]; rfl)) ?_; (with_reducible refine (hyper_All.calls k1 _ _ x3_1 t106 _ ?side1 ?side2 A15.out).mono ?_); (case side1 => repeat (first | exact (Kd.R_reads' HO_3.out).2.2 | (with_reducible refine Kd.C_alloc ?_ _) | (with_reducible refine Kd.C_drewN ?_ _) | (with_reducible refine Kd.C_drew ?_))); (case side2 => exact (Kd.R_reads' HO_3.out).2.1); rintro e w' ⟨rfl, ⟨nd, rfl⟩⟩; refine ⟨_, rfl, ?_⟩))
         go_ret
         exact ⟨by first | rfl | (simp [errW_none, errW_some] <;> rfl) | (simp [*, errW_none, errW_some] <;> rfl), by repeat (first | (with_reducible first | exact HB.out | apply below_alloc | apply pw_below_drewN | apply below_drew1) | exact HB.out)⟩
     · rw [if_neg c16] at H
       have c16b0 : decide (0 < (l0.length : Int)) = false := decide_eq_false c16
       have c16b1 : decide (0 < l0.length) = false := decide_eq_false (by omega)
       clear c16
       obtain rfl := Option.some.inj H
       obtain ⟨Ao20, co20, eo20⟩ := Kd.R_slice HO_3.out
       subst eo20
       go_wp2_with (first | ((with_reducible refine gate_callee (f := 20) rfl ?_); refine goesL_ (some 28) rfl rfl Try.func20 (by kernel_rfl) rfl #[.slice Ao20 x3_1.length co20] rfl (by (try simp only [List.map_toArray, List.map_cons, List.map_nil]); first | done | rfl | (simp only [List.length_drop, List.length_take]; rfl)) ?_; (with_reducible refine (hyper_All.calls k1 _ _ x3_1 t106 _ ?side1 ?side2 A15.out).mono ?_); (case side1 => repeat (first | exact (Kd.R_reads' HO_3.out).2.2 | (with_reducible refine Kd.C_alloc ?_ _) | (with_reducible refine Kd.C_drewN ?_ _) | (with_reducible refine Kd.C_drew ?_))); (case side2 => exact (Kd.R_reads' HO_3.out).2.1); rintro e w' ⟨rfl, ⟨nd, rfl⟩⟩; refine ⟨_, rfl, ?_⟩))
       go_ret
       exact ⟨by first | rfl | (simp [errW_none, errW_some] <;> rfl) | (simp [*, errW_none, errW_some] <;> rfl), by repeat (first | (with_reducible first | exact HB.out | apply below_alloc | apply pw_below_drewN | apply below_drew1) | exact HB.out)⟩
end Go.Proofs.Ytindegbbcdloiaa.P
end
section
namespace Go.Proofs.Ytindegbbcdloiaa.P
open Go.RowKit Go.Proofs.YtindegbbcdloiaaW.PrintWords Go.Proofs.YtindegbbcdloiaaW.PrintLast Go.Proofs.YtindegbbcdloiaaW.PrintMore
set_option linter.unusedVariables false
set_option linter.unusedSimpArgs false
noncomputable def cyclic_Item_21.l0 : Nat → List (S34) → (S34 → Option Bool) → Int → Int → Option (Int)
 | 0, _, _, _, _ => none
 | k + 1, x0, x1, x7, x8 => if x8 < x7 then (if 0 ≤ x8 then (if x8 < (x0.length : Int) then ((x1 (⟨(rd_T34 x0 x8).f0, (rd_T34 x0 x8).f1⟩ : S34)).bind fun t102 => (if t102 = true then (some x8) else (cyclic_Item_21.l0 k x0 x1 x7 (wrap64 (x8 + 1))))) else (none)) else (none)) else (some (-1))
noncomputable def cyclic_Item_21.f (k : Nat) (l0 : List (S34)) (a1 : (S34 → Option Bool)) : Option (Int) := cyclic_Item_21.l0 k l0 a1 (l0.length : Int) 0
set_option maxHeartbeats 8000000 in
set_option maxRecDepth 100000 in
theorem cyclic_Item_21.calls (k : Nat) (A0 : Option Addr) (c0 : Nat) (l0 : List (S34)) (a1 : (S34 → Option Bool)) (fga1 : Nat) (fba1 : Array Value) (r : Int) (w : World) (hr0 : Kd.C k34 w A0 l0.length l0) (hc0 : l0.length ≤ c0) (he1 : ∀ as_ W_, (callFunc fga1 as_).run Try.prog W_ = .ok (.enter fga1 as_) W_) (hf1 : ∀ W_, Kept w W_ (fun _ => False) → ∀ p0_ r_, a1 p0_ = some r_ → Calls Try.prog fga1 (#[.agg #[.int .u64 ((p0_).f0), .int .u64 ((p0_).f1)]] ++ fba1) W_ fun e w' => e = .returned (.bool r_) ∧ Below W_.heap.size W_ w') (h : cyclic_Item_21.f k l0 a1 = some r) :
 Calls Try.prog 21 #[.slice A0 l0.length c0, .func (.func fga1) #[] fba1] w fun e w' => e = .returned (.int .i64 r) ∧ Below w.heap.size w w' := by
 have hu34 := Try.underlying34
 have HR0 := Aside0.mk hr0
 have HC0 := Aside0.mk hc0
 clear hr0 hc0
 have HEa1 := Aside0.mk he1
 have HFa1 := Aside0.mk hf1
 clear he1 hf1
 have HB := Aside0.mk (Below.refl w.heap.size w)
 have H : (cyclic_Item_21.l0 k l0 a1 (l0.length : Int) 0) = some r := h
 clear h
 have H' := Aside0.mk H
 clear H
 go_enter Try.func21, Try.ntmps21
 go_wp2
 go_loopg [8] k (fun kq v8 w' => ∃ (x8_1 : Int), v8 = .int .i64 x8_1 ∧ Aside0 (cyclic_Item_21.l0 kq l0 a1 (l0.length : Int) x8_1 = some r) ∧ Aside0 (kq ≤ k) ∧ Aside0 (Below w.heap.size w w'))
 case atStart => exact ⟨(0), (by first | rfl | (simp; done) | (simp [*]; done)), H', ⟨Nat.le_refl _⟩, ⟨by repeat (first | (with_reducible first | exact HB.out | apply below_alloc | apply pw_below_drewN | apply below_drew1) | exact HB.out)⟩⟩
 case round =>
  clear H'
  try clear c2
  try clear p2
  obtain ⟨x8_1, rfl, HA, HK1, HB⟩ := hrel
  cases gk with
  | zero => exact absurd HA.out (by simp [cyclic_Item_21.l0])
  | succ k1 =>
   have H := HA.out
   clear HA
   simp only [cyclic_Item_21.l0] at H
   by_cases c3 : x8_1 < (l0.length : Int)
   · rw [if_pos c3] at H
     have c3b0 : decide (x8_1 < (l0.length : Int)) = true := decide_eq_true c3
     clear c3
     by_cases c4 : 0 ≤ x8_1
     · rw [if_pos c4] at H
       have c4b0 : decide (0 ≤ x8_1) = true := decide_eq_true c4
       clear c4
       by_cases c5 : x8_1 < (l0.length : Int)
       · rw [if_pos c5] at H
         have c5b0 : decide (x8_1 < (l0.length : Int)) = true := decide_eq_true c5
         clear c5
         replace H := Option.bind_eq_some_iff.mp H
         obtain ⟨t102, A60, H⟩ := H
         replace H : (if t102 = true then (some x8_1) else (cyclic_Item_21.l0 k1 l0 a1 (l0.length : Int) (wrap64 (x8_1 + 1)))) = some r := H
         have A6 := Aside0.mk A60
         clear A60
         by_cases c7 : t102 = true
         · subst c7
           have H1 : (some x8_1) = some r := by rw [if_pos rfl] at H; exact H
           clear H
           have H := H1
           clear H1
           obtain rfl := Option.some.inj H
           have p101 : 0 ≤ (x8_1 : Int) := of_decide_eq_true (by first | (with_reducible assumption) | assumption)
           have q101 : x8_1 < (l0.length : Int) := of_decide_eq_true (by first | (with_reducible assumption) | assumption)
           obtain ⟨ad101, e101, hx101_0, hx101_1⟩ := at_T34 HR0.out x8_1 p101 q101
           cases e101
           replace hx101_0 := (HB.out.cell (World.block_lt_of_cell? w _ hx101_0)).trans hx101_0
           replace hx101_1 := (HB.out.cell (World.block_lt_of_cell? w _ hx101_1)).trans hx101_1
           replace p101 := eq_true p101
           replace q101 := eq_true q101
           go_wp2_with (first | ((with_reducible refine Fn.gate_fn (s := 11) rfl ?_); refine Fn.goesFL_ (some 16) rfl rfl HEa1.out #[.agg #[.int .u64 ((rd_T34 l0 x8_1).f0), .int .u64 ((rd_T34 l0 x8_1).f1)]] rfl (by (try simp only [List.map_toArray, List.map_cons, List.map_nil]); first | done | rfl | (simp only [List.length_drop, List.length_take]; rfl)) (by first | rfl | (simp only [go_sem]; rfl)) ?_; (refine (HFa1.out _ (Kept.of_below (by repeat (first | (with_reducible first | exact HB.out | apply below_alloc | apply pw_below_drewN | apply below_drew1) | exact HB.out)) _) (⟨(rd_T34 l0 x8_1).f0, (rd_T34 l0 x8_1).f1⟩ : S34) true A6.out).mono ?_); rintro e w8 ⟨rfl, hb⟩; refine ⟨_, rfl, ?_⟩; have n0_ := Aside0.mk (below_step (by repeat (first | (with_reducible first | exact HB.out | apply below_alloc | apply pw_below_drewN | apply below_drew1) | exact HB.out)) hb); clear HB; have HB := n0_; clear n0_; (try clear hb)))
           go_ret
           exact ⟨by first | rfl | (simp [errW_none, errW_some] <;> rfl) | (simp [*, errW_none, errW_some] <;> rfl), by repeat (first | (with_reducible first | exact HB.out | apply below_alloc | apply pw_below_drewN | apply below_drew1) | exact HB.out)⟩
         · replace c7 := Bool.eq_false_iff.mpr c7
           subst c7
           have H1 : (cyclic_Item_21.l0 k1 l0 a1 (l0.length : Int) (wrap64 (x8_1 + 1))) = some r := by rw [if_neg (show ¬ (false = true) by decide)] at H; exact H
           clear H
           have H := H1
           clear H1
           have H' := Aside0.mk H
           clear H
           have p101 : 0 ≤ (x8_1 : Int) := of_decide_eq_true (by first | (with_reducible assumption) | assumption)
           have q101 : x8_1 < (l0.length : Int) := of_decide_eq_true (by first | (with_reducible assumption) | assumption)
           obtain ⟨ad101, e101, hx101_0, hx101_1⟩ := at_T34 HR0.out x8_1 p101 q101
           cases e101
           replace hx101_0 := (HB.out.cell (World.block_lt_of_cell? w _ hx101_0)).trans hx101_0
           replace hx101_1 := (HB.out.cell (World.block_lt_of_cell? w _ hx101_1)).trans hx101_1
           replace p101 := eq_true p101
           replace q101 := eq_true q101
           go_wp2_with (first | ((with_reducible refine Fn.gate_fn (s := 11) rfl ?_); refine Fn.goesFL_ (some 16) rfl rfl HEa1.out #[.agg #[.int .u64 ((rd_T34 l0 x8_1).f0), .int .u64 ((rd_T34 l0 x8_1).f1)]] rfl (by (try simp only [List.map_toArray, List.map_cons, List.map_nil]); first | done | rfl | (simp only [List.length_drop, List.length_take]; rfl)) (by first | rfl | (simp only [go_sem]; rfl)) ?_; (refine (HFa1.out _ (Kept.of_below (by repeat (first | (with_reducible first | exact HB.out | apply below_alloc | apply pw_below_drewN | apply below_drew1) | exact HB.out)) _) (⟨(rd_T34 l0 x8_1).f0, (rd_T34 l0 x8_1).f1⟩ : S34) false A6.out).mono ?_); rintro e w9 ⟨rfl, hb⟩; refine ⟨_, rfl, ?_⟩; have n0_ := Aside0.mk (below_step (by repeat (first | (with_reducible first | exact HB.out | apply below_alloc | apply pw_below_drewN | apply below_drew1) | exact HB.out)) hb); clear HB; have HB := n0_; clear n0_; (try clear hb)))
           go_roundg k1
           case measure => have := HK1.out; omega
           case rel => exact ⟨(wrap64 (x8_1 + 1)), (by first | rfl | (simp; done) | (simp [*]; done)), H', ⟨by have := HK1.out; omega⟩, ⟨by repeat (first | (with_reducible first | exact HB.out | apply below_alloc | apply pw_below_drewN | apply below_drew1) | exact HB.out)⟩⟩
       · rw [if_neg c5] at H
         exact absurd H (by simp)
     · rw [if_neg c4] at H
       exact absurd H (by simp)
   · rw [if_neg c3] at H
     have c3b0 : decide (x8_1 < (l0.length : Int)) = false := decide_eq_false c3
     clear c3
     obtain rfl := Option.some.inj H
     go_wp2
     go_ret
     exact ⟨by first | rfl | (simp [errW_none, errW_some] <;> rfl) | (simp [*, errW_none, errW_some] <;> rfl), by repeat (first | (with_reducible first | exact HB.out | apply below_alloc | apply pw_below_drewN | apply below_drew1) | exact HB.out)⟩
end Go.Proofs.Ytindegbbcdloiaa.P
end
section
namespace Go.Proofs.Ytindegbbcdloiaa.P
open Go.RowKit Go.Proofs.YtindegbbcdloiaaW.PrintWords Go.Proofs.YtindegbbcdloiaaW.PrintLast Go.Proofs.YtindegbbcdloiaaW.PrintMore
set_option linter.unusedVariables false
set_option linter.unusedSimpArgs false
noncomputable def cyclic_Item_14.f (k : Nat) (l0 : List (S34)) (a1 : (S34 → Option Bool)) : Option (Bool) := (cyclic_Item_21.f k l0 a1).bind fun t101 => (some (decide (t101 ≥ 0)))
set_option maxHeartbeats 8000000 in
set_option maxRecDepth 100000 in
theorem cyclic_Item_14.calls (k : Nat) (A0 : Option Addr) (c0 : Nat) (l0 : List (S34)) (a1 : (S34 → Option Bool)) (fga1 : Nat) (fba1 : Array Value) (r : Bool) (w : World) (hr0 : Kd.C k34 w A0 l0.length l0) (hc0 : l0.length ≤ c0) (he1 : ∀ as_ W_, (callFunc fga1 as_).run Try.prog W_ = .ok (.enter fga1 as_) W_) (hf1 : ∀ W_, Kept w W_ (fun _ => False) → ∀ p0_ r_, a1 p0_ = some r_ → Calls Try.prog fga1 (#[.agg #[.int .u64 ((p0_).f0), .int .u64 ((p0_).f1)]] ++ fba1) W_ fun e w' => e = .returned (.bool r_) ∧ Below W_.heap.size W_ w') (h : cyclic_Item_14.f k l0 a1 = some r) :
 Calls Try.prog 14 #[.slice A0 l0.length c0, .func (.func fga1) #[] fba1] w fun e w' => e = .returned (.bool r) ∧ Below w.heap.size w w' := by
 have HR0 := Aside0.mk hr0
 have HC0 := Aside0.mk hc0
 clear hr0 hc0
 have HEa1 := Aside0.mk he1
 have HFa1 := Aside0.mk hf1
 clear he1 hf1
 have HB := Aside0.mk (Below.refl w.heap.size w)
 have H : ((cyclic_Item_21.f k l0 a1).bind fun t101 => (some (decide (t101 ≥ 0)))) = some r := h
 clear h
 replace H := Option.bind_eq_some_iff.mp H
 obtain ⟨t101, A30, H⟩ := H
 replace H : (some (decide (t101 ≥ 0))) = some r := H
 have A3 := Aside0.mk A30
 clear A30
 obtain rfl := Option.some.inj H
 go_enter Try.func14, Try.ntmps14
 go_wp2_with (first | ((with_reducible refine gate_callee (f := 21) rfl ?_); refine goesL_ (some 7) rfl rfl Try.func21 (by kernel_rfl) rfl #[.slice A0 l0.length c0, .func (.func fga1) #[] fba1] rfl (by (try simp only [List.map_toArray, List.map_cons, List.map_nil]); first | done | rfl | (simp only [List.length_drop, List.length_take]; rfl)) ?_; (with_reducible refine (cyclic_Item_21.calls k _ _ l0 a1 fga1 fba1 t101 _ ?side1 ?side2 ?side3 ?side4 A3.out).mono ?_); (case side1 => repeat (first | exact HR0.out | (with_reducible refine Kd.C_alloc ?_ _) | (with_reducible refine Kd.C_drewN ?_ _) | (with_reducible refine Kd.C_drew ?_))); (case side2 => exact HC0.out); (case side3 => exact HEa1.out); (case side4 => exact fun W_ hk_ => HFa1.out W_ (Kept.then_ (S := (fun _ => False)) (Kept.of_below (by repeat (first | (with_reducible first | exact HB.out | apply below_alloc | apply pw_below_drewN | apply below_drew1) | exact HB.out)) _) hk_ (fun k_ hs_ => hs_.elim))); rintro e w4 ⟨rfl, hb⟩; refine ⟨_, rfl, ?_⟩; have n0_ := Aside0.mk (below_step (by repeat (first | (with_reducible first | exact HB.out | apply below_alloc | apply pw_below_drewN | apply below_drew1) | exact HB.out)) hb); clear HB; have HB := n0_; clear n0_; (try clear hb); (try clear hb2); (try clear hk); (try clear hi)))
 go_ret
 exact ⟨by first | rfl | (simp [errW_none, errW_some] <;> rfl) | (simp [*, errW_none, errW_some] <;> rfl), by repeat (first | (with_reducible first | exact HB.out | apply below_alloc | apply pw_below_drewN | apply below_drew1) | exact HB.out)⟩
end Go.Proofs.Ytindegbbcdloiaa.P
end
section
namespace Go.Proofs.Ytindegbbcdloiaa.P
open Go.RowKit Go.Proofs.YtindegbbcdloiaaW.PrintWords Go.Proofs.YtindegbbcdloiaaW.PrintLast Go.Proofs.YtindegbbcdloiaaW.PrintMore
set_option linter.unusedVariables false
set_option linter.unusedSimpArgs false
/-- What the function literal of cyclic.Suits says of an item, c being the captured frame size. -/
noncomputable def cyclic_Suits_1.f (k : Nat) (c : Int) (p : S34) : Option Bool := if c < p.f0 then some true else (hyper_Gcd.f k c p.f1).bind fun t => some (decide (IntKind.u64.wrap (IntKind.u64.wrap (2 * c) - t) > p.f1))
theorem cyclic_Suits_1.mono : ∀ c p k, LeO (cyclic_Suits_1.f k c p) (cyclic_Suits_1.f (k + 1) c p) := fun c p k => by
 unfold cyclic_Suits_1.f
 exact LeO.ite (LeO.refl _) (LeO.bind (hyper_Gcd.mono _ _ _) fun _ => LeO.refl _)
set_option maxHeartbeats 1000000 in
set_option maxRecDepth 100000 in
theorem cyclic_Suits_1.calls (k : Nat) (c : Int) (p : S34) (r : Bool) (B : Nat) (w : World) (hc : w.cell? ⟨B, 0, none⟩ = some (.int .u64 c)) (h : cyclic_Suits_1.f k c p = some r) :
 Calls Try.prog 15 #[.agg #[.int .u64 p.f0, .int .u64 p.f1], .pointer (some ⟨B, 0, none⟩)] w fun e w' => e = .returned (.bool r) ∧ Below w.heap.size w w' := by
 have hB : B < w.heap.size := World.block_lt_of_cell? w ⟨B, 0, none⟩ hc
 have hne : B ≠ w.heap.size := by omega
 unfold cyclic_Suits_1.f at h
 obtain ⟨p0, p1⟩ := p
 by_cases c1 : c < p0
 · rw [if_pos c1] at h
   obtain rfl := Option.some.inj h
   have c1b := decide_eq_true c1
   go_enter Try.func15, Try.ntmps15
   go_wp2
   repeat (go_quiet (fail); try go_wp2)
   go_ret
   exact ⟨rfl, by repeat (first | exact Below.refl _ _ | apply below_alloc | apply pw_below_drewN | apply below_drew)⟩
 · rw [if_neg c1] at h
   have c1b := decide_eq_false c1
   obtain ⟨t, A1, h⟩ := Option.bind_eq_some_iff.mp h
   obtain rfl := Option.some.inj h
   have A2 := Aside0.mk A1
   clear A1 c1
   go_enter Try.func15, Try.ntmps15
   go_wp2_with (fail)
   repeat (go_quiet ((go_at_call 16; refine (hyper_Gcd.calls k c p1 t _ A2.out).mono ?_; rintro e w' ⟨rfl, ⟨nd, rfl⟩⟩; (try first | exact ⟨rfl, _, World.drewN_drewN _ _ _⟩ | exact ⟨rfl, _, Eq.trans (World.drewN_drewN _ _ _) (congrArg (World.drewN _) (Nat.add_assoc _ _ _))⟩))); try go_wp2_with (fail))
   go_ret
   exact ⟨rfl, by repeat (first | exact Below.refl _ _ | apply below_alloc | apply pw_below_drewN | apply below_drew)⟩
noncomputable def cyclic_Suits.fn (c : Int) (p : S34) : Option Bool := Fn.evs fun k_ => cyclic_Suits_1.f k_ c p
noncomputable def cyclic_Suits.f (k : Nat) (l0 : List S34) (a1 : Int) : Option Bool := (cyclic_whole.f k l0).bind fun t1 => if t1 = 0 then some false else if a1 = 0 then some false else if Int.tmod t1 a1 = 0 then (cyclic_Item_14.f k l0 (cyclic_Suits.fn a1)).bind fun t2 => some (!t2) else some false
set_option maxHeartbeats 1000000 in
set_option maxRecDepth 100000 in
theorem cyclic_Suits.calls (k : Nat) (A0 : Option Addr) (c0 : Nat) (l0 : List S34) (a1 : Int) (r : Bool) (w : World) (hr0 : Kd.C k34 w A0 l0.length l0) (hc0 : l0.length ≤ c0) (h : cyclic_Suits.f k l0 a1 = some r) :
 Calls Try.prog 7 #[.slice A0 l0.length c0, .int .u64 a1] w fun e w' => e = .returned (.bool r) ∧ Below w.heap.size w w' := by
 unfold cyclic_Suits.f at h
 obtain ⟨t1, A1, h⟩ := Option.bind_eq_some_iff.mp h
 have HR := Aside0.mk (Kd.C_below hr0 (below_alloc (Below.refl _ _) (.cells #[.int .u64 a1] 23 (0, 0))))
 have HC := Aside0.mk hc0
 have HA := Aside0.mk A1
 have HH := Aside0.mk h
 clear hr0 hc0 A1 h
 go_enter Try.func7, Try.ntmps7
 go_wp2_with (fail)
 refine (cyclic_whole.calls k A0 c0 l0 t1 _ HR.out HC.out HA.out).mono ?_
 rintro e w2 ⟨rfl, hb⟩
 have hcell : w2.cell? ⟨w.heap.size, 0, none⟩ = some (.int .u64 a1) := (hb.cell (p := ⟨w.heap.size, 0, none⟩) (by simp)).trans ((blk_cell (blk_new w _) 0).trans rfl)
 have HB := Aside0.mk (below_step (below_alloc (Below.refl w.heap.size w) (.cells #[.int .u64 a1] 23 (0, 0))) hb)
 have HR2 := Aside0.mk (Kd.C_below HR.out hb)
 clear hb HR HA
 have h := HH.out
 clear HH
 by_cases c1 : t1 = 0
 · rw [if_pos c1] at h
   obtain rfl := Option.some.inj h
   have c1b := beq_iff_eq.mpr c1
   clear c1
   go_wp2
   go_ret
   exact ⟨rfl, by repeat (first | exact HB.out | apply below_alloc | apply pw_below_drewN | apply below_drew)⟩
 rw [if_neg c1] at h
 have c1b := beq_eq_false_iff_ne.mpr c1
 by_cases c2 : a1 = 0
 · rw [if_pos c2] at h
   obtain rfl := Option.some.inj h
   have c2b := beq_iff_eq.mpr c2
   clear c1 c2
   go_wp2
   go_ret
   exact ⟨rfl, by repeat (first | exact HB.out | apply below_alloc | apply pw_below_drewN | apply below_drew)⟩
 rw [if_neg c2] at h
 have c2b := beq_eq_false_iff_ne.mpr c2
 by_cases c3 : Int.tmod t1 a1 = 0
 · rw [if_pos c3] at h
   have c3b := bne_eq_false_iff_eq.mpr c3
   obtain ⟨t2, A2, h⟩ := Option.bind_eq_some_iff.mp h
   obtain rfl := Option.some.inj h
   have HA2 := Aside0.mk A2
   clear A2 c3 c1
   go_wp2_with (fail)
   refine (cyclic_Item_14.calls k A0 c0 l0 (cyclic_Suits.fn a1) 15 #[.pointer (some ⟨w.heap.size, 0, none⟩)] t2 _ HR2.out HC.out (fun as_ W_ => enters_ Try.func15 (by kernel_rfl) rfl as_ W_) (fun W_ hk_ p0_ r_ h_ => ?_) HA2.out).mono ?_
   · obtain ⟨k_, h_⟩ := Fn.of_evs h_
     exact calls_of_args (by simp) (cyclic_Suits_1.calls k_ a1 p0_ r_ w.heap.size W_ (cell_kept hcell hk_ (fun h => h)) h_)
   rintro e w3 ⟨rfl, hb⟩
   have HB3 := Aside0.mk (below_step HB.out hb)
   clear hb HB hcell
   go_wp2
   go_ret
   exact ⟨rfl, by repeat (first | exact HB3.out | apply below_alloc | apply pw_below_drewN | apply below_drew)⟩
 · rw [if_neg c3] at h
   obtain rfl := Option.some.inj h
   have c3b := bne_iff_ne.mpr c3
   clear c3 c1
   go_wp2
   go_ret
   exact ⟨rfl, by repeat (first | exact HB.out | apply below_alloc | apply pw_below_drewN | apply below_drew)⟩
end Go.Proofs.Ytindegbbcdloiaa.P
end
section
namespace Go.Proofs.Ytindegbbcdloiaa.P
open Go.RowKit Go.Proofs.YtindegbbcdloiaaW.PrintWords Go.Proofs.YtindegbbcdloiaaW.PrintLast Go.Proofs.YtindegbbcdloiaaW.PrintMore
set_option linter.unusedVariables false
set_option linter.unusedSimpArgs false
noncomputable def cyclic_Sizes.l0 : Nat → List (S34) → List Int → Int → Option (List Int)
 | 0, _, _, _ => none
 | k + 1, x0, x3, x4 => (cyclic_whole.f k x0).bind fun t101 => (if x4 ≤ t101 then ((cyclic_Suits.f k x0 x4).bind fun t102 => (if t102 = true then (if x3.length < 17592186044416 then (cyclic_Sizes.l0 k x0 (x3 ++ [x4]) (IntKind.u64.wrap (x4 + 1))) else (none)) else (cyclic_Sizes.l0 k x0 x3 (IntKind.u64.wrap (x4 + 1))))) else (some x3))
noncomputable def cyclic_Sizes.f (k : Nat) (l0 : List (S34)) : Option (List Int) := cyclic_Sizes.l0 k l0 ([] : List Int) 1
set_option maxHeartbeats 8000000 in
set_option maxRecDepth 100000 in
theorem cyclic_Sizes.calls (k : Nat) (A0 : Option Addr) (c0 : Nat) (l0 : List (S34)) (r : List Int) (w : World) (hr0 : Kd.C k34 w A0 l0.length l0) (hc0 : l0.length ≤ c0) (h : cyclic_Sizes.f k l0 = some r) :
 Calls Try.prog 9 #[.slice A0 l0.length c0] w fun e w' => ∃ v0_ : Value, e = .returned (v0_) ∧ Kd.R (Kd.int .u64) 23 w' w.heap.size (fun _ => True) v0_ r ∧ Below w.heap.size w w' := by
 have HR0 := Aside0.mk hr0
 have HC0 := Aside0.mk hc0
 clear hr0 hc0
 have HB := Aside0.mk (Below.refl w.heap.size w)
 have H : (cyclic_Sizes.l0 k l0 ([] : List Int) 1) = some r := h
 clear h
 have H' := Aside0.mk H
 clear H
 go_enter Try.func9, Try.ntmps9
 go_wp2
 go_loopg [3, 4] k (fun kq v3 v4 w' => ∃ (x3_1 : List Int) (x4_1 : Int), v4 = .int .u64 x4_1 ∧ Aside0 (cyclic_Sizes.l0 kq l0 x3_1 x4_1 = some r) ∧ Aside0 (kq ≤ k) ∧ Aside0 (Kd.R (Kd.int .u64) 23 w' w.heap.size (fun _ => True) v3 x3_1) ∧ Aside0 (Below w.heap.size w w'))
 case atStart => exact ⟨(([] : List Int)), (1), (by first | rfl | (simp; done) | (simp [*]; done)), H', ⟨Nat.le_refl _⟩, ⟨by first | exact Kd.R_nil _ _ _ _ _ | exact Kd.N_nil _ _ _ _ _ | exact Kd.V_nil _ _ _ _ _ | exact Kd.Q_nil _ _ _ _ _ | exact Kd.S_nil _ _ _ _ _⟩, ⟨by repeat (first | (with_reducible first | exact HB.out | apply below_alloc | apply pw_below_drewN | apply below_drew1) | exact HB.out)⟩⟩
 case round =>
  clear H'
  obtain ⟨x3_1, x4_1, rfl, HA, HK1, HO_3, HB⟩ := hrel
  cases gk with
  | zero => exact absurd HA.out (by simp [cyclic_Sizes.l0])
  | succ k1 =>
   have H := HA.out
   clear HA
   simp only [cyclic_Sizes.l0] at H
   replace H := Option.bind_eq_some_iff.mp H
   obtain ⟨t101, A20, H⟩ := H
   replace H : (if x4_1 ≤ t101 then ((cyclic_Suits.f k1 l0 x4_1).bind fun t102 => (if t102 = true then (if x3_1.length < 17592186044416 then (cyclic_Sizes.l0 k1 l0 (x3_1 ++ [x4_1]) (IntKind.u64.wrap (x4_1 + 1))) else (none)) else (cyclic_Sizes.l0 k1 l0 x3_1 (IntKind.u64.wrap (x4_1 + 1))))) else (some x3_1)) = some r := H
   have A2 := Aside0.mk A20
   clear A20
   by_cases c3 : x4_1 ≤ t101
   · rw [if_pos c3] at H
     have c3b0 : decide (x4_1 ≤ t101) = true := decide_eq_true c3
     clear c3
     replace H := Option.bind_eq_some_iff.mp H
     obtain ⟨t102, A40, H⟩ := H
     replace H : (if t102 = true then (if x3_1.length < 17592186044416 then (cyclic_Sizes.l0 k1 l0 (x3_1 ++ [x4_1]) (IntKind.u64.wrap (x4_1 + 1))) else (none)) else (cyclic_Sizes.l0 k1 l0 x3_1 (IntKind.u64.wrap (x4_1 + 1)))) = some r := H
     have A4 := Aside0.mk A40
     clear A40
     by_cases c5 : t102 = true
     · subst c5
       have H1 : (if x3_1.length < 17592186044416 then (cyclic_Sizes.l0 k1 l0 (x3_1 ++ [x4_1]) (IntKind.u64.wrap (x4_1 + 1))) else (none)) = some r := by rw [if_pos rfl] at H; exact H
       clear H
       have H := H1
       clear H1
       by_cases c6 : x3_1.length < 17592186044416
       · rw [if_pos c6] at H
         have LMc6 := Aside0.mk c6
         clear c6
         obtain ⟨y103, hy103⟩ : ∃ y_ : List Int, y_ = (x3_1 ++ [x4_1]) := ⟨_, rfl⟩
         replace H : (cyclic_Sizes.l0 k1 l0 y103 (IntKind.u64.wrap (x4_1 + 1))) = some r := by first | (rw [hy103]; with_reducible exact H) | (have H2_ := (Option.bind_some _ _).symm.trans H; rw [hy103]; with_reducible exact H2_) | (have H2_ := (Option.bind_some _ _).symm.trans H; with_reducible exact H2_) | with_reducible exact H | (rw [hy103]; exact H) | exact H
         have Ny103 := Aside0.mk hy103
         clear hy103
         have H' := Aside0.mk H
         clear H
         go_wp2_with (first | ((with_reducible refine gate_callee (f := 13) rfl ?_); refine goesL_ (some 7) rfl rfl Try.func13 (by kernel_rfl) rfl #[.slice A0 l0.length c0] rfl (by (try simp only [List.map_toArray, List.map_cons, List.map_nil]); first | done | rfl | (simp only [List.length_drop, List.length_take]; rfl)) ?_; (with_reducible refine (cyclic_whole.calls k1 _ _ l0 t101 _ ?side1 ?side2 A2.out).mono ?_); (case side1 => repeat (first | exact (Kd.C_below HR0.out HB.out) | (with_reducible refine Kd.C_alloc ?_ _) | (with_reducible refine Kd.C_drewN ?_ _) | (with_reducible refine Kd.C_drew ?_))); (case side2 => exact HC0.out); rintro e w7 ⟨rfl, hb⟩; refine ⟨_, rfl, ?_⟩; have n0_ := Aside0.mk (Kd.R_below (by (with_reducible repeat (first | apply Kd.R_alloc | apply Kd.R_drewN | apply Kd.R_drew)); exact HO_3.out) hb); have n1_ := Aside0.mk (below_step (by repeat (first | (with_reducible first | exact HB.out | apply below_alloc | apply pw_below_drewN | apply below_drew1) | exact HB.out)) hb); clear HO_3; clear HB; have HO_3 := n0_; have HB := n1_; clear n0_ n1_; (try clear hb); (try clear hb2); (try clear hk); (try clear hi)) | ((with_reducible refine gate_callee (f := 7) rfl ?_); refine goesL_ (some 13) rfl rfl Try.func7 (by kernel_rfl) rfl #[.slice A0 l0.length c0, .int .u64 x4_1] rfl (by (try simp only [List.map_toArray, List.map_cons, List.map_nil]); first | done | rfl | (simp only [List.length_drop, List.length_take]; rfl)) ?_; (with_reducible refine (cyclic_Suits.calls k1 _ _ l0 x4_1 true _ ?side1 ?side2 A4.out).mono ?_); (case side1 => repeat (first | exact (Kd.C_below HR0.out HB.out) | (with_reducible refine Kd.C_alloc ?_ _) | (with_reducible refine Kd.C_drewN ?_ _) | (with_reducible refine Kd.C_drew ?_))); (case side2 => exact HC0.out); rintro e w8 ⟨rfl, hb⟩; refine ⟨_, rfl, ?_⟩; have n0_ := Aside0.mk (Kd.R_below (by (with_reducible repeat (first | apply Kd.R_alloc | apply Kd.R_drewN | apply Kd.R_drew)); exact HO_3.out) hb); have n1_ := Aside0.mk (below_step (by repeat (first | (with_reducible first | exact HB.out | apply below_alloc | apply pw_below_drewN | apply below_drew1) | exact HB.out)) hb); clear HO_3; clear HB; have HO_3 := n0_; have HB := n1_; clear n0_ n1_; (try clear hb); (try clear hb2); (try clear hk); (try clear hi)) | ((with_reducible refine gate_builtin (b := .append) (xs := #[.tmp 14, .tmp 16]) rfl ?_); at_builtin; refine Kd.R_append (Kd.int .u64) (w0 := w) w.heap.size rfl (.tmp 14) (.tmp 16) 26 23 (.int .u64 0) 8 rfl Try.underlying26 info23 rfl (by decide) (by omega) u3 x3_1 x4_1 [.int .u64 x4_1] (fun _ => True) (fun _ => False) rfl rfl ?aP (fun _ hk => hk.elim) ?aF ?aO ?aB ?aS ?aL ?_; (case aP => exact rfl); (case aB => exact (by repeat (first | (with_reducible first | exact HB.out | apply below_alloc | apply pw_below_drewN | apply below_drew1) | exact HB.out))); (case aF => exact (fun _ _ => trivial)); (case aO => exact (by (with_reducible repeat (first | apply Kd.R_alloc | apply Kd.R_drewN | apply Kd.R_drew)); exact HO_3.out)); (case aS => exact (below_size (by repeat (first | (with_reducible first | exact HB.out | apply below_alloc | apply pw_below_drewN | apply below_drew1) | exact HB.out)))); (case aL => have := LMc6.out; omega); intro v104 w9 ho hb hg hat; rw [← Ny103.out] at ho; have n0_ := Aside0.mk (hb); have n1_ := Aside0.mk (ho); clear HB; clear HO_3; have HB := n0_; have HO105 := n1_; clear n0_ n1_; clear ho hb hg hat))
         go_roundg k1
         case measure => have := HK1.out; omega
         case rel => exact ⟨(y103), (IntKind.u64.wrap (x4_1 + 1)), (by first | rfl | (simp; done) | (simp [*]; done)), H', ⟨by have := HK1.out; omega⟩, ⟨by (with_reducible repeat (first | apply Kd.R_alloc | apply Kd.R_drewN | apply Kd.R_drew)); exact HO105.out⟩, ⟨by repeat (first | (with_reducible first | exact HB.out | apply below_alloc | apply pw_below_drewN | apply below_drew1) | exact HB.out)⟩⟩
       · rw [if_neg c6] at H
         exact absurd H (by simp)
     · replace c5 := Bool.eq_false_iff.mpr c5
       subst c5
       have H1 : (cyclic_Sizes.l0 k1 l0 x3_1 (IntKind.u64.wrap (x4_1 + 1))) = some r := by rw [if_neg (show ¬ (false = true) by decide)] at H; exact H
       clear H
       have H := H1
       clear H1
       have H' := Aside0.mk H
       clear H
       go_wp2_with (first | ((with_reducible refine gate_callee (f := 13) rfl ?_); refine goesL_ (some 7) rfl rfl Try.func13 (by kernel_rfl) rfl #[.slice A0 l0.length c0] rfl (by (try simp only [List.map_toArray, List.map_cons, List.map_nil]); first | done | rfl | (simp only [List.length_drop, List.length_take]; rfl)) ?_; (with_reducible refine (cyclic_whole.calls k1 _ _ l0 t101 _ ?side1 ?side2 A2.out).mono ?_); (case side1 => repeat (first | exact (Kd.C_below HR0.out HB.out) | (with_reducible refine Kd.C_alloc ?_ _) | (with_reducible refine Kd.C_drewN ?_ _) | (with_reducible refine Kd.C_drew ?_))); (case side2 => exact HC0.out); rintro e w10 ⟨rfl, hb⟩; refine ⟨_, rfl, ?_⟩; have n0_ := Aside0.mk (Kd.R_below (by (with_reducible repeat (first | apply Kd.R_alloc | apply Kd.R_drewN | apply Kd.R_drew)); exact HO_3.out) hb); have n1_ := Aside0.mk (below_step (by repeat (first | (with_reducible first | exact HB.out | apply below_alloc | apply pw_below_drewN | apply below_drew1) | exact HB.out)) hb); clear HO_3; clear HB; have HO_3 := n0_; have HB := n1_; clear n0_ n1_; (try clear hb); (try clear hb2); (try clear hk); (try clear hi)) | ((with_reducible refine gate_callee (f := 7) rfl ?_); refine goesL_ (some 13) rfl rfl Try.func7 (by kernel_rfl) rfl #[.slice A0 l0.length c0, .int .u64 x4_1] rfl (by (try simp only [List.map_toArray, List.map_cons, List.map_nil]); first | done | rfl | (simp only [List.length_drop, List.length_take]; rfl)) ?_; (with_reducible refine (cyclic_Suits.calls k1 _ _ l0 x4_1 false _ ?side1 ?side2 A4.out).mono ?_); (case side1 => repeat (first | exact (Kd.C_below HR0.out HB.out) | (with_reducible refine Kd.C_alloc ?_ _) | (with_reducible refine Kd.C_drewN ?_ _) | (with_reducible refine Kd.C_drew ?_))); (case side2 => exact HC0.out); rintro e w11 ⟨rfl, hb⟩; refine ⟨_, rfl, ?_⟩; have n0_ := Aside0.mk (Kd.R_below (by (with_reducible repeat (first | apply Kd.R_alloc | apply Kd.R_drewN | apply Kd.R_drew)); exact HO_3.out) hb); have n1_ := Aside0.mk (below_step (by repeat (first | (with_reducible first | exact HB.out | apply below_alloc | apply pw_below_drewN | apply below_drew1) | exact HB.out)) hb); clear HO_3; clear HB; have HO_3 := n0_; have HB := n1_; clear n0_ n1_; (try clear hb); (try clear hb2); (try clear hk); (try clear hi)))
       go_roundg k1
       case measure => have := HK1.out; omega
       case rel => exact ⟨(x3_1), (IntKind.u64.wrap (x4_1 + 1)), (by first | rfl | (simp; done) | (simp [*]; done)), H', ⟨by have := HK1.out; omega⟩, ⟨by (with_reducible repeat (first | apply Kd.R_alloc | apply Kd.R_drewN | apply Kd.R_drew)); exact HO_3.out⟩, ⟨by repeat (first | (with_reducible first | exact HB.out | apply below_alloc | apply pw_below_drewN | apply below_drew1) | exact HB.out)⟩⟩
   · rw [if_neg c3] at H
     have c3b0 : decide (x4_1 ≤ t101) = false := decide_eq_false c3
     clear c3
     obtain rfl := Option.some.inj H
     go_wp2_with (first | ((with_reducible refine gate_callee (f := 13) rfl ?_); refine goesL_ (some 7) rfl rfl Try.func13 (by kernel_rfl) rfl #[.slice A0 l0.length c0] rfl (by (try simp only [List.map_toArray, List.map_cons, List.map_nil]); first | done | rfl | (simp only [List.length_drop, List.length_take]; rfl)) ?_; (with_reducible refine (cyclic_whole.calls k1 _ _ l0 t101 _ ?side1 ?side2 A2.out).mono ?_); (case side1 => repeat (first | exact (Kd.C_below HR0.out HB.out) | (with_reducible refine Kd.C_alloc ?_ _) | (with_reducible refine Kd.C_drewN ?_ _) | (with_reducible refine Kd.C_drew ?_))); (case side2 => exact HC0.out); rintro e w12 ⟨rfl, hb⟩; refine ⟨_, rfl, ?_⟩; have n0_ := Aside0.mk (Kd.R_below (by (with_reducible repeat (first | apply Kd.R_alloc | apply Kd.R_drewN | apply Kd.R_drew)); exact HO_3.out) hb); have n1_ := Aside0.mk (below_step (by repeat (first | (with_reducible first | exact HB.out | apply below_alloc | apply pw_below_drewN | apply below_drew1) | exact HB.out)) hb); clear HO_3; clear HB; have HO_3 := n0_; have HB := n1_; clear n0_ n1_; (try clear hb); (try clear hb2); (try clear hk); (try clear hi)))
     go_ret
     exact ⟨_, by first | rfl | (simp [errW_none, errW_some] <;> rfl) | (simp [*, errW_none, errW_some] <;> rfl), by (with_reducible repeat (first | apply Kd.R_alloc | apply Kd.R_drewN | apply Kd.R_drew)); exact HO_3.out, by repeat (first | (with_reducible first | exact HB.out | apply below_alloc | apply pw_below_drewN | apply below_drew1) | exact HB.out)⟩
end Go.Proofs.Ytindegbbcdloiaa.P
end
section
namespace Go.Proofs.Ytindegbbcdloiaa.P
open Go.RowKit Go.Proofs.YtindegbbcdloiaaW.PrintWords Go.Proofs.YtindegbbcdloiaaW.PrintLast Go.Proofs.YtindegbbcdloiaaW.PrintMore
set_option linter.unusedVariables false
set_option linter.unusedSimpArgs false
/-! ### cyclic_work_33: function 33 -/
mutual
noncomputable def cyclic_work_33.l0 : Nat → List (S44) → Int → Int → (S44 → S44 → Option Int) → Int → Option ((List (S44)))
 | 0, _, _, _, _, _ => none
 | k + 1, x0, x1, x2, x3, x8 => if x8 < x2 then (cyclic_work_33.l1 k x0 x1 x2 x3 x8 x8) else (some x0)
noncomputable def cyclic_work_33.l1 : Nat → List (S44) → Int → Int → (S44 → S44 → Option Int) → Int → Int → Option ((List (S44)))
 | 0, _, _, _, _, _, _ => none
 | k + 1, x0, x1, x2, x3, x8, x9 => if x9 > x1 then (if 0 ≤ x9 then (if x9 < (x0.length : Int) then (if 0 ≤ (wrap64 (x9 - 1)) then (if (wrap64 (x9 - 1)) < (x0.length : Int) then ((x3 (⟨(rd_T44 x0 x9).f0, (rd_T44 x0 x9).f1, (rd_T44 x0 x9).f2⟩ : S44) (⟨(rd_T44 x0 (wrap64 (x9 - 1))).f0, (rd_T44 x0 (wrap64 (x9 - 1))).f1, (rd_T44 x0 (wrap64 (x9 - 1))).f2⟩ : S44)).bind fun t103 => (if t103 < 0 then (cyclic_work_33.l1 k ((x0.set (x9 : Int).toNat (⟨(rd_T44 x0 (wrap64 (x9 - 1))).f0, (rd_T44 x0 (wrap64 (x9 - 1))).f1, (rd_T44 x0 (wrap64 (x9 - 1))).f2⟩ : S44)).set ((wrap64 (x9 - 1)) : Int).toNat (⟨(rd_T44 x0 x9).f0, (rd_T44 x0 x9).f1, (rd_T44 x0 x9).f2⟩ : S44)) x1 x2 x3 x8 (wrap64 (x9 - 1))) else (cyclic_work_33.l0 k x0 x1 x2 x3 (wrap64 (x8 + 1))))) else (none)) else (none)) else (none)) else (none)) else (cyclic_work_33.l0 k x0 x1 x2 x3 (wrap64 (x8 + 1)))
end
noncomputable def cyclic_work_33.f (k : Nat) (l0 : List (S44)) (a1 : Int) (a2 : Int) (a3 : (S44 → S44 → Option Int)) : Option ((List (S44))) := cyclic_work_33.l0 k l0 a1 a2 a3 (wrap64 (a1 + 1))
theorem cyclic_work_33.mono_l : ∀ k, (∀ y0 y1 y2 y3 y4, LeO (cyclic_work_33.l0 k y0 y1 y2 y3 y4) (cyclic_work_33.l0 (k + 1) y0 y1 y2 y3 y4)) ∧ (∀ y0 y1 y2 y3 y4 y5, LeO (cyclic_work_33.l1 k y0 y1 y2 y3 y4 y5) (cyclic_work_33.l1 (k + 1) y0 y1 y2 y3 y4 y5))
 | 0 => ⟨fun _ _ _ _ _ r h => by simp [cyclic_work_33.l0] at h, fun _ _ _ _ _ _ r h => by simp [cyclic_work_33.l1] at h⟩
 | k + 1 => by
  obtain ⟨ih0, ih1⟩ := cyclic_work_33.mono_l k
  refine ⟨?_, ?_⟩
  · intro y0 y1 y2 y3 y4
    unfold cyclic_work_33.l0
    repeat' first
    | (with_reducible exact ih0 _ _ _ _ _)
    | (with_reducible exact ih1 _ _ _ _ _ _)
    | (with_reducible exact LeO.refl _)
    | (with_reducible exact LeO.none _)
    | (with_reducible refine LeO.ite ?_ ?_)
    | (with_reducible refine LeO.bind ?_ (fun _ => ?_))
    | exact ih0 _ _ _ _ _
    | exact ih1 _ _ _ _ _ _
    | exact LeO.none _
    | refine LeO.ite ?_ ?_
    | refine LeO.bind ?_ (fun _ => ?_)
  · intro y0 y1 y2 y3 y4 y5
    unfold cyclic_work_33.l1
    repeat' first
    | (with_reducible exact ih0 _ _ _ _ _)
    | (with_reducible exact ih1 _ _ _ _ _ _)
    | (with_reducible exact LeO.refl _)
    | (with_reducible exact LeO.none _)
    | (with_reducible refine LeO.ite ?_ ?_)
    | (with_reducible refine LeO.bind ?_ (fun _ => ?_))
    | exact ih0 _ _ _ _ _
    | exact ih1 _ _ _ _ _ _
    | exact LeO.none _
    | refine LeO.ite ?_ ?_
    | refine LeO.bind ?_ (fun _ => ?_)
theorem cyclic_work_33.mono : ∀ a0 a1 a2 a3 k, LeO (cyclic_work_33.f k a0 a1 a2 a3) (cyclic_work_33.f (k + 1) a0 a1 a2 a3) := by
 intro a0 a1 a2 a3 k
 obtain ⟨ih0, ih1⟩ := cyclic_work_33.mono_l k
 unfold cyclic_work_33.f
 repeat' first
  | (with_reducible exact ih0 _ _ _ _ _)
  | (with_reducible exact ih1 _ _ _ _ _ _)
  | (with_reducible exact LeO.refl _)
  | (with_reducible exact LeO.none _)
  | (with_reducible refine LeO.ite ?_ ?_)
  | (with_reducible refine LeO.bind ?_ (fun _ => ?_))
  | exact ih0 _ _ _ _ _
  | exact ih1 _ _ _ _ _ _
  | exact LeO.none _
  | refine LeO.ite ?_ ?_
  | refine LeO.bind ?_ (fun _ => ?_)
def cyclic_work_33.T4 : Bool × List (List Nat × List Nat) := (true, [([], []), ([], []), ([0, 1], [0, 1]), ([2], [2]), ([3], [3]), ([3], [3]), ([3], [3]), ([5, 6, 3], [3, 5, 6]), ([7, 3], [3, 7]), ([3], [3]), ([3], [3]), ([10, 3], [3, 10]), ([9, 11, 3], [3, 9, 11]), ([12, 3], [3, 12]), ([4, 8, 13, 3, 3], [3, 4, 8, 13]), ([14, 3], [3, 14]), ([3, 15], [3, 15])])
def cyclic_work_33.B4 : List Nat := [0, 0, 3, 7, 15, 15, 15, 111, 239, 15, 15, 1039, 3599, 7695, 16383, 32767, 65535]
theorem cyclic_work_33.tab4 : rtab .any (opsOf Try.f33 4) = cyclic_work_33.T4 := by kernel_rfl
theorem cyclic_work_33.bits4 : waitsOk cyclic_work_33.T4.2 cyclic_work_33.B4 = true := by kernel_rfl
def cyclic_work_33.T6 : Bool × List (List Nat × List Nat) := (true, [([], []), ([], []), ([], []), ([], []), ([3], [3]), ([], []), ([], []), ([6], [6]), ([5, 7], [5, 7]), ([8], [8]), ([], []), ([], []), ([10, 11], [10, 11]), ([12], [12]), ([0, 1, 0, 1, 5, 6, 7, 8, 9, 13], [0, 1]), ([14, 9, 0, 1, 5, 6, 7, 8, 9, 13], [9, 14]), ([2, 4, 0, 1, 2, 3, 4, 5, 6, 7, 8, 9, 10, 11, 12, 13, 14, 15], [2, 4]), ([16, 13, 15, 0, 1, 2, 3, 4, 5, 6, 7, 8, 9, 10, 11, 12, 13, 14, 15], [13, 16])])
def cyclic_work_33.B6 : List Nat := [0, 0, 0, 0, 8, 0, 0, 64, 224, 480, 0, 0, 3072, 7168, 16355, 32739, 65535, 131071]
theorem cyclic_work_33.tab6 : rtab .any (opsOf Try.f33 6) = cyclic_work_33.T6 := by kernel_rfl
theorem cyclic_work_33.bits6 : waitsOk cyclic_work_33.T6.2 cyclic_work_33.B6 = true := by kernel_rfl
set_option maxHeartbeats 8000000 in
set_option maxRecDepth 100000 in
theorem cyclic_work_33.calls (k : Nat) (P0_ : Nat → Prop) (u9000_ : Value) (l0 : List (S44)) (a1 : Int) (a2 : Int) (a3 : (S44 → S44 → Option Int)) (fga3 : Nat) (fba3 : Array Value) (r : List (S44)) (w0 w : World) (hB : Below w0.heap.size w0 w) (ho0 : Kd.R k44 44 w w0.heap.size P0_ u9000_ l0) (he3 : ∀ as_ W_, (callFunc fga3 as_).run Try.prog W_ = .ok (.enter fga3 as_) W_) (hf3 : ∀ W_, Kept w W_ (fun k_ => P0_ k_) → ∀ p0_ p1_ r_, a3 p0_ p1_ = some r_ → Calls Try.prog fga3 (#[.agg #[.int .i64 ((p0_).f0), .int .u64 ((p0_).f1), .int .u64 ((p0_).f2)], .agg #[.int .i64 ((p1_).f0), .int .u64 ((p1_).f1), .int .u64 ((p1_).f2)]] ++ fba3) W_ fun e w' => e = .returned (.int .i64 r_) ∧ Below W_.heap.size W_ w') (h : cyclic_work_33.f k l0 a1 a2 a3 = some r) :
 Calls Try.prog 33 #[u9000_, .int .i64 a1, .int .i64 a2, .func (.func fga3) #[] fba3] w fun e w' => e = .returned (.tuple #[]) ∧ Kd.R k44 44 w' w0.heap.size (fun k_ => (P0_ k_ ∨ w.heap.size ≤ k_)) u9000_ r ∧ Below w0.heap.size w0 w' ∧ Kept w w' (fun k_ => P0_ k_) := by
 have hu44 := Try.underlying44
 have HO0 := Aside0.mk (show Kd.R k44 44 w w0.heap.size (fun k_ => (P0_ k_ ∨ w.heap.size ≤ k_)) u9000_ l0 from Kd.R_mono ho0 (fun k_ hk => (.inl hk)))
 have HEa3 := Aside0.mk he3
 have HFa3 := Aside0.mk hf3
 clear he3 hf3
 have HK := Aside0.mk (Kept.refl w (fun k_ => P0_ k_))
 have HW0 := Aside0.mk hB.size
 have HB := Aside0.mk hB
 clear hB
 have H : (cyclic_work_33.l0 k l0 a1 a2 a3 (wrap64 (a1 + 1))) = some r := h
 clear h
 have H' := Aside0.mk H
 clear H
 go_enter Try.func33, Try.ntmps33
 go_wp2
 go_loopg [8] k (fun kq v8 w' => ∃ (x0_1 : List (S44)) (x8_1 : Int), v8 = .int .i64 x8_1 ∧ Aside0 (cyclic_work_33.l0 kq x0_1 a1 a2 a3 x8_1 = some r) ∧ Aside0 (kq ≤ k) ∧ Aside0 (Kd.R k44 44 w' w0.heap.size (fun k_ => (P0_ k_ ∨ w.heap.size ≤ k_)) u9000_ x0_1) ∧ Aside0 (Kept w w' (fun k_ => P0_ k_)) ∧ Aside0 (Below w0.heap.size w0 w'))
 case atStart => exact ⟨(l0), (wrap64 (a1 + 1)), (by first | rfl | (simp; done) | (simp [*]; done)), H', ⟨Nat.le_refl _⟩, ⟨by (with_reducible repeat (first | apply Kd.R_alloc | apply Kd.R_drewN | apply Kd.R_drew)); exact HO0.out⟩, ⟨by repeat (first | (with_reducible first | exact HK.out | apply Kept.alloc | apply Kept.drewN | apply Kept.drew) | exact HK.out)⟩, ⟨by repeat (first | (with_reducible first | exact HB.out | apply below_alloc | apply pw_below_drewN | apply below_drew1) | exact HB.out)⟩⟩
 case round =>
  clear H'
  try clear p2
  try clear c3
  obtain ⟨x0_1, x8_1, rfl, HA, HK1, HO_0, HK, HB⟩ := hrel
  cases gk with
  | zero => exact absurd HA.out (by simp [cyclic_work_33.l0])
  | succ k1 =>
   have H := HA.out
   clear HA
   simp only [cyclic_work_33.l0] at H
   by_cases c5 : x8_1 < a2
   · rw [if_pos c5] at H
     have c5b0 : decide (x8_1 < a2) = true := decide_eq_true c5
     clear c5
     have H' := Aside0.mk H
     clear H
     go_wp2
     go_loopg [9] k1 (fun kq v9 w' => ∃ (x0_2 : List (S44)) (x9_2 : Int), v9 = .int .i64 x9_2 ∧ Aside0 (cyclic_work_33.l1 kq x0_2 a1 a2 a3 x8_1 x9_2 = some r) ∧ Aside0 (kq ≤ k1) ∧ Aside0 (Kd.R k44 44 w' w0.heap.size (fun k_ => (P0_ k_ ∨ w.heap.size ≤ k_)) u9000_ x0_2) ∧ Aside0 (Kept w w' (fun k_ => P0_ k_)) ∧ Aside0 (Below w0.heap.size w0 w'))
     case atStart => exact ⟨(x0_1), (x8_1), (by first | rfl | (simp; done) | (simp [*]; done)), H', ⟨Nat.le_refl _⟩, ⟨by (with_reducible repeat (first | apply Kd.R_alloc | apply Kd.R_drewN | apply Kd.R_drew)); exact HO_0.out⟩, ⟨by repeat (first | (with_reducible first | exact HK.out | apply Kept.alloc | apply Kept.drewN | apply Kept.drew) | exact HK.out)⟩, ⟨by repeat (first | (with_reducible first | exact HB.out | apply below_alloc | apply pw_below_drewN | apply below_drew1) | exact HB.out)⟩⟩
     case round =>
      clear H'
      try clear p2
      try clear c3
      try clear c5
      try clear c5b0
      try clear p2
      obtain ⟨x0_2, x9_2, rfl, HA, HK2, HO_0, HK, HB⟩ := hrel
      cases gk with
      | zero => exact absurd HA.out (by simp [cyclic_work_33.l1])
      | succ k2 =>
       have H := HA.out
       clear HA
       simp only [cyclic_work_33.l1] at H
       by_cases c6 : x9_2 > a1
       · rw [if_pos c6] at H
         have c6b0 : decide (a1 < x9_2) = true := decide_eq_true c6
         clear c6
         by_cases c7 : 0 ≤ x9_2
         · rw [if_pos c7] at H
           have c7b0 : decide (0 ≤ x9_2) = true := decide_eq_true c7
           clear c7
           by_cases c8 : x9_2 < (x0_2.length : Int)
           · rw [if_pos c8] at H
             have c8b0 : decide (x9_2 < (x0_2.length : Int)) = true := decide_eq_true c8
             clear c8
             obtain ⟨ji9, hji9⟩ : ∃ j_ : Int, (wrap64 (x9_2 - 1)) = j_ := ⟨_, rfl⟩
             replace H : (if 0 ≤ (ji9) then (if (ji9) < (x0_2.length : Int) then ((a3 (⟨(rd_T44 x0_2 x9_2).f0, (rd_T44 x0_2 x9_2).f1, (rd_T44 x0_2 x9_2).f2⟩ : S44) (⟨(rd_T44 x0_2 (ji9)).f0, (rd_T44 x0_2 (ji9)).f1, (rd_T44 x0_2 (ji9)).f2⟩ : S44)).bind fun t103 => (if t103 < 0 then (cyclic_work_33.l1 k2 ((x0_2.set (x9_2 : Int).toNat (⟨(rd_T44 x0_2 (ji9)).f0, (rd_T44 x0_2 (ji9)).f1, (rd_T44 x0_2 (ji9)).f2⟩ : S44)).set ((ji9) : Int).toNat (⟨(rd_T44 x0_2 x9_2).f0, (rd_T44 x0_2 x9_2).f1, (rd_T44 x0_2 x9_2).f2⟩ : S44)) a1 a2 a3 x8_1 ji9) else (cyclic_work_33.l0 k2 x0_2 a1 a2 a3 (wrap64 (x8_1 + 1))))) else (none)) else (none)) = some r := by first | (rw [hji9] at H; exact H) | (simp only [hji9] at H ⊢; exact H)
             have hji9w : (IntKind.i64.wrap (x9_2 - 1)) = ji9 := (i64_w _).trans hji9
             by_cases c10 : 0 ≤ (ji9)
             · rw [if_pos c10] at H
               have c10b0 : decide (0 ≤ (ji9)) = true := decide_eq_true c10
               clear c10
               by_cases c11 : (ji9) < (x0_2.length : Int)
               · rw [if_pos c11] at H
                 have c11b0 : decide ((ji9) < (x0_2.length : Int)) = true := decide_eq_true c11
                 clear c11
                 replace H := Option.bind_eq_some_iff.mp H
                 obtain ⟨t103, A120, H⟩ := H
                 replace H : (if t103 < 0 then (cyclic_work_33.l1 k2 ((x0_2.set (x9_2 : Int).toNat (⟨(rd_T44 x0_2 (ji9)).f0, (rd_T44 x0_2 (ji9)).f1, (rd_T44 x0_2 (ji9)).f2⟩ : S44)).set ((ji9) : Int).toNat (⟨(rd_T44 x0_2 x9_2).f0, (rd_T44 x0_2 x9_2).f1, (rd_T44 x0_2 x9_2).f2⟩ : S44)) a1 a2 a3 x8_1 ji9) else (cyclic_work_33.l0 k2 x0_2 a1 a2 a3 (wrap64 (x8_1 + 1)))) = some r := H
                 have A12 := Aside0.mk A120
                 clear A120
                 by_cases c13 : t103 < 0
                 · rw [if_pos c13] at H
                   have c13b0 : decide (t103 < 0) = true := decide_eq_true c13
                   clear c13
                   obtain ⟨y106, hy106⟩ : ∃ y_ : List (S44), y_ = (x0_2.set (x9_2 : Int).toNat (⟨(rd_T44 x0_2 (ji9)).f0, (rd_T44 x0_2 (ji9)).f1, (rd_T44 x0_2 (ji9)).f2⟩ : S44)) := ⟨_, rfl⟩
                   replace H : (cyclic_work_33.l1 k2 (y106.set ((ji9) : Int).toNat (⟨(rd_T44 x0_2 x9_2).f0, (rd_T44 x0_2 x9_2).f1, (rd_T44 x0_2 x9_2).f2⟩ : S44)) a1 a2 a3 x8_1 ji9) = some r := by first | (rw [hy106]; with_reducible exact H) | (have H2_ := (Option.bind_some _ _).symm.trans H; rw [hy106]; with_reducible exact H2_) | (have H2_ := (Option.bind_some _ _).symm.trans H; with_reducible exact H2_) | with_reducible exact H | (rw [hy106]; exact H) | exact H
                   have Ny106 := Aside0.mk hy106
                   clear hy106
                   obtain ⟨y107, hy107⟩ : ∃ y_ : List (S44), y_ = (y106.set ((ji9) : Int).toNat (⟨(rd_T44 x0_2 x9_2).f0, (rd_T44 x0_2 x9_2).f1, (rd_T44 x0_2 x9_2).f2⟩ : S44)) := ⟨_, rfl⟩
                   replace H : (cyclic_work_33.l1 k2 y107 a1 a2 a3 x8_1 ji9) = some r := by first | (rw [hy107]; with_reducible exact H) | (have H2_ := (Option.bind_some _ _).symm.trans H; rw [hy107]; with_reducible exact H2_) | (have H2_ := (Option.bind_some _ _).symm.trans H; with_reducible exact H2_) | with_reducible exact H | (rw [hy107]; exact H) | exact H
                   have Ny107 := Aside0.mk hy107
                   clear hy107
                   have H' := Aside0.mk H
                   clear H
                   try go_wp2
                   have n0_ := Aside0.mk (Kd.R_drew HO_0.out)
                   have n1_ := Aside0.mk (Kept.drew HK.out)
                   have n2_ := Aside0.mk (below_drew1 HB.out)
                   clear HO_0
                   clear HK
                   clear HB
                   have HO_0 := n0_
                   have HK := n1_
                   have HB := n2_
                   clear n0_ n1_ n2_
                   obtain ⟨Ao17, co17, eo17⟩ := Kd.R_slice HO_0.out
                   (first | subst eo17 | (injection eo17 with f1_ f2_ f3_; have f4_ := f1_.symm; have f5_ := f3_.symm; clear f1_ f2_ f3_; subst f4_; subst f5_))
                   have p101 : 0 ≤ (x9_2 : Int) := of_decide_eq_true (by first | (with_reducible assumption) | assumption)
                   have q101 : x9_2 < (x0_2.length : Int) := of_decide_eq_true (by first | (with_reducible assumption) | assumption)
                   obtain ⟨ad101, e101, hx101_0, hx101_1, hx101_2⟩ := at_T44 (Kd.R_reads' HO_0.out).2.2 x9_2 p101 q101
                   cases e101
                   replace p101 := eq_true p101
                   replace q101 := eq_true q101
                   have p102 : 0 ≤ ((ji9) : Int) := of_decide_eq_true (by first | (with_reducible assumption) | assumption)
                   have q102 : (ji9) < (x0_2.length : Int) := of_decide_eq_true (by first | (with_reducible assumption) | assumption)
                   obtain ⟨ad102, e102, hx102_0, hx102_1, hx102_2⟩ := at_T44 (Kd.R_reads' HO_0.out).2.2 (ji9) p102 q102
                   obtain rfl : ad101 = ad102 := (by injection e102)
                   replace p102 := eq_true p102
                   replace q102 := eq_true q102
                   refine start_ (n := 17) (S := fun w' => w'.cell? (ad101.add ((x9_2).toNat * 3)) = some (.int .i64 ((rd_T44 x0_2 x9_2).f0)) ∧ w'.cell? ⟨(ad101.add ((x9_2).toNat * 3)).block, (ad101.add ((x9_2).toNat * 3)).off + 1, none⟩ = some (.int .u64 ((rd_T44 x0_2 x9_2).f1)) ∧ w'.cell? ⟨(ad101.add ((x9_2).toNat * 3)).block, (ad101.add ((x9_2).toNat * 3)).off + 2, none⟩ = some (.int .u64 ((rd_T44 x0_2 x9_2).f2)) ∧ w'.cell? (ad101.add (((ji9)).toNat * 3)) = some (.int .i64 ((rd_T44 x0_2 (ji9)).f0)) ∧ w'.cell? ⟨(ad101.add (((ji9)).toNat * 3)).block, (ad101.add (((ji9)).toNat * 3)).off + 1, none⟩ = some (.int .u64 ((rd_T44 x0_2 (ji9)).f1)) ∧ w'.cell? ⟨(ad101.add (((ji9)).toNat * 3)).block, (ad101.add (((ji9)).toNat * 3)).off + 2, none⟩ = some (.int .u64 ((rd_T44 x0_2 (ji9)).f2))) (ds := []) #[false, false, false, false, false, false, false, false, false, false, false, false, false, false, false, false, false] (by kernel_rfl) rfl rfl ⟨hx101_0, hx101_1, hx101_2, hx102_0, hx102_1, hx102_2⟩ (fun hHeld => ?_); refine with_tabW cyclic_work_33.tab4 cyclic_work_33.bits4 (fun HT_ HW_ => ?_)
                   generalize wr.drew = w16 at HO_0 HK HB hx101_0 hx101_1 hx101_2 hx102_0 hx102_1 hx102_2 hHeld ⊢
                   refine pure_ (i := 0) (N := some 18) (v := ?_) (a' := ?_) #[true, false, false, false, false, false, false, false, false, false, false, false, false, false, false, false, false] rfl rfl (any_of HT_.out (by kernel_rfl)) (fun _ _ _ h => h) (Or.inl ⟨by rfl, ?_⟩) ?_ ?_
                   rotate_left
                   · intro w'
                     go_simp
                     with_reducible rfl
                   rotate_left
                   · simp only [Act.put, List.setIfInBounds_toArray, List.set_cons_zero, List.set_cons_succ, i64_w, i32_w]
                     rfl
                   refine pure_ (i := 1) (N := some 19) (v := ?_) (a' := ?_) #[true, true, false, false, false, false, false, false, false, false, false, false, false, false, false, false, false] rfl rfl (any_of HT_.out (by kernel_rfl)) (fun _ _ _ h => h) (Or.inl ⟨by rfl, ?_⟩) ?_ ?_
                   rotate_left
                   · intro w'
                     go_simp
                     with_reducible rfl
                   rotate_left
                   · simp only [Act.put, List.setIfInBounds_toArray, List.set_cons_zero, List.set_cons_succ, i64_w, i32_w]
                     rfl
                   refine pure_ (i := 2) (N := some 20) (v := ?_) (a' := ?_) #[true, true, true, false, false, false, false, false, false, false, false, false, false, false, false, false, false] rfl rfl (any_of HT_.out (by kernel_rfl)) (fun _ _ _ h => h) (Or.inl ⟨by rfl, ?_⟩) ?_ ?_
                   rotate_left
                   · intro w'
                     go_simp
                     with_reducible rfl
                   rotate_left
                   · simp only [Act.put, List.setIfInBounds_toArray, List.set_cons_zero, List.set_cons_succ, i64_w, i32_w]
                     rfl
                   refine pure_ (i := 3) (N := some 21) (v := ?_) (a' := ?_) #[true, true, true, true, false, false, false, false, false, false, false, false, false, false, false, false, false] rfl rfl (any_of HT_.out (by kernel_rfl)) (fun _ _ _ h => h) (Or.inl ⟨by rfl, ?_⟩) ?_ ?_
                   rotate_left
                   · intro w'
                     go_simp
                     with_reducible rfl
                   rotate_left
                   · simp only [Act.put, List.setIfInBounds_toArray, List.set_cons_zero, List.set_cons_succ, i64_w, i32_w]
                     rfl
                   refine pure_ (i := 4) (N := some 22) (v := ?_) (a' := ?_) #[true, true, true, true, true, false, false, false, false, false, false, false, false, false, false, false, false] rfl rfl (any_of HT_.out (by kernel_rfl)) (fun _ _ _ h => h) (Or.inl ⟨by rfl, ?_⟩) ?_ ?_
                   rotate_left
                   · intro w'
                     go_simp
                     with_reducible rfl
                   rotate_left
                   · simp only [Act.put, List.setIfInBounds_toArray, List.set_cons_zero, List.set_cons_succ, i64_w, i32_w]
                     rfl
                   refine pure_ (i := 5) (N := some 23) (v := ?_) (a' := ?_) #[true, true, true, true, true, true, false, false, false, false, false, false, false, false, false, false, false] rfl rfl (any_of HT_.out (by kernel_rfl)) (fun _ _ _ h => h) (Or.inl ⟨by rfl, ?_⟩) ?_ ?_
                   rotate_left
                   · intro w'
                     go_simp
                     with_reducible rfl
                   rotate_left
                   · simp only [Act.put, List.setIfInBounds_toArray, List.set_cons_zero, List.set_cons_succ, i64_w, i32_w]
                     rfl
                   refine pure_ (i := 6) (N := some 24) (v := ?_) (a' := ?_) #[true, true, true, true, true, true, true, false, false, false, false, false, false, false, false, false, false] rfl rfl (any_of HT_.out (by kernel_rfl)) (fun _ _ _ h => h) (Or.inl ⟨by rfl, ?_⟩) ?_ ?_
                   rotate_left
                   · intro w'
                     go_simp
                     with_reducible rfl
                   rotate_left
                   · simp only [Act.put, List.setIfInBounds_toArray, List.set_cons_zero, List.set_cons_succ, i64_w, i32_w]
                     rfl
                   refine pure_ (i := 7) (N := some 25) (v := ?_) (a' := ?_) #[true, true, true, true, true, true, true, true, false, false, false, false, false, false, false, false, false] rfl rfl (any_of HT_.out (by kernel_rfl)) (fun _ _ _ h => h) (Or.inl ⟨by rfl, ?_⟩) ?_ ?_
                   rotate_left
                   · intro w'
                     go_simp
                     with_reducible rfl
                   rotate_left
                   · simp only [Act.put, List.setIfInBounds_toArray, List.set_cons_zero, List.set_cons_succ, i64_w, i32_w]
                     rfl
                   refine pure_ (i := 9) (N := some 27) (v := ?_) (a' := ?_) #[true, true, true, true, true, true, true, true, false, true, false, false, false, false, false, false, false] rfl rfl (any_of HT_.out (by kernel_rfl)) (fun _ _ _ h => h) (Or.inl ⟨by rfl, ?_⟩) ?_ ?_
                   rotate_left
                   · intro w'
                     go_simp
                     with_reducible rfl
                   rotate_left
                   · simp only [Act.put, List.setIfInBounds_toArray, List.set_cons_zero, List.set_cons_succ, i64_w, i32_w]
                     rfl
                   refine pure_ (i := 10) (N := some 28) (v := ?_) (a' := ?_) #[true, true, true, true, true, true, true, true, false, true, true, false, false, false, false, false, false] rfl rfl (any_of HT_.out (by kernel_rfl)) (fun _ _ _ h => h) (Or.inl ⟨by rfl, ?_⟩) ?_ ?_
                   rotate_left
                   · intro w'
                     go_simp
                     with_reducible rfl
                   rotate_left
                   · simp only [Act.put, List.setIfInBounds_toArray, List.set_cons_zero, List.set_cons_succ, i64_w, i32_w]
                     rfl
                   refine pure_ (i := 11) (N := some 29) (v := ?_) (a' := ?_) #[true, true, true, true, true, true, true, true, false, true, true, true, false, false, false, false, false] rfl rfl (any_of HT_.out (by kernel_rfl)) (fun _ _ _ h => h) (Or.inl ⟨by rfl, ?_⟩) ?_ ?_
                   rotate_left
                   · intro w'
                     go_simp
                     with_reducible rfl
                   rotate_left
                   · simp only [Act.put, List.setIfInBounds_toArray, List.set_cons_zero, List.set_cons_succ, i64_w, i32_w]
                     rfl
                   refine pure_ (i := 12) (N := some 30) (v := ?_) (a' := ?_) #[true, true, true, true, true, true, true, true, false, true, true, true, true, false, false, false, false] rfl rfl (any_of HT_.out (by kernel_rfl)) (fun _ _ _ h => h) (Or.inl ⟨by rfl, ?_⟩) ?_ ?_
                   rotate_left
                   · intro w'
                     go_simp
                     with_reducible rfl
                   rotate_left
                   · simp only [Act.put, List.setIfInBounds_toArray, List.set_cons_zero, List.set_cons_succ, i64_w, i32_w]
                     rfl
                   refine take_ (i := 8) (N := some 26) (v := ?_) (a' := ?_) #[true, true, true, true, true, true, true, true, true, true, true, true, true, false, false, false, false] rfl rfl (take_ofW HT_.out HW_.out (by kernel_rfl)) (fun _ _ _ h => h) (Or.inl ⟨by rfl, ?_⟩) hHeld ?_ ?_
                   rotate_left
                   · rintro w' ⟨s0, s1, s2, s3, s4, s5⟩
                     go_simp
                     with_reducible rfl
                   rotate_left
                   · simp only [Act.put, List.setIfInBounds_toArray, List.set_cons_zero, List.set_cons_succ, i64_w, i32_w]
                     rfl
                   refine take_ (i := 13) (N := some 31) (v := ?_) (a' := ?_) #[true, true, true, true, true, true, true, true, true, true, true, true, true, true, false, false, false] rfl rfl (take_ofW HT_.out HW_.out (by kernel_rfl)) (fun _ _ _ h => h) (Or.inl ⟨by rfl, ?_⟩) hHeld ?_ ?_
                   rotate_left
                   · rintro w' ⟨s0, s1, s2, s3, s4, s5⟩
                     go_simp
                     with_reducible rfl
                   rotate_left
                   · simp only [Act.put, List.setIfInBounds_toArray, List.set_cons_zero, List.set_cons_succ, i64_w, i32_w]
                     rfl
                   refine one_ (i := 14) (N := some 32) #[true, true, true, true, true, true, true, true, true, true, true, true, true, true, true, false, false] rfl rfl (one_of HT_.out (by kernel_rfl)) (by decide) (fun K hK => ?_)
                   refine Fn.goesF_ HEa3.out #[.agg #[.int .i64 ((rd_T44 x0_2 x9_2).f0), .int .u64 ((rd_T44 x0_2 x9_2).f1), .int .u64 ((rd_T44 x0_2 x9_2).f2)], .agg #[.int .i64 ((rd_T44 x0_2 (ji9)).f0), .int .u64 ((rd_T44 x0_2 (ji9)).f1), .int .u64 ((rd_T44 x0_2 (ji9)).f2)]] (by rfl) rfl rfl (by (try simp only [List.map_toArray, List.map_cons, List.map_nil]); first | done | rfl | (simp only [List.length_drop, List.length_take]; rfl)) (by rfl) ?_
                   refine (HFa3.out _ (by repeat (first | (with_reducible first | exact HK.out | apply Kept.alloc | apply Kept.drewN | apply Kept.drew) | exact HK.out)) (⟨(rd_T44 x0_2 x9_2).f0, (rd_T44 x0_2 x9_2).f1, (rd_T44 x0_2 x9_2).f2⟩ : S44) (⟨(rd_T44 x0_2 (ji9)).f0, (rd_T44 x0_2 (ji9)).f1, (rd_T44 x0_2 (ji9)).f2⟩ : S44) t103 A12.out).mono ?_
                   rintro e w18 ⟨rfl, hb⟩
                   have HS0_ := (hb.cell (World.block_lt_of_cell? _ _ (hHeld.1))).trans (hHeld.1)
                   have HS1_ := (hb.cell (World.block_lt_of_cell? _ _ (hHeld.2.1))).trans (hHeld.2.1)
                   have HS2_ := (hb.cell (World.block_lt_of_cell? _ _ (hHeld.2.2.1))).trans (hHeld.2.2.1)
                   have HS3_ := (hb.cell (World.block_lt_of_cell? _ _ (hHeld.2.2.2.1))).trans (hHeld.2.2.2.1)
                   have HS4_ := (hb.cell (World.block_lt_of_cell? _ _ (hHeld.2.2.2.2.1))).trans (hHeld.2.2.2.2.1)
                   have HS5_ := (hb.cell (World.block_lt_of_cell? _ _ (hHeld.2.2.2.2.2))).trans (hHeld.2.2.2.2.2)
                   refine ⟨_, rfl, ?_⟩
                   have n0_ := Aside0.mk (Kd.R_below (by (with_reducible repeat (first | apply Kd.R_alloc | apply Kd.R_drewN | apply Kd.R_drew)); exact HO_0.out) hb)
                   have n1_ := Aside0.mk (Kept.below (S := (fun k_ => P0_ k_)) (by repeat (first | (with_reducible first | exact HK.out | apply Kept.alloc | apply Kept.drewN | apply Kept.drew) | exact HK.out)) hb)
                   have n2_ := Aside0.mk (below_step (by repeat (first | (with_reducible first | exact HB.out | apply below_alloc | apply pw_below_drewN | apply below_drew1) | exact HB.out)) hb)
                   clear HO_0
                   clear HK
                   clear HB
                   have HO_0 := n0_
                   have HK := n1_
                   have HB := n2_
                   clear n0_ n1_ n2_
                   (try clear hb)
                   refine hK.out _ _ ⟨HS0_, HS1_, HS2_, HS3_, HS4_, HS5_⟩ (fun hHeld => ?_)
                   clear hK K
                   refine norm_ (a' := ?_) ?_ ?_
                   rotate_left
                   · show Act.put _ (some 32) _ = _
                     simp only [Act.put, List.setIfInBounds_toArray, List.set_cons_zero, List.set_cons_succ, i64_w, i32_w]
                     rfl
                   refine pure_ (i := 15) (N := some 33) (v := ?_) (a' := ?_) #[true, true, true, true, true, true, true, true, true, true, true, true, true, true, true, true, false] rfl rfl (any_of HT_.out (by kernel_rfl)) (fun _ _ _ h => h) (Or.inl ⟨by rfl, ?_⟩) ?_ ?_
                   rotate_left
                   · intro w'
                     go_simp
                     with_reducible rfl
                   rotate_left
                   · simp only [Act.put, List.setIfInBounds_toArray, List.set_cons_zero, List.set_cons_succ, i64_w, i32_w]
                     rfl
                   refine pure_ (i := 16) (N := some 34) (v := ?_) (a' := ?_) #[true, true, true, true, true, true, true, true, true, true, true, true, true, true, true, true, true] rfl rfl (any_of HT_.out (by kernel_rfl)) (fun _ _ _ h => h) (Or.inl ⟨by rfl, ?_⟩) ?_ ?_
                   rotate_left
                   · intro w'
                     go_simp
                     with_reducible rfl
                   rotate_left
                   · simp only [Act.put, List.setIfInBounds_toArray, List.set_cons_zero, List.set_cons_succ, i64_w, i32_w]
                     rfl
                   refine done_ (done_of HT_.out (by kernel_rfl)) ?_
                   try go_wp2
                   have n0_ := Aside0.mk (Kd.R_drew HO_0.out)
                   have n1_ := Aside0.mk (Kept.drew HK.out)
                   have n2_ := Aside0.mk (below_drew1 HB.out)
                   clear HO_0
                   clear HK
                   clear HB
                   have HO_0 := n0_
                   have HK := n1_
                   have HB := n2_
                   clear n0_ n1_ n2_
                   have p104 : 0 ≤ ((ji9) : Int) := of_decide_eq_true (by first | (with_reducible assumption) | assumption)
                   have q104 : (ji9) < (x0_2.length : Int) := of_decide_eq_true (by first | (with_reducible assumption) | assumption)
                   obtain ⟨ad104, e104, hx104_0, hx104_1, hx104_2⟩ := at_T44 (Kd.R_reads' HO_0.out).2.2 (ji9) p104 q104
                   obtain rfl : ad101 = ad104 := (by injection e104)
                   replace p104 := eq_true p104
                   replace q104 := eq_true q104
                   have p105 : 0 ≤ (x9_2 : Int) := of_decide_eq_true (by first | (with_reducible assumption) | assumption)
                   have q105 : x9_2 < (x0_2.length : Int) := of_decide_eq_true (by first | (with_reducible assumption) | assumption)
                   obtain ⟨ad105, e105, hx105_0, hx105_1, hx105_2⟩ := at_T44 (Kd.R_reads' HO_0.out).2.2 x9_2 p105 q105
                   obtain rfl : ad101 = ad105 := (by injection e105)
                   replace p105 := eq_true p105
                   replace q105 := eq_true q105
                   have p14 : 0 ≤ (x9_2 : Int) := of_decide_eq_true (by first | (with_reducible assumption) | assumption)
                   have q14 : (x9_2 : Int) < ((x0_2.length : Int) : Int) := of_decide_eq_true (by first | (with_reducible assumption) | assumption)
                   obtain ⟨go14, co14, eo14, gb14, gl14, cl14, HG14⟩ := Kd.R_form HO_0.out (by omega)
                   (first | cases eo14 | (injection eo14 with ea_ en_ ec_; (first | subst ea_ | (injection ea_ with ea_; subst ea_)); subst ec_; clear en_))
                   have GB14 := Aside0.mk gb14
                   have GG14 := Aside0.mk HG14
                   clear gb14 gl14 HG14
                   have HMgo14 := Aside0.mk (show (P0_ go14 ∨ w.heap.size ≤ go14) from (HO_0.out.1 _ rfl))
                   (first | simp only [add_plain] at hx101_0 | skip)
                   (first | simp only [add_plain] at hx101_1 | skip)
                   (first | simp only [add_plain] at hx101_2 | skip)
                   (first | simp only [add_plain] at hx102_0 | skip)
                   (first | simp only [add_plain] at hx102_1 | skip)
                   (first | simp only [add_plain] at hx102_2 | skip)
                   (first | simp only [add_plain] at hx104_0 | skip)
                   (first | simp only [add_plain] at hx104_1 | skip)
                   (first | simp only [add_plain] at hx104_2 | skip)
                   (first | simp only [add_plain] at hx105_0 | skip)
                   (first | simp only [add_plain] at hx105_1 | skip)
                   (first | simp only [add_plain] at hx105_2 | skip)
                   obtain ⟨ce14, hcl14, hM14, hcc14, hfr14⟩ := Kd.R_elem HO_0.out z44 (x9_2 : Int) p14 q14
                   obtain rfl := k44_openM hM14
                   have hx14_0 : World.cell? _ ⟨go14, (x9_2 : Int).toNat * 3, none⟩ = some (.int .i64 ((rd_T44 x0_2 x9_2).f0)) := hcc14 0 _ rfl
                   have hx14_1 : World.cell? _ ⟨go14, (x9_2 : Int).toNat * 3 + 1, none⟩ = some (.int .u64 ((rd_T44 x0_2 x9_2).f1)) := hcc14 1 _ rfl
                   have hx14_2 : World.cell? _ ⟨go14, (x9_2 : Int).toNat * 3 + 2, none⟩ = some (.int .u64 ((rd_T44 x0_2 x9_2).f2)) := hcc14 2 _ rfl
                   have hf14_0 : World.frozen? _ ⟨go14, (x9_2 : Int).toNat * 3, none⟩ = false := hfr14 0
                   have hf14_1 : World.frozen? _ ⟨go14, (x9_2 : Int).toNat * 3 + 1, none⟩ = false := hfr14 1
                   have hf14_2 : World.frozen? _ ⟨go14, (x9_2 : Int).toNat * 3 + 2, none⟩ = false := hfr14 2
                   clear hcl14 hcc14 hfr14 hM14
                   replace p14 := eq_true p14
                   replace q14 := eq_true q14
                   obtain ⟨ce20, hcl20, hM20, hcc20, hfr20⟩ := Kd.R_elem HO_0.out z44 (x9_2 : Int) (of_decide_eq_true (by first | (with_reducible assumption) | assumption)) (by have h_ : (x9_2 : Int) < ((x0_2.length : Int) : Int) := of_decide_eq_true (by first | (with_reducible assumption) | assumption); first | exact h_ | (have e_ := (Kd.R_reads' HO_0.out).1; omega) | simpa using h_)
                   obtain rfl := k44_openM hM20
                   have HP20 := (Kd.R_seg HO_0.out (x9_2 : Int) (of_decide_eq_true (by first | (with_reducible assumption) | assumption)) (by have h_ : (x9_2 : Int) < ((x0_2.length : Int) : Int) := of_decide_eq_true (by first | (with_reducible assumption) | assumption); first | exact h_ | (have e_ := (Kd.R_reads' HO_0.out).1; omega) | simpa using h_) (seg := [.int .i64 ((rd_T44 x0_2 (ji9)).f0), .int .u64 ((rd_T44 x0_2 (ji9)).f1), .int .u64 ((rd_T44 x0_2 (ji9)).f2)]) (j := 0) hcl20 hcc20 (show 3 ≤ 3 from by decide) (x' := (⟨(rd_T44 x0_2 (ji9)).f0, (rd_T44 x0_2 (ji9)).f1, (rd_T44 x0_2 (ji9)).f2⟩ : S44)) (k44_mkM _ _ _ (⟨(rd_T44 x0_2 (ji9)).f0, (rd_T44 x0_2 (ji9)).f1, (rd_T44 x0_2 (ji9)).f2⟩ : S44) ) (fun _ hk => hk)).1
                   rw [← Ny106.out] at HP20
                   have HQ20 := Aside0.mk HP20
                   clear hcl20 hcc20 hfr20 hM20 HP20
                   have p15 : 0 ≤ ((ji9) : Int) := of_decide_eq_true (by first | (with_reducible assumption) | assumption)
                   have q15 : ((ji9) : Int) < ((x0_2.length : Int) : Int) := of_decide_eq_true (by first | (with_reducible assumption) | assumption)
                   obtain ⟨ce15, hcl15, hM15, hcc15, hfr15⟩ := Kd.R_elem HQ20.out z44 ((ji9) : Int) p15 q15
                   obtain rfl := k44_openM hM15
                   have hx15_0 : World.cell? _ ⟨go14, ((ji9) : Int).toNat * 3, none⟩ = some (.int .i64 ((rd_T44 y106 (ji9)).f0)) := hcc15 0 _ rfl
                   have hx15_1 : World.cell? _ ⟨go14, ((ji9) : Int).toNat * 3 + 1, none⟩ = some (.int .u64 ((rd_T44 y106 (ji9)).f1)) := hcc15 1 _ rfl
                   have hx15_2 : World.cell? _ ⟨go14, ((ji9) : Int).toNat * 3 + 2, none⟩ = some (.int .u64 ((rd_T44 y106 (ji9)).f2)) := hcc15 2 _ rfl
                   have hf15_0 : World.frozen? _ ⟨go14, ((ji9) : Int).toNat * 3, none⟩ = false := hfr15 0
                   have hf15_1 : World.frozen? _ ⟨go14, ((ji9) : Int).toNat * 3 + 1, none⟩ = false := hfr15 1
                   have hf15_2 : World.frozen? _ ⟨go14, ((ji9) : Int).toNat * 3 + 2, none⟩ = false := hfr15 2
                   have hx159_0 : World.cell? (World.setCell _ ⟨go14, (x9_2 : Int).toNat * 3, none⟩ (.int .i64 ((rd_T44 x0_2 (ji9)).f0))) ⟨go14, ((ji9) : Int).toNat * 3, none⟩ = some (.int .i64 ((rd_T44 y106 (ji9)).f0)) := (World.cell?_setCell_other _ ⟨go14, (x9_2 : Int).toNat * 3 + 1, none⟩ ⟨go14, ((ji9) : Int).toNat * 3, none⟩ (.int .u64 ((rd_T44 x0_2 (ji9)).f1)) (fun e_ => by injection e_ with e1_ e2_; omega)).symm.trans ((World.cell?_setCell_other _ ⟨go14, (x9_2 : Int).toNat * 3 + 2, none⟩ ⟨go14, ((ji9) : Int).toNat * 3, none⟩ (.int .u64 ((rd_T44 x0_2 (ji9)).f2)) (fun e_ => by injection e_ with e1_ e2_; omega)).symm.trans (hx15_0))
                   have hf159_0 := (World.frozen?_setCells _ _ _ _ _).symm.trans hf15_0
                   have hx159_1 : World.cell? (World.setCell (World.setCell _ ⟨go14, (x9_2 : Int).toNat * 3, none⟩ (.int .i64 ((rd_T44 x0_2 (ji9)).f0))) ⟨go14, (x9_2 : Int).toNat * 3 + 1, none⟩ (.int .u64 ((rd_T44 x0_2 (ji9)).f1))) ⟨go14, ((ji9) : Int).toNat * 3 + 1, none⟩ = some (.int .u64 ((rd_T44 y106 (ji9)).f1)) := (World.cell?_setCell_other _ ⟨go14, (x9_2 : Int).toNat * 3 + 2, none⟩ ⟨go14, ((ji9) : Int).toNat * 3 + 1, none⟩ (.int .u64 ((rd_T44 x0_2 (ji9)).f2)) (fun e_ => by injection e_ with e1_ e2_; omega)).symm.trans (hx15_1)
                   have hf159_1 := (World.frozen?_setCells _ _ _ _ _).symm.trans hf15_1
                   have hx159_2 : World.cell? (World.setCell (World.setCell (World.setCell _ ⟨go14, (x9_2 : Int).toNat * 3, none⟩ (.int .i64 ((rd_T44 x0_2 (ji9)).f0))) ⟨go14, (x9_2 : Int).toNat * 3 + 1, none⟩ (.int .u64 ((rd_T44 x0_2 (ji9)).f1))) ⟨go14, (x9_2 : Int).toNat * 3 + 2, none⟩ (.int .u64 ((rd_T44 x0_2 (ji9)).f2))) ⟨go14, ((ji9) : Int).toNat * 3 + 2, none⟩ = some (.int .u64 ((rd_T44 y106 (ji9)).f2)) := hx15_2
                   have hf159_2 := (World.frozen?_setCells _ _ _ _ _).symm.trans hf15_2
                   clear hcl15 hcc15 hfr15 hM15
                   replace p15 := eq_true p15
                   replace q15 := eq_true q15
                   obtain ⟨ce21, hcl21, hM21, hcc21, hfr21⟩ := Kd.R_elem HQ20.out z44 ((ji9) : Int) (of_decide_eq_true (by first | (with_reducible assumption) | assumption)) (by have h_ : ((ji9) : Int) < ((x0_2.length : Int) : Int) := of_decide_eq_true (by first | (with_reducible assumption) | assumption); first | exact h_ | (have e_ := (Kd.R_reads' HO_0.out).1; omega) | simpa using h_)
                   obtain rfl := k44_openM hM21
                   have HP21 := (Kd.R_seg HQ20.out ((ji9) : Int) (of_decide_eq_true (by first | (with_reducible assumption) | assumption)) (by have h_ : ((ji9) : Int) < ((x0_2.length : Int) : Int) := of_decide_eq_true (by first | (with_reducible assumption) | assumption); first | exact h_ | (have e_ := (Kd.R_reads' HO_0.out).1; omega) | simpa using h_) (seg := [.int .i64 ((rd_T44 x0_2 x9_2).f0), .int .u64 ((rd_T44 x0_2 x9_2).f1), .int .u64 ((rd_T44 x0_2 x9_2).f2)]) (j := 0) hcl21 hcc21 (show 3 ≤ 3 from by decide) (x' := (⟨(rd_T44 x0_2 x9_2).f0, (rd_T44 x0_2 x9_2).f1, (rd_T44 x0_2 x9_2).f2⟩ : S44)) (k44_mkM _ _ _ (⟨(rd_T44 x0_2 x9_2).f0, (rd_T44 x0_2 x9_2).f1, (rd_T44 x0_2 x9_2).f2⟩ : S44) ) (fun _ hk => hk)).1
                   rw [← Ny107.out] at HP21
                   have HQ21 := Aside0.mk HP21
                   clear hcl21 hcc21 hfr21 hM21 HP21
                   refine start_ (n := 18) (S := fun w' => w'.cell? ⟨go14, (((ji9)).toNat * 3), none⟩ = some (.int .i64 ((rd_T44 x0_2 (ji9)).f0)) ∧ w'.cell? ⟨go14, (((ji9)).toNat * 3) + 1, none⟩ = some (.int .u64 ((rd_T44 x0_2 (ji9)).f1)) ∧ w'.cell? ⟨go14, (((ji9)).toNat * 3) + 2, none⟩ = some (.int .u64 ((rd_T44 x0_2 (ji9)).f2)) ∧ w'.cell? ⟨go14, ((x9_2).toNat * 3), none⟩ = some (.int .i64 ((rd_T44 x0_2 x9_2).f0)) ∧ w'.cell? ⟨go14, ((x9_2).toNat * 3) + 1, none⟩ = some (.int .u64 ((rd_T44 x0_2 x9_2).f1)) ∧ w'.cell? ⟨go14, ((x9_2).toNat * 3) + 2, none⟩ = some (.int .u64 ((rd_T44 x0_2 x9_2).f2))) (ds := [15, 17]) #[false, false, false, false, false, false, false, false, false, false, false, false, false, false, false, false, false, false] (by kernel_rfl) rfl rfl ⟨hx104_0, hx104_1, hx104_2, hx105_0, hx105_1, hx105_2⟩ (fun hHeld => ?_); refine with_tabW cyclic_work_33.tab6 cyclic_work_33.bits6 (fun HT_ HW_ => ?_)
                   generalize w18.drew = w19 at HO_0 HK HB GG14 HQ20 HQ21 hf14_0 hf14_1 hf14_2 hf159_0 hf159_1 hf159_2 hf15_0 hf15_1 hf15_2 hx101_0 hx101_1 hx101_2 hx102_0 hx102_1 hx102_2 hx104_0 hx104_1 hx104_2 hx105_0 hx105_1 hx105_2 hx14_0 hx14_1 hx14_2 hx159_0 hx159_1 hx159_2 hx15_0 hx15_1 hx15_2 hHeld ⊢
                   refine pure_ (i := 0) (N := some 37) (v := ?_) (a' := ?_) #[true, false, false, false, false, false, false, false, false, false, false, false, false, false, false, false, false, false] rfl rfl (any_of HT_.out (by kernel_rfl)) (fun _ _ _ h => h) (Or.inl ⟨by rfl, ?_⟩) ?_ ?_
                   rotate_left
                   · intro w'
                     go_simp
                     with_reducible rfl
                   rotate_left
                   · simp only [Act.put, List.setIfInBounds_toArray, List.set_cons_zero, List.set_cons_succ, i64_w, i32_w]
                     rfl
                   refine pure_ (i := 1) (N := some 38) (v := ?_) (a' := ?_) #[true, true, false, false, false, false, false, false, false, false, false, false, false, false, false, false, false, false] rfl rfl (any_of HT_.out (by kernel_rfl)) (fun _ _ _ h => h) (Or.inl ⟨by rfl, ?_⟩) ?_ ?_
                   rotate_left
                   · intro w'
                     go_simp
                     with_reducible rfl
                   rotate_left
                   · simp only [Act.put, List.setIfInBounds_toArray, List.set_cons_zero, List.set_cons_succ, i64_w, i32_w]
                     rfl
                   refine pure_ (i := 2) (N := some 39) (v := ?_) (a' := ?_) #[true, true, true, false, false, false, false, false, false, false, false, false, false, false, false, false, false, false] rfl rfl (any_of HT_.out (by kernel_rfl)) (fun _ _ _ h => h) (Or.inl ⟨by rfl, ?_⟩) ?_ ?_
                   rotate_left
                   · intro w'
                     go_simp
                     with_reducible rfl
                   rotate_left
                   · simp only [Act.put, List.setIfInBounds_toArray, List.set_cons_zero, List.set_cons_succ, i64_w, i32_w]
                     rfl
                   refine pure_ (i := 3) (N := some 40) (v := ?_) (a' := ?_) #[true, true, true, true, false, false, false, false, false, false, false, false, false, false, false, false, false, false] rfl rfl (any_of HT_.out (by kernel_rfl)) (fun _ _ _ h => h) (Or.inl ⟨by rfl, ?_⟩) ?_ ?_
                   rotate_left
                   · intro w'
                     go_simp
                     with_reducible rfl
                   rotate_left
                   · simp only [Act.put, List.setIfInBounds_toArray, List.set_cons_zero, List.set_cons_succ, i64_w, i32_w]
                     rfl
                   refine pure_ (i := 4) (N := some 41) (v := ?_) (a' := ?_) #[true, true, true, true, true, false, false, false, false, false, false, false, false, false, false, false, false, false] rfl rfl (any_of HT_.out (by kernel_rfl)) (fun _ _ _ h => h) (Or.inl ⟨by rfl, ?_⟩) ?_ ?_
                   rotate_left
                   · intro w'
                     go_simp
                     with_reducible rfl
                   rotate_left
                   · simp only [Act.put, List.setIfInBounds_toArray, List.set_cons_zero, List.set_cons_succ, i64_w, i32_w]
                     rfl
                   refine pure_ (i := 5) (N := some 42) (v := ?_) (a' := ?_) #[true, true, true, true, true, true, false, false, false, false, false, false, false, false, false, false, false, false] rfl rfl (any_of HT_.out (by kernel_rfl)) (fun _ _ _ h => h) (Or.inl ⟨by rfl, ?_⟩) ?_ ?_
                   rotate_left
                   · intro w'
                     go_simp
                     with_reducible rfl
                   rotate_left
                   · simp only [Act.put, List.setIfInBounds_toArray, List.set_cons_zero, List.set_cons_succ, i64_w, i32_w]
                     rfl
                   refine pure_ (i := 6) (N := some 43) (v := ?_) (a' := ?_) #[true, true, true, true, true, true, true, false, false, false, false, false, false, false, false, false, false, false] rfl rfl (any_of HT_.out (by kernel_rfl)) (fun _ _ _ h => h) (Or.inl ⟨by rfl, ?_⟩) ?_ ?_
                   rotate_left
                   · intro w'
                     go_simp
                     with_reducible rfl
                   rotate_left
                   · simp only [Act.put, List.setIfInBounds_toArray, List.set_cons_zero, List.set_cons_succ, i64_w, i32_w]
                     rfl
                   refine pure_ (i := 7) (N := some 44) (v := ?_) (a' := ?_) #[true, true, true, true, true, true, true, true, false, false, false, false, false, false, false, false, false, false] rfl rfl (any_of HT_.out (by kernel_rfl)) (fun _ _ _ h => h) (Or.inl ⟨by rfl, ?_⟩) ?_ ?_
                   rotate_left
                   · intro w'
                     go_simp
                     with_reducible rfl
                   rotate_left
                   · simp only [Act.put, List.setIfInBounds_toArray, List.set_cons_zero, List.set_cons_succ, i64_w, i32_w]
                     rfl
                   refine pure_ (i := 8) (N := some 45) (v := ?_) (a' := ?_) #[true, true, true, true, true, true, true, true, true, false, false, false, false, false, false, false, false, false] rfl rfl (any_of HT_.out (by kernel_rfl)) (fun _ _ _ h => h) (Or.inl ⟨by rfl, ?_⟩) ?_ ?_
                   rotate_left
                   · intro w'
                     go_simp
                     with_reducible rfl
                   rotate_left
                   · simp only [Act.put, List.setIfInBounds_toArray, List.set_cons_zero, List.set_cons_succ, i64_w, i32_w]
                     rfl
                   refine pure_ (i := 10) (N := some 47) (v := ?_) (a' := ?_) #[true, true, true, true, true, true, true, true, true, false, true, false, false, false, false, false, false, false] rfl rfl (any_of HT_.out (by kernel_rfl)) (fun _ _ _ h => h) (Or.inl ⟨by rfl, ?_⟩) ?_ ?_
                   rotate_left
                   · intro w'
                     go_simp
                     with_reducible rfl
                   rotate_left
                   · simp only [Act.put, List.setIfInBounds_toArray, List.set_cons_zero, List.set_cons_succ, i64_w, i32_w]
                     rfl
                   refine pure_ (i := 11) (N := some 48) (v := ?_) (a' := ?_) #[true, true, true, true, true, true, true, true, true, false, true, true, false, false, false, false, false, false] rfl rfl (any_of HT_.out (by kernel_rfl)) (fun _ _ _ h => h) (Or.inl ⟨by rfl, ?_⟩) ?_ ?_
                   rotate_left
                   · intro w'
                     go_simp
                     with_reducible rfl
                   rotate_left
                   · simp only [Act.put, List.setIfInBounds_toArray, List.set_cons_zero, List.set_cons_succ, i64_w, i32_w]
                     rfl
                   refine pure_ (i := 12) (N := some 49) (v := ?_) (a' := ?_) #[true, true, true, true, true, true, true, true, true, false, true, true, true, false, false, false, false, false] rfl rfl (any_of HT_.out (by kernel_rfl)) (fun _ _ _ h => h) (Or.inl ⟨by rfl, ?_⟩) ?_ ?_
                   rotate_left
                   · intro w'
                     go_simp
                     with_reducible rfl
                   rotate_left
                   · simp only [Act.put, List.setIfInBounds_toArray, List.set_cons_zero, List.set_cons_succ, i64_w, i32_w]
                     rfl
                   refine take_ (i := 9) (N := some 46) (v := ?_) (a' := ?_) #[true, true, true, true, true, true, true, true, true, true, true, true, true, false, false, false, false, false] rfl rfl (take_ofW HT_.out HW_.out (by kernel_rfl)) (fun _ _ _ h => h) (Or.inl ⟨by rfl, ?_⟩) hHeld ?_ ?_
                   rotate_left
                   · rintro w' ⟨s0, s1, s2, s3, s4, s5⟩
                     go_simp
                     with_reducible rfl
                   rotate_left
                   · simp only [Act.put, List.setIfInBounds_toArray, List.set_cons_zero, List.set_cons_succ, i64_w, i32_w]
                     rfl
                   refine take_ (i := 13) (N := some 50) (v := ?_) (a' := ?_) #[true, true, true, true, true, true, true, true, true, true, true, true, true, true, false, false, false, false] rfl rfl (take_ofW HT_.out HW_.out (by kernel_rfl)) (fun _ _ _ h => h) (Or.inl ⟨by rfl, ?_⟩) hHeld ?_ ?_
                   rotate_left
                   · rintro w' ⟨s0, s1, s2, s3, s4, s5⟩
                     go_simp
                     with_reducible rfl
                   rotate_left
                   · simp only [Act.put, List.setIfInBounds_toArray, List.set_cons_zero, List.set_cons_succ, i64_w, i32_w]
                     rfl
                   refine pure_ (i := 14) (N := some 51) (v := ?_) (a' := ?_) #[true, true, true, true, true, true, true, true, true, true, true, true, true, true, true, false, false, false] rfl rfl (any_of HT_.out (by kernel_rfl)) (fun _ _ _ h => h) (Or.inl ⟨by rfl, ?_⟩) ?_ ?_
                   rotate_left
                   · intro w'
                     go_simp
                     with_reducible rfl
                   rotate_left
                   · simp only [Act.put, List.setIfInBounds_toArray, List.set_cons_zero, List.set_cons_succ, i64_w, i32_w]
                     rfl
                   refine last_ (i := 15) (N := none) #[true, true, true, true, true, true, true, true, true, true, true, true, true, true, true, true, false, false] rfl rfl (one_of HT_.out (by kernel_rfl)) (by decide) (fun K hK => ?_)
                   refine skip_ (w1 := ?_) (by rfl) rfl ?_ ?_
                   rotate_left
                   · go_simp
                     rfl
                   refine hK.out _ _ ?_
                   clear hK K
                   refine pure_ (i := 16) (N := some 52) (v := ?_) (a' := ?_) #[true, true, true, true, true, true, true, true, true, true, true, true, true, true, true, true, true, false] rfl rfl (any_of HT_.out (by kernel_rfl)) (fun _ _ _ h => h) (Or.inl ⟨by rfl, ?_⟩) ?_ ?_
                   rotate_left
                   · intro w'
                     go_simp
                     with_reducible rfl
                   rotate_left
                   · simp only [Act.put, List.setIfInBounds_toArray, List.set_cons_zero, List.set_cons_succ, i64_w, i32_w]
                     rfl
                   refine last_ (i := 17) (N := none) #[true, true, true, true, true, true, true, true, true, true, true, true, true, true, true, true, true, true] rfl rfl (one_of HT_.out (by kernel_rfl)) (by decide) (fun K hK => ?_)
                   refine skip_ (w1 := ?_) (by rfl) rfl ?_ ?_
                   rotate_left
                   · go_simp
                     rfl
                   refine hK.out _ _ ?_
                   clear hK K
                   refine done_ (done_of HT_.out (by kernel_rfl)) ?_
                   try go_wp2
                   go_roundg k2
                   case measure => have := HK1.out; have := HK2.out; omega
                   case rel => exact ⟨(y107), (ji9), (by first | rfl | (simp; done) | (simp only [← hji9] <;> (first | rfl | simp)) | (simp [*]; done)), H', ⟨by have := HK1.out; have := HK2.out; omega⟩, ⟨by (with_reducible repeat (first | apply Kd.R_alloc | apply Kd.R_drewN | apply Kd.R_drew)); exact HQ21.out⟩, ⟨by repeat (first | (with_reducible first | exact HK.out | apply Kept.alloc | apply Kept.drewN | apply Kept.drew | refine Kept.setCell ?_ HMgo14.out _ | refine Kept.setCell ?_ HMgo14.out _ | refine Kept.setCell ?_ HMgo14.out _ | refine Kept.setCell ?_ HMgo14.out _ | refine Kept.setCell ?_ HMgo14.out _ | refine Kept.setCell ?_ HMgo14.out _) | exact HK.out)⟩, ⟨by repeat (first | (with_reducible first | exact HB.out | apply below_alloc | apply pw_below_drewN | apply below_drew1 | refine below_set ?_ GB14.out | refine below_set ?_ GB14.out | refine below_set ?_ GB14.out | refine below_set ?_ GB14.out | refine below_set ?_ GB14.out | refine below_set ?_ GB14.out) | exact HB.out)⟩⟩
                 · rw [if_neg c13] at H
                   have c13b0 : decide (t103 < 0) = false := decide_eq_false c13
                   clear c13
                   have H' := Aside0.mk H
                   clear H
                   try go_wp2
                   have n0_ := Aside0.mk (Kd.R_drew HO_0.out)
                   have n1_ := Aside0.mk (Kept.drew HK.out)
                   have n2_ := Aside0.mk (below_drew1 HB.out)
                   clear HO_0
                   clear HK
                   clear HB
                   have HO_0 := n0_
                   have HK := n1_
                   have HB := n2_
                   clear n0_ n1_ n2_
                   obtain ⟨Ao23, co23, eo23⟩ := Kd.R_slice HO_0.out
                   (first | subst eo23 | (injection eo23 with f1_ f2_ f3_; have f4_ := f1_.symm; have f5_ := f3_.symm; clear f1_ f2_ f3_; subst f4_; subst f5_))
                   have p101 : 0 ≤ (x9_2 : Int) := of_decide_eq_true (by first | (with_reducible assumption) | assumption)
                   have q101 : x9_2 < (x0_2.length : Int) := of_decide_eq_true (by first | (with_reducible assumption) | assumption)
                   obtain ⟨ad101, e101, hx101_0, hx101_1, hx101_2⟩ := at_T44 (Kd.R_reads' HO_0.out).2.2 x9_2 p101 q101
                   cases e101
                   replace p101 := eq_true p101
                   replace q101 := eq_true q101
                   have p102 : 0 ≤ ((ji9) : Int) := of_decide_eq_true (by first | (with_reducible assumption) | assumption)
                   have q102 : (ji9) < (x0_2.length : Int) := of_decide_eq_true (by first | (with_reducible assumption) | assumption)
                   obtain ⟨ad102, e102, hx102_0, hx102_1, hx102_2⟩ := at_T44 (Kd.R_reads' HO_0.out).2.2 (ji9) p102 q102
                   obtain rfl : ad101 = ad102 := (by injection e102)
                   replace p102 := eq_true p102
                   replace q102 := eq_true q102
                   refine start_ (n := 17) (S := fun w' => w'.cell? (ad101.add ((x9_2).toNat * 3)) = some (.int .i64 ((rd_T44 x0_2 x9_2).f0)) ∧ w'.cell? ⟨(ad101.add ((x9_2).toNat * 3)).block, (ad101.add ((x9_2).toNat * 3)).off + 1, none⟩ = some (.int .u64 ((rd_T44 x0_2 x9_2).f1)) ∧ w'.cell? ⟨(ad101.add ((x9_2).toNat * 3)).block, (ad101.add ((x9_2).toNat * 3)).off + 2, none⟩ = some (.int .u64 ((rd_T44 x0_2 x9_2).f2)) ∧ w'.cell? (ad101.add (((ji9)).toNat * 3)) = some (.int .i64 ((rd_T44 x0_2 (ji9)).f0)) ∧ w'.cell? ⟨(ad101.add (((ji9)).toNat * 3)).block, (ad101.add (((ji9)).toNat * 3)).off + 1, none⟩ = some (.int .u64 ((rd_T44 x0_2 (ji9)).f1)) ∧ w'.cell? ⟨(ad101.add (((ji9)).toNat * 3)).block, (ad101.add (((ji9)).toNat * 3)).off + 2, none⟩ = some (.int .u64 ((rd_T44 x0_2 (ji9)).f2))) (ds := []) #[false, false, false, false, false, false, false, false, false, false, false, false, false, false, false, false, false] (by kernel_rfl) rfl rfl ⟨hx101_0, hx101_1, hx101_2, hx102_0, hx102_1, hx102_2⟩ (fun hHeld => ?_); refine with_tabW cyclic_work_33.tab4 cyclic_work_33.bits4 (fun HT_ HW_ => ?_)
                   generalize wr.drew = w22 at HO_0 HK HB hx101_0 hx101_1 hx101_2 hx102_0 hx102_1 hx102_2 hHeld ⊢
                   refine pure_ (i := 0) (N := some 18) (v := ?_) (a' := ?_) #[true, false, false, false, false, false, false, false, false, false, false, false, false, false, false, false, false] rfl rfl (any_of HT_.out (by kernel_rfl)) (fun _ _ _ h => h) (Or.inl ⟨by rfl, ?_⟩) ?_ ?_
                   rotate_left
                   · intro w'
                     go_simp
                     with_reducible rfl
                   rotate_left
                   · simp only [Act.put, List.setIfInBounds_toArray, List.set_cons_zero, List.set_cons_succ, i64_w, i32_w]
                     rfl
                   refine pure_ (i := 1) (N := some 19) (v := ?_) (a' := ?_) #[true, true, false, false, false, false, false, false, false, false, false, false, false, false, false, false, false] rfl rfl (any_of HT_.out (by kernel_rfl)) (fun _ _ _ h => h) (Or.inl ⟨by rfl, ?_⟩) ?_ ?_
                   rotate_left
                   · intro w'
                     go_simp
                     with_reducible rfl
                   rotate_left
                   · simp only [Act.put, List.setIfInBounds_toArray, List.set_cons_zero, List.set_cons_succ, i64_w, i32_w]
                     rfl
                   refine pure_ (i := 2) (N := some 20) (v := ?_) (a' := ?_) #[true, true, true, false, false, false, false, false, false, false, false, false, false, false, false, false, false] rfl rfl (any_of HT_.out (by kernel_rfl)) (fun _ _ _ h => h) (Or.inl ⟨by rfl, ?_⟩) ?_ ?_
                   rotate_left
                   · intro w'
                     go_simp
                     with_reducible rfl
                   rotate_left
                   · simp only [Act.put, List.setIfInBounds_toArray, List.set_cons_zero, List.set_cons_succ, i64_w, i32_w]
                     rfl
                   refine pure_ (i := 3) (N := some 21) (v := ?_) (a' := ?_) #[true, true, true, true, false, false, false, false, false, false, false, false, false, false, false, false, false] rfl rfl (any_of HT_.out (by kernel_rfl)) (fun _ _ _ h => h) (Or.inl ⟨by rfl, ?_⟩) ?_ ?_
                   rotate_left
                   · intro w'
                     go_simp
                     with_reducible rfl
                   rotate_left
                   · simp only [Act.put, List.setIfInBounds_toArray, List.set_cons_zero, List.set_cons_succ, i64_w, i32_w]
                     rfl
                   refine pure_ (i := 4) (N := some 22) (v := ?_) (a' := ?_) #[true, true, true, true, true, false, false, false, false, false, false, false, false, false, false, false, false] rfl rfl (any_of HT_.out (by kernel_rfl)) (fun _ _ _ h => h) (Or.inl ⟨by rfl, ?_⟩) ?_ ?_
                   rotate_left
                   · intro w'
                     go_simp
                     with_reducible rfl
                   rotate_left
                   · simp only [Act.put, List.setIfInBounds_toArray, List.set_cons_zero, List.set_cons_succ, i64_w, i32_w]
                     rfl
                   refine pure_ (i := 5) (N := some 23) (v := ?_) (a' := ?_) #[true, true, true, true, true, true, false, false, false, false, false, false, false, false, false, false, false] rfl rfl (any_of HT_.out (by kernel_rfl)) (fun _ _ _ h => h) (Or.inl ⟨by rfl, ?_⟩) ?_ ?_
                   rotate_left
                   · intro w'
                     go_simp
                     with_reducible rfl
                   rotate_left
                   · simp only [Act.put, List.setIfInBounds_toArray, List.set_cons_zero, List.set_cons_succ, i64_w, i32_w]
                     rfl
                   refine pure_ (i := 6) (N := some 24) (v := ?_) (a' := ?_) #[true, true, true, true, true, true, true, false, false, false, false, false, false, false, false, false, false] rfl rfl (any_of HT_.out (by kernel_rfl)) (fun _ _ _ h => h) (Or.inl ⟨by rfl, ?_⟩) ?_ ?_
                   rotate_left
                   · intro w'
                     go_simp
                     with_reducible rfl
                   rotate_left
                   · simp only [Act.put, List.setIfInBounds_toArray, List.set_cons_zero, List.set_cons_succ, i64_w, i32_w]
                     rfl
                   refine pure_ (i := 7) (N := some 25) (v := ?_) (a' := ?_) #[true, true, true, true, true, true, true, true, false, false, false, false, false, false, false, false, false] rfl rfl (any_of HT_.out (by kernel_rfl)) (fun _ _ _ h => h) (Or.inl ⟨by rfl, ?_⟩) ?_ ?_
                   rotate_left
                   · intro w'
                     go_simp
                     with_reducible rfl
                   rotate_left
                   · simp only [Act.put, List.setIfInBounds_toArray, List.set_cons_zero, List.set_cons_succ, i64_w, i32_w]
                     rfl
                   refine pure_ (i := 9) (N := some 27) (v := ?_) (a' := ?_) #[true, true, true, true, true, true, true, true, false, true, false, false, false, false, false, false, false] rfl rfl (any_of HT_.out (by kernel_rfl)) (fun _ _ _ h => h) (Or.inl ⟨by rfl, ?_⟩) ?_ ?_
                   rotate_left
                   · intro w'
                     go_simp
                     with_reducible rfl
                   rotate_left
                   · simp only [Act.put, List.setIfInBounds_toArray, List.set_cons_zero, List.set_cons_succ, i64_w, i32_w]
                     rfl
                   refine pure_ (i := 10) (N := some 28) (v := ?_) (a' := ?_) #[true, true, true, true, true, true, true, true, false, true, true, false, false, false, false, false, false] rfl rfl (any_of HT_.out (by kernel_rfl)) (fun _ _ _ h => h) (Or.inl ⟨by rfl, ?_⟩) ?_ ?_
                   rotate_left
                   · intro w'
                     go_simp
                     with_reducible rfl
                   rotate_left
                   · simp only [Act.put, List.setIfInBounds_toArray, List.set_cons_zero, List.set_cons_succ, i64_w, i32_w]
                     rfl
                   refine pure_ (i := 11) (N := some 29) (v := ?_) (a' := ?_) #[true, true, true, true, true, true, true, true, false, true, true, true, false, false, false, false, false] rfl rfl (any_of HT_.out (by kernel_rfl)) (fun _ _ _ h => h) (Or.inl ⟨by rfl, ?_⟩) ?_ ?_
                   rotate_left
                   · intro w'
                     go_simp
                     with_reducible rfl
                   rotate_left
                   · simp only [Act.put, List.setIfInBounds_toArray, List.set_cons_zero, List.set_cons_succ, i64_w, i32_w]
                     rfl
                   refine pure_ (i := 12) (N := some 30) (v := ?_) (a' := ?_) #[true, true, true, true, true, true, true, true, false, true, true, true, true, false, false, false, false] rfl rfl (any_of HT_.out (by kernel_rfl)) (fun _ _ _ h => h) (Or.inl ⟨by rfl, ?_⟩) ?_ ?_
                   rotate_left
                   · intro w'
                     go_simp
                     with_reducible rfl
                   rotate_left
                   · simp only [Act.put, List.setIfInBounds_toArray, List.set_cons_zero, List.set_cons_succ, i64_w, i32_w]
                     rfl
                   refine take_ (i := 8) (N := some 26) (v := ?_) (a' := ?_) #[true, true, true, true, true, true, true, true, true, true, true, true, true, false, false, false, false] rfl rfl (take_ofW HT_.out HW_.out (by kernel_rfl)) (fun _ _ _ h => h) (Or.inl ⟨by rfl, ?_⟩) hHeld ?_ ?_
                   rotate_left
                   · rintro w' ⟨s0, s1, s2, s3, s4, s5⟩
                     go_simp
                     with_reducible rfl
                   rotate_left
                   · simp only [Act.put, List.setIfInBounds_toArray, List.set_cons_zero, List.set_cons_succ, i64_w, i32_w]
                     rfl
                   refine take_ (i := 13) (N := some 31) (v := ?_) (a' := ?_) #[true, true, true, true, true, true, true, true, true, true, true, true, true, true, false, false, false] rfl rfl (take_ofW HT_.out HW_.out (by kernel_rfl)) (fun _ _ _ h => h) (Or.inl ⟨by rfl, ?_⟩) hHeld ?_ ?_
                   rotate_left
                   · rintro w' ⟨s0, s1, s2, s3, s4, s5⟩
                     go_simp
                     with_reducible rfl
                   rotate_left
                   · simp only [Act.put, List.setIfInBounds_toArray, List.set_cons_zero, List.set_cons_succ, i64_w, i32_w]
                     rfl
                   refine one_ (i := 14) (N := some 32) #[true, true, true, true, true, true, true, true, true, true, true, true, true, true, true, false, false] rfl rfl (one_of HT_.out (by kernel_rfl)) (by decide) (fun K hK => ?_)
                   refine Fn.goesF_ HEa3.out #[.agg #[.int .i64 ((rd_T44 x0_2 x9_2).f0), .int .u64 ((rd_T44 x0_2 x9_2).f1), .int .u64 ((rd_T44 x0_2 x9_2).f2)], .agg #[.int .i64 ((rd_T44 x0_2 (ji9)).f0), .int .u64 ((rd_T44 x0_2 (ji9)).f1), .int .u64 ((rd_T44 x0_2 (ji9)).f2)]] (by rfl) rfl rfl (by (try simp only [List.map_toArray, List.map_cons, List.map_nil]); first | done | rfl | (simp only [List.length_drop, List.length_take]; rfl)) (by rfl) ?_
                   refine (HFa3.out _ (by repeat (first | (with_reducible first | exact HK.out | apply Kept.alloc | apply Kept.drewN | apply Kept.drew) | exact HK.out)) (⟨(rd_T44 x0_2 x9_2).f0, (rd_T44 x0_2 x9_2).f1, (rd_T44 x0_2 x9_2).f2⟩ : S44) (⟨(rd_T44 x0_2 (ji9)).f0, (rd_T44 x0_2 (ji9)).f1, (rd_T44 x0_2 (ji9)).f2⟩ : S44) t103 A12.out).mono ?_
                   rintro e w24 ⟨rfl, hb⟩
                   have HS0_ := (hb.cell (World.block_lt_of_cell? _ _ (hHeld.1))).trans (hHeld.1)
                   have HS1_ := (hb.cell (World.block_lt_of_cell? _ _ (hHeld.2.1))).trans (hHeld.2.1)
                   have HS2_ := (hb.cell (World.block_lt_of_cell? _ _ (hHeld.2.2.1))).trans (hHeld.2.2.1)
                   have HS3_ := (hb.cell (World.block_lt_of_cell? _ _ (hHeld.2.2.2.1))).trans (hHeld.2.2.2.1)
                   have HS4_ := (hb.cell (World.block_lt_of_cell? _ _ (hHeld.2.2.2.2.1))).trans (hHeld.2.2.2.2.1)
                   have HS5_ := (hb.cell (World.block_lt_of_cell? _ _ (hHeld.2.2.2.2.2))).trans (hHeld.2.2.2.2.2)
                   refine ⟨_, rfl, ?_⟩
                   have n0_ := Aside0.mk (Kd.R_below (by (with_reducible repeat (first | apply Kd.R_alloc | apply Kd.R_drewN | apply Kd.R_drew)); exact HO_0.out) hb)
                   have n1_ := Aside0.mk (Kept.below (S := (fun k_ => P0_ k_)) (by repeat (first | (with_reducible first | exact HK.out | apply Kept.alloc | apply Kept.drewN | apply Kept.drew) | exact HK.out)) hb)
                   have n2_ := Aside0.mk (below_step (by repeat (first | (with_reducible first | exact HB.out | apply below_alloc | apply pw_below_drewN | apply below_drew1) | exact HB.out)) hb)
                   clear HO_0
                   clear HK
                   clear HB
                   have HO_0 := n0_
                   have HK := n1_
                   have HB := n2_
                   clear n0_ n1_ n2_
                   (try clear hb)
                   refine hK.out _ _ ⟨HS0_, HS1_, HS2_, HS3_, HS4_, HS5_⟩ (fun hHeld => ?_)
                   clear hK K
                   refine norm_ (a' := ?_) ?_ ?_
                   rotate_left
                   · show Act.put _ (some 32) _ = _
                     simp only [Act.put, List.setIfInBounds_toArray, List.set_cons_zero, List.set_cons_succ, i64_w, i32_w]
                     rfl
                   refine pure_ (i := 15) (N := some 33) (v := ?_) (a' := ?_) #[true, true, true, true, true, true, true, true, true, true, true, true, true, true, true, true, false] rfl rfl (any_of HT_.out (by kernel_rfl)) (fun _ _ _ h => h) (Or.inl ⟨by rfl, ?_⟩) ?_ ?_
                   rotate_left
                   · intro w'
                     go_simp
                     with_reducible rfl
                   rotate_left
                   · simp only [Act.put, List.setIfInBounds_toArray, List.set_cons_zero, List.set_cons_succ, i64_w, i32_w]
                     rfl
                   refine pure_ (i := 16) (N := some 34) (v := ?_) (a' := ?_) #[true, true, true, true, true, true, true, true, true, true, true, true, true, true, true, true, true] rfl rfl (any_of HT_.out (by kernel_rfl)) (fun _ _ _ h => h) (Or.inl ⟨by rfl, ?_⟩) ?_ ?_
                   rotate_left
                   · intro w'
                     go_simp
                     with_reducible rfl
                   rotate_left
                   · simp only [Act.put, List.setIfInBounds_toArray, List.set_cons_zero, List.set_cons_succ, i64_w, i32_w]
                     rfl
                   refine done_ (done_of HT_.out (by kernel_rfl)) ?_
                   try go_wp2
                   go_roundg k2
                   case measure => have := HK1.out; have := HK2.out; omega
                   case rel => exact ⟨(x0_2), (wrap64 (x8_1 + 1)), (by first | rfl | (simp; done) | (simp [*]; done)), H', ⟨by have := HK1.out; have := HK2.out; omega⟩, ⟨by (with_reducible repeat (first | apply Kd.R_alloc | apply Kd.R_drewN | apply Kd.R_drew)); exact HO_0.out⟩, ⟨by repeat (first | (with_reducible first | exact HK.out | apply Kept.alloc | apply Kept.drewN | apply Kept.drew) | exact HK.out)⟩, ⟨by repeat (first | (with_reducible first | exact HB.out | apply below_alloc | apply pw_below_drewN | apply below_drew1) | exact HB.out)⟩⟩
               · rw [if_neg c11] at H
                 exact absurd H (by simp)
             · rw [if_neg c10] at H
               exact absurd H (by simp)
           · rw [if_neg c8] at H
             exact absurd H (by simp)
         · rw [if_neg c7] at H
           exact absurd H (by simp)
       · rw [if_neg c6] at H
         have c6b0 : decide (a1 < x9_2) = false := decide_eq_false c6
         clear c6
         have H' := Aside0.mk H
         clear H
         try go_wp2
         have n0_ := Aside0.mk (Kd.R_drew HO_0.out)
         have n1_ := Aside0.mk (Kept.drew HK.out)
         have n2_ := Aside0.mk (below_drew1 HB.out)
         clear HO_0
         clear HK
         clear HB
         have HO_0 := n0_
         have HK := n1_
         have HB := n2_
         clear n0_ n1_ n2_
         refine start_ (n := 17) (S := fun w' => True) (ds := []) #[false, false, false, false, false, false, false, false, false, false, false, false, false, false, false, false, false] (by kernel_rfl) rfl rfl trivial (fun hHeld => ?_); refine with_tabW cyclic_work_33.tab4 cyclic_work_33.bits4 (fun HT_ HW_ => ?_)
         generalize wr.drew = w25 at HO_0 HK HB hHeld ⊢
         refine pure_ (i := 0) (N := some 18) (v := ?_) (a' := ?_) #[true, false, false, false, false, false, false, false, false, false, false, false, false, false, false, false, false] rfl rfl (any_of HT_.out (by kernel_rfl)) (fun _ _ _ h => h) (Or.inl ⟨by rfl, ?_⟩) ?_ ?_
         rotate_left
         · intro w'
           go_simp
           with_reducible rfl
         rotate_left
         · simp only [Act.put, List.setIfInBounds_toArray, List.set_cons_zero, List.set_cons_succ, i64_w, i32_w]
           rfl
         refine pure_ (i := 1) (N := some 19) (v := ?_) (a' := ?_) #[true, true, false, false, false, false, false, false, false, false, false, false, false, false, false, false, false] rfl rfl (any_of HT_.out (by kernel_rfl)) (fun _ _ _ h => h) (Or.inl ⟨by rfl, ?_⟩) ?_ ?_
         rotate_left
         · intro w'
           go_simp
           with_reducible rfl
         rotate_left
         · simp only [Act.put, List.setIfInBounds_toArray, List.set_cons_zero, List.set_cons_succ, i64_w, i32_w]
           rfl
         refine pure_ (i := 2) (N := some 20) (v := ?_) (a' := ?_) #[true, true, true, false, false, false, false, false, false, false, false, false, false, false, false, false, false] rfl rfl (any_of HT_.out (by kernel_rfl)) (fun _ _ _ h => h) (Or.inl ⟨by rfl, ?_⟩) ?_ ?_
         rotate_left
         · intro w'
           go_simp
           with_reducible rfl
         rotate_left
         · simp only [Act.put, List.setIfInBounds_toArray, List.set_cons_zero, List.set_cons_succ, i64_w, i32_w]
           rfl
         refine pure_ (i := 3) (N := some 21) (v := ?_) (a' := ?_) #[true, true, true, true, false, false, false, false, false, false, false, false, false, false, false, false, false] rfl rfl (any_of HT_.out (by kernel_rfl)) (fun _ _ _ h => h) (Or.inl ⟨by rfl, ?_⟩) ?_ ?_
         rotate_left
         · intro w'
           go_simp
           with_reducible rfl
         rotate_left
         · simp only [Act.put, List.setIfInBounds_toArray, List.set_cons_zero, List.set_cons_succ, i64_w, i32_w]
           rfl
         refine pure_ (i := 4) (N := some 22) (v := undef) (a' := ?_) #[true, true, true, true, true, false, false, false, false, false, false, false, false, false, false, false, false] rfl rfl (any_of HT_.out (by kernel_rfl)) (fun _ _ _ h => h) (Or.inr ⟨by rfl, rfl⟩) ?_ ?_
         rotate_left
         · simp only [Act.put, List.setIfInBounds_toArray, List.set_cons_zero, List.set_cons_succ, i64_w, i32_w]
           rfl
         refine pure_ (i := 5) (N := some 23) (v := undef) (a' := ?_) #[true, true, true, true, true, true, false, false, false, false, false, false, false, false, false, false, false] rfl rfl (any_of HT_.out (by kernel_rfl)) (fun _ _ _ h => h) (Or.inr ⟨by rfl, rfl⟩) ?_ ?_
         rotate_left
         · simp only [Act.put, List.setIfInBounds_toArray, List.set_cons_zero, List.set_cons_succ, i64_w, i32_w]
           rfl
         refine pure_ (i := 6) (N := some 24) (v := undef) (a' := ?_) #[true, true, true, true, true, true, true, false, false, false, false, false, false, false, false, false, false] rfl rfl (any_of HT_.out (by kernel_rfl)) (fun _ _ _ h => h) (Or.inr ⟨by rfl, rfl⟩) ?_ ?_
         rotate_left
         · simp only [Act.put, List.setIfInBounds_toArray, List.set_cons_zero, List.set_cons_succ, i64_w, i32_w]
           rfl
         refine pure_ (i := 7) (N := some 25) (v := undef) (a' := ?_) #[true, true, true, true, true, true, true, true, false, false, false, false, false, false, false, false, false] rfl rfl (any_of HT_.out (by kernel_rfl)) (fun _ _ _ h => h) (Or.inr ⟨by rfl, rfl⟩) ?_ ?_
         rotate_left
         · simp only [Act.put, List.setIfInBounds_toArray, List.set_cons_zero, List.set_cons_succ, i64_w, i32_w]
           rfl
         refine pure_ (i := 8) (N := some 26) (v := undef) (a' := ?_) #[true, true, true, true, true, true, true, true, true, false, false, false, false, false, false, false, false] rfl rfl (any_of HT_.out (by kernel_rfl)) (fun _ _ _ h => h) (Or.inr ⟨by rfl, rfl⟩) ?_ ?_
         rotate_left
         · simp only [Act.put, List.setIfInBounds_toArray, List.set_cons_zero, List.set_cons_succ, i64_w, i32_w]
           rfl
         refine pure_ (i := 9) (N := some 27) (v := undef) (a' := ?_) #[true, true, true, true, true, true, true, true, true, true, false, false, false, false, false, false, false] rfl rfl (any_of HT_.out (by kernel_rfl)) (fun _ _ _ h => h) (Or.inr ⟨by rfl, rfl⟩) ?_ ?_
         rotate_left
         · simp only [Act.put, List.setIfInBounds_toArray, List.set_cons_zero, List.set_cons_succ, i64_w, i32_w]
           rfl
         refine pure_ (i := 10) (N := some 28) (v := undef) (a' := ?_) #[true, true, true, true, true, true, true, true, true, true, true, false, false, false, false, false, false] rfl rfl (any_of HT_.out (by kernel_rfl)) (fun _ _ _ h => h) (Or.inr ⟨by rfl, rfl⟩) ?_ ?_
         rotate_left
         · simp only [Act.put, List.setIfInBounds_toArray, List.set_cons_zero, List.set_cons_succ, i64_w, i32_w]
           rfl
         refine pure_ (i := 11) (N := some 29) (v := undef) (a' := ?_) #[true, true, true, true, true, true, true, true, true, true, true, true, false, false, false, false, false] rfl rfl (any_of HT_.out (by kernel_rfl)) (fun _ _ _ h => h) (Or.inr ⟨by rfl, rfl⟩) ?_ ?_
         rotate_left
         · simp only [Act.put, List.setIfInBounds_toArray, List.set_cons_zero, List.set_cons_succ, i64_w, i32_w]
           rfl
         refine pure_ (i := 12) (N := some 30) (v := undef) (a' := ?_) #[true, true, true, true, true, true, true, true, true, true, true, true, true, false, false, false, false] rfl rfl (any_of HT_.out (by kernel_rfl)) (fun _ _ _ h => h) (Or.inr ⟨by rfl, rfl⟩) ?_ ?_
         rotate_left
         · simp only [Act.put, List.setIfInBounds_toArray, List.set_cons_zero, List.set_cons_succ, i64_w, i32_w]
           rfl
         refine pure_ (i := 13) (N := some 31) (v := undef) (a' := ?_) #[true, true, true, true, true, true, true, true, true, true, true, true, true, true, false, false, false] rfl rfl (any_of HT_.out (by kernel_rfl)) (fun _ _ _ h => h) (Or.inr ⟨by rfl, rfl⟩) ?_ ?_
         rotate_left
         · simp only [Act.put, List.setIfInBounds_toArray, List.set_cons_zero, List.set_cons_succ, i64_w, i32_w]
           rfl
         refine pure_ (i := 14) (N := some 32) (v := undef) (a' := ?_) #[true, true, true, true, true, true, true, true, true, true, true, true, true, true, true, false, false] rfl rfl (any_of HT_.out (by kernel_rfl)) (fun _ _ _ h => h) (Or.inr ⟨by rfl, rfl⟩) ?_ ?_
         rotate_left
         · simp only [Act.put, List.setIfInBounds_toArray, List.set_cons_zero, List.set_cons_succ, i64_w, i32_w]
           rfl
         refine pure_ (i := 15) (N := some 33) (v := undef) (a' := ?_) #[true, true, true, true, true, true, true, true, true, true, true, true, true, true, true, true, false] rfl rfl (any_of HT_.out (by kernel_rfl)) (fun _ _ _ h => h) (Or.inr ⟨by rfl, rfl⟩) ?_ ?_
         rotate_left
         · simp only [Act.put, List.setIfInBounds_toArray, List.set_cons_zero, List.set_cons_succ, i64_w, i32_w]
           rfl
         refine pure_ (i := 16) (N := some 34) (v := ?_) (a' := ?_) #[true, true, true, true, true, true, true, true, true, true, true, true, true, true, true, true, true] rfl rfl (any_of HT_.out (by kernel_rfl)) (fun _ _ _ h => h) (Or.inl ⟨by rfl, ?_⟩) ?_ ?_
         rotate_left
         · intro w'
           go_simp
           with_reducible rfl
         rotate_left
         · simp only [Act.put, List.setIfInBounds_toArray, List.set_cons_zero, List.set_cons_succ, i64_w, i32_w]
           rfl
         refine done_ (done_of HT_.out (by kernel_rfl)) ?_
         try go_wp2
         go_roundg k2
         case measure => have := HK1.out; have := HK2.out; omega
         case rel => exact ⟨(x0_2), (wrap64 (x8_1 + 1)), (by first | rfl | (simp; done) | (simp [*]; done)), H', ⟨by have := HK1.out; have := HK2.out; omega⟩, ⟨by (with_reducible repeat (first | apply Kd.R_alloc | apply Kd.R_drewN | apply Kd.R_drew)); exact HO_0.out⟩, ⟨by repeat (first | (with_reducible first | exact HK.out | apply Kept.alloc | apply Kept.drewN | apply Kept.drew) | exact HK.out)⟩, ⟨by repeat (first | (with_reducible first | exact HB.out | apply below_alloc | apply pw_below_drewN | apply below_drew1) | exact HB.out)⟩⟩
   · rw [if_neg c5] at H
     have c5b0 : decide (x8_1 < a2) = false := decide_eq_false c5
     clear c5
     obtain rfl := Option.some.inj H
     go_wp2
     first | go_end0 | ((try simp only [Exit.inBlock, Exit.then]); refine bodyPost_ret (results_none rfl _ _ _) rfl ?_)
     exact ⟨by first | rfl | (simp [errW_none, errW_some] <;> rfl) | (simp [*, errW_none, errW_some] <;> rfl), by (with_reducible repeat (first | apply Kd.R_alloc | apply Kd.R_drewN | apply Kd.R_drew)); exact HO_0.out, by repeat (first | (with_reducible first | exact HB.out | apply below_alloc | apply pw_below_drewN | apply below_drew1) | exact HB.out), by repeat (first | (with_reducible first | exact HK.out | apply Kept.alloc | apply Kept.drewN | apply Kept.drew) | exact HK.out)⟩
end Go.Proofs.Ytindegbbcdloiaa.P
end
section
namespace Go.Proofs.Ytindegbbcdloiaa.P
open Go.RowKit Go.Proofs.YtindegbbcdloiaaW.PrintWords Go.Proofs.YtindegbbcdloiaaW.PrintLast Go.Proofs.YtindegbbcdloiaaW.PrintMore
set_option linter.unusedVariables false
set_option linter.unusedSimpArgs false
noncomputable def cyclic_work_38.l0 : Nat → List (S44) → Int → Int → Int → Int → Option ((List (S44)))
 | 0, _, _, _, _, _ => none
 | k + 1, x0, x1, x2, x3, x10 => if x10 < x3 then (if 0 ≤ (wrap64 (x2 + x10)) then (if (wrap64 (x2 + x10)) < (x0.length : Int) then (if 0 ≤ (wrap64 (x1 + x10)) then (if (wrap64 (x1 + x10)) < (x0.length : Int) then (cyclic_work_38.l0 k ((x0.set ((wrap64 (x1 + x10)) : Int).toNat (⟨(rd_T44 x0 (wrap64 (x2 + x10))).f0, (rd_T44 x0 (wrap64 (x2 + x10))).f1, (rd_T44 x0 (wrap64 (x2 + x10))).f2⟩ : S44)).set ((wrap64 (x2 + x10)) : Int).toNat (⟨(rd_T44 x0 (wrap64 (x1 + x10))).f0, (rd_T44 x0 (wrap64 (x1 + x10))).f1, (rd_T44 x0 (wrap64 (x1 + x10))).f2⟩ : S44)) x1 x2 x3 (wrap64 (x10 + 1))) else (none)) else (none)) else (none)) else (none)) else (some x0)
noncomputable def cyclic_work_38.f (k : Nat) (l0 : List (S44)) (a1 : Int) (a2 : Int) (a3 : Int) (a4 : (S44 → S44 → Option Int)) : Option ((List (S44))) := cyclic_work_38.l0 k l0 a1 a2 a3 0
theorem cyclic_work_38.mono_l : ∀ k, (∀ y0 y1 y2 y3 y4, LeO (cyclic_work_38.l0 k y0 y1 y2 y3 y4) (cyclic_work_38.l0 (k + 1) y0 y1 y2 y3 y4))
 | 0 => fun _ _ _ _ _ r h => by simp [cyclic_work_38.l0] at h
 | k + 1 => by
  have ih0 := cyclic_work_38.mono_l k
  · intro y0 y1 y2 y3 y4
    unfold cyclic_work_38.l0
    repeat' first
    | (with_reducible exact ih0 _ _ _ _ _)
    | (with_reducible exact LeO.refl _)
    | (with_reducible exact LeO.none _)
    | (with_reducible refine LeO.ite ?_ ?_)
    | (with_reducible refine LeO.bind ?_ (fun _ => ?_))
    | exact ih0 _ _ _ _ _
    | exact LeO.none _
    | refine LeO.ite ?_ ?_
    | refine LeO.bind ?_ (fun _ => ?_)
theorem cyclic_work_38.mono : ∀ a0 a1 a2 a3 a4 k, LeO (cyclic_work_38.f k a0 a1 a2 a3 a4) (cyclic_work_38.f (k + 1) a0 a1 a2 a3 a4) := by
 intro a0 a1 a2 a3 a4 k
 have ih0 := cyclic_work_38.mono_l k
 unfold cyclic_work_38.f
 repeat' first
  | (with_reducible exact ih0 _ _ _ _ _)
  | (with_reducible exact LeO.refl _)
  | (with_reducible exact LeO.none _)
  | (with_reducible refine LeO.ite ?_ ?_)
  | (with_reducible refine LeO.bind ?_ (fun _ => ?_))
  | exact ih0 _ _ _ _ _
  | exact LeO.none _
  | refine LeO.ite ?_ ?_
  | refine LeO.bind ?_ (fun _ => ?_)
def cyclic_work_38.T3 : Bool × List (List Nat × List Nat) := (true, [([], []), ([], []), ([], []), ([1, 2], [1, 2]), ([], []), ([], []), ([], []), ([5, 6], [5, 6]), ([], []), ([], []), ([], []), ([9, 10], [9, 10]), ([8, 11], [8, 11]), ([12], [12]), ([], []), ([], []), ([], []), ([15, 16], [15, 16]), ([14, 17], [14, 17]), ([18], [18]), ([0, 3, 0, 1, 2, 3, 8, 9, 10, 11, 12, 13, 19], [0, 3]), ([20, 13, 0, 1, 2, 3, 8, 9, 10, 11, 12, 13, 19], [13, 20]), ([4, 7, 0, 1, 2, 3, 4, 5, 6, 7, 8, 9, 10, 11, 12, 13, 14, 15, 16, 17, 18, 19, 20, 21], [4, 7]), ([22, 19, 21, 0, 1, 2, 3, 4, 5, 6, 7, 8, 9, 10, 11, 12, 13, 14, 15, 16, 17, 18, 19, 20, 21], [19, 22])])
def cyclic_work_38.B3 : List Nat := [0, 0, 0, 6, 0, 0, 0, 96, 0, 0, 0, 1536, 3840, 7936, 0, 0, 0, 98304, 245760, 507904, 1048335, 2096911, 4194303, 8388607]
theorem cyclic_work_38.tab3 : rtab .any (opsOf Try.f38 3) = cyclic_work_38.T3 := by kernel_rfl
theorem cyclic_work_38.bits3 : waitsOk cyclic_work_38.T3.2 cyclic_work_38.B3 = true := by kernel_rfl
set_option maxHeartbeats 8000000 in
set_option maxRecDepth 100000 in
theorem cyclic_work_38.calls (k : Nat) (P0_ : Nat → Prop) (u9000_ : Value) (l0 : List (S44)) (a1 : Int) (a2 : Int) (a3 : Int) (a4 : (S44 → S44 → Option Int)) (fga4 : Nat) (fba4 : Array Value) (r : List (S44)) (w0 w : World) (hB : Below w0.heap.size w0 w) (ho0 : Kd.R k44 44 w w0.heap.size P0_ u9000_ l0) (he4 : ∀ as_ W_, (callFunc fga4 as_).run Try.prog W_ = .ok (.enter fga4 as_) W_) (hf4 : ∀ W_, Kept w W_ (fun k_ => P0_ k_) → ∀ p0_ p1_ r_, a4 p0_ p1_ = some r_ → Calls Try.prog fga4 (#[.agg #[.int .i64 ((p0_).f0), .int .u64 ((p0_).f1), .int .u64 ((p0_).f2)], .agg #[.int .i64 ((p1_).f0), .int .u64 ((p1_).f1), .int .u64 ((p1_).f2)]] ++ fba4) W_ fun e w' => e = .returned (.int .i64 r_) ∧ Below W_.heap.size W_ w') (h : cyclic_work_38.f k l0 a1 a2 a3 a4 = some r) :
 Calls Try.prog 38 #[u9000_, .int .i64 a1, .int .i64 a2, .int .i64 a3, .func (.func fga4) #[] fba4] w fun e w' => e = .returned (.tuple #[]) ∧ Kd.R k44 44 w' w0.heap.size (fun k_ => (P0_ k_ ∨ w.heap.size ≤ k_)) u9000_ r ∧ Below w0.heap.size w0 w' ∧ Kept w w' (fun k_ => P0_ k_) := by
 have hu44 := Try.underlying44
 have HO0 := Aside0.mk (show Kd.R k44 44 w w0.heap.size (fun k_ => (P0_ k_ ∨ w.heap.size ≤ k_)) u9000_ l0 from Kd.R_mono ho0 (fun k_ hk => (.inl hk)))
 have HEa4 := Aside0.mk he4
 have HFa4 := Aside0.mk hf4
 clear he4 hf4
 have HK := Aside0.mk (Kept.refl w (fun k_ => P0_ k_))
 have HW0 := Aside0.mk hB.size
 have HB := Aside0.mk hB
 clear hB
 have H : (cyclic_work_38.l0 k l0 a1 a2 a3 0) = some r := h
 clear h
 have H' := Aside0.mk H
 clear H
 go_enter Try.func38, Try.ntmps38
 go_wp2
 go_loopg [10] k (fun kq v10 w' => ∃ (x0_1 : List (S44)) (x10_1 : Int), v10 = .int .i64 x10_1 ∧ Aside0 (cyclic_work_38.l0 kq x0_1 a1 a2 a3 x10_1 = some r) ∧ Aside0 (kq ≤ k) ∧ Aside0 (Kd.R k44 44 w' w0.heap.size (fun k_ => (P0_ k_ ∨ w.heap.size ≤ k_)) u9000_ x0_1) ∧ Aside0 (Kept w w' (fun k_ => P0_ k_)) ∧ Aside0 (Below w0.heap.size w0 w'))
 case atStart => exact ⟨(l0), (0), (by first | rfl | (simp; done) | (simp [*]; done)), H', ⟨Nat.le_refl _⟩, ⟨by (with_reducible repeat (first | apply Kd.R_alloc | apply Kd.R_drewN | apply Kd.R_drew)); exact HO0.out⟩, ⟨by repeat (first | (with_reducible first | exact HK.out | apply Kept.alloc | apply Kept.drewN | apply Kept.drew) | exact HK.out)⟩, ⟨by repeat (first | (with_reducible first | exact HB.out | apply below_alloc | apply pw_below_drewN | apply below_drew1) | exact HB.out)⟩⟩
 case round =>
  clear H'
  try clear p2
  try clear c3
  obtain ⟨x0_1, x10_1, rfl, HA, HK1, HO_0, HK, HB⟩ := hrel
  cases gk with
  | zero => exact absurd HA.out (by simp [cyclic_work_38.l0])
  | succ k1 =>
   have H := HA.out
   clear HA
   simp only [cyclic_work_38.l0] at H
   by_cases c6 : x10_1 < a3
   · rw [if_pos c6] at H
     have c6b0 : decide (x10_1 < a3) = true := decide_eq_true c6
     clear c6
     obtain ⟨ji7, hji7⟩ : ∃ j_ : Int, (wrap64 (a2 + x10_1)) = j_ := ⟨_, rfl⟩
     replace H : (if 0 ≤ (ji7) then (if (ji7) < (x0_1.length : Int) then (if 0 ≤ (wrap64 (a1 + x10_1)) then (if (wrap64 (a1 + x10_1)) < (x0_1.length : Int) then (cyclic_work_38.l0 k1 ((x0_1.set ((wrap64 (a1 + x10_1)) : Int).toNat (⟨(rd_T44 x0_1 (ji7)).f0, (rd_T44 x0_1 (ji7)).f1, (rd_T44 x0_1 (ji7)).f2⟩ : S44)).set ((ji7) : Int).toNat (⟨(rd_T44 x0_1 (wrap64 (a1 + x10_1))).f0, (rd_T44 x0_1 (wrap64 (a1 + x10_1))).f1, (rd_T44 x0_1 (wrap64 (a1 + x10_1))).f2⟩ : S44)) a1 a2 a3 (wrap64 (x10_1 + 1))) else (none)) else (none)) else (none)) else (none)) = some r := by first | (rw [hji7] at H; exact H) | (simp only [hji7] at H ⊢; exact H)
     have hji7w : (IntKind.i64.wrap (a2 + x10_1)) = ji7 := (i64_w _).trans hji7
     by_cases c8 : 0 ≤ (ji7)
     · rw [if_pos c8] at H
       have c8b0 : decide (0 ≤ (ji7)) = true := decide_eq_true c8
       clear c8
       by_cases c9 : (ji7) < (x0_1.length : Int)
       · rw [if_pos c9] at H
         have c9b0 : decide ((ji7) < (x0_1.length : Int)) = true := decide_eq_true c9
         clear c9
         obtain ⟨ji10, hji10⟩ : ∃ j_ : Int, (wrap64 (a1 + x10_1)) = j_ := ⟨_, rfl⟩
         replace H : (if 0 ≤ (ji10) then (if (ji10) < (x0_1.length : Int) then (cyclic_work_38.l0 k1 ((x0_1.set ((ji10) : Int).toNat (⟨(rd_T44 x0_1 (ji7)).f0, (rd_T44 x0_1 (ji7)).f1, (rd_T44 x0_1 (ji7)).f2⟩ : S44)).set ((ji7) : Int).toNat (⟨(rd_T44 x0_1 (ji10)).f0, (rd_T44 x0_1 (ji10)).f1, (rd_T44 x0_1 (ji10)).f2⟩ : S44)) a1 a2 a3 (wrap64 (x10_1 + 1))) else (none)) else (none)) = some r := by first | (rw [hji10] at H; exact H) | (simp only [hji10] at H ⊢; exact H)
         have hji10w : (IntKind.i64.wrap (a1 + x10_1)) = ji10 := (i64_w _).trans hji10
         by_cases c11 : 0 ≤ (ji10)
         · rw [if_pos c11] at H
           have c11b0 : decide (0 ≤ (ji10)) = true := decide_eq_true c11
           clear c11
           by_cases c12 : (ji10) < (x0_1.length : Int)
           · rw [if_pos c12] at H
             have c12b0 : decide ((ji10) < (x0_1.length : Int)) = true := decide_eq_true c12
             clear c12
             obtain ⟨y103, hy103⟩ : ∃ y_ : List (S44), y_ = (x0_1.set ((ji10) : Int).toNat (⟨(rd_T44 x0_1 (ji7)).f0, (rd_T44 x0_1 (ji7)).f1, (rd_T44 x0_1 (ji7)).f2⟩ : S44)) := ⟨_, rfl⟩
             replace H : (cyclic_work_38.l0 k1 (y103.set ((ji7) : Int).toNat (⟨(rd_T44 x0_1 (ji10)).f0, (rd_T44 x0_1 (ji10)).f1, (rd_T44 x0_1 (ji10)).f2⟩ : S44)) a1 a2 a3 (wrap64 (x10_1 + 1))) = some r := by first | (rw [hy103]; with_reducible exact H) | (have H2_ := (Option.bind_some _ _).symm.trans H; rw [hy103]; with_reducible exact H2_) | (have H2_ := (Option.bind_some _ _).symm.trans H; with_reducible exact H2_) | with_reducible exact H | (rw [hy103]; exact H) | exact H
             have Ny103 := Aside0.mk hy103
             clear hy103
             obtain ⟨y104, hy104⟩ : ∃ y_ : List (S44), y_ = (y103.set ((ji7) : Int).toNat (⟨(rd_T44 x0_1 (ji10)).f0, (rd_T44 x0_1 (ji10)).f1, (rd_T44 x0_1 (ji10)).f2⟩ : S44)) := ⟨_, rfl⟩
             replace H : (cyclic_work_38.l0 k1 y104 a1 a2 a3 (wrap64 (x10_1 + 1))) = some r := by first | (rw [hy104]; with_reducible exact H) | (have H2_ := (Option.bind_some _ _).symm.trans H; rw [hy104]; with_reducible exact H2_) | (have H2_ := (Option.bind_some _ _).symm.trans H; with_reducible exact H2_) | with_reducible exact H | (rw [hy104]; exact H) | exact H
             have Ny104 := Aside0.mk hy104
             clear hy104
             have H' := Aside0.mk H
             clear H
             try go_wp2
             have n0_ := Aside0.mk (Kd.R_drew HO_0.out)
             have n1_ := Aside0.mk (Kept.drew HK.out)
             have n2_ := Aside0.mk (below_drew1 HB.out)
             clear HO_0
             clear HK
             clear HB
             have HO_0 := n0_
             have HK := n1_
             have HB := n2_
             clear n0_ n1_ n2_
             obtain ⟨Ao16, co16, eo16⟩ := Kd.R_slice HO_0.out
             (first | subst eo16 | (injection eo16 with f1_ f2_ f3_; have f4_ := f1_.symm; have f5_ := f3_.symm; clear f1_ f2_ f3_; subst f4_; subst f5_))
             have p101 : 0 ≤ ((ji7) : Int) := of_decide_eq_true (by first | (with_reducible assumption) | assumption)
             have q101 : (ji7) < (x0_1.length : Int) := of_decide_eq_true (by first | (with_reducible assumption) | assumption)
             obtain ⟨ad101, e101, hx101_0, hx101_1, hx101_2⟩ := at_T44 (Kd.R_reads' HO_0.out).2.2 (ji7) p101 q101
             cases e101
             replace p101 := eq_true p101
             replace q101 := eq_true q101
             have p102 : 0 ≤ ((ji10) : Int) := of_decide_eq_true (by first | (with_reducible assumption) | assumption)
             have q102 : (ji10) < (x0_1.length : Int) := of_decide_eq_true (by first | (with_reducible assumption) | assumption)
             obtain ⟨ad102, e102, hx102_0, hx102_1, hx102_2⟩ := at_T44 (Kd.R_reads' HO_0.out).2.2 (ji10) p102 q102
             obtain rfl : ad101 = ad102 := (by injection e102)
             replace p102 := eq_true p102
             replace q102 := eq_true q102
             have p13 : 0 ≤ ((ji10) : Int) := of_decide_eq_true (by first | (with_reducible assumption) | assumption)
             have q13 : ((ji10) : Int) < ((x0_1.length : Int) : Int) := of_decide_eq_true (by first | (with_reducible assumption) | assumption)
             obtain ⟨go13, co13, eo13, gb13, gl13, cl13, HG13⟩ := Kd.R_form HO_0.out (by omega)
             (first | cases eo13 | (injection eo13 with ea_ en_ ec_; (first | subst ea_ | (injection ea_ with ea_; subst ea_)); subst ec_; clear en_))
             have GB13 := Aside0.mk gb13
             have GG13 := Aside0.mk HG13
             clear gb13 gl13 HG13
             have HMgo13 := Aside0.mk (show (P0_ go13 ∨ w.heap.size ≤ go13) from (HO_0.out.1 _ rfl))
             (first | simp only [add_plain] at hx101_0 | skip)
             (first | simp only [add_plain] at hx101_1 | skip)
             (first | simp only [add_plain] at hx101_2 | skip)
             (first | simp only [add_plain] at hx102_0 | skip)
             (first | simp only [add_plain] at hx102_1 | skip)
             (first | simp only [add_plain] at hx102_2 | skip)
             obtain ⟨ce13, hcl13, hM13, hcc13, hfr13⟩ := Kd.R_elem HO_0.out z44 ((ji10) : Int) p13 q13
             obtain rfl := k44_openM hM13
             have hx13_0 : World.cell? _ ⟨go13, ((ji10) : Int).toNat * 3, none⟩ = some (.int .i64 ((rd_T44 x0_1 (ji10)).f0)) := hcc13 0 _ rfl
             have hx13_1 : World.cell? _ ⟨go13, ((ji10) : Int).toNat * 3 + 1, none⟩ = some (.int .u64 ((rd_T44 x0_1 (ji10)).f1)) := hcc13 1 _ rfl
             have hx13_2 : World.cell? _ ⟨go13, ((ji10) : Int).toNat * 3 + 2, none⟩ = some (.int .u64 ((rd_T44 x0_1 (ji10)).f2)) := hcc13 2 _ rfl
             have hf13_0 : World.frozen? _ ⟨go13, ((ji10) : Int).toNat * 3, none⟩ = false := hfr13 0
             have hf13_1 : World.frozen? _ ⟨go13, ((ji10) : Int).toNat * 3 + 1, none⟩ = false := hfr13 1
             have hf13_2 : World.frozen? _ ⟨go13, ((ji10) : Int).toNat * 3 + 2, none⟩ = false := hfr13 2
             clear hcl13 hcc13 hfr13 hM13
             replace p13 := eq_true p13
             replace q13 := eq_true q13
             obtain ⟨ce17, hcl17, hM17, hcc17, hfr17⟩ := Kd.R_elem HO_0.out z44 ((ji10) : Int) (of_decide_eq_true (by first | (with_reducible assumption) | assumption)) (by have h_ : ((ji10) : Int) < ((x0_1.length : Int) : Int) := of_decide_eq_true (by first | (with_reducible assumption) | assumption); first | exact h_ | (have e_ := (Kd.R_reads' HO_0.out).1; omega) | simpa using h_)
             obtain rfl := k44_openM hM17
             have HP17 := (Kd.R_seg HO_0.out ((ji10) : Int) (of_decide_eq_true (by first | (with_reducible assumption) | assumption)) (by have h_ : ((ji10) : Int) < ((x0_1.length : Int) : Int) := of_decide_eq_true (by first | (with_reducible assumption) | assumption); first | exact h_ | (have e_ := (Kd.R_reads' HO_0.out).1; omega) | simpa using h_) (seg := [.int .i64 ((rd_T44 x0_1 (ji7)).f0), .int .u64 ((rd_T44 x0_1 (ji7)).f1), .int .u64 ((rd_T44 x0_1 (ji7)).f2)]) (j := 0) hcl17 hcc17 (show 3 ≤ 3 from by decide) (x' := (⟨(rd_T44 x0_1 (ji7)).f0, (rd_T44 x0_1 (ji7)).f1, (rd_T44 x0_1 (ji7)).f2⟩ : S44)) (k44_mkM _ _ _ (⟨(rd_T44 x0_1 (ji7)).f0, (rd_T44 x0_1 (ji7)).f1, (rd_T44 x0_1 (ji7)).f2⟩ : S44) ) (fun _ hk => hk)).1
             rw [← Ny103.out] at HP17
             have HQ17 := Aside0.mk HP17
             clear hcl17 hcc17 hfr17 hM17 HP17
             have p14 : 0 ≤ ((ji7) : Int) := of_decide_eq_true (by first | (with_reducible assumption) | assumption)
             have q14 : ((ji7) : Int) < ((x0_1.length : Int) : Int) := of_decide_eq_true (by first | (with_reducible assumption) | assumption)
             obtain ⟨ce14, hcl14, hM14, hcc14, hfr14⟩ := Kd.R_elem HQ17.out z44 ((ji7) : Int) p14 q14
             obtain rfl := k44_openM hM14
             have hx14_0 : World.cell? _ ⟨go13, ((ji7) : Int).toNat * 3, none⟩ = some (.int .i64 ((rd_T44 y103 (ji7)).f0)) := hcc14 0 _ rfl
             have hx14_1 : World.cell? _ ⟨go13, ((ji7) : Int).toNat * 3 + 1, none⟩ = some (.int .u64 ((rd_T44 y103 (ji7)).f1)) := hcc14 1 _ rfl
             have hx14_2 : World.cell? _ ⟨go13, ((ji7) : Int).toNat * 3 + 2, none⟩ = some (.int .u64 ((rd_T44 y103 (ji7)).f2)) := hcc14 2 _ rfl
             have hf14_0 : World.frozen? _ ⟨go13, ((ji7) : Int).toNat * 3, none⟩ = false := hfr14 0
             have hf14_1 : World.frozen? _ ⟨go13, ((ji7) : Int).toNat * 3 + 1, none⟩ = false := hfr14 1
             have hf14_2 : World.frozen? _ ⟨go13, ((ji7) : Int).toNat * 3 + 2, none⟩ = false := hfr14 2
             have hx149_0 : World.cell? (World.setCell _ ⟨go13, ((ji10) : Int).toNat * 3, none⟩ (.int .i64 ((rd_T44 x0_1 (ji7)).f0))) ⟨go13, ((ji7) : Int).toNat * 3, none⟩ = some (.int .i64 ((rd_T44 y103 (ji7)).f0)) := (World.cell?_setCell_other _ ⟨go13, ((ji10) : Int).toNat * 3 + 1, none⟩ ⟨go13, ((ji7) : Int).toNat * 3, none⟩ (.int .u64 ((rd_T44 x0_1 (ji7)).f1)) (fun e_ => by injection e_ with e1_ e2_; omega)).symm.trans ((World.cell?_setCell_other _ ⟨go13, ((ji10) : Int).toNat * 3 + 2, none⟩ ⟨go13, ((ji7) : Int).toNat * 3, none⟩ (.int .u64 ((rd_T44 x0_1 (ji7)).f2)) (fun e_ => by injection e_ with e1_ e2_; omega)).symm.trans (hx14_0))
             have hf149_0 := (World.frozen?_setCells _ _ _ _ _).symm.trans hf14_0
             have hx149_1 : World.cell? (World.setCell (World.setCell _ ⟨go13, ((ji10) : Int).toNat * 3, none⟩ (.int .i64 ((rd_T44 x0_1 (ji7)).f0))) ⟨go13, ((ji10) : Int).toNat * 3 + 1, none⟩ (.int .u64 ((rd_T44 x0_1 (ji7)).f1))) ⟨go13, ((ji7) : Int).toNat * 3 + 1, none⟩ = some (.int .u64 ((rd_T44 y103 (ji7)).f1)) := (World.cell?_setCell_other _ ⟨go13, ((ji10) : Int).toNat * 3 + 2, none⟩ ⟨go13, ((ji7) : Int).toNat * 3 + 1, none⟩ (.int .u64 ((rd_T44 x0_1 (ji7)).f2)) (fun e_ => by injection e_ with e1_ e2_; omega)).symm.trans (hx14_1)
             have hf149_1 := (World.frozen?_setCells _ _ _ _ _).symm.trans hf14_1
             have hx149_2 : World.cell? (World.setCell (World.setCell (World.setCell _ ⟨go13, ((ji10) : Int).toNat * 3, none⟩ (.int .i64 ((rd_T44 x0_1 (ji7)).f0))) ⟨go13, ((ji10) : Int).toNat * 3 + 1, none⟩ (.int .u64 ((rd_T44 x0_1 (ji7)).f1))) ⟨go13, ((ji10) : Int).toNat * 3 + 2, none⟩ (.int .u64 ((rd_T44 x0_1 (ji7)).f2))) ⟨go13, ((ji7) : Int).toNat * 3 + 2, none⟩ = some (.int .u64 ((rd_T44 y103 (ji7)).f2)) := hx14_2
             have hf149_2 := (World.frozen?_setCells _ _ _ _ _).symm.trans hf14_2
             clear hcl14 hcc14 hfr14 hM14
             replace p14 := eq_true p14
             replace q14 := eq_true q14
             obtain ⟨ce18, hcl18, hM18, hcc18, hfr18⟩ := Kd.R_elem HQ17.out z44 ((ji7) : Int) (of_decide_eq_true (by first | (with_reducible assumption) | assumption)) (by have h_ : ((ji7) : Int) < ((x0_1.length : Int) : Int) := of_decide_eq_true (by first | (with_reducible assumption) | assumption); first | exact h_ | (have e_ := (Kd.R_reads' HO_0.out).1; omega) | simpa using h_)
             obtain rfl := k44_openM hM18
             have HP18 := (Kd.R_seg HQ17.out ((ji7) : Int) (of_decide_eq_true (by first | (with_reducible assumption) | assumption)) (by have h_ : ((ji7) : Int) < ((x0_1.length : Int) : Int) := of_decide_eq_true (by first | (with_reducible assumption) | assumption); first | exact h_ | (have e_ := (Kd.R_reads' HO_0.out).1; omega) | simpa using h_) (seg := [.int .i64 ((rd_T44 x0_1 (ji10)).f0), .int .u64 ((rd_T44 x0_1 (ji10)).f1), .int .u64 ((rd_T44 x0_1 (ji10)).f2)]) (j := 0) hcl18 hcc18 (show 3 ≤ 3 from by decide) (x' := (⟨(rd_T44 x0_1 (ji10)).f0, (rd_T44 x0_1 (ji10)).f1, (rd_T44 x0_1 (ji10)).f2⟩ : S44)) (k44_mkM _ _ _ (⟨(rd_T44 x0_1 (ji10)).f0, (rd_T44 x0_1 (ji10)).f1, (rd_T44 x0_1 (ji10)).f2⟩ : S44) ) (fun _ hk => hk)).1
             rw [← Ny104.out] at HP18
             have HQ18 := Aside0.mk HP18
             clear hcl18 hcc18 hfr18 hM18 HP18
             refine start_ (n := 24) (S := fun w' => w'.cell? ⟨go13, (((ji7)).toNat * 3), none⟩ = some (.int .i64 ((rd_T44 x0_1 (ji7)).f0)) ∧ w'.cell? ⟨go13, (((ji7)).toNat * 3) + 1, none⟩ = some (.int .u64 ((rd_T44 x0_1 (ji7)).f1)) ∧ w'.cell? ⟨go13, (((ji7)).toNat * 3) + 2, none⟩ = some (.int .u64 ((rd_T44 x0_1 (ji7)).f2)) ∧ w'.cell? ⟨go13, (((ji10)).toNat * 3), none⟩ = some (.int .i64 ((rd_T44 x0_1 (ji10)).f0)) ∧ w'.cell? ⟨go13, (((ji10)).toNat * 3) + 1, none⟩ = some (.int .u64 ((rd_T44 x0_1 (ji10)).f1)) ∧ w'.cell? ⟨go13, (((ji10)).toNat * 3) + 2, none⟩ = some (.int .u64 ((rd_T44 x0_1 (ji10)).f2))) (ds := [21, 23]) #[false, false, false, false, false, false, false, false, false, false, false, false, false, false, false, false, false, false, false, false, false, false, false, false] (by kernel_rfl) rfl rfl ⟨hx101_0, hx101_1, hx101_2, hx102_0, hx102_1, hx102_2⟩ (fun hHeld => ?_); refine with_tabW cyclic_work_38.tab3 cyclic_work_38.bits3 (fun HT_ HW_ => ?_)
             generalize wr.drew = w15 at HO_0 HK HB GG13 HQ17 HQ18 hf13_0 hf13_1 hf13_2 hf149_0 hf149_1 hf149_2 hf14_0 hf14_1 hf14_2 hx101_0 hx101_1 hx101_2 hx102_0 hx102_1 hx102_2 hx13_0 hx13_1 hx13_2 hx149_0 hx149_1 hx149_2 hx14_0 hx14_1 hx14_2 hHeld ⊢
             refine pure_ (i := 0) (N := some 16) (v := ?_) (a' := ?_) #[true, false, false, false, false, false, false, false, false, false, false, false, false, false, false, false, false, false, false, false, false, false, false, false] rfl rfl (any_of HT_.out (by kernel_rfl)) (fun _ _ _ h => h) (Or.inl ⟨by rfl, ?_⟩) ?_ ?_
             rotate_left
             · intro w'
               go_simp
               with_reducible rfl
             rotate_left
             · simp only [Act.put, List.setIfInBounds_toArray, List.set_cons_zero, List.set_cons_succ, i64_w, i32_w]
               rfl
             refine pure_ (i := 1) (N := some 17) (v := ?_) (a' := ?_) #[true, true, false, false, false, false, false, false, false, false, false, false, false, false, false, false, false, false, false, false, false, false, false, false] rfl rfl (any_of HT_.out (by kernel_rfl)) (fun _ _ _ h => h) (Or.inl ⟨by rfl, ?_⟩) ?_ ?_
             rotate_left
             · intro w'
               go_simp
               with_reducible rfl
             rotate_left
             · simp only [Act.put, List.setIfInBounds_toArray, List.set_cons_zero, List.set_cons_succ, i64_w, i32_w]
               rfl
             refine pure_ (i := 2) (N := some 18) (v := ?_) (a' := ?_) #[true, true, true, false, false, false, false, false, false, false, false, false, false, false, false, false, false, false, false, false, false, false, false, false] rfl rfl (any_of HT_.out (by kernel_rfl)) (fun _ _ _ h => h) (Or.inl ⟨by rfl, ?_⟩) ?_ ?_
             rotate_left
             · intro w'
               go_simp
               with_reducible rfl
             rotate_left
             · simp only [Act.put, List.setIfInBounds_toArray, List.set_cons_zero, List.set_cons_succ, i64_w, i32_w]
               rfl
             refine pure_ (i := 3) (N := some 19) (v := ?_) (a' := ?_) #[true, true, true, true, false, false, false, false, false, false, false, false, false, false, false, false, false, false, false, false, false, false, false, false] rfl rfl (any_of HT_.out (by kernel_rfl)) (fun _ _ _ h => h) (Or.inl ⟨by rfl, ?_⟩) ?_ ?_
             rotate_left
             · intro w'
               go_simp
               with_reducible rfl
             rotate_left
             · simp only [Act.put, List.setIfInBounds_toArray, List.set_cons_zero, List.set_cons_succ, i64_w, i32_w]
               rfl
             refine pure_ (i := 4) (N := some 20) (v := ?_) (a' := ?_) #[true, true, true, true, true, false, false, false, false, false, false, false, false, false, false, false, false, false, false, false, false, false, false, false] rfl rfl (any_of HT_.out (by kernel_rfl)) (fun _ _ _ h => h) (Or.inl ⟨by rfl, ?_⟩) ?_ ?_
             rotate_left
             · intro w'
               go_simp
               with_reducible rfl
             rotate_left
             · simp only [Act.put, List.setIfInBounds_toArray, List.set_cons_zero, List.set_cons_succ, i64_w, i32_w]
               rfl
             refine pure_ (i := 5) (N := some 21) (v := ?_) (a' := ?_) #[true, true, true, true, true, true, false, false, false, false, false, false, false, false, false, false, false, false, false, false, false, false, false, false] rfl rfl (any_of HT_.out (by kernel_rfl)) (fun _ _ _ h => h) (Or.inl ⟨by rfl, ?_⟩) ?_ ?_
             rotate_left
             · intro w'
               go_simp
               with_reducible rfl
             rotate_left
             · simp only [Act.put, List.setIfInBounds_toArray, List.set_cons_zero, List.set_cons_succ, i64_w, i32_w]
               rfl
             refine pure_ (i := 6) (N := some 22) (v := ?_) (a' := ?_) #[true, true, true, true, true, true, true, false, false, false, false, false, false, false, false, false, false, false, false, false, false, false, false, false] rfl rfl (any_of HT_.out (by kernel_rfl)) (fun _ _ _ h => h) (Or.inl ⟨by rfl, ?_⟩) ?_ ?_
             rotate_left
             · intro w'
               go_simp
               with_reducible rfl
             rotate_left
             · simp only [Act.put, List.setIfInBounds_toArray, List.set_cons_zero, List.set_cons_succ, i64_w, i32_w]
               rfl
             refine pure_ (i := 7) (N := some 23) (v := ?_) (a' := ?_) #[true, true, true, true, true, true, true, true, false, false, false, false, false, false, false, false, false, false, false, false, false, false, false, false] rfl rfl (any_of HT_.out (by kernel_rfl)) (fun _ _ _ h => h) (Or.inl ⟨by rfl, ?_⟩) ?_ ?_
             rotate_left
             · intro w'
               go_simp
               with_reducible rfl
             rotate_left
             · simp only [Act.put, List.setIfInBounds_toArray, List.set_cons_zero, List.set_cons_succ, i64_w, i32_w]
               rfl
             refine pure_ (i := 8) (N := some 24) (v := ?_) (a' := ?_) #[true, true, true, true, true, true, true, true, true, false, false, false, false, false, false, false, false, false, false, false, false, false, false, false] rfl rfl (any_of HT_.out (by kernel_rfl)) (fun _ _ _ h => h) (Or.inl ⟨by rfl, ?_⟩) ?_ ?_
             rotate_left
             · intro w'
               go_simp
               with_reducible rfl
             rotate_left
             · simp only [Act.put, List.setIfInBounds_toArray, List.set_cons_zero, List.set_cons_succ, i64_w, i32_w]
               rfl
             refine pure_ (i := 9) (N := some 25) (v := ?_) (a' := ?_) #[true, true, true, true, true, true, true, true, true, true, false, false, false, false, false, false, false, false, false, false, false, false, false, false] rfl rfl (any_of HT_.out (by kernel_rfl)) (fun _ _ _ h => h) (Or.inl ⟨by rfl, ?_⟩) ?_ ?_
             rotate_left
             · intro w'
               go_simp
               with_reducible rfl
             rotate_left
             · simp only [Act.put, List.setIfInBounds_toArray, List.set_cons_zero, List.set_cons_succ, i64_w, i32_w]
               rfl
             refine pure_ (i := 10) (N := some 26) (v := ?_) (a' := ?_) #[true, true, true, true, true, true, true, true, true, true, true, false, false, false, false, false, false, false, false, false, false, false, false, false] rfl rfl (any_of HT_.out (by kernel_rfl)) (fun _ _ _ h => h) (Or.inl ⟨by rfl, ?_⟩) ?_ ?_
             rotate_left
             · intro w'
               go_simp
               with_reducible rfl
             rotate_left
             · simp only [Act.put, List.setIfInBounds_toArray, List.set_cons_zero, List.set_cons_succ, i64_w, i32_w]
               rfl
             refine pure_ (i := 11) (N := some 27) (v := ?_) (a' := ?_) #[true, true, true, true, true, true, true, true, true, true, true, true, false, false, false, false, false, false, false, false, false, false, false, false] rfl rfl (any_of HT_.out (by kernel_rfl)) (fun _ _ _ h => h) (Or.inl ⟨by rfl, ?_⟩) ?_ ?_
             rotate_left
             · intro w'
               go_simp
               with_reducible rfl
             rotate_left
             · simp only [Act.put, List.setIfInBounds_toArray, List.set_cons_zero, List.set_cons_succ, i64_w, i32_w]
               rfl
             refine pure_ (i := 12) (N := some 28) (v := ?_) (a' := ?_) #[true, true, true, true, true, true, true, true, true, true, true, true, true, false, false, false, false, false, false, false, false, false, false, false] rfl rfl (any_of HT_.out (by kernel_rfl)) (fun _ _ _ h => h) (Or.inl ⟨by rfl, ?_⟩) ?_ ?_
             rotate_left
             · intro w'
               go_simp
               with_reducible rfl
             rotate_left
             · simp only [Act.put, List.setIfInBounds_toArray, List.set_cons_zero, List.set_cons_succ, i64_w, i32_w]
               rfl
             refine pure_ (i := 14) (N := some 30) (v := ?_) (a' := ?_) #[true, true, true, true, true, true, true, true, true, true, true, true, true, false, true, false, false, false, false, false, false, false, false, false] rfl rfl (any_of HT_.out (by kernel_rfl)) (fun _ _ _ h => h) (Or.inl ⟨by rfl, ?_⟩) ?_ ?_
             rotate_left
             · intro w'
               go_simp
               with_reducible rfl
             rotate_left
             · simp only [Act.put, List.setIfInBounds_toArray, List.set_cons_zero, List.set_cons_succ, i64_w, i32_w]
               rfl
             refine pure_ (i := 15) (N := some 31) (v := ?_) (a' := ?_) #[true, true, true, true, true, true, true, true, true, true, true, true, true, false, true, true, false, false, false, false, false, false, false, false] rfl rfl (any_of HT_.out (by kernel_rfl)) (fun _ _ _ h => h) (Or.inl ⟨by rfl, ?_⟩) ?_ ?_
             rotate_left
             · intro w'
               go_simp
               with_reducible rfl
             rotate_left
             · simp only [Act.put, List.setIfInBounds_toArray, List.set_cons_zero, List.set_cons_succ, i64_w, i32_w]
               rfl
             refine pure_ (i := 16) (N := some 32) (v := ?_) (a' := ?_) #[true, true, true, true, true, true, true, true, true, true, true, true, true, false, true, true, true, false, false, false, false, false, false, false] rfl rfl (any_of HT_.out (by kernel_rfl)) (fun _ _ _ h => h) (Or.inl ⟨by rfl, ?_⟩) ?_ ?_
             rotate_left
             · intro w'
               go_simp
               with_reducible rfl
             rotate_left
             · simp only [Act.put, List.setIfInBounds_toArray, List.set_cons_zero, List.set_cons_succ, i64_w, i32_w]
               rfl
             refine pure_ (i := 17) (N := some 33) (v := ?_) (a' := ?_) #[true, true, true, true, true, true, true, true, true, true, true, true, true, false, true, true, true, true, false, false, false, false, false, false] rfl rfl (any_of HT_.out (by kernel_rfl)) (fun _ _ _ h => h) (Or.inl ⟨by rfl, ?_⟩) ?_ ?_
             rotate_left
             · intro w'
               go_simp
               with_reducible rfl
             rotate_left
             · simp only [Act.put, List.setIfInBounds_toArray, List.set_cons_zero, List.set_cons_succ, i64_w, i32_w]
               rfl
             refine pure_ (i := 18) (N := some 34) (v := ?_) (a' := ?_) #[true, true, true, true, true, true, true, true, true, true, true, true, true, false, true, true, true, true, true, false, false, false, false, false] rfl rfl (any_of HT_.out (by kernel_rfl)) (fun _ _ _ h => h) (Or.inl ⟨by rfl, ?_⟩) ?_ ?_
             rotate_left
             · intro w'
               go_simp
               with_reducible rfl
             rotate_left
             · simp only [Act.put, List.setIfInBounds_toArray, List.set_cons_zero, List.set_cons_succ, i64_w, i32_w]
               rfl
             refine take_ (i := 13) (N := some 29) (v := ?_) (a' := ?_) #[true, true, true, true, true, true, true, true, true, true, true, true, true, true, true, true, true, true, true, false, false, false, false, false] rfl rfl (take_ofW HT_.out HW_.out (by kernel_rfl)) (fun _ _ _ h => h) (Or.inl ⟨by rfl, ?_⟩) hHeld ?_ ?_
             rotate_left
             · rintro w' ⟨s0, s1, s2, s3, s4, s5⟩
               go_simp
               with_reducible rfl
             rotate_left
             · simp only [Act.put, List.setIfInBounds_toArray, List.set_cons_zero, List.set_cons_succ, i64_w, i32_w]
               rfl
             refine take_ (i := 19) (N := some 35) (v := ?_) (a' := ?_) #[true, true, true, true, true, true, true, true, true, true, true, true, true, true, true, true, true, true, true, true, false, false, false, false] rfl rfl (take_ofW HT_.out HW_.out (by kernel_rfl)) (fun _ _ _ h => h) (Or.inl ⟨by rfl, ?_⟩) hHeld ?_ ?_
             rotate_left
             · rintro w' ⟨s0, s1, s2, s3, s4, s5⟩
               go_simp
               with_reducible rfl
             rotate_left
             · simp only [Act.put, List.setIfInBounds_toArray, List.set_cons_zero, List.set_cons_succ, i64_w, i32_w]
               rfl
             refine pure_ (i := 20) (N := some 36) (v := ?_) (a' := ?_) #[true, true, true, true, true, true, true, true, true, true, true, true, true, true, true, true, true, true, true, true, true, false, false, false] rfl rfl (any_of HT_.out (by kernel_rfl)) (fun _ _ _ h => h) (Or.inl ⟨by rfl, ?_⟩) ?_ ?_
             rotate_left
             · intro w'
               go_simp
               with_reducible rfl
             rotate_left
             · simp only [Act.put, List.setIfInBounds_toArray, List.set_cons_zero, List.set_cons_succ, i64_w, i32_w]
               rfl
             refine last_ (i := 21) (N := none) #[true, true, true, true, true, true, true, true, true, true, true, true, true, true, true, true, true, true, true, true, true, true, false, false] rfl rfl (one_of HT_.out (by kernel_rfl)) (by decide) (fun K hK => ?_)
             refine skip_ (w1 := ?_) (by rfl) rfl ?_ ?_
             rotate_left
             · go_simp
               rfl
             refine hK.out _ _ ?_
             clear hK K
             refine pure_ (i := 22) (N := some 37) (v := ?_) (a' := ?_) #[true, true, true, true, true, true, true, true, true, true, true, true, true, true, true, true, true, true, true, true, true, true, true, false] rfl rfl (any_of HT_.out (by kernel_rfl)) (fun _ _ _ h => h) (Or.inl ⟨by rfl, ?_⟩) ?_ ?_
             rotate_left
             · intro w'
               go_simp
               with_reducible rfl
             rotate_left
             · simp only [Act.put, List.setIfInBounds_toArray, List.set_cons_zero, List.set_cons_succ, i64_w, i32_w]
               rfl
             refine last_ (i := 23) (N := none) #[true, true, true, true, true, true, true, true, true, true, true, true, true, true, true, true, true, true, true, true, true, true, true, true] rfl rfl (one_of HT_.out (by kernel_rfl)) (by decide) (fun K hK => ?_)
             refine skip_ (w1 := ?_) (by rfl) rfl ?_ ?_
             rotate_left
             · go_simp
               rfl
             refine hK.out _ _ ?_
             clear hK K
             refine done_ (done_of HT_.out (by kernel_rfl)) ?_
             try go_wp2
             go_roundg k1
             case measure => have := HK1.out; omega
             case rel => exact ⟨(y104), (wrap64 (x10_1 + 1)), (by first | rfl | (simp; done) | (simp [*]; done)), H', ⟨by have := HK1.out; omega⟩, ⟨by (with_reducible repeat (first | apply Kd.R_alloc | apply Kd.R_drewN | apply Kd.R_drew)); exact HQ18.out⟩, ⟨by repeat (first | (with_reducible first | exact HK.out | apply Kept.alloc | apply Kept.drewN | apply Kept.drew | refine Kept.setCell ?_ HMgo13.out _ | refine Kept.setCell ?_ HMgo13.out _ | refine Kept.setCell ?_ HMgo13.out _ | refine Kept.setCell ?_ HMgo13.out _ | refine Kept.setCell ?_ HMgo13.out _ | refine Kept.setCell ?_ HMgo13.out _) | exact HK.out)⟩, ⟨by repeat (first | (with_reducible first | exact HB.out | apply below_alloc | apply pw_below_drewN | apply below_drew1 | refine below_set ?_ GB13.out | refine below_set ?_ GB13.out | refine below_set ?_ GB13.out | refine below_set ?_ GB13.out | refine below_set ?_ GB13.out | refine below_set ?_ GB13.out) | exact HB.out)⟩⟩
           · rw [if_neg c12] at H
             exact absurd H (by simp)
         · rw [if_neg c11] at H
           exact absurd H (by simp)
       · rw [if_neg c9] at H
         exact absurd H (by simp)
     · rw [if_neg c8] at H
       exact absurd H (by simp)
   · rw [if_neg c6] at H
     have c6b0 : decide (x10_1 < a3) = false := decide_eq_false c6
     clear c6
     obtain rfl := Option.some.inj H
     go_wp2
     first | go_end0 | ((try simp only [Exit.inBlock, Exit.then]); refine bodyPost_ret (results_none rfl _ _ _) rfl ?_)
     exact ⟨by first | rfl | (simp [errW_none, errW_some] <;> rfl) | (simp [*, errW_none, errW_some] <;> rfl), by (with_reducible repeat (first | apply Kd.R_alloc | apply Kd.R_drewN | apply Kd.R_drew)); exact HO_0.out, by repeat (first | (with_reducible first | exact HB.out | apply below_alloc | apply pw_below_drewN | apply below_drew1) | exact HB.out), by repeat (first | (with_reducible first | exact HK.out | apply Kept.alloc | apply Kept.drewN | apply Kept.drew) | exact HK.out)⟩
end Go.Proofs.Ytindegbbcdloiaa.P
end
section
namespace Go.Proofs.Ytindegbbcdloiaa.P
open Go.RowKit Go.Proofs.YtindegbbcdloiaaW.PrintWords Go.Proofs.YtindegbbcdloiaaW.PrintLast Go.Proofs.YtindegbbcdloiaaW.PrintMore
set_option linter.unusedVariables false
set_option linter.unusedSimpArgs false
noncomputable def cyclic_work_36.l0 : Nat → List (S44) → Int → (S44 → S44 → Option Int) → Int → Int → Option ((List (S44)))
 | 0, _, _, _, _, _ => none
 | k + 1, x0, x2, x4, x10, x11 => if x10 = x11 then ((cyclic_work_38.f k x0 (wrap64 (x2 - x10)) x2 x10 x4).bind fun t101 => (some t101)) else (if x10 > x11 then ((cyclic_work_38.f k x0 (wrap64 (x2 - x10)) x2 x11 x4).bind fun t102 => (cyclic_work_36.l0 k t102 x2 x4 (wrap64 (x10 - x11)) x11)) else ((cyclic_work_38.f k x0 (wrap64 (x2 - x10)) (wrap64 ((wrap64 (x2 + x11)) - x10)) x10 x4).bind fun t103 => (cyclic_work_36.l0 k t103 x2 x4 x10 (wrap64 (x11 - x10)))))
noncomputable def cyclic_work_36.f (k : Nat) (l0 : List (S44)) (a1 : Int) (a2 : Int) (a3 : Int) (a4 : (S44 → S44 → Option Int)) : Option ((List (S44))) := cyclic_work_36.l0 k l0 a2 a4 (wrap64 (a2 - a1)) (wrap64 (a3 - a2))
theorem cyclic_work_36.mono_l : ∀ k, (∀ y0 y1 y2 y3 y4, LeO (cyclic_work_36.l0 k y0 y1 y2 y3 y4) (cyclic_work_36.l0 (k + 1) y0 y1 y2 y3 y4))
 | 0 => fun _ _ _ _ _ r h => by simp [cyclic_work_36.l0] at h
 | k + 1 => by
  have ih0 := cyclic_work_36.mono_l k
  · intro y0 y1 y2 y3 y4
    unfold cyclic_work_36.l0
    repeat' first
    | (with_reducible exact ih0 _ _ _ _ _)
    | (with_reducible exact cyclic_work_38.mono _ _ _ _ _ _)
    | (with_reducible exact LeO.refl _)
    | (with_reducible exact LeO.none _)
    | (with_reducible refine LeO.ite ?_ ?_)
    | (with_reducible refine LeO.bind ?_ (fun _ => ?_))
    | exact ih0 _ _ _ _ _
    | exact cyclic_work_38.mono _ _ _ _ _ _
    | exact LeO.none _
    | refine LeO.ite ?_ ?_
    | refine LeO.bind ?_ (fun _ => ?_)
theorem cyclic_work_36.mono : ∀ a0 a1 a2 a3 a4 k, LeO (cyclic_work_36.f k a0 a1 a2 a3 a4) (cyclic_work_36.f (k + 1) a0 a1 a2 a3 a4) := by
 intro a0 a1 a2 a3 a4 k
 have ih0 := cyclic_work_36.mono_l k
 unfold cyclic_work_36.f
 repeat' first
  | (with_reducible exact ih0 _ _ _ _ _)
  | (with_reducible exact cyclic_work_38.mono _ _ _ _ _ _)
  | (with_reducible exact LeO.refl _)
  | (with_reducible exact LeO.none _)
  | (with_reducible refine LeO.ite ?_ ?_)
  | (with_reducible refine LeO.bind ?_ (fun _ => ?_))
  | exact ih0 _ _ _ _ _
  | exact cyclic_work_38.mono _ _ _ _ _ _
  | exact LeO.none _
  | refine LeO.ite ?_ ?_
  | refine LeO.bind ?_ (fun _ => ?_)
set_option maxHeartbeats 8000000 in
set_option maxRecDepth 100000 in
theorem cyclic_work_36.calls (k : Nat) (P0_ : Nat → Prop) (u9000_ : Value) (l0 : List (S44)) (a1 : Int) (a2 : Int) (a3 : Int) (a4 : (S44 → S44 → Option Int)) (fga4 : Nat) (fba4 : Array Value) (r : List (S44)) (w0 w : World) (hB : Below w0.heap.size w0 w) (ho0 : Kd.R k44 44 w w0.heap.size P0_ u9000_ l0) (he4 : ∀ as_ W_, (callFunc fga4 as_).run Try.prog W_ = .ok (.enter fga4 as_) W_) (hf4 : ∀ W_, Kept w W_ (fun k_ => P0_ k_) → ∀ p0_ p1_ r_, a4 p0_ p1_ = some r_ → Calls Try.prog fga4 (#[.agg #[.int .i64 ((p0_).f0), .int .u64 ((p0_).f1), .int .u64 ((p0_).f2)], .agg #[.int .i64 ((p1_).f0), .int .u64 ((p1_).f1), .int .u64 ((p1_).f2)]] ++ fba4) W_ fun e w' => e = .returned (.int .i64 r_) ∧ Below W_.heap.size W_ w') (h : cyclic_work_36.f k l0 a1 a2 a3 a4 = some r) :
 Calls Try.prog 36 #[u9000_, .int .i64 a1, .int .i64 a2, .int .i64 a3, .func (.func fga4) #[] fba4] w fun e w' => e = .returned (.tuple #[]) ∧ Kd.R k44 44 w' w0.heap.size (fun k_ => (P0_ k_ ∨ w.heap.size ≤ k_)) u9000_ r ∧ Below w0.heap.size w0 w' ∧ Kept w w' (fun k_ => P0_ k_) := by
 have HO0 := Aside0.mk (show Kd.R k44 44 w w0.heap.size (fun k_ => (P0_ k_ ∨ w.heap.size ≤ k_)) u9000_ l0 from Kd.R_mono ho0 (fun k_ hk => (.inl hk)))
 have HEa4 := Aside0.mk he4
 have HFa4 := Aside0.mk hf4
 clear he4 hf4
 have HK := Aside0.mk (Kept.refl w (fun k_ => P0_ k_))
 have HW0 := Aside0.mk hB.size
 have HB := Aside0.mk hB
 clear hB
 have H : (cyclic_work_36.l0 k l0 a2 a4 (wrap64 (a2 - a1)) (wrap64 (a3 - a2))) = some r := h
 clear h
 have H' := Aside0.mk H
 clear H
 go_enter Try.func36, Try.ntmps36
 go_wp2
 go_loopg [10, 11] k (fun kq v10 v11 w' => ∃ (x0_1 : List (S44)) (x10_1 : Int) (x11_1 : Int), v10 = .int .i64 x10_1 ∧ v11 = .int .i64 x11_1 ∧ Aside0 (cyclic_work_36.l0 kq x0_1 a2 a4 x10_1 x11_1 = some r) ∧ Aside0 (kq ≤ k) ∧ Aside0 (Kd.R k44 44 w' w0.heap.size (fun k_ => (P0_ k_ ∨ w.heap.size ≤ k_)) u9000_ x0_1) ∧ Aside0 (Kept w w' (fun k_ => P0_ k_)) ∧ Aside0 (Below w0.heap.size w0 w'))
 case atStart => exact ⟨(l0), (wrap64 (a2 - a1)), (wrap64 (a3 - a2)), (by first | rfl | (simp; done) | (simp [*]; done)), (by first | rfl | (simp; done) | (simp [*]; done)), H', ⟨Nat.le_refl _⟩, ⟨by (with_reducible repeat (first | apply Kd.R_alloc | apply Kd.R_drewN | apply Kd.R_drew)); exact HO0.out⟩, ⟨by repeat (first | (with_reducible first | exact HK.out | apply Kept.alloc | apply Kept.drewN | apply Kept.drew) | exact HK.out)⟩, ⟨by repeat (first | (with_reducible first | exact HB.out | apply below_alloc | apply pw_below_drewN | apply below_drew1) | exact HB.out)⟩⟩
 case round =>
  clear H'
  try clear p2
  try clear c3
  obtain ⟨x0_1, x10_1, x11_1, rfl, rfl, HA, HK1, HO_0, HK, HB⟩ := hrel
  cases gk with
  | zero => exact absurd HA.out (by simp [cyclic_work_36.l0])
  | succ k1 =>
   have H := HA.out
   clear HA
   simp only [cyclic_work_36.l0] at H
   by_cases c6 : x10_1 = x11_1
   · rw [if_pos c6] at H
     have c6b0 : (x10_1 == x11_1) = true := beq_iff_eq.mpr c6
     have c6b1 : (x10_1 != x11_1) = false := bne_eq_false_iff_eq.mpr c6
     clear c6
     replace H := Option.bind_eq_some_iff.mp H
     obtain ⟨t101, A70, H⟩ := H
     replace H : (some t101) = some r := H
     have A7 := Aside0.mk A70
     clear A70
     obtain rfl := Option.some.inj H
     obtain ⟨Ao8, co8, eo8⟩ := Kd.R_slice HO_0.out
     subst eo8
     go_wp2_with (first | ((with_reducible refine gate_callee (f := 38) rfl ?_); refine goesL_ (some 57) rfl rfl Try.func38 (by kernel_rfl) rfl #[.slice Ao8 x0_1.length co8, .int .i64 (wrap64 (a2 - x10_1)), .int .i64 a2, .int .i64 x10_1, .func (.func fga4) #[] fba4] rfl (by (try simp only [List.map_toArray, List.map_cons, List.map_nil]); first | done | rfl | (simp only [List.length_drop, List.length_take]; rfl)) ?_; (with_reducible refine (cyclic_work_38.calls k1 (fun k_ => some k_ = (.slice Ao8 x0_1.length co8 : Value).ownBlock) (.slice Ao8 x0_1.length co8) x0_1 (wrap64 (a2 - x10_1)) a2 x10_1 a4 fga4 fba4 t101 w0 _ ?side1 ?side2 ?side3 ?side4 A7.out).mono ?_); (case side1 => repeat (first | (with_reducible first | exact HB.out | apply below_alloc | apply pw_below_drewN | apply below_drew1) | exact HB.out)); (case side2 => exact Kd.R_tight rfl HO_0.out); (case side3 => exact HEa4.out); (case side4 => exact fun W_ hk_ => HFa4.out W_ (Kept.then_ (S := (fun k_ => P0_ k_)) (by repeat (first | (with_reducible first | exact HK.out | apply Kept.alloc | apply Kept.drewN | apply Kept.drew) | exact HK.out)) hk_ (fun k_ hs_ => (fun e_ => (HO_0.out.1 k_ e_.symm)) hs_))); rintro e w9 ⟨rfl, hy0, hb, hkp⟩; refine ⟨_, rfl, ?_⟩; have n0_ := Aside0.mk (Kd.R_reok rfl hy0 (fun k_ e_ => HO_0.out.1 k_ e_)); have n1_ := Aside0.mk (Kept.then_ (S := (fun k_ => P0_ k_)) (by repeat (first | (with_reducible first | exact HK.out | apply Kept.alloc | apply Kept.drewN | apply Kept.drew) | exact HK.out)) hkp (fun k_ hs_ => (fun e_ => (HO_0.out.1 k_ e_.symm)) hs_)); have n2_ := Aside0.mk (hb); clear HO_0; clear HK; clear HB; have HO_0 := n0_; have HK := n1_; have HB := n2_; clear n0_ n1_ n2_; (try clear hb); (try clear hkp); (try clear hy0)))
     first | go_end0 | ((try simp only [Exit.inBlock, Exit.then]); refine bodyPost_ret (results_none rfl _ _ _) rfl ?_)
     exact ⟨by first | rfl | (simp [errW_none, errW_some] <;> rfl) | (simp [*, errW_none, errW_some] <;> rfl), by (with_reducible repeat (first | apply Kd.R_alloc | apply Kd.R_drewN | apply Kd.R_drew)); exact HO_0.out, by repeat (first | (with_reducible first | exact HB.out | apply below_alloc | apply pw_below_drewN | apply below_drew1) | exact HB.out), by repeat (first | (with_reducible first | exact HK.out | apply Kept.alloc | apply Kept.drewN | apply Kept.drew) | exact HK.out)⟩
   · rw [if_neg c6] at H
     have c6b0 : (x10_1 == x11_1) = false := beq_eq_false_iff_ne.mpr c6
     have c6b1 : (x10_1 != x11_1) = true := bne_iff_ne.mpr c6
     by_cases c10 : x10_1 > x11_1
     · rw [if_pos c10] at H
       have c10b0 : decide (x11_1 < x10_1) = true := decide_eq_true c10
       clear c10
       replace H := Option.bind_eq_some_iff.mp H
       obtain ⟨t102, A110, H⟩ := H
       replace H : (cyclic_work_36.l0 k1 t102 a2 a4 (wrap64 (x10_1 - x11_1)) x11_1) = some r := H
       have A11 := Aside0.mk A110
       clear A110
       have H' := Aside0.mk H
       clear H
       obtain ⟨Ao12, co12, eo12⟩ := Kd.R_slice HO_0.out
       subst eo12
       go_wp2_with (first | ((with_reducible refine gate_callee (f := 38) rfl ?_); refine goesL_ (some 31) rfl rfl Try.func38 (by kernel_rfl) rfl #[.slice Ao12 x0_1.length co12, .int .i64 (wrap64 (a2 - x10_1)), .int .i64 a2, .int .i64 x11_1, .func (.func fga4) #[] fba4] rfl (by (try simp only [List.map_toArray, List.map_cons, List.map_nil]); first | done | rfl | (simp only [List.length_drop, List.length_take]; rfl)) ?_; (with_reducible refine (cyclic_work_38.calls k1 (fun k_ => some k_ = (.slice Ao12 x0_1.length co12 : Value).ownBlock) (.slice Ao12 x0_1.length co12) x0_1 (wrap64 (a2 - x10_1)) a2 x11_1 a4 fga4 fba4 t102 w0 _ ?side1 ?side2 ?side3 ?side4 A11.out).mono ?_); (case side1 => repeat (first | (with_reducible first | exact HB.out | apply below_alloc | apply pw_below_drewN | apply below_drew1) | exact HB.out)); (case side2 => exact Kd.R_tight rfl HO_0.out); (case side3 => exact HEa4.out); (case side4 => exact fun W_ hk_ => HFa4.out W_ (Kept.then_ (S := (fun k_ => P0_ k_)) (by repeat (first | (with_reducible first | exact HK.out | apply Kept.alloc | apply Kept.drewN | apply Kept.drew) | exact HK.out)) hk_ (fun k_ hs_ => (fun e_ => (HO_0.out.1 k_ e_.symm)) hs_))); rintro e w13 ⟨rfl, hy0, hb, hkp⟩; refine ⟨_, rfl, ?_⟩; have n0_ := Aside0.mk (Kd.R_reok rfl hy0 (fun k_ e_ => HO_0.out.1 k_ e_)); have n1_ := Aside0.mk (Kept.then_ (S := (fun k_ => P0_ k_)) (by repeat (first | (with_reducible first | exact HK.out | apply Kept.alloc | apply Kept.drewN | apply Kept.drew) | exact HK.out)) hkp (fun k_ hs_ => (fun e_ => (HO_0.out.1 k_ e_.symm)) hs_)); have n2_ := Aside0.mk (hb); clear HO_0; clear HK; clear HB; have HO_0 := n0_; have HK := n1_; have HB := n2_; clear n0_ n1_ n2_; (try clear hb); (try clear hkp); (try clear hy0)))
       go_roundg k1
       case measure => have := HK1.out; omega
       case rel => exact ⟨(t102), (wrap64 (x10_1 - x11_1)), (x11_1), (by first | rfl | (simp; done) | (simp [*]; done)), (by first | rfl | (simp; done) | (simp [*]; done)), H', ⟨by have := HK1.out; omega⟩, ⟨by (with_reducible repeat (first | apply Kd.R_alloc | apply Kd.R_drewN | apply Kd.R_drew)); exact HO_0.out⟩, ⟨by repeat (first | (with_reducible first | exact HK.out | apply Kept.alloc | apply Kept.drewN | apply Kept.drew) | exact HK.out)⟩, ⟨by repeat (first | (with_reducible first | exact HB.out | apply below_alloc | apply pw_below_drewN | apply below_drew1) | exact HB.out)⟩⟩
     · rw [if_neg c10] at H
       have c10b0 : decide (x11_1 < x10_1) = false := decide_eq_false c10
       clear c10
       replace H := Option.bind_eq_some_iff.mp H
       obtain ⟨t103, A140, H⟩ := H
       replace H : (cyclic_work_36.l0 k1 t103 a2 a4 x10_1 (wrap64 (x11_1 - x10_1))) = some r := H
       have A14 := Aside0.mk A140
       clear A140
       have H' := Aside0.mk H
       clear H
       obtain ⟨Ao15, co15, eo15⟩ := Kd.R_slice HO_0.out
       subst eo15
       go_wp2_with (first | ((with_reducible refine gate_callee (f := 38) rfl ?_); refine goesL_ (some 46) rfl rfl Try.func38 (by kernel_rfl) rfl #[.slice Ao15 x0_1.length co15, .int .i64 (wrap64 (a2 - x10_1)), .int .i64 (wrap64 ((wrap64 (a2 + x11_1)) - x10_1)), .int .i64 x10_1, .func (.func fga4) #[] fba4] rfl (by (try simp only [List.map_toArray, List.map_cons, List.map_nil]); first | done | rfl | (simp only [List.length_drop, List.length_take]; rfl)) ?_; (with_reducible refine (cyclic_work_38.calls k1 (fun k_ => some k_ = (.slice Ao15 x0_1.length co15 : Value).ownBlock) (.slice Ao15 x0_1.length co15) x0_1 (wrap64 (a2 - x10_1)) (wrap64 ((wrap64 (a2 + x11_1)) - x10_1)) x10_1 a4 fga4 fba4 t103 w0 _ ?side1 ?side2 ?side3 ?side4 A14.out).mono ?_); (case side1 => repeat (first | (with_reducible first | exact HB.out | apply below_alloc | apply pw_below_drewN | apply below_drew1) | exact HB.out)); (case side2 => exact Kd.R_tight rfl HO_0.out); (case side3 => exact HEa4.out); (case side4 => exact fun W_ hk_ => HFa4.out W_ (Kept.then_ (S := (fun k_ => P0_ k_)) (by repeat (first | (with_reducible first | exact HK.out | apply Kept.alloc | apply Kept.drewN | apply Kept.drew) | exact HK.out)) hk_ (fun k_ hs_ => (fun e_ => (HO_0.out.1 k_ e_.symm)) hs_))); rintro e w16 ⟨rfl, hy0, hb, hkp⟩; refine ⟨_, rfl, ?_⟩; have n0_ := Aside0.mk (Kd.R_reok rfl hy0 (fun k_ e_ => HO_0.out.1 k_ e_)); have n1_ := Aside0.mk (Kept.then_ (S := (fun k_ => P0_ k_)) (by repeat (first | (with_reducible first | exact HK.out | apply Kept.alloc | apply Kept.drewN | apply Kept.drew) | exact HK.out)) hkp (fun k_ hs_ => (fun e_ => (HO_0.out.1 k_ e_.symm)) hs_)); have n2_ := Aside0.mk (hb); clear HO_0; clear HK; clear HB; have HO_0 := n0_; have HK := n1_; have HB := n2_; clear n0_ n1_ n2_; (try clear hb); (try clear hkp); (try clear hy0)))
       go_roundg k1
       case measure => have := HK1.out; omega
       case rel => exact ⟨(t103), (x10_1), (wrap64 (x11_1 - x10_1)), (by first | rfl | (simp; done) | (simp [*]; done)), (by first | rfl | (simp; done) | (simp [*]; done)), H', ⟨by have := HK1.out; omega⟩, ⟨by (with_reducible repeat (first | apply Kd.R_alloc | apply Kd.R_drewN | apply Kd.R_drew)); exact HO_0.out⟩, ⟨by repeat (first | (with_reducible first | exact HK.out | apply Kept.alloc | apply Kept.drewN | apply Kept.drew) | exact HK.out)⟩, ⟨by repeat (first | (with_reducible first | exact HB.out | apply below_alloc | apply pw_below_drewN | apply below_drew1) | exact HB.out)⟩⟩
end Go.Proofs.Ytindegbbcdloiaa.P
end
