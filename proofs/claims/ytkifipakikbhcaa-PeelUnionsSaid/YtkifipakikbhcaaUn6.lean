/- Part 6 of the claim: what the law reaches, walked (merged by slim.py out of the texts in wip). -/
import Derived.Test.YtkifipakikbhcaaUn5
import Derived.Below
import Derived.ChangeOld
import Derived.Deep.Matrix
import Derived.Laws.IdiomArrays
import Derived.Lib.SmallJoins
import Derived.OpenShut
import Derived.ProofKit
import Derived.ShutString
import Derived.SizedLaws
import Derived.Test.YtkifipakikbhcaaRows
import Derived.WalkKit
set_option maxHeartbeats 8000000
set_option maxRecDepth 100000
set_option linter.unusedSimpArgs false
set_option linter.unusedVariables false
namespace Go.Proofs.Ytkifipakikbhcaa.Lc
open Go.Proofs.Ytkifipakikbhcaa.Ref Go.Proofs.Ytkifipakikbhcaa.Pg Go.Proofs.Ytkifipakikbhcaa.Pk Go.Proofs.Ytkifipakikbhcaa.Pm Go.Proofs.Ytkifipakikbhcaa.Hand
open Go.RowKit Go.Proofs.YtkifipakikbhcaaW.PrintWords Go.Proofs.YtkifipakikbhcaaW.PrintLast Go.Proofs.YtkifipakikbhcaaW.PrintMore
attribute [local go_sem] max2_int min2_int max_two min_two max_three min_three max_four min_four
mutual
def codewrightlaw44_PeelUnions.j0 : Nat → Bool → Int → List (List Int) → Int → Int → Int → Option (Bool)
 | 0, _, _, _, _, _, _ => none
 | k + 1, x34, x102000, x102001, x103000, x103001, x103002 => if x34 = true then ((codewrightlaw44_awake.f).bind fun t106 => (some t106)) else ((codewrightlaw44_split.f k x103000 x102000).bind fun t107 => ((peel_Greatest.f k x102000 x102001 t107).bind fun bt110 => ((codewrightlaw44_split.f k x103001 x102000).bind fun t114 => ((peel_Greatest.f k x102000 x102001 t114).bind fun bt117 => (if bt110.2 = 0 then (codewrightlaw44_PeelUnions.j1 k bt110.1 bt117.1 (bt117.2 != 0) x102000 x102001 x103000 x103001 x103002) else (codewrightlaw44_PeelUnions.j1 k bt110.1 bt117.1 true x102000 x102001 x103000 x103001 x103002))))))
def codewrightlaw44_PeelUnions.j1 : Nat → List Int → List Int → Bool → Int → List (List Int) → Int → Int → Int → Option (Bool)
 | 0, _, _, _, _, _, _, _, _ => none
 | k + 1, x5, x7, x61, x102000, x102001, x103000, x103001, x103002 => if x61 = true then (some false) else (codewrightlaw44_PeelUnions.l0 k x5 x7 ([] : List Int) ([] : List Int) x102000 0 x102000 x102001 x103000 x103001 x103002)
def codewrightlaw44_PeelUnions.l0 : Nat → List Int → List Int → List Int → List Int → Int → Int → Int → List (List Int) → Int → Int → Int → Option (Bool)
 | 0, _, _, _, _, _, _, _, _, _, _, _ => none
 | k + 1, x5, x7, x9, x10, x63, x64, x102000, x102001, x103000, x103001, x103002 => if x64 < x63 then ((codewrightlaw44_member.f k x5 x64).bind fun t121 => (if t121 = true then (codewrightlaw44_PeelUnions.j3 k x5 x7 x9 x10 x64 x63 x64 true x102000 x102001 x103000 x103001 x103002) else ((codewrightlaw44_member.f k x7 x64).bind fun t122 => (codewrightlaw44_PeelUnions.j3 k x5 x7 x9 x10 x64 x63 x64 t122 x102000 x102001 x103000 x103001 x103002)))) else ((peel_Stopping.f k x102000 x102001 x9).bind fun bt137 => ((peel_Greatest.f k x102000 x102001 x10).bind fun bt139 => ((peel_Stopping.f k x102000 x102001 bt139.1).bind fun bt143 => (if bt137.2 = 0 then (if bt139.2 = 0 then (if bt143.2 = 0 then (if bt137.1 = true then (codewrightlaw44_PeelUnions.j5 k x9 bt139.1 (!bt143.1)) else (codewrightlaw44_PeelUnions.j5 k x9 bt139.1 true)) else (codewrightlaw44_PeelUnions.j5 k x9 bt139.1 true)) else (codewrightlaw44_PeelUnions.j5 k x9 bt139.1 true)) else (codewrightlaw44_PeelUnions.j5 k x9 bt139.1 true)))))
def codewrightlaw44_PeelUnions.j3 : Nat → List Int → List Int → List Int → List Int → Int → Int → Int → Bool → Int → List (List Int) → Int → Int → Int → Option (Bool)
 | 0, _, _, _, _, _, _, _, _, _, _, _, _, _ => none
 | k + 1, x5, x7, x9, x10, x11, x63, x64, x74, x102000, x102001, x103000, x103001, x103002 => if x74 = true then (if x9.length < 17592186044416 then (codewrightlaw44_PeelUnions.j4 k x5 x7 (x9 ++ [x11]) x10 x11 x63 x64 x102000 x102001 x103000 x103001 x103002) else (none)) else (codewrightlaw44_PeelUnions.j4 k x5 x7 x9 x10 x11 x63 x64 x102000 x102001 x103000 x103001 x103002)
def codewrightlaw44_PeelUnions.j4 : Nat → List Int → List Int → List Int → List Int → Int → Int → Int → Int → List (List Int) → Int → Int → Int → Option (Bool)
 | 0, _, _, _, _, _, _, _, _, _, _, _, _ => none
 | k + 1, x5, x7, x9, x10, x11, x63, x64, x102000, x102001, x103000, x103001, x103002 => (codewrightlaw44_member.f k x5 x11).bind fun t126 => (if t126 = true then (if x10.length < 17592186044416 then (codewrightlaw44_PeelUnions.l0 k x5 x7 x9 (x10 ++ [x11]) x63 (wrap64 (x64 + 1)) x102000 x102001 x103000 x103001 x103002) else (none)) else ((codewrightlaw44_member.f k x7 x11).bind fun t130 => (if t130 = true then (if x10.length < 17592186044416 then (codewrightlaw44_PeelUnions.l0 k x5 x7 x9 (x10 ++ [x11]) x63 (wrap64 (x64 + 1)) x102000 x102001 x103000 x103001 x103002) else (none)) else (if 0 ≤ x11 then (if (Go.bits .and .u32 (shr .u32 x103002 x11) 1) = 1 then (if x10.length < 17592186044416 then (codewrightlaw44_PeelUnions.l0 k x5 x7 x9 (x10 ++ [x11]) x63 (wrap64 (x64 + 1)) x102000 x102001 x103000 x103001 x103002) else (none)) else (codewrightlaw44_PeelUnions.l0 k x5 x7 x9 x10 x63 (wrap64 (x64 + 1)) x102000 x102001 x103000 x103001 x103002)) else (none)))))
def codewrightlaw44_PeelUnions.j5 : Nat → List Int → List Int → Bool → Option (Bool)
 | 0, _, _, _ => none
 | k + 1, x9, x13, x135 => if x135 = true then (some false) else (codewrightlaw44_PeelUnions.l1 k x13 x9 (x9.length : Int) 0)
def codewrightlaw44_PeelUnions.l1 : Nat → List Int → List Int → Int → Int → Option (Bool)
 | 0, _, _, _, _ => none
 | k + 1, x13, x136, x137, x138 => if x138 < x137 then (if 0 ≤ x138 then (if x138 < (x136.length : Int) then ((codewrightlaw44_member.f k x13 (rd x136 x138)).bind fun t146 => (if t146 = true then (codewrightlaw44_PeelUnions.l1 k x13 x136 x137 (wrap64 (x138 + 1))) else (some false))) else (none)) else (none)) else (some true)
end
def codewrightlaw44_PeelUnions.f (k : Nat) (a0_0 : Int) (l0_1 : List (List Int)) (a1_0 : Int) (a1_1 : Int) (a1_2 : Int) : Option (Bool) := (codewrightlaw44_awake.f).bind fun t103 => (if t103 = true then ((codewrightref44_Few.f k a0_0 l0_1).bind fun t104 => (if t104 = true then ((codewrightref44_Check.f k a0_0 l0_1).bind fun t105 => (if t105 = 0 then (codewrightlaw44_PeelUnions.j0 k (decide (a0_0 > 20)) a0_0 l0_1 a1_0 a1_1 a1_2) else (codewrightlaw44_PeelUnions.j0 k true a0_0 l0_1 a1_0 a1_1 a1_2))) else (codewrightlaw44_PeelUnions.j0 k true a0_0 l0_1 a1_0 a1_1 a1_2))) else (codewrightlaw44_PeelUnions.j0 k true a0_0 l0_1 a1_0 a1_1 a1_2))
def codewrightlaw44_PeelUnions.T3 : Bool × List (List Nat × List Nat) := (true, [([], []), ([], []), ([1], [1]), ([], []), ([3], [3]), ([2, 4], [2, 4]), ([0, 5, 5], [0, 5]), ([6], [6]), ([7], [7]), ([7], [7]), ([8, 6, 0, 1, 2, 3, 4, 5, 6, 7, 8], [8]), ([9, 10, 0, 1, 2, 3, 4, 5, 6, 7, 8, 9, 10], [9])])
def codewrightlaw44_PeelUnions.B3 : List Nat := [0, 0, 2, 0, 8, 30, 63, 127, 255, 255, 511, 2047]
theorem codewrightlaw44_PeelUnions.tab3 : rtab .any (opsOf Try.f8 3) = codewrightlaw44_PeelUnions.T3 := by kernel_rfl
theorem codewrightlaw44_PeelUnions.bits3 : waitsOk codewrightlaw44_PeelUnions.T3.2 codewrightlaw44_PeelUnions.B3 = true := by kernel_rfl
def codewrightlaw44_PeelUnions.T4 : Bool × List (List Nat × List Nat) := (true, [([], []), ([], []), ([1], [1]), ([], []), ([3], [3]), ([2, 4], [2, 4]), ([0, 5, 5], [0, 5]), ([6], [6]), ([7], [7]), ([7], [7]), ([8, 6, 0, 1, 2, 3, 4, 5, 6, 7, 8], [8]), ([9, 10, 0, 1, 2, 3, 4, 5, 6, 7, 8, 9, 10], [9])])
def codewrightlaw44_PeelUnions.B4 : List Nat := [0, 0, 2, 0, 8, 30, 63, 127, 255, 255, 511, 2047]
theorem codewrightlaw44_PeelUnions.tab4 : rtab .any (opsOf Try.f8 4) = codewrightlaw44_PeelUnions.T4 := by kernel_rfl
theorem codewrightlaw44_PeelUnions.bits4 : waitsOk codewrightlaw44_PeelUnions.T4.2 codewrightlaw44_PeelUnions.B4 = true := by kernel_rfl
theorem codewrightlaw44_PeelUnions.calls (k : Nat) (a0_0 : Int) (A0_1 : Option Addr) (c0_1 : Nat) (l0_1 : List (List Int)) (a1_0 : Int) (a1_1 : Int) (a1_2 : Int) (r : Bool) (hrt : r = true) (w : World) (hr0_1 : Kd.C (Kd.slice 3 (Kd.int .i64)) w A0_1 l0_1.length l0_1) (hc0_1 : l0_1.length ≤ c0_1) (h : codewrightlaw44_PeelUnions.f k a0_0 l0_1 a1_0 a1_1 a1_2 = some r) :
  Calls Try.prog 8 #[.agg #[.int .i64 a0_0, .slice A0_1 l0_1.length c0_1], .agg #[.int .u32 a1_0, .int .u32 a1_1, .int .u32 a1_2]] w fun e w' => e = .returned (.bool r) ∧ Below w.heap.size w w' := by
 have hu31 := Try.underlying31
 have hu58 := Try.underlying58
 have HR0_1 := Aside0.mk hr0_1
 have HC0_1 := Aside0.mk hc0_1
 clear hr0_1 hc0_1
 have HB := Aside0.mk (Below.refl w.heap.size w)
 have H : ((codewrightlaw44_awake.f).bind fun t103 => (if t103 = true then ((codewrightref44_Few.f k a0_0 l0_1).bind fun t104 => (if t104 = true then ((codewrightref44_Check.f k a0_0 l0_1).bind fun t105 => (if t105 = 0 then (codewrightlaw44_PeelUnions.j0 k (decide (a0_0 > 20)) a0_0 l0_1 a1_0 a1_1 a1_2) else (codewrightlaw44_PeelUnions.j0 k true a0_0 l0_1 a1_0 a1_1 a1_2))) else (codewrightlaw44_PeelUnions.j0 k true a0_0 l0_1 a1_0 a1_1 a1_2))) else (codewrightlaw44_PeelUnions.j0 k true a0_0 l0_1 a1_0 a1_1 a1_2))) = some r := h
 clear h
 have HC3 := Aside0.mk H
 clear H
 go_enter Try.func8, Try.ntmps8
 go_upto_region 1 with (first | ((with_reducible refine gate_dst (N := 2) rfl ?_); refine box_event ?hg (N := 2) ?hd (cs := #[.int .i64 a0_0, .slice A0_1 l0_1.length c0_1]) (t := 31) ?hr ?_; (case hd => rfl); (case hg => rfl); (case hr => first | (go_simp; done) | (go_simp; rfl)); intro gb101 hg w4 hbox hb; have n0_ := Aside0.mk (below_step (by repeat (first | (with_reducible first | exact HB.out | apply below_alloc | apply pw_below_drewN | apply below_drew1) | exact HB.out)) hb); have n1_ := Aside0.mk (hbox); have n2_ := Aside0.mk ((by rw [hg]; exact (below_size (by repeat (first | (with_reducible first | exact HB.out | apply below_alloc | apply pw_below_drewN | apply below_drew1) | exact HB.out))) : w.heap.size ≤ gb101)); have n3_ := Aside0.mk ((by rw [hg]; exact (below_size (by repeat (first | (with_reducible first | exact HB.out | apply below_alloc | apply pw_below_drewN | apply below_drew1) | exact HB.out))) : w.heap.size ≤ gb101)); clear HB; have HB := n0_; have BK101 := n1_; have GW101 := n2_; have GE101 := n3_; clear n0_ n1_ n2_ n3_; clear hb hbox hg) | ((with_reducible refine gate_dst (N := 3) rfl ?_); refine box_event ?hg (N := 3) ?hd (cs := #[.int .u32 a1_0, .int .u32 a1_1, .int .u32 a1_2]) (t := 58) ?hr ?_; (case hd => rfl); (case hg => rfl); (case hr => first | (go_simp; done) | (go_simp; rfl)); intro gb102 hg w5 hbox hb; have n0_ := Aside0.mk (blk_below (g := gb101) (o := .cells #[.int .i64 a0_0, .slice A0_1 l0_1.length c0_1] 31 (0, 0)) (by (with_reducible repeat (first | refine blk_drewN ?_ _ | refine blk_drew ?_ | refine blk_alloc ?_ _)); exact BK101.out) hb); have n1_ := Aside0.mk (below_step (by repeat (first | (with_reducible first | exact HB.out | apply below_alloc | apply pw_below_drewN | apply below_drew1 | refine below_set ?_ GE101.out) | exact HB.out)) hb); have n2_ := Aside0.mk (hbox); have n3_ := Aside0.mk ((by rw [hg]; exact (below_size (by repeat (first | (with_reducible first | exact HB.out | apply below_alloc | apply pw_below_drewN | apply below_drew1 | refine below_set ?_ GE101.out) | exact HB.out))) : w.heap.size ≤ gb102)); have n4_ := Aside0.mk ((by rw [hg]; exact (below_size (by repeat (first | (with_reducible first | exact HB.out | apply below_alloc | apply pw_below_drewN | apply below_drew1 | refine below_set ?_ GE101.out) | exact HB.out))) : w.heap.size ≤ gb102)); have n5_ := Aside0.mk ((by rw [hg]; exact Nat.ne_of_lt (blk_lt (g := gb101) (o := .cells #[.int .i64 a0_0, .slice A0_1 l0_1.length c0_1] 31 (0, 0)) (by (with_reducible repeat (first | refine blk_drewN ?_ _ | refine blk_drew ?_ | refine blk_alloc ?_ _)); exact BK101.out)) : gb101 ≠ gb102)); have n6_ := Aside0.mk ((by rw [hg]; exact Nat.ne_of_gt (blk_lt (g := gb101) (o := .cells #[.int .i64 a0_0, .slice A0_1 l0_1.length c0_1] 31 (0, 0)) (by (with_reducible repeat (first | refine blk_drewN ?_ _ | refine blk_drew ?_ | refine blk_alloc ?_ _)); exact BK101.out)) : gb102 ≠ gb101)); clear BK101; clear HB; have BK101 := n0_; have HB := n1_; have BK102 := n2_; have GW102 := n3_; have GE102 := n4_; have NB101_102 := n5_; have NB102_101 := n6_; clear n0_ n1_ n2_ n3_ n4_ n5_ n6_; clear hb hbox hg))
 (try simp only [Act.put, List.setIfInBounds_toArray, List.set_cons_zero, List.set_cons_succ])
 go_cut [34] (fun v34 wc => ∃ (kq : Nat) (x34_2 : Bool), v34 = .bool x34_2 ∧ Aside0 (codewrightlaw44_PeelUnions.j0 kq x34_2 a0_0 l0_1 a1_0 a1_1 a1_2 = some r) ∧ Aside0 (kq ≤ k) ∧ Aside0 (wc.heap[gb101]? = some (.cells #[.int .i64 a0_0, (.slice A0_1 l0_1.length c0_1)] 31 (0, 0))) ∧ Aside0 (wc.heap[gb102]? = some (.cells #[.int .u32 a1_0, .int .u32 a1_1, .int .u32 a1_2] 58 (0, 0))) ∧ Aside0 (Below w.heap.size w wc))
 case first =>
  have H := HC3.out
  clear HC3
  replace H := Option.bind_eq_some_iff.mp H
  obtain ⟨t103, A60, H⟩ := H
  replace H : (if t103 = true then ((codewrightref44_Few.f k a0_0 l0_1).bind fun t104 => (if t104 = true then ((codewrightref44_Check.f k a0_0 l0_1).bind fun t105 => (if t105 = 0 then (codewrightlaw44_PeelUnions.j0 k (decide (a0_0 > 20)) a0_0 l0_1 a1_0 a1_1 a1_2) else (codewrightlaw44_PeelUnions.j0 k true a0_0 l0_1 a1_0 a1_1 a1_2))) else (codewrightlaw44_PeelUnions.j0 k true a0_0 l0_1 a1_0 a1_1 a1_2))) else (codewrightlaw44_PeelUnions.j0 k true a0_0 l0_1 a1_0 a1_1 a1_2)) = some r := H
  have A6 := Aside0.mk A60
  clear A60
  by_cases c7 : t103 = true
  ·subst c7
   have H1 : ((codewrightref44_Few.f k a0_0 l0_1).bind fun t104 => (if t104 = true then ((codewrightref44_Check.f k a0_0 l0_1).bind fun t105 => (if t105 = 0 then (codewrightlaw44_PeelUnions.j0 k (decide (a0_0 > 20)) a0_0 l0_1 a1_0 a1_1 a1_2) else (codewrightlaw44_PeelUnions.j0 k true a0_0 l0_1 a1_0 a1_1 a1_2))) else (codewrightlaw44_PeelUnions.j0 k true a0_0 l0_1 a1_0 a1_1 a1_2))) = some r := by rw [if_pos rfl] at H; exact H
   clear H
   have H := H1
   clear H1
   replace H := Option.bind_eq_some_iff.mp H
   obtain ⟨t104, A80, H⟩ := H
   replace H : (if t104 = true then ((codewrightref44_Check.f k a0_0 l0_1).bind fun t105 => (if t105 = 0 then (codewrightlaw44_PeelUnions.j0 k (decide (a0_0 > 20)) a0_0 l0_1 a1_0 a1_1 a1_2) else (codewrightlaw44_PeelUnions.j0 k true a0_0 l0_1 a1_0 a1_1 a1_2))) else (codewrightlaw44_PeelUnions.j0 k true a0_0 l0_1 a1_0 a1_1 a1_2)) = some r := H
   have A8 := Aside0.mk A80
   clear A80
   by_cases c9 : t104 = true
   ·subst c9
    have H1 : ((codewrightref44_Check.f k a0_0 l0_1).bind fun t105 => (if t105 = 0 then (codewrightlaw44_PeelUnions.j0 k (decide (a0_0 > 20)) a0_0 l0_1 a1_0 a1_1 a1_2) else (codewrightlaw44_PeelUnions.j0 k true a0_0 l0_1 a1_0 a1_1 a1_2))) = some r := by rw [if_pos rfl] at H; exact H
    clear H
    have H := H1
    clear H1
    replace H := Option.bind_eq_some_iff.mp H
    obtain ⟨t105, A100, H⟩ := H
    replace H : (if t105 = 0 then (codewrightlaw44_PeelUnions.j0 k (decide (a0_0 > 20)) a0_0 l0_1 a1_0 a1_1 a1_2) else (codewrightlaw44_PeelUnions.j0 k true a0_0 l0_1 a1_0 a1_1 a1_2)) = some r := H
    have A10 := Aside0.mk A100
    clear A100
    by_cases c11 : t105 = 0
    ·rw [if_pos c11] at H
     have c11b0 : (t105 == 0) = true := beq_iff_eq.mpr c11
     have c11b1 : (t105 != 0) = false := bne_eq_false_iff_eq.mpr c11
     clear c11
     (first | rw [c11b0] | (simp only [i64_w, i32_w]; rw [c11b0]) | skip)
     have H' := Aside0.mk H
     clear H
     go_wp2_with (first | ((with_reducible refine gate_callee (f := 12) rfl ?_); refine goesL_ (some 18) rfl rfl Try.func12 (by kernel_rfl) rfl #[] rfl (by (try simp only [List.map_toArray, List.map_cons, List.map_nil]); first | done | rfl | (simp only [List.length_drop, List.length_take]; rfl)) ?_; (with_reducible refine (codewrightlaw44_awake.calls  true _ A6.out).mono ?_); rintro e w12 ⟨rfl, hb⟩; refine ⟨_, rfl, ?_⟩; have n0_ := Aside0.mk (blk_below (g := gb101) (o := .cells #[.int .i64 a0_0, .slice A0_1 l0_1.length c0_1] 31 (0, 0)) (by (with_reducible repeat (first | refine blk_drewN ?_ _ | refine blk_drew ?_ | refine blk_alloc ?_ _)); exact BK101.out) hb); have n1_ := Aside0.mk (blk_below (g := gb102) (o := .cells #[.int .u32 a1_0, .int .u32 a1_1, .int .u32 a1_2] 58 (0, 0)) (by (with_reducible repeat (first | refine blk_drewN ?_ _ | refine blk_drew ?_ | refine blk_alloc ?_ _)); exact BK102.out) hb); have n2_ := Aside0.mk (below_step (by repeat (first | (with_reducible first | exact HB.out | apply below_alloc | apply pw_below_drewN | apply below_drew1 | refine below_set ?_ GE101.out | refine below_set ?_ GE102.out) | exact HB.out)) hb); clear BK101; clear BK102; clear HB; have BK101 := n0_; have BK102 := n1_; have HB := n2_; clear n0_ n1_ n2_; (try clear hb); (try clear hb2); (try clear hk); (try clear hi); have hnb13 := NB101_102.out; have hnc13 := NB102_101.out; have hcz14_0 : w12.cell? ⟨gb101, 0, none⟩ = some (.int .i64 a0_0) := (blk_cell BK101.out 0).trans rfl; have hcz14_1 : w12.cell? ⟨gb101, 1, none⟩ = some (.slice A0_1 l0_1.length c0_1) := (blk_cell BK101.out 1).trans rfl; have hfz14_0 := blk_frozen BK101.out 0; have hfz14_1 := blk_frozen BK101.out 1) | (go_at_call 17; (with_reducible refine (codewrightref44_Few.calls k a0_0 _ _ l0_1 true _ ?side1 ?side2 A8.out).mono ?_); (case side1 => repeat (first | exact (Kd.C_below HR0_1.out HB.out) | (with_reducible refine Kd.C_alloc ?_ _) | (with_reducible refine Kd.C_drewN ?_ _) | (with_reducible refine Kd.C_drew ?_))); (case side2 => exact HC0_1.out); rintro e w15 ⟨rfl, hb⟩; have n0_ := Aside0.mk (blk_below (g := gb101) (o := .cells #[.int .i64 a0_0, .slice A0_1 l0_1.length c0_1] 31 (0, 0)) (by (with_reducible repeat (first | refine blk_drewN ?_ _ | refine blk_drew ?_ | refine blk_alloc ?_ _)); exact BK101.out) hb); have n1_ := Aside0.mk (blk_below (g := gb102) (o := .cells #[.int .u32 a1_0, .int .u32 a1_1, .int .u32 a1_2] 58 (0, 0)) (by (with_reducible repeat (first | refine blk_drewN ?_ _ | refine blk_drew ?_ | refine blk_alloc ?_ _)); exact BK102.out) hb); have n2_ := Aside0.mk (below_step (by repeat (first | (with_reducible first | exact HB.out | apply below_alloc | apply pw_below_drewN | apply below_drew1 | refine below_set ?_ GE101.out | refine below_set ?_ GE102.out) | exact HB.out)) hb); clear BK101; clear BK102; clear HB; have BK101 := n0_; have BK102 := n1_; have HB := n2_; clear n0_ n1_ n2_; (try clear hb); (try clear hb2); (try clear hk); (try clear hi); have hcz16_0 : w15.cell? ⟨gb101, 0, none⟩ = some (.int .i64 a0_0) := (blk_cell BK101.out 0).trans rfl; have hcz16_1 : w15.cell? ⟨gb101, 1, none⟩ = some (.slice A0_1 l0_1.length c0_1) := (blk_cell BK101.out 1).trans rfl; have hfz16_0 := blk_frozen BK101.out 0; have hfz16_1 := blk_frozen BK101.out 1) | (go_at_call 23; (with_reducible refine (codewrightref44_Check.calls k a0_0 _ _ l0_1 t105 _ ?side1 ?side2 A10.out).mono ?_); (case side1 => repeat (first | exact (Kd.C_below HR0_1.out HB.out) | (with_reducible refine Kd.C_alloc ?_ _) | (with_reducible refine Kd.C_drewN ?_ _) | (with_reducible refine Kd.C_drew ?_))); (case side2 => exact HC0_1.out); rintro e w17 ⟨rfl, hb⟩; have n0_ := Aside0.mk (blk_below (g := gb101) (o := .cells #[.int .i64 a0_0, .slice A0_1 l0_1.length c0_1] 31 (0, 0)) (by (with_reducible repeat (first | refine blk_drewN ?_ _ | refine blk_drew ?_ | refine blk_alloc ?_ _)); exact BK101.out) hb); have n1_ := Aside0.mk (blk_below (g := gb102) (o := .cells #[.int .u32 a1_0, .int .u32 a1_1, .int .u32 a1_2] 58 (0, 0)) (by (with_reducible repeat (first | refine blk_drewN ?_ _ | refine blk_drew ?_ | refine blk_alloc ?_ _)); exact BK102.out) hb); have n2_ := Aside0.mk (below_step (by repeat (first | (with_reducible first | exact HB.out | apply below_alloc | apply pw_below_drewN | apply below_drew1 | refine below_set ?_ GE101.out | refine below_set ?_ GE102.out) | exact HB.out)) hb); clear BK101; clear BK102; clear HB; have BK101 := n0_; have BK102 := n1_; have HB := n2_; clear n0_ n1_ n2_; (try clear hb); (try clear hb2); (try clear hk); (try clear hi); have hcz18_0 : w17.cell? ⟨gb101, 0, none⟩ = some (.int .i64 a0_0) := (blk_cell BK101.out 0).trans rfl; have hcz18_1 : w17.cell? ⟨gb101, 1, none⟩ = some (.slice A0_1 l0_1.length c0_1) := (blk_cell BK101.out 1).trans rfl; have hfz18_0 := blk_frozen BK101.out 0; have hfz18_1 := blk_frozen BK101.out 1))
     go_meet
     case rel => exact ⟨_, (decide (a0_0 > 20)), (by first | rfl | (simp; done) | (simp [*]; done)), H', ⟨by first | omega | exact Nat.le_refl _⟩, ⟨by (with_reducible repeat (first | refine blk_drewN ?_ _ | refine blk_drew ?_ | refine blk_alloc ?_ _)); exact BK101.out⟩, ⟨by (with_reducible repeat (first | refine blk_drewN ?_ _ | refine blk_drew ?_ | refine blk_alloc ?_ _)); exact BK102.out⟩, ⟨by repeat (first | (with_reducible first | exact HB.out | apply below_alloc | apply pw_below_drewN | apply below_drew1 | refine below_set ?_ GE101.out | refine below_set ?_ GE102.out) | exact HB.out)⟩⟩
    ·rw [if_neg c11] at H
     have c11b0 : (t105 == 0) = false := beq_eq_false_iff_ne.mpr c11
     have c11b1 : (t105 != 0) = true := bne_iff_ne.mpr c11
     (first | rw [c11b0] | (simp only [i64_w, i32_w]; rw [c11b0]) | skip)
     have H' := Aside0.mk H
     clear H
     go_wp2_with (first | ((with_reducible refine gate_callee (f := 12) rfl ?_); refine goesL_ (some 18) rfl rfl Try.func12 (by kernel_rfl) rfl #[] rfl (by (try simp only [List.map_toArray, List.map_cons, List.map_nil]); first | done | rfl | (simp only [List.length_drop, List.length_take]; rfl)) ?_; (with_reducible refine (codewrightlaw44_awake.calls  true _ A6.out).mono ?_); rintro e w19 ⟨rfl, hb⟩; refine ⟨_, rfl, ?_⟩; have n0_ := Aside0.mk (blk_below (g := gb101) (o := .cells #[.int .i64 a0_0, .slice A0_1 l0_1.length c0_1] 31 (0, 0)) (by (with_reducible repeat (first | refine blk_drewN ?_ _ | refine blk_drew ?_ | refine blk_alloc ?_ _)); exact BK101.out) hb); have n1_ := Aside0.mk (blk_below (g := gb102) (o := .cells #[.int .u32 a1_0, .int .u32 a1_1, .int .u32 a1_2] 58 (0, 0)) (by (with_reducible repeat (first | refine blk_drewN ?_ _ | refine blk_drew ?_ | refine blk_alloc ?_ _)); exact BK102.out) hb); have n2_ := Aside0.mk (below_step (by repeat (first | (with_reducible first | exact HB.out | apply below_alloc | apply pw_below_drewN | apply below_drew1 | refine below_set ?_ GE101.out | refine below_set ?_ GE102.out) | exact HB.out)) hb); clear BK101; clear BK102; clear HB; have BK101 := n0_; have BK102 := n1_; have HB := n2_; clear n0_ n1_ n2_; (try clear hb); (try clear hb2); (try clear hk); (try clear hi); have hnb20 := NB101_102.out; have hnc20 := NB102_101.out; have hcz21_0 : w19.cell? ⟨gb101, 0, none⟩ = some (.int .i64 a0_0) := (blk_cell BK101.out 0).trans rfl; have hcz21_1 : w19.cell? ⟨gb101, 1, none⟩ = some (.slice A0_1 l0_1.length c0_1) := (blk_cell BK101.out 1).trans rfl; have hfz21_0 := blk_frozen BK101.out 0; have hfz21_1 := blk_frozen BK101.out 1) | (go_at_call 17; (with_reducible refine (codewrightref44_Few.calls k a0_0 _ _ l0_1 true _ ?side1 ?side2 A8.out).mono ?_); (case side1 => repeat (first | exact (Kd.C_below HR0_1.out HB.out) | (with_reducible refine Kd.C_alloc ?_ _) | (with_reducible refine Kd.C_drewN ?_ _) | (with_reducible refine Kd.C_drew ?_))); (case side2 => exact HC0_1.out); rintro e w22 ⟨rfl, hb⟩; have n0_ := Aside0.mk (blk_below (g := gb101) (o := .cells #[.int .i64 a0_0, .slice A0_1 l0_1.length c0_1] 31 (0, 0)) (by (with_reducible repeat (first | refine blk_drewN ?_ _ | refine blk_drew ?_ | refine blk_alloc ?_ _)); exact BK101.out) hb); have n1_ := Aside0.mk (blk_below (g := gb102) (o := .cells #[.int .u32 a1_0, .int .u32 a1_1, .int .u32 a1_2] 58 (0, 0)) (by (with_reducible repeat (first | refine blk_drewN ?_ _ | refine blk_drew ?_ | refine blk_alloc ?_ _)); exact BK102.out) hb); have n2_ := Aside0.mk (below_step (by repeat (first | (with_reducible first | exact HB.out | apply below_alloc | apply pw_below_drewN | apply below_drew1 | refine below_set ?_ GE101.out | refine below_set ?_ GE102.out) | exact HB.out)) hb); clear BK101; clear BK102; clear HB; have BK101 := n0_; have BK102 := n1_; have HB := n2_; clear n0_ n1_ n2_; (try clear hb); (try clear hb2); (try clear hk); (try clear hi); have hcz23_0 : w22.cell? ⟨gb101, 0, none⟩ = some (.int .i64 a0_0) := (blk_cell BK101.out 0).trans rfl; have hcz23_1 : w22.cell? ⟨gb101, 1, none⟩ = some (.slice A0_1 l0_1.length c0_1) := (blk_cell BK101.out 1).trans rfl; have hfz23_0 := blk_frozen BK101.out 0; have hfz23_1 := blk_frozen BK101.out 1) | (go_at_call 23; (with_reducible refine (codewrightref44_Check.calls k a0_0 _ _ l0_1 t105 _ ?side1 ?side2 A10.out).mono ?_); (case side1 => repeat (first | exact (Kd.C_below HR0_1.out HB.out) | (with_reducible refine Kd.C_alloc ?_ _) | (with_reducible refine Kd.C_drewN ?_ _) | (with_reducible refine Kd.C_drew ?_))); (case side2 => exact HC0_1.out); rintro e w24 ⟨rfl, hb⟩; have n0_ := Aside0.mk (blk_below (g := gb101) (o := .cells #[.int .i64 a0_0, .slice A0_1 l0_1.length c0_1] 31 (0, 0)) (by (with_reducible repeat (first | refine blk_drewN ?_ _ | refine blk_drew ?_ | refine blk_alloc ?_ _)); exact BK101.out) hb); have n1_ := Aside0.mk (blk_below (g := gb102) (o := .cells #[.int .u32 a1_0, .int .u32 a1_1, .int .u32 a1_2] 58 (0, 0)) (by (with_reducible repeat (first | refine blk_drewN ?_ _ | refine blk_drew ?_ | refine blk_alloc ?_ _)); exact BK102.out) hb); have n2_ := Aside0.mk (below_step (by repeat (first | (with_reducible first | exact HB.out | apply below_alloc | apply pw_below_drewN | apply below_drew1 | refine below_set ?_ GE101.out | refine below_set ?_ GE102.out) | exact HB.out)) hb); clear BK101; clear BK102; clear HB; have BK101 := n0_; have BK102 := n1_; have HB := n2_; clear n0_ n1_ n2_; (try clear hb); (try clear hb2); (try clear hk); (try clear hi)))
     go_meet
     case rel => exact ⟨_, (true), (by first | rfl | (simp; done) | (simp [*]; done)), H', ⟨by first | omega | exact Nat.le_refl _⟩, ⟨by (with_reducible repeat (first | refine blk_drewN ?_ _ | refine blk_drew ?_ | refine blk_alloc ?_ _)); exact BK101.out⟩, ⟨by (with_reducible repeat (first | refine blk_drewN ?_ _ | refine blk_drew ?_ | refine blk_alloc ?_ _)); exact BK102.out⟩, ⟨by repeat (first | (with_reducible first | exact HB.out | apply below_alloc | apply pw_below_drewN | apply below_drew1 | refine below_set ?_ GE101.out | refine below_set ?_ GE102.out) | exact HB.out)⟩⟩
   ·replace c9 := Bool.eq_false_iff.mpr c9
    subst c9
    have H1 : (codewrightlaw44_PeelUnions.j0 k true a0_0 l0_1 a1_0 a1_1 a1_2) = some r := by rw [if_neg (show ¬ (false = true) by decide)] at H; exact H
    clear H
    have H := H1
    clear H1
    have H' := Aside0.mk H
    clear H
    go_wp2_with (first | ((with_reducible refine gate_callee (f := 12) rfl ?_); refine goesL_ (some 18) rfl rfl Try.func12 (by kernel_rfl) rfl #[] rfl (by (try simp only [List.map_toArray, List.map_cons, List.map_nil]); first | done | rfl | (simp only [List.length_drop, List.length_take]; rfl)) ?_; (with_reducible refine (codewrightlaw44_awake.calls  true _ A6.out).mono ?_); rintro e w25 ⟨rfl, hb⟩; refine ⟨_, rfl, ?_⟩; have n0_ := Aside0.mk (blk_below (g := gb101) (o := .cells #[.int .i64 a0_0, .slice A0_1 l0_1.length c0_1] 31 (0, 0)) (by (with_reducible repeat (first | refine blk_drewN ?_ _ | refine blk_drew ?_ | refine blk_alloc ?_ _)); exact BK101.out) hb); have n1_ := Aside0.mk (blk_below (g := gb102) (o := .cells #[.int .u32 a1_0, .int .u32 a1_1, .int .u32 a1_2] 58 (0, 0)) (by (with_reducible repeat (first | refine blk_drewN ?_ _ | refine blk_drew ?_ | refine blk_alloc ?_ _)); exact BK102.out) hb); have n2_ := Aside0.mk (below_step (by repeat (first | (with_reducible first | exact HB.out | apply below_alloc | apply pw_below_drewN | apply below_drew1 | refine below_set ?_ GE101.out | refine below_set ?_ GE102.out) | exact HB.out)) hb); clear BK101; clear BK102; clear HB; have BK101 := n0_; have BK102 := n1_; have HB := n2_; clear n0_ n1_ n2_; (try clear hb); (try clear hb2); (try clear hk); (try clear hi); have hnb26 := NB101_102.out; have hnc26 := NB102_101.out; have hcz27_0 : w25.cell? ⟨gb101, 0, none⟩ = some (.int .i64 a0_0) := (blk_cell BK101.out 0).trans rfl; have hcz27_1 : w25.cell? ⟨gb101, 1, none⟩ = some (.slice A0_1 l0_1.length c0_1) := (blk_cell BK101.out 1).trans rfl; have hfz27_0 := blk_frozen BK101.out 0; have hfz27_1 := blk_frozen BK101.out 1) | (go_at_call 17; (with_reducible refine (codewrightref44_Few.calls k a0_0 _ _ l0_1 false _ ?side1 ?side2 A8.out).mono ?_); (case side1 => repeat (first | exact (Kd.C_below HR0_1.out HB.out) | (with_reducible refine Kd.C_alloc ?_ _) | (with_reducible refine Kd.C_drewN ?_ _) | (with_reducible refine Kd.C_drew ?_))); (case side2 => exact HC0_1.out); rintro e w28 ⟨rfl, hb⟩; have n0_ := Aside0.mk (blk_below (g := gb101) (o := .cells #[.int .i64 a0_0, .slice A0_1 l0_1.length c0_1] 31 (0, 0)) (by (with_reducible repeat (first | refine blk_drewN ?_ _ | refine blk_drew ?_ | refine blk_alloc ?_ _)); exact BK101.out) hb); have n1_ := Aside0.mk (blk_below (g := gb102) (o := .cells #[.int .u32 a1_0, .int .u32 a1_1, .int .u32 a1_2] 58 (0, 0)) (by (with_reducible repeat (first | refine blk_drewN ?_ _ | refine blk_drew ?_ | refine blk_alloc ?_ _)); exact BK102.out) hb); have n2_ := Aside0.mk (below_step (by repeat (first | (with_reducible first | exact HB.out | apply below_alloc | apply pw_below_drewN | apply below_drew1 | refine below_set ?_ GE101.out | refine below_set ?_ GE102.out) | exact HB.out)) hb); clear BK101; clear BK102; clear HB; have BK101 := n0_; have BK102 := n1_; have HB := n2_; clear n0_ n1_ n2_; (try clear hb); (try clear hb2); (try clear hk); (try clear hi)))
    go_meet
    case rel => exact ⟨_, (true), (by first | rfl | (simp; done) | (simp [*]; done)), H', ⟨by first | omega | exact Nat.le_refl _⟩, ⟨by (with_reducible repeat (first | refine blk_drewN ?_ _ | refine blk_drew ?_ | refine blk_alloc ?_ _)); exact BK101.out⟩, ⟨by (with_reducible repeat (first | refine blk_drewN ?_ _ | refine blk_drew ?_ | refine blk_alloc ?_ _)); exact BK102.out⟩, ⟨by repeat (first | (with_reducible first | exact HB.out | apply below_alloc | apply pw_below_drewN | apply below_drew1 | refine below_set ?_ GE101.out | refine below_set ?_ GE102.out) | exact HB.out)⟩⟩
  ·replace c7 := Bool.eq_false_iff.mpr c7
   subst c7
   have H1 : (codewrightlaw44_PeelUnions.j0 k true a0_0 l0_1 a1_0 a1_1 a1_2) = some r := by rw [if_neg (show ¬ (false = true) by decide)] at H; exact H
   clear H
   have H := H1
   clear H1
   have H' := Aside0.mk H
   clear H
   go_wp2_with (first | ((with_reducible refine gate_callee (f := 12) rfl ?_); refine goesL_ (some 18) rfl rfl Try.func12 (by kernel_rfl) rfl #[] rfl (by (try simp only [List.map_toArray, List.map_cons, List.map_nil]); first | done | rfl | (simp only [List.length_drop, List.length_take]; rfl)) ?_; (with_reducible refine (codewrightlaw44_awake.calls  false _ A6.out).mono ?_); rintro e w29 ⟨rfl, hb⟩; refine ⟨_, rfl, ?_⟩; have n0_ := Aside0.mk (blk_below (g := gb101) (o := .cells #[.int .i64 a0_0, .slice A0_1 l0_1.length c0_1] 31 (0, 0)) (by (with_reducible repeat (first | refine blk_drewN ?_ _ | refine blk_drew ?_ | refine blk_alloc ?_ _)); exact BK101.out) hb); have n1_ := Aside0.mk (blk_below (g := gb102) (o := .cells #[.int .u32 a1_0, .int .u32 a1_1, .int .u32 a1_2] 58 (0, 0)) (by (with_reducible repeat (first | refine blk_drewN ?_ _ | refine blk_drew ?_ | refine blk_alloc ?_ _)); exact BK102.out) hb); have n2_ := Aside0.mk (below_step (by repeat (first | (with_reducible first | exact HB.out | apply below_alloc | apply pw_below_drewN | apply below_drew1 | refine below_set ?_ GE101.out | refine below_set ?_ GE102.out) | exact HB.out)) hb); clear BK101; clear BK102; clear HB; have BK101 := n0_; have BK102 := n1_; have HB := n2_; clear n0_ n1_ n2_; (try clear hb); (try clear hb2); (try clear hk); (try clear hi)))
   go_meet
   case rel => exact ⟨_, (true), (by first | rfl | (simp; done) | (simp [*]; done)), H', ⟨by first | omega | exact Nat.le_refl _⟩, ⟨by (with_reducible repeat (first | refine blk_drewN ?_ _ | refine blk_drew ?_ | refine blk_alloc ?_ _)); exact BK101.out⟩, ⟨by (with_reducible repeat (first | refine blk_drewN ?_ _ | refine blk_drew ?_ | refine blk_alloc ?_ _)); exact BK102.out⟩, ⟨by repeat (first | (with_reducible first | exact HB.out | apply below_alloc | apply pw_below_drewN | apply below_drew1 | refine below_set ?_ GE101.out | refine below_set ?_ GE102.out) | exact HB.out)⟩⟩
 case rest =>
  clear HC3
  try clear c1
  try clear c2
  try clear p2
  try clear c7
  try clear c8
  try clear c9
  try clear c11
  try clear c11b0
  try clear c11b1
  try clear c12
  try clear c13
  try clear c20
  try clear c26
  try clear hcz14_0
  try clear hcz14_1
  try clear hcz16_0
  try clear hcz16_1
  try clear hcz18_0
  try clear hcz18_1
  try clear hcz21_0
  try clear hcz21_1
  try clear hcz23_0
  try clear hcz23_1
  try clear hcz27_0
  try clear hcz27_1
  try clear hfz14_0
  try clear hfz14_1
  try clear hfz16_0
  try clear hfz16_1
  try clear hfz18_0
  try clear hfz18_1
  try clear hfz21_0
  try clear hfz21_1
  try clear hfz23_0
  try clear hfz23_1
  try clear hfz27_0
  try clear hfz27_1
  obtain ⟨kq, x34_2, rfl, HA, HJ2, BK101, BK102, HB⟩ := hcut
  cases kq with
  | zero => exact absurd HA.out (by simp [codewrightlaw44_PeelUnions.j0])
  | succ kj2 =>
   have H := HA.out
   clear HA
   simp only [codewrightlaw44_PeelUnions.j0] at H
   by_cases c30 : x34_2 = true
   ·subst c30
    have H1 : ((codewrightlaw44_awake.f).bind fun t106 => (some t106)) = some r := by rw [if_pos rfl] at H; exact H
    clear H
    have H := H1
    clear H1
    replace H := Option.bind_eq_some_iff.mp H
    obtain ⟨t106, A310, H⟩ := H
    replace H : (some t106) = some r := H
    have A31 := Aside0.mk A310
    clear A310
    obtain rfl := Option.some.inj H
    go_wp2_with (first | ((with_reducible refine gate_callee (f := 12) rfl ?_); refine goesL_ (some 35) rfl rfl Try.func12 (by kernel_rfl) rfl #[] rfl (by (try simp only [List.map_toArray, List.map_cons, List.map_nil]); first | done | rfl | (simp only [List.length_drop, List.length_take]; rfl)) ?_; (with_reducible refine (codewrightlaw44_awake.calls  t106 _ A31.out).mono ?_); rintro e w32 ⟨rfl, hb⟩; refine ⟨_, rfl, ?_⟩; have n0_ := Aside0.mk (blk_below (g := gb101) (o := .cells #[.int .i64 a0_0, .slice A0_1 l0_1.length c0_1] 31 (0, 0)) (by (with_reducible repeat (first | refine blk_drewN ?_ _ | refine blk_drew ?_ | refine blk_alloc ?_ _)); exact BK101.out) hb); have n1_ := Aside0.mk (blk_below (g := gb102) (o := .cells #[.int .u32 a1_0, .int .u32 a1_1, .int .u32 a1_2] 58 (0, 0)) (by (with_reducible repeat (first | refine blk_drewN ?_ _ | refine blk_drew ?_ | refine blk_alloc ?_ _)); exact BK102.out) hb); have n2_ := Aside0.mk (below_step (by repeat (first | (with_reducible first | exact HB.out | apply below_alloc | apply pw_below_drewN | apply below_drew1 | refine below_set ?_ GE101.out | refine below_set ?_ GE102.out) | exact HB.out)) hb); clear BK101; clear BK102; clear HB; have BK101 := n0_; have BK102 := n1_; have HB := n2_; clear n0_ n1_ n2_; (try clear hb); (try clear hb2); (try clear hk); (try clear hi)))
    go_ret
    exact ⟨by first | rfl | (simp [errW_none, errW_some] <;> rfl) | (simp [*, errW_none, errW_some] <;> rfl), by repeat (first | (with_reducible first | exact HB.out | apply below_alloc | apply pw_below_drewN | apply below_drew1 | refine below_set ?_ GE101.out | refine below_set ?_ GE102.out) | exact HB.out)⟩
   ·replace c30 := Bool.eq_false_iff.mpr c30
    subst c30
    have H1 : ((codewrightlaw44_split.f kj2 a1_0 a0_0).bind fun t107 => ((peel_Greatest.f kj2 a0_0 l0_1 t107).bind fun bt110 => ((codewrightlaw44_split.f kj2 a1_1 a0_0).bind fun t114 => ((peel_Greatest.f kj2 a0_0 l0_1 t114).bind fun bt117 => (if bt110.2 = 0 then (codewrightlaw44_PeelUnions.j1 kj2 bt110.1 bt117.1 (bt117.2 != 0) a0_0 l0_1 a1_0 a1_1 a1_2) else (codewrightlaw44_PeelUnions.j1 kj2 bt110.1 bt117.1 true a0_0 l0_1 a1_0 a1_1 a1_2)))))) = some r := by rw [if_neg (show ¬ (false = true) by decide)] at H; exact H
    clear H
    have H := H1
    clear H1
    replace H := Option.bind_eq_some_iff.mp H
    obtain ⟨t107, A330, H⟩ := H
    replace H : ((peel_Greatest.f kj2 a0_0 l0_1 t107).bind fun bt110 => ((codewrightlaw44_split.f kj2 a1_1 a0_0).bind fun t114 => ((peel_Greatest.f kj2 a0_0 l0_1 t114).bind fun bt117 => (if bt110.2 = 0 then (codewrightlaw44_PeelUnions.j1 kj2 bt110.1 bt117.1 (bt117.2 != 0) a0_0 l0_1 a1_0 a1_1 a1_2) else (codewrightlaw44_PeelUnions.j1 kj2 bt110.1 bt117.1 true a0_0 l0_1 a1_0 a1_1 a1_2))))) = some r := H
    have A33 := Aside0.mk A330
    clear A330
    replace H := Option.bind_eq_some_iff.mp H
    obtain ⟨⟨t110, t113⟩, A340, H⟩ := H
    replace H : ((codewrightlaw44_split.f kj2 a1_1 a0_0).bind fun t114 => ((peel_Greatest.f kj2 a0_0 l0_1 t114).bind fun bt117 => (if t113 = 0 then (codewrightlaw44_PeelUnions.j1 kj2 t110 bt117.1 (bt117.2 != 0) a0_0 l0_1 a1_0 a1_1 a1_2) else (codewrightlaw44_PeelUnions.j1 kj2 t110 bt117.1 true a0_0 l0_1 a1_0 a1_1 a1_2)))) = some r := H
    have A34 := Aside0.mk A340
    clear A340
    replace H := Option.bind_eq_some_iff.mp H
    obtain ⟨t114, A350, H⟩ := H
    replace H : ((peel_Greatest.f kj2 a0_0 l0_1 t114).bind fun bt117 => (if t113 = 0 then (codewrightlaw44_PeelUnions.j1 kj2 t110 bt117.1 (bt117.2 != 0) a0_0 l0_1 a1_0 a1_1 a1_2) else (codewrightlaw44_PeelUnions.j1 kj2 t110 bt117.1 true a0_0 l0_1 a1_0 a1_1 a1_2))) = some r := H
    have A35 := Aside0.mk A350
    clear A350
    replace H := Option.bind_eq_some_iff.mp H
    obtain ⟨⟨t117, t120⟩, A360, H⟩ := H
    replace H : (if t113 = 0 then (codewrightlaw44_PeelUnions.j1 kj2 t110 t117 (t120 != 0) a0_0 l0_1 a1_0 a1_1 a1_2) else (codewrightlaw44_PeelUnions.j1 kj2 t110 t117 true a0_0 l0_1 a1_0 a1_1 a1_2)) = some r := H
    have A36 := Aside0.mk A360
    clear A360
    have HC37 := Aside0.mk H
    clear H
    try go_wp2
    have n0_ := Aside0.mk (blk_drew BK101.out)
    have n1_ := Aside0.mk (blk_drew BK102.out)
    have n2_ := Aside0.mk (below_drew1 HB.out)
    clear BK101
    clear BK102
    clear HB
    have BK101 := n0_
    have BK102 := n1_
    have HB := n2_
    clear n0_ n1_ n2_
    refine start_ (n := 12) (S := fun w' => w'.cell? ⟨gb101, 0, none⟩ = some (.int .i64 a0_0) ∧ w'.cell? ⟨gb101, 1, none⟩ = some (.slice A0_1 l0_1.length c0_1) ∧ w'.cell? ⟨gb102, 0, none⟩ = some (.int .u32 a1_0) ∧ w'.cell? ⟨gb102, 1, none⟩ = some (.int .u32 a1_1) ∧ w'.cell? ⟨gb102, 2, none⟩ = some (.int .u32 a1_2)) (ds := []) #[false, false, false, false, false, false, false, false, false, false, false, false] (by kernel_rfl) rfl rfl ⟨(blk_cell BK101.out 0).trans rfl, (blk_cell BK101.out 1).trans rfl, (blk_cell BK102.out 0).trans rfl, (blk_cell BK102.out 1).trans rfl, (blk_cell BK102.out 2).trans rfl⟩ (fun hHeld => ?_); refine with_tabW codewrightlaw44_PeelUnions.tab3 codewrightlaw44_PeelUnions.bits3 (fun HT_ HW_ => ?_)
    generalize wc.drew = w38 at BK101 BK102 HB hHeld ⊢
    refine pure_ (i := 1) (N := some 38) (v := ?_) (a' := ?_) #[false, true, false, false, false, false, false, false, false, false, false, false] rfl rfl (any_of HT_.out (by kernel_rfl)) (fun _ _ _ h => h) (Or.inl ⟨by rfl, ?_⟩) ?_ ?_
    rotate_left
    ·intro w'
     go_simp
     with_reducible rfl
    rotate_left
    ·simp only [Act.put, List.setIfInBounds_toArray, List.set_cons_zero, List.set_cons_succ, i64_w, i32_w]
     rfl
    refine pure_ (i := 3) (N := some 40) (v := ?_) (a' := ?_) #[false, true, false, true, false, false, false, false, false, false, false, false] rfl rfl (any_of HT_.out (by kernel_rfl)) (fun _ _ _ h => h) (Or.inl ⟨by rfl, ?_⟩) ?_ ?_
    rotate_left
    ·intro w'
     go_simp
     with_reducible rfl
    rotate_left
    ·simp only [Act.put, List.setIfInBounds_toArray, List.set_cons_zero, List.set_cons_succ, i64_w, i32_w]
     rfl
    refine take_ (i := 0) (N := some 37) (v := ?_) (a' := ?_) #[true, true, false, true, false, false, false, false, false, false, false, false] rfl rfl (take_ofW HT_.out HW_.out (by kernel_rfl)) (fun _ _ _ h => h) (Or.inl ⟨by rfl, ?_⟩) hHeld ?_ ?_
    rotate_left
    ·rintro w' ⟨s0, s1, s2, s3, s4⟩
     go_simp
     with_reducible rfl
    rotate_left
    ·simp only [Act.put, List.setIfInBounds_toArray, List.set_cons_zero, List.set_cons_succ, i64_w, i32_w]
     rfl
    refine take_ (i := 2) (N := some 39) (v := ?_) (a' := ?_) #[true, true, true, true, false, false, false, false, false, false, false, false] rfl rfl (take_ofW HT_.out HW_.out (by kernel_rfl)) (fun _ _ _ h => h) (Or.inl ⟨by rfl, ?_⟩) hHeld ?_ ?_
    rotate_left
    ·rintro w' ⟨s0, s1, s2, s3, s4⟩
     go_simp
     with_reducible rfl
    rotate_left
    ·simp only [Act.put, List.setIfInBounds_toArray, List.set_cons_zero, List.set_cons_succ, i64_w, i32_w]
     rfl
    refine take_ (i := 4) (N := some 41) (v := ?_) (a' := ?_) #[true, true, true, true, true, false, false, false, false, false, false, false] rfl rfl (take_ofW HT_.out HW_.out (by kernel_rfl)) (fun _ _ _ h => h) (Or.inl ⟨by rfl, ?_⟩) hHeld ?_ ?_
    rotate_left
    ·rintro w' ⟨s0, s1, s2, s3, s4⟩
     go_simp
     with_reducible rfl
    rotate_left
    ·simp only [Act.put, List.setIfInBounds_toArray, List.set_cons_zero, List.set_cons_succ, i64_w, i32_w]
     rfl
    refine one_ (i := 5) (N := some 42) #[true, true, true, true, true, true, false, false, false, false, false, false] rfl rfl (one_of HT_.out (by kernel_rfl)) (by decide) (fun K hK => ?_)
    refine goes_ Try.func35 (by kernel_rfl) rfl #[.int .u32 a1_0, .int .i64 a0_0] (by rfl) rfl rfl (by (try simp only [List.map_toArray, List.map_cons, List.map_nil]); first | done | rfl | (simp only [List.length_drop, List.length_take]; rfl)) ?_
    with_reducible refine (codewrightlaw44_split.calls kj2 a1_0 a0_0 t107 _ A33.out).mono ?_
    rintro e w39 ⟨v108, rfl, ho0, hb⟩
    refine ⟨_, rfl, ?_⟩
    have n0_ := Aside0.mk (Kd.R_lower ho0 (below_size (by repeat (first | (with_reducible first | exact HB.out | apply below_alloc | apply pw_below_drewN | apply below_drew1 | refine below_set ?_ GE101.out | refine below_set ?_ GE102.out) | exact HB.out))))
    have n1_ := Aside0.mk (blk_below (g := gb101) (o := .cells #[.int .i64 a0_0, .slice A0_1 l0_1.length c0_1] 31 (0, 0)) (by (with_reducible repeat (first | refine blk_drewN ?_ _ | refine blk_drew ?_ | refine blk_alloc ?_ _)); exact BK101.out) hb)
    have n2_ := Aside0.mk (blk_below (g := gb102) (o := .cells #[.int .u32 a1_0, .int .u32 a1_1, .int .u32 a1_2] 58 (0, 0)) (by (with_reducible repeat (first | refine blk_drewN ?_ _ | refine blk_drew ?_ | refine blk_alloc ?_ _)); exact BK102.out) hb)
    have n3_ := Aside0.mk (below_step (by repeat (first | (with_reducible first | exact HB.out | apply below_alloc | apply pw_below_drewN | apply below_drew1 | refine below_set ?_ GE101.out | refine below_set ?_ GE102.out) | exact HB.out)) hb)
    clear BK101
    clear BK102
    clear HB
    have HO109 := n0_
    have BK101 := n1_
    have BK102 := n2_
    have HB := n3_
    clear n0_ n1_ n2_ n3_
    (try clear hb)
    (try clear hb2)
    (try clear hk)
    (try clear hi)
    (try clear ho0)
    obtain ⟨Ao40, co40, eo40⟩ := Kd.R_slice HO109.out
    (first | subst eo40 | (injection eo40 with f1_ f2_ f3_; have f4_ := f1_.symm; have f5_ := f3_.symm; clear f1_ f2_ f3_; subst f4_; subst f5_))
    refine hK.out _ _ ⟨(blk_cell BK101.out 0).trans rfl, (blk_cell BK101.out 1).trans rfl, (blk_cell BK102.out 0).trans rfl, (blk_cell BK102.out 1).trans rfl, (blk_cell BK102.out 2).trans rfl⟩ (fun hHeld => ?_)
    clear hK K
    refine norm_ (a' := ?_) ?_ ?_
    rotate_left
    ·show Act.put _ (some 42) _ = _
     simp only [Act.put, List.setIfInBounds_toArray, List.set_cons_zero, List.set_cons_succ, i64_w, i32_w]
     rfl
    refine one_ (i := 6) (N := some 43) #[true, true, true, true, true, true, true, false, false, false, false, false] rfl rfl (one_of HT_.out (by kernel_rfl)) (by decide) (fun K hK => ?_)
    refine goes_ Try.func24 (by kernel_rfl) rfl #[.agg #[.int .i64 a0_0, .slice A0_1 l0_1.length c0_1], .slice Ao40 t107.length co40] (by rfl) rfl rfl (by (try simp only [List.map_toArray, List.map_cons, List.map_nil]); first | done | rfl | (simp only [List.length_drop, List.length_take]; rfl)) ?_
    with_reducible refine (peel_Greatest.calls kj2 a0_0 _ _ l0_1 _ _ t107 t110 t113 _ ?side1 ?side2 ?side3 ?side4 A34.out).mono ?_
    (case side1 => repeat (first | exact (Kd.C_below HR0_1.out HB.out) | (with_reducible refine Kd.C_alloc ?_ _) | (with_reducible refine Kd.C_drewN ?_ _) | (with_reducible refine Kd.C_drew ?_)))
    (case side2 => exact HC0_1.out)
    (case side3 => repeat (first | exact (Kd.R_reads' HO109.out).2.2 | (with_reducible refine Kd.C_alloc ?_ _) | (with_reducible refine Kd.C_drewN ?_ _) | (with_reducible refine Kd.C_drew ?_)))
    (case side4 => exact (Kd.R_reads' HO109.out).2.1)
    rintro e w41 ⟨v111, rfl, ho0, hb⟩
    refine ⟨_, rfl, ?_⟩
    have n0_ := Aside0.mk (Kd.R_elder' (by (with_reducible repeat (first | apply Kd.R_alloc | apply Kd.R_drewN | apply Kd.R_drew)); exact HO109.out) (Kd.R_base ho0) hb)
    have n1_ := Aside0.mk (Kd.R_lower (Kd.R_new' ho0 (Kd.R_lt (by (with_reducible repeat (first | apply Kd.R_alloc | apply Kd.R_drewN | apply Kd.R_drew)); exact HO109.out))) (below_size (by repeat (first | (with_reducible first | exact HB.out | apply below_alloc | apply pw_below_drewN | apply below_drew1 | refine below_set ?_ GE101.out | refine below_set ?_ GE102.out) | exact HB.out))))
    have n2_ := Aside0.mk (blk_below (g := gb101) (o := .cells #[.int .i64 a0_0, .slice A0_1 l0_1.length c0_1] 31 (0, 0)) (by (with_reducible repeat (first | refine blk_drewN ?_ _ | refine blk_drew ?_ | refine blk_alloc ?_ _)); exact BK101.out) hb)
    have n3_ := Aside0.mk (blk_below (g := gb102) (o := .cells #[.int .u32 a1_0, .int .u32 a1_1, .int .u32 a1_2] 58 (0, 0)) (by (with_reducible repeat (first | refine blk_drewN ?_ _ | refine blk_drew ?_ | refine blk_alloc ?_ _)); exact BK102.out) hb)
    have n4_ := Aside0.mk (below_step (by repeat (first | (with_reducible first | exact HB.out | apply below_alloc | apply pw_below_drewN | apply below_drew1 | refine below_set ?_ GE101.out | refine below_set ?_ GE102.out) | exact HB.out)) hb)
    clear HO109
    clear BK101
    clear BK102
    clear HB
    have HO109 := n0_
    have HO112 := n1_
    have BK101 := n2_
    have BK102 := n3_
    have HB := n4_
    clear n0_ n1_ n2_ n3_ n4_
    (try clear hb)
    (try clear hb2)
    (try clear hk)
    (try clear hi)
    (try clear ho0)
    refine hK.out _ _ ⟨(blk_cell BK101.out 0).trans rfl, (blk_cell BK101.out 1).trans rfl, (blk_cell BK102.out 0).trans rfl, (blk_cell BK102.out 1).trans rfl, (blk_cell BK102.out 2).trans rfl⟩ (fun hHeld => ?_)
    clear hK K
    refine norm_ (a' := ?_) ?_ ?_
    rotate_left
    ·show Act.put _ (some 43) _ = _
     simp only [Act.put, List.setIfInBounds_toArray, List.set_cons_zero, List.set_cons_succ, i64_w, i32_w]
     rfl
    refine pure_ (i := 7) (N := some 36) (v := ?_) (a' := ?_) #[true, true, true, true, true, true, true, true, false, false, false, false] rfl rfl (any_of HT_.out (by kernel_rfl)) (fun _ _ _ h => h) (Or.inl ⟨by rfl, ?_⟩) ?_ ?_
    rotate_left
    ·intro w'
     go_simp
     with_reducible rfl
    rotate_left
    ·simp only [Act.put, List.setIfInBounds_toArray, List.set_cons_zero, List.set_cons_succ, i64_w, i32_w]
     rfl
    refine pure_ (i := 8) (N := some 44) (v := ?_) (a' := ?_) #[true, true, true, true, true, true, true, true, true, false, false, false] rfl rfl (any_of HT_.out (by kernel_rfl)) (fun _ _ _ h => h) (Or.inl ⟨by rfl, ?_⟩) ?_ ?_
    rotate_left
    ·intro w'
     go_simp
     with_reducible rfl
    rotate_left
    ·simp only [Act.put, List.setIfInBounds_toArray, List.set_cons_zero, List.set_cons_succ, i64_w, i32_w]
     rfl
    refine pure_ (i := 9) (N := some 45) (v := ?_) (a' := ?_) #[true, true, true, true, true, true, true, true, true, true, false, false] rfl rfl (any_of HT_.out (by kernel_rfl)) (fun _ _ _ h => h) (Or.inl ⟨by rfl, ?_⟩) ?_ ?_
    rotate_left
    ·intro w'
     go_simp
     with_reducible rfl
    rotate_left
    ·simp only [Act.put, List.setIfInBounds_toArray, List.set_cons_zero, List.set_cons_succ, i64_w, i32_w]
     rfl
    refine pure_ (i := 10) (N := some 5) (v := ?_) (a' := ?_) #[true, true, true, true, true, true, true, true, true, true, true, false] rfl rfl (any_of HT_.out (by kernel_rfl)) (fun _ _ _ h => h) (Or.inl ⟨by rfl, ?_⟩) ?_ ?_
    rotate_left
    ·intro w'
     go_simp
     with_reducible rfl
    rotate_left
    ·simp only [Act.put, List.setIfInBounds_toArray, List.set_cons_zero, List.set_cons_succ, i64_w, i32_w]
     rfl
    refine pure_ (i := 11) (N := some 6) (v := ?_) (a' := ?_) #[true, true, true, true, true, true, true, true, true, true, true, true] rfl rfl (any_of HT_.out (by kernel_rfl)) (fun _ _ _ h => h) (Or.inl ⟨by rfl, ?_⟩) ?_ ?_
    rotate_left
    ·intro w'
     go_simp
     with_reducible rfl
    rotate_left
    ·simp only [Act.put, List.setIfInBounds_toArray, List.set_cons_zero, List.set_cons_succ, i64_w, i32_w]
     rfl
    refine done_ (done_of HT_.out (by kernel_rfl)) ?_
    try go_wp2
    have n0_ := Aside0.mk (Kd.R_drew HO109.out)
    have n1_ := Aside0.mk (Kd.R_drew HO112.out)
    have n2_ := Aside0.mk (blk_drew BK101.out)
    have n3_ := Aside0.mk (blk_drew BK102.out)
    have n4_ := Aside0.mk (below_drew1 HB.out)
    clear HO109
    clear HO112
    clear BK101
    clear BK102
    clear HB
    have HO109 := n0_
    have HO112 := n1_
    have BK101 := n2_
    have BK102 := n3_
    have HB := n4_
    clear n0_ n1_ n2_ n3_ n4_
    refine start_ (n := 12) (S := fun w' => w'.cell? ⟨gb101, 0, none⟩ = some (.int .i64 a0_0) ∧ w'.cell? ⟨gb101, 1, none⟩ = some (.slice A0_1 l0_1.length c0_1) ∧ w'.cell? ⟨gb102, 0, none⟩ = some (.int .u32 a1_0) ∧ w'.cell? ⟨gb102, 1, none⟩ = some (.int .u32 a1_1) ∧ w'.cell? ⟨gb102, 2, none⟩ = some (.int .u32 a1_2)) (ds := []) #[false, false, false, false, false, false, false, false, false, false, false, false] (by kernel_rfl) rfl rfl ⟨(blk_cell BK101.out 0).trans rfl, (blk_cell BK101.out 1).trans rfl, (blk_cell BK102.out 0).trans rfl, (blk_cell BK102.out 1).trans rfl, (blk_cell BK102.out 2).trans rfl⟩ (fun hHeld => ?_); refine with_tabW codewrightlaw44_PeelUnions.tab4 codewrightlaw44_PeelUnions.bits4 (fun HT_ HW_ => ?_)
    generalize w41.drew = w42 at HO109 HO112 BK101 BK102 HB hHeld ⊢
    refine pure_ (i := 1) (N := some 48) (v := ?_) (a' := ?_) #[false, true, false, false, false, false, false, false, false, false, false, false] rfl rfl (any_of HT_.out (by kernel_rfl)) (fun _ _ _ h => h) (Or.inl ⟨by rfl, ?_⟩) ?_ ?_
    rotate_left
    ·intro w'
     go_simp
     with_reducible rfl
    rotate_left
    ·simp only [Act.put, List.setIfInBounds_toArray, List.set_cons_zero, List.set_cons_succ, i64_w, i32_w]
     rfl
    refine pure_ (i := 3) (N := some 50) (v := ?_) (a' := ?_) #[false, true, false, true, false, false, false, false, false, false, false, false] rfl rfl (any_of HT_.out (by kernel_rfl)) (fun _ _ _ h => h) (Or.inl ⟨by rfl, ?_⟩) ?_ ?_
    rotate_left
    ·intro w'
     go_simp
     with_reducible rfl
    rotate_left
    ·simp only [Act.put, List.setIfInBounds_toArray, List.set_cons_zero, List.set_cons_succ, i64_w, i32_w]
     rfl
    refine take_ (i := 0) (N := some 47) (v := ?_) (a' := ?_) #[true, true, false, true, false, false, false, false, false, false, false, false] rfl rfl (take_ofW HT_.out HW_.out (by kernel_rfl)) (fun _ _ _ h => h) (Or.inl ⟨by rfl, ?_⟩) hHeld ?_ ?_
    rotate_left
    ·rintro w' ⟨s0, s1, s2, s3, s4⟩
     go_simp
     with_reducible rfl
    rotate_left
    ·simp only [Act.put, List.setIfInBounds_toArray, List.set_cons_zero, List.set_cons_succ, i64_w, i32_w]
     rfl
    refine take_ (i := 2) (N := some 49) (v := ?_) (a' := ?_) #[true, true, true, true, false, false, false, false, false, false, false, false] rfl rfl (take_ofW HT_.out HW_.out (by kernel_rfl)) (fun _ _ _ h => h) (Or.inl ⟨by rfl, ?_⟩) hHeld ?_ ?_
    rotate_left
    ·rintro w' ⟨s0, s1, s2, s3, s4⟩
     go_simp
     with_reducible rfl
    rotate_left
    ·simp only [Act.put, List.setIfInBounds_toArray, List.set_cons_zero, List.set_cons_succ, i64_w, i32_w]
     rfl
    refine take_ (i := 4) (N := some 51) (v := ?_) (a' := ?_) #[true, true, true, true, true, false, false, false, false, false, false, false] rfl rfl (take_ofW HT_.out HW_.out (by kernel_rfl)) (fun _ _ _ h => h) (Or.inl ⟨by rfl, ?_⟩) hHeld ?_ ?_
    rotate_left
    ·rintro w' ⟨s0, s1, s2, s3, s4⟩
     go_simp
     with_reducible rfl
    rotate_left
    ·simp only [Act.put, List.setIfInBounds_toArray, List.set_cons_zero, List.set_cons_succ, i64_w, i32_w]
     rfl
    refine one_ (i := 5) (N := some 52) #[true, true, true, true, true, true, false, false, false, false, false, false] rfl rfl (one_of HT_.out (by kernel_rfl)) (by decide) (fun K hK => ?_)
    refine goes_ Try.func35 (by kernel_rfl) rfl #[.int .u32 a1_1, .int .i64 a0_0] (by rfl) rfl rfl (by (try simp only [List.map_toArray, List.map_cons, List.map_nil]); first | done | rfl | (simp only [List.length_drop, List.length_take]; rfl)) ?_
    with_reducible refine (codewrightlaw44_split.calls kj2 a1_1 a0_0 t114 _ A35.out).mono ?_
    rintro e w43 ⟨v115, rfl, ho0, hb⟩
    refine ⟨_, rfl, ?_⟩
    have n0_ := Aside0.mk (Kd.R_elder' (by (with_reducible repeat (first | apply Kd.R_alloc | apply Kd.R_drewN | apply Kd.R_drew)); exact HO109.out) (Kd.R_base ho0) hb)
    have n1_ := Aside0.mk (Kd.R_elder' (by (with_reducible repeat (first | apply Kd.R_alloc | apply Kd.R_drewN | apply Kd.R_drew)); exact HO112.out) (Kd.R_base ho0) hb)
    have n2_ := Aside0.mk (Kd.R_lower (Kd.R_new' (Kd.R_new' ho0 (Kd.R_lt (by (with_reducible repeat (first | apply Kd.R_alloc | apply Kd.R_drewN | apply Kd.R_drew)); exact HO109.out))) (Kd.R_lt (by (with_reducible repeat (first | apply Kd.R_alloc | apply Kd.R_drewN | apply Kd.R_drew)); exact HO112.out))) (below_size (by repeat (first | (with_reducible first | exact HB.out | apply below_alloc | apply pw_below_drewN | apply below_drew1 | refine below_set ?_ GE101.out | refine below_set ?_ GE102.out) | exact HB.out))))
    have n3_ := Aside0.mk (blk_below (g := gb101) (o := .cells #[.int .i64 a0_0, .slice A0_1 l0_1.length c0_1] 31 (0, 0)) (by (with_reducible repeat (first | refine blk_drewN ?_ _ | refine blk_drew ?_ | refine blk_alloc ?_ _)); exact BK101.out) hb)
    have n4_ := Aside0.mk (blk_below (g := gb102) (o := .cells #[.int .u32 a1_0, .int .u32 a1_1, .int .u32 a1_2] 58 (0, 0)) (by (with_reducible repeat (first | refine blk_drewN ?_ _ | refine blk_drew ?_ | refine blk_alloc ?_ _)); exact BK102.out) hb)
    have n5_ := Aside0.mk (below_step (by repeat (first | (with_reducible first | exact HB.out | apply below_alloc | apply pw_below_drewN | apply below_drew1 | refine below_set ?_ GE101.out | refine below_set ?_ GE102.out) | exact HB.out)) hb)
    clear HO109
    clear HO112
    clear BK101
    clear BK102
    clear HB
    have HO109 := n0_
    have HO112 := n1_
    have HO116 := n2_
    have BK101 := n3_
    have BK102 := n4_
    have HB := n5_
    clear n0_ n1_ n2_ n3_ n4_ n5_
    (try clear hb)
    (try clear hb2)
    (try clear hk)
    (try clear hi)
    (try clear ho0)
    obtain ⟨Ao44, co44, eo44⟩ := Kd.R_slice HO116.out
    (first | subst eo44 | (injection eo44 with f1_ f2_ f3_; have f4_ := f1_.symm; have f5_ := f3_.symm; clear f1_ f2_ f3_; subst f4_; subst f5_))
    refine hK.out _ _ ⟨(blk_cell BK101.out 0).trans rfl, (blk_cell BK101.out 1).trans rfl, (blk_cell BK102.out 0).trans rfl, (blk_cell BK102.out 1).trans rfl, (blk_cell BK102.out 2).trans rfl⟩ (fun hHeld => ?_)
    clear hK K
    refine norm_ (a' := ?_) ?_ ?_
    rotate_left
    ·show Act.put _ (some 52) _ = _
     simp only [Act.put, List.setIfInBounds_toArray, List.set_cons_zero, List.set_cons_succ, i64_w, i32_w]
     rfl
    refine one_ (i := 6) (N := some 53) #[true, true, true, true, true, true, true, false, false, false, false, false] rfl rfl (one_of HT_.out (by kernel_rfl)) (by decide) (fun K hK => ?_)
    refine goes_ Try.func24 (by kernel_rfl) rfl #[.agg #[.int .i64 a0_0, .slice A0_1 l0_1.length c0_1], .slice Ao44 t114.length co44] (by rfl) rfl rfl (by (try simp only [List.map_toArray, List.map_cons, List.map_nil]); first | done | rfl | (simp only [List.length_drop, List.length_take]; rfl)) ?_
    with_reducible refine (peel_Greatest.calls kj2 a0_0 _ _ l0_1 _ _ t114 t117 t120 _ ?side1 ?side2 ?side3 ?side4 A36.out).mono ?_
    (case side1 => repeat (first | exact (Kd.C_below HR0_1.out HB.out) | (with_reducible refine Kd.C_alloc ?_ _) | (with_reducible refine Kd.C_drewN ?_ _) | (with_reducible refine Kd.C_drew ?_)))
    (case side2 => exact HC0_1.out)
    (case side3 => repeat (first | exact (Kd.R_reads' HO116.out).2.2 | (with_reducible refine Kd.C_alloc ?_ _) | (with_reducible refine Kd.C_drewN ?_ _) | (with_reducible refine Kd.C_drew ?_)))
    (case side4 => exact (Kd.R_reads' HO116.out).2.1)
    rintro e w45 ⟨v118, rfl, ho0, hb⟩
    refine ⟨_, rfl, ?_⟩
    have n0_ := Aside0.mk (Kd.R_elder' (by (with_reducible repeat (first | apply Kd.R_alloc | apply Kd.R_drewN | apply Kd.R_drew)); exact HO109.out) (Kd.R_base ho0) hb)
    have n1_ := Aside0.mk (Kd.R_elder' (by (with_reducible repeat (first | apply Kd.R_alloc | apply Kd.R_drewN | apply Kd.R_drew)); exact HO112.out) (Kd.R_base ho0) hb)
    have n2_ := Aside0.mk (Kd.R_elder' (by (with_reducible repeat (first | apply Kd.R_alloc | apply Kd.R_drewN | apply Kd.R_drew)); exact HO116.out) (Kd.R_base ho0) hb)
    have n3_ := Aside0.mk (Kd.R_lower (Kd.R_new' (Kd.R_new' (Kd.R_new' ho0 (Kd.R_lt (by (with_reducible repeat (first | apply Kd.R_alloc | apply Kd.R_drewN | apply Kd.R_drew)); exact HO109.out))) (Kd.R_lt (by (with_reducible repeat (first | apply Kd.R_alloc | apply Kd.R_drewN | apply Kd.R_drew)); exact HO112.out))) (Kd.R_lt (by (with_reducible repeat (first | apply Kd.R_alloc | apply Kd.R_drewN | apply Kd.R_drew)); exact HO116.out))) (below_size (by repeat (first | (with_reducible first | exact HB.out | apply below_alloc | apply pw_below_drewN | apply below_drew1 | refine below_set ?_ GE101.out | refine below_set ?_ GE102.out) | exact HB.out))))
    have n4_ := Aside0.mk (blk_below (g := gb101) (o := .cells #[.int .i64 a0_0, .slice A0_1 l0_1.length c0_1] 31 (0, 0)) (by (with_reducible repeat (first | refine blk_drewN ?_ _ | refine blk_drew ?_ | refine blk_alloc ?_ _)); exact BK101.out) hb)
    have n5_ := Aside0.mk (blk_below (g := gb102) (o := .cells #[.int .u32 a1_0, .int .u32 a1_1, .int .u32 a1_2] 58 (0, 0)) (by (with_reducible repeat (first | refine blk_drewN ?_ _ | refine blk_drew ?_ | refine blk_alloc ?_ _)); exact BK102.out) hb)
    have n6_ := Aside0.mk (below_step (by repeat (first | (with_reducible first | exact HB.out | apply below_alloc | apply pw_below_drewN | apply below_drew1 | refine below_set ?_ GE101.out | refine below_set ?_ GE102.out) | exact HB.out)) hb)
    clear HO109
    clear HO112
    clear HO116
    clear BK101
    clear BK102
    clear HB
    have HO109 := n0_
    have HO112 := n1_
    have HO116 := n2_
    have HO119 := n3_
    have BK101 := n4_
    have BK102 := n5_
    have HB := n6_
    clear n0_ n1_ n2_ n3_ n4_ n5_ n6_
    (try clear hb)
    (try clear hb2)
    (try clear hk)
    (try clear hi)
    (try clear ho0)
    refine hK.out _ _ ⟨(blk_cell BK101.out 0).trans rfl, (blk_cell BK101.out 1).trans rfl, (blk_cell BK102.out 0).trans rfl, (blk_cell BK102.out 1).trans rfl, (blk_cell BK102.out 2).trans rfl⟩ (fun hHeld => ?_)
    clear hK K
    refine norm_ (a' := ?_) ?_ ?_
    rotate_left
    ·show Act.put _ (some 53) _ = _
     simp only [Act.put, List.setIfInBounds_toArray, List.set_cons_zero, List.set_cons_succ, i64_w, i32_w]
     rfl
    refine pure_ (i := 7) (N := some 46) (v := ?_) (a' := ?_) #[true, true, true, true, true, true, true, true, false, false, false, false] rfl rfl (any_of HT_.out (by kernel_rfl)) (fun _ _ _ h => h) (Or.inl ⟨by rfl, ?_⟩) ?_ ?_
    rotate_left
    ·intro w'
     go_simp
     with_reducible rfl
    rotate_left
    ·simp only [Act.put, List.setIfInBounds_toArray, List.set_cons_zero, List.set_cons_succ, i64_w, i32_w]
     rfl
    refine pure_ (i := 8) (N := some 54) (v := ?_) (a' := ?_) #[true, true, true, true, true, true, true, true, true, false, false, false] rfl rfl (any_of HT_.out (by kernel_rfl)) (fun _ _ _ h => h) (Or.inl ⟨by rfl, ?_⟩) ?_ ?_
    rotate_left
    ·intro w'
     go_simp
     with_reducible rfl
    rotate_left
    ·simp only [Act.put, List.setIfInBounds_toArray, List.set_cons_zero, List.set_cons_succ, i64_w, i32_w]
     rfl
    refine pure_ (i := 9) (N := some 55) (v := ?_) (a' := ?_) #[true, true, true, true, true, true, true, true, true, true, false, false] rfl rfl (any_of HT_.out (by kernel_rfl)) (fun _ _ _ h => h) (Or.inl ⟨by rfl, ?_⟩) ?_ ?_
    rotate_left
    ·intro w'
     go_simp
     with_reducible rfl
    rotate_left
    ·simp only [Act.put, List.setIfInBounds_toArray, List.set_cons_zero, List.set_cons_succ, i64_w, i32_w]
     rfl
    refine pure_ (i := 10) (N := some 7) (v := ?_) (a' := ?_) #[true, true, true, true, true, true, true, true, true, true, true, false] rfl rfl (any_of HT_.out (by kernel_rfl)) (fun _ _ _ h => h) (Or.inl ⟨by rfl, ?_⟩) ?_ ?_
    rotate_left
    ·intro w'
     go_simp
     with_reducible rfl
    rotate_left
    ·simp only [Act.put, List.setIfInBounds_toArray, List.set_cons_zero, List.set_cons_succ, i64_w, i32_w]
     rfl
    refine pure_ (i := 11) (N := some 8) (v := ?_) (a' := ?_) #[true, true, true, true, true, true, true, true, true, true, true, true] rfl rfl (any_of HT_.out (by kernel_rfl)) (fun _ _ _ h => h) (Or.inl ⟨by rfl, ?_⟩) ?_ ?_
    rotate_left
    ·intro w'
     go_simp
     with_reducible rfl
    rotate_left
    ·simp only [Act.put, List.setIfInBounds_toArray, List.set_cons_zero, List.set_cons_succ, i64_w, i32_w]
     rfl
    refine done_ (done_of HT_.out (by kernel_rfl)) ?_
    go_upto_region 5 with (fail)
    go_cut [61] (fun v61 wc => ∃ (kq : Nat) (x61_36 : Bool), v61 = .bool x61_36 ∧ Aside0 (codewrightlaw44_PeelUnions.j1 kq t110 t117 x61_36 a0_0 l0_1 a1_0 a1_1 a1_2 = some r) ∧ Aside0 (kq ≤ kj2) ∧ Aside0 (Kd.R (Kd.int .i64) 3 wc w.heap.size (fun k_ => some k_ ≠ (v118 : Value).ownBlock) v111 t110) ∧ Aside0 (Kd.R (Kd.int .i64) 3 wc w.heap.size (fun k_ => some k_ ≠ (v111 : Value).ownBlock) v118 t117) ∧ Aside0 (wc.heap[gb101]? = some (.cells #[.int .i64 a0_0, (.slice A0_1 l0_1.length c0_1)] 31 (0, 0))) ∧ Aside0 (wc.heap[gb102]? = some (.cells #[.int .u32 a1_0, .int .u32 a1_1, .int .u32 a1_2] 58 (0, 0))) ∧ Aside0 (Below w.heap.size w wc))
    case first =>
     have H := HC37.out
     clear HC37
     by_cases c46 : t113 = 0
     ·rw [if_pos c46] at H
      have c46b0 : (t113 == 0) = true := beq_iff_eq.mpr c46
      have c46b1 : (t113 != 0) = false := bne_eq_false_iff_eq.mpr c46
      clear c46
      (first | rw [c46b0] | (simp only [i64_w, i32_w]; rw [c46b0]) | skip)
      have H' := Aside0.mk H
      clear H
      go_wp2
      go_meet
      case rel => exact ⟨_, ((t120 != 0)), (by first | rfl | (simp; done) | (simp [*]; done)), H', ⟨by have := HJ2.out; first | omega | exact Nat.le_refl _⟩, ⟨by (with_reducible repeat (first | apply Kd.R_alloc | apply Kd.R_drewN | apply Kd.R_drew)); exact Kd.R_mono HO112.out (fun _ hk => hk.2)⟩, ⟨by (with_reducible repeat (first | apply Kd.R_alloc | apply Kd.R_drewN | apply Kd.R_drew)); exact Kd.R_mono HO119.out (fun _ hk => hk.1.2)⟩, ⟨by (with_reducible repeat (first | refine blk_drewN ?_ _ | refine blk_drew ?_ | refine blk_alloc ?_ _)); exact BK101.out⟩, ⟨by (with_reducible repeat (first | refine blk_drewN ?_ _ | refine blk_drew ?_ | refine blk_alloc ?_ _)); exact BK102.out⟩, ⟨by repeat (first | (with_reducible first | exact HB.out | apply below_alloc | apply pw_below_drewN | apply below_drew1 | refine below_set ?_ GE101.out | refine below_set ?_ GE102.out) | exact HB.out)⟩⟩
     ·rw [if_neg c46] at H
      have c46b0 : (t113 == 0) = false := beq_eq_false_iff_ne.mpr c46
      have c46b1 : (t113 != 0) = true := bne_iff_ne.mpr c46
      (first | rw [c46b0] | (simp only [i64_w, i32_w]; rw [c46b0]) | skip)
      have H' := Aside0.mk H
      clear H
      go_wp2
      go_meet
      case rel => exact ⟨_, (true), (by first | rfl | (simp; done) | (simp [*]; done)), H', ⟨by have := HJ2.out; first | omega | exact Nat.le_refl _⟩, ⟨by (with_reducible repeat (first | apply Kd.R_alloc | apply Kd.R_drewN | apply Kd.R_drew)); exact Kd.R_mono HO112.out (fun _ hk => hk.2)⟩, ⟨by (with_reducible repeat (first | apply Kd.R_alloc | apply Kd.R_drewN | apply Kd.R_drew)); exact Kd.R_mono HO119.out (fun _ hk => hk.1.2)⟩, ⟨by (with_reducible repeat (first | refine blk_drewN ?_ _ | refine blk_drew ?_ | refine blk_alloc ?_ _)); exact BK101.out⟩, ⟨by (with_reducible repeat (first | refine blk_drewN ?_ _ | refine blk_drew ?_ | refine blk_alloc ?_ _)); exact BK102.out⟩, ⟨by repeat (first | (with_reducible first | exact HB.out | apply below_alloc | apply pw_below_drewN | apply below_drew1 | refine below_set ?_ GE101.out | refine below_set ?_ GE102.out) | exact HB.out)⟩⟩
    case rest =>
     clear HC37
     try clear c1
     try clear c2
     try clear p2
     try clear c3
     try clear c4
     try clear c7
     try clear c8
     try clear c9
     try clear c11
     try clear c11b0
     try clear c11b1
     try clear c12
     try clear c13
     try clear c20
     try clear c24
     try clear c26
     try clear c30
     try clear c35
     try clear c46
     try clear c46b0
     try clear c46b1
     try clear hcz14_0
     try clear hcz14_1
     try clear hcz16_0
     try clear hcz16_1
     try clear hcz18_0
     try clear hcz18_1
     try clear hcz21_0
     try clear hcz21_1
     try clear hcz23_0
     try clear hcz23_1
     try clear hcz27_0
     try clear hcz27_1
     try clear hfz14_0
     try clear hfz14_1
     try clear hfz16_0
     try clear hfz16_1
     try clear hfz18_0
     try clear hfz18_1
     try clear hfz21_0
     try clear hfz21_1
     try clear hfz23_0
     try clear hfz23_1
     try clear hfz27_0
     try clear hfz27_1
     try clear p2
     obtain ⟨kq, x61_36, rfl, HA, HJ36, HO_5, HO_7, BK101, BK102, HB⟩ := hcut
     cases kq with
     | zero => exact absurd HA.out (by simp [codewrightlaw44_PeelUnions.j1])
     | succ kj36 =>
      have H := HA.out
      clear HA
      simp only [codewrightlaw44_PeelUnions.j1] at H
      by_cases c47 : x61_36 = true
      ·subst c47
       have H1 : (some false) = some r := by rw [if_pos rfl] at H; exact H
       clear H
       have H := H1
       clear H1
       exact absurd ((Option.some.inj H).trans hrt) (by decide)
      ·replace c47 := Bool.eq_false_iff.mpr c47
       subst c47
       have H1 : (codewrightlaw44_PeelUnions.l0 kj36 t110 t117 ([] : List Int) ([] : List Int) a0_0 0 a0_0 l0_1 a1_0 a1_1 a1_2) = some r := by rw [if_neg (show ¬ (false = true) by decide)] at H; exact H
       clear H
       have H := H1
       clear H1
       have H' := Aside0.mk H
       clear H
       have hnb48 := NB101_102.out
       have hnc48 := NB102_101.out
       have hcz49_0 : wc.cell? ⟨gb101, 0, none⟩ = some (.int .i64 a0_0) := (blk_cell BK101.out 0).trans rfl
       have hcz49_1 : wc.cell? ⟨gb101, 1, none⟩ = some (.slice A0_1 l0_1.length c0_1) := (blk_cell BK101.out 1).trans rfl
       have hfz49_0 := blk_frozen BK101.out 0
       have hfz49_1 := blk_frozen BK101.out 1
       go_wp2
       go_loopg [9, 10, 64] kj36 (fun kq v9 v10 v64 w' => ∃ (x9_3 : List Int) (x10_3 : List Int) (x64_3 : Int), v64 = .int .i64 x64_3 ∧ Aside0 (codewrightlaw44_PeelUnions.l0 kq t110 t117 x9_3 x10_3 a0_0 x64_3 a0_0 l0_1 a1_0 a1_1 a1_2 = some r) ∧ Aside0 (kq ≤ kj36) ∧ Aside0 (Kd.R (Kd.int .i64) 3 w' w.heap.size (fun k_ => some k_ ≠ (v118 : Value).ownBlock ∧ some k_ ≠ (v9 : Value).ownBlock ∧ some k_ ≠ (v10 : Value).ownBlock) v111 t110) ∧ Aside0 (Kd.R (Kd.int .i64) 3 w' w.heap.size (fun k_ => some k_ ≠ (v111 : Value).ownBlock ∧ some k_ ≠ (v9 : Value).ownBlock ∧ some k_ ≠ (v10 : Value).ownBlock) v118 t117) ∧ Aside0 (Kd.R (Kd.int .i64) 3 w' w.heap.size (fun k_ => some k_ ≠ (v111 : Value).ownBlock ∧ some k_ ≠ (v118 : Value).ownBlock ∧ some k_ ≠ (v10 : Value).ownBlock) v9 x9_3) ∧ Aside0 (Kd.R (Kd.int .i64) 3 w' w.heap.size (fun k_ => some k_ ≠ (v111 : Value).ownBlock ∧ some k_ ≠ (v118 : Value).ownBlock ∧ some k_ ≠ (v9 : Value).ownBlock) v10 x10_3) ∧ Aside0 (w'.heap[gb101]? = some (.cells #[.int .i64 a0_0, (.slice A0_1 l0_1.length c0_1)] 31 (0, 0))) ∧ Aside0 (w'.heap[gb102]? = some (.cells #[.int .u32 a1_0, .int .u32 a1_1, .int .u32 a1_2] 58 (0, 0))) ∧ Aside0 (Below w.heap.size w w'))
       case atStart => exact ⟨(([] : List Int)), (([] : List Int)), (0), (by first | rfl | (simp; done) | (simp [*]; done)), H', ⟨Nat.le_refl _⟩, ⟨by (with_reducible repeat (first | apply Kd.R_alloc | apply Kd.R_drewN | apply Kd.R_drew)); exact Kd.R_mono HO_5.out (fun _ hk => ⟨hk, ⟨(by simp [Value.ownBlock]), (by simp [Value.ownBlock])⟩⟩)⟩, ⟨by (with_reducible repeat (first | apply Kd.R_alloc | apply Kd.R_drewN | apply Kd.R_drew)); exact Kd.R_mono HO_7.out (fun _ hk => ⟨hk, ⟨(by simp [Value.ownBlock]), (by simp [Value.ownBlock])⟩⟩)⟩, ⟨by first | exact Kd.R_nil _ _ _ _ _ | exact Kd.N_nil _ _ _ _ _ | exact Kd.V_nil _ _ _ _ _ | exact Kd.Q_nil _ _ _ _ _ | exact Kd.S_nil _ _ _ _ _⟩, ⟨by first | exact Kd.R_nil _ _ _ _ _ | exact Kd.N_nil _ _ _ _ _ | exact Kd.V_nil _ _ _ _ _ | exact Kd.Q_nil _ _ _ _ _ | exact Kd.S_nil _ _ _ _ _⟩, ⟨by (with_reducible repeat (first | refine blk_drewN ?_ _ | refine blk_drew ?_ | refine blk_alloc ?_ _)); exact BK101.out⟩, ⟨by (with_reducible repeat (first | refine blk_drewN ?_ _ | refine blk_drew ?_ | refine blk_alloc ?_ _)); exact BK102.out⟩, ⟨by repeat (first | (with_reducible first | exact HB.out | apply below_alloc | apply pw_below_drewN | apply below_drew1 | refine below_set ?_ GE101.out | refine below_set ?_ GE102.out) | exact HB.out)⟩⟩
       case round =>
        clear H'
        try clear c1
        try clear c2
        try clear p2
        try clear c3
        try clear c4
        try clear c7
        try clear c8
        try clear c9
        try clear c11
        try clear c11b0
        try clear c11b1
        try clear c12
        try clear c13
        try clear c20
        try clear c24
        try clear c26
        try clear c30
        try clear c35
        try clear c46
        try clear c46b0
        try clear c46b1
        try clear c47
        try clear c48
        try clear hcz14_0
        try clear hcz14_1
        try clear hcz16_0
        try clear hcz16_1
        try clear hcz18_0
        try clear hcz18_1
        try clear hcz21_0
        try clear hcz21_1
        try clear hcz23_0
        try clear hcz23_1
        try clear hcz27_0
        try clear hcz27_1
        try clear hcz49_0
        try clear hcz49_1
        try clear hfz14_0
        try clear hfz14_1
        try clear hfz16_0
        try clear hfz16_1
        try clear hfz18_0
        try clear hfz18_1
        try clear hfz21_0
        try clear hfz21_1
        try clear hfz23_0
        try clear hfz23_1
        try clear hfz27_0
        try clear hfz27_1
        try clear hfz49_0
        try clear hfz49_1
        try clear p2
        obtain ⟨x9_3, x10_3, x64_3, rfl, HA, HK3, HO_5, HO_7, HO_9, HO_10, BK101, BK102, HB⟩ := hrel
        cases gk with
        | zero => exact absurd HA.out (by simp [codewrightlaw44_PeelUnions.l0])
        | succ k3 =>
         have H := HA.out
         clear HA
         simp only [codewrightlaw44_PeelUnions.l0] at H
         by_cases c50 : x64_3 < a0_0
         ·rw [if_pos c50] at H
          have c50b0 : decide (x64_3 < a0_0) = true := decide_eq_true c50
          clear c50
          have HC51 := Aside0.mk H
          clear H
          go_upto_region 11 with (fail)
          go_cut [74] (fun v74 wc => ∃ (kq : Nat) (x74_50 : Bool), v74 = .bool x74_50 ∧ Aside0 (codewrightlaw44_PeelUnions.j3 kq t110 t117 x9_3 x10_3 x64_3 a0_0 x64_3 x74_50 a0_0 l0_1 a1_0 a1_1 a1_2 = some r) ∧ Aside0 (kq ≤ k3) ∧ Aside0 (Kd.R (Kd.int .i64) 3 wc w.heap.size (fun k_ => some k_ ≠ (v118 : Value).ownBlock ∧ some k_ ≠ (u9 : Value).ownBlock ∧ some k_ ≠ (u10 : Value).ownBlock) v111 t110) ∧ Aside0 (Kd.R (Kd.int .i64) 3 wc w.heap.size (fun k_ => some k_ ≠ (v111 : Value).ownBlock ∧ some k_ ≠ (u9 : Value).ownBlock ∧ some k_ ≠ (u10 : Value).ownBlock) v118 t117) ∧ Aside0 (Kd.R (Kd.int .i64) 3 wc w.heap.size (fun k_ => some k_ ≠ (v111 : Value).ownBlock ∧ some k_ ≠ (v118 : Value).ownBlock ∧ some k_ ≠ (u10 : Value).ownBlock) u9 x9_3) ∧ Aside0 (Kd.R (Kd.int .i64) 3 wc w.heap.size (fun k_ => some k_ ≠ (v111 : Value).ownBlock ∧ some k_ ≠ (v118 : Value).ownBlock ∧ some k_ ≠ (u9 : Value).ownBlock) u10 x10_3) ∧ Aside0 (wc.heap[gb101]? = some (.cells #[.int .i64 a0_0, (.slice A0_1 l0_1.length c0_1)] 31 (0, 0))) ∧ Aside0 (wc.heap[gb102]? = some (.cells #[.int .u32 a1_0, .int .u32 a1_1, .int .u32 a1_2] 58 (0, 0))) ∧ Aside0 (Below w.heap.size w wc))
          case first =>
           have H := HC51.out
           clear HC51
           replace H := Option.bind_eq_some_iff.mp H
           obtain ⟨t121, A520, H⟩ := H
           replace H : (if t121 = true then (codewrightlaw44_PeelUnions.j3 k3 t110 t117 x9_3 x10_3 x64_3 a0_0 x64_3 true a0_0 l0_1 a1_0 a1_1 a1_2) else ((codewrightlaw44_member.f k3 t117 x64_3).bind fun t122 => (codewrightlaw44_PeelUnions.j3 k3 t110 t117 x9_3 x10_3 x64_3 a0_0 x64_3 t122 a0_0 l0_1 a1_0 a1_1 a1_2))) = some r := H
           have A52 := Aside0.mk A520
           clear A520
           by_cases c53 : t121 = true
           ·subst c53
            have H1 : (codewrightlaw44_PeelUnions.j3 k3 t110 t117 x9_3 x10_3 x64_3 a0_0 x64_3 true a0_0 l0_1 a1_0 a1_1 a1_2) = some r := by rw [if_pos rfl] at H; exact H
            clear H
            have H := H1
            clear H1
            have H' := Aside0.mk H
            clear H
            obtain ⟨Ao54, co54, eo54⟩ := Kd.R_slice HO_5.out
            subst eo54
            go_wp2_with (first | ((with_reducible refine gate_callee (f := 36) rfl ?_); refine goesL_ (some 69) rfl rfl Try.func36 (by kernel_rfl) rfl #[.slice Ao54 t110.length co54, .int .i64 x64_3] rfl (by (try simp only [List.map_toArray, List.map_cons, List.map_nil]); first | done | rfl | (simp only [List.length_drop, List.length_take]; rfl)) ?_; (with_reducible refine (codewrightlaw44_member.calls k3 _ _ t110 x64_3 true _ ?side1 ?side2 A52.out).mono ?_); (case side1 => repeat (first | exact (Kd.R_reads' HO_5.out).2.2 | (with_reducible refine Kd.C_alloc ?_ _) | (with_reducible refine Kd.C_drewN ?_ _) | (with_reducible refine Kd.C_drew ?_))); (case side2 => exact (Kd.R_reads' HO_5.out).2.1); rintro e w' ⟨rfl, ⟨nd, rfl⟩⟩; refine ⟨_, rfl, ?_⟩))
            go_meet
            case rel => exact ⟨_, (true), (by first | rfl | (simp; done) | (simp [*]; done)), H', ⟨by have := HJ2.out; have := HJ36.out; have := HK3.out; first | omega | exact Nat.le_refl _⟩, ⟨by (with_reducible repeat (first | apply Kd.R_alloc | apply Kd.R_drewN | apply Kd.R_drew)); exact HO_5.out⟩, ⟨by (with_reducible repeat (first | apply Kd.R_alloc | apply Kd.R_drewN | apply Kd.R_drew)); exact HO_7.out⟩, ⟨by (with_reducible repeat (first | apply Kd.R_alloc | apply Kd.R_drewN | apply Kd.R_drew)); exact HO_9.out⟩, ⟨by (with_reducible repeat (first | apply Kd.R_alloc | apply Kd.R_drewN | apply Kd.R_drew)); exact HO_10.out⟩, ⟨by (with_reducible repeat (first | refine blk_drewN ?_ _ | refine blk_drew ?_ | refine blk_alloc ?_ _)); exact BK101.out⟩, ⟨by (with_reducible repeat (first | refine blk_drewN ?_ _ | refine blk_drew ?_ | refine blk_alloc ?_ _)); exact BK102.out⟩, ⟨by repeat (first | (with_reducible first | exact HB.out | apply below_alloc | apply pw_below_drewN | apply below_drew1 | refine below_set ?_ GE101.out | refine below_set ?_ GE102.out) | exact HB.out)⟩⟩
           ·replace c53 := Bool.eq_false_iff.mpr c53
            subst c53
            have H1 : ((codewrightlaw44_member.f k3 t117 x64_3).bind fun t122 => (codewrightlaw44_PeelUnions.j3 k3 t110 t117 x9_3 x10_3 x64_3 a0_0 x64_3 t122 a0_0 l0_1 a1_0 a1_1 a1_2)) = some r := by rw [if_neg (show ¬ (false = true) by decide)] at H; exact H
            clear H
            have H := H1
            clear H1
            replace H := Option.bind_eq_some_iff.mp H
            obtain ⟨t122, A550, H⟩ := H
            replace H : (codewrightlaw44_PeelUnions.j3 k3 t110 t117 x9_3 x10_3 x64_3 a0_0 x64_3 t122 a0_0 l0_1 a1_0 a1_1 a1_2) = some r := H
            have A55 := Aside0.mk A550
            clear A550
            have H' := Aside0.mk H
            clear H
            obtain ⟨Ao56, co56, eo56⟩ := Kd.R_slice HO_5.out
            subst eo56
            go_wp2_with (first | ((with_reducible refine gate_callee (f := 36) rfl ?_); refine goesL_ (some 69) rfl rfl Try.func36 (by kernel_rfl) rfl #[.slice Ao56 t110.length co56, .int .i64 x64_3] rfl (by (try simp only [List.map_toArray, List.map_cons, List.map_nil]); first | done | rfl | (simp only [List.length_drop, List.length_take]; rfl)) ?_; (with_reducible refine (codewrightlaw44_member.calls k3 _ _ t110 x64_3 false _ ?side1 ?side2 A52.out).mono ?_); (case side1 => repeat (first | exact (Kd.R_reads' HO_5.out).2.2 | (with_reducible refine Kd.C_alloc ?_ _) | (with_reducible refine Kd.C_drewN ?_ _) | (with_reducible refine Kd.C_drew ?_))); (case side2 => exact (Kd.R_reads' HO_5.out).2.1); rintro e w' ⟨rfl, ⟨nd, rfl⟩⟩; refine ⟨_, rfl, ?_⟩; obtain ⟨Ao57, co57, eo57⟩ := Kd.R_slice HO_7.out; subst eo57) | (go_at_call 36; (with_reducible refine (codewrightlaw44_member.calls k3 _ _ t117 x64_3 t122 _ ?side1 ?side2 A55.out).mono ?_); (case side1 => repeat (first | exact (Kd.R_reads' HO_7.out).2.2 | (with_reducible refine Kd.C_alloc ?_ _) | (with_reducible refine Kd.C_drewN ?_ _) | (with_reducible refine Kd.C_drew ?_))); (case side2 => exact (Kd.R_reads' HO_7.out).2.1); rintro e w' ⟨rfl, ⟨nd, rfl⟩⟩))
            go_meet
            case rel => exact ⟨_, (t122), (by first | rfl | (simp; done) | (simp [*]; done)), H', ⟨by have := HJ2.out; have := HJ36.out; have := HK3.out; first | omega | exact Nat.le_refl _⟩, ⟨by (with_reducible repeat (first | apply Kd.R_alloc | apply Kd.R_drewN | apply Kd.R_drew)); exact HO_5.out⟩, ⟨by (with_reducible repeat (first | apply Kd.R_alloc | apply Kd.R_drewN | apply Kd.R_drew)); exact HO_7.out⟩, ⟨by (with_reducible repeat (first | apply Kd.R_alloc | apply Kd.R_drewN | apply Kd.R_drew)); exact HO_9.out⟩, ⟨by (with_reducible repeat (first | apply Kd.R_alloc | apply Kd.R_drewN | apply Kd.R_drew)); exact HO_10.out⟩, ⟨by (with_reducible repeat (first | refine blk_drewN ?_ _ | refine blk_drew ?_ | refine blk_alloc ?_ _)); exact BK101.out⟩, ⟨by (with_reducible repeat (first | refine blk_drewN ?_ _ | refine blk_drew ?_ | refine blk_alloc ?_ _)); exact BK102.out⟩, ⟨by repeat (first | (with_reducible first | exact HB.out | apply below_alloc | apply pw_below_drewN | apply below_drew1 | refine below_set ?_ GE101.out | refine below_set ?_ GE102.out) | exact HB.out)⟩⟩
          case rest =>
           clear HC51
           try clear c1
           try clear c2
           try clear p2
           try clear c3
           try clear c4
           try clear c5
           try clear c7
           try clear c8
           try clear c9
           try clear c11
           try clear c11b0
           try clear c11b1
           try clear c12
           try clear c13
           try clear c20
           try clear c24
           try clear c26
           try clear c30
           try clear c35
           try clear c36
           try clear c46
           try clear c46b0
           try clear c46b1
           try clear c47
           try clear c48
           try clear c50
           try clear c50b0
           try clear c53
           try clear hcz14_0
           try clear hcz14_1
           try clear hcz16_0
           try clear hcz16_1
           try clear hcz18_0
           try clear hcz18_1
           try clear hcz21_0
           try clear hcz21_1
           try clear hcz23_0
           try clear hcz23_1
           try clear hcz27_0
           try clear hcz27_1
           try clear hcz49_0
           try clear hcz49_1
           try clear hfz14_0
           try clear hfz14_1
           try clear hfz16_0
           try clear hfz16_1
           try clear hfz18_0
           try clear hfz18_1
           try clear hfz21_0
           try clear hfz21_1
           try clear hfz23_0
           try clear hfz23_1
           try clear hfz27_0
           try clear hfz27_1
           try clear hfz49_0
           try clear hfz49_1
           try clear p2
           obtain ⟨kq, x74_50, rfl, HA, HJ50, HO_5, HO_7, HO_9, HO_10, BK101, BK102, HB⟩ := hcut
           cases kq with
           | zero => exact absurd HA.out (by simp [codewrightlaw44_PeelUnions.j3])
           | succ kj50 =>
            have H := HA.out
            clear HA
            simp only [codewrightlaw44_PeelUnions.j3] at H
            have HC58 := Aside0.mk H
            clear H
            go_upto_if 74 with (fail)
            go_cut [9] (fun v9 wc => ∃ (kq : Nat) (x9_57 : List Int), Aside0 (codewrightlaw44_PeelUnions.j4 kq t110 t117 x9_57 x10_3 x64_3 a0_0 x64_3 a0_0 l0_1 a1_0 a1_1 a1_2 = some r) ∧ Aside0 (kq ≤ kj50) ∧ Aside0 (Kd.R (Kd.int .i64) 3 wc w.heap.size (fun k_ => some k_ ≠ (v118 : Value).ownBlock ∧ some k_ ≠ (v9 : Value).ownBlock ∧ some k_ ≠ (u10 : Value).ownBlock) v111 t110) ∧ Aside0 (Kd.R (Kd.int .i64) 3 wc w.heap.size (fun k_ => some k_ ≠ (v111 : Value).ownBlock ∧ some k_ ≠ (v9 : Value).ownBlock ∧ some k_ ≠ (u10 : Value).ownBlock) v118 t117) ∧ Aside0 (Kd.R (Kd.int .i64) 3 wc w.heap.size (fun k_ => some k_ ≠ (v111 : Value).ownBlock ∧ some k_ ≠ (v118 : Value).ownBlock ∧ some k_ ≠ (u10 : Value).ownBlock) v9 x9_57) ∧ Aside0 (Kd.R (Kd.int .i64) 3 wc w.heap.size (fun k_ => some k_ ≠ (v111 : Value).ownBlock ∧ some k_ ≠ (v118 : Value).ownBlock ∧ some k_ ≠ (v9 : Value).ownBlock) u10 x10_3) ∧ Aside0 (wc.heap[gb101]? = some (.cells #[.int .i64 a0_0, (.slice A0_1 l0_1.length c0_1)] 31 (0, 0))) ∧ Aside0 (wc.heap[gb102]? = some (.cells #[.int .u32 a1_0, .int .u32 a1_1, .int .u32 a1_2] 58 (0, 0))) ∧ Aside0 (Below w.heap.size w wc))
            case first =>
             have H := HC58.out
             clear HC58
             by_cases c59 : x74_50 = true
             ·subst c59
              have H1 : (if x9_3.length < 17592186044416 then (codewrightlaw44_PeelUnions.j4 kj50 t110 t117 (x9_3 ++ [x64_3]) x10_3 x64_3 a0_0 x64_3 a0_0 l0_1 a1_0 a1_1 a1_2) else (none)) = some r := by rw [if_pos rfl] at H; exact H
              clear H
              have H := H1
              clear H1
              by_cases c60 : x9_3.length < 17592186044416
              ·rw [if_pos c60] at H
               have LMc60 := Aside0.mk c60
               clear c60
               obtain ⟨y123, hy123⟩ : ∃ y_ : List Int, y_ = (x9_3 ++ [x64_3]) := ⟨_, rfl⟩
               replace H : (codewrightlaw44_PeelUnions.j4 kj50 t110 t117 y123 x10_3 x64_3 a0_0 x64_3 a0_0 l0_1 a1_0 a1_1 a1_2) = some r := by first | (rw [hy123]; with_reducible exact H) | (have H2_ := (Option.bind_some _ _).symm.trans H; rw [hy123]; with_reducible exact H2_) | (have H2_ := (Option.bind_some _ _).symm.trans H; with_reducible exact H2_) | with_reducible exact H | (rw [hy123]; exact H) | exact H
               have Ny123 := Aside0.mk hy123
               clear hy123
               have H' := Aside0.mk H
               clear H
               go_wp2_with (first | ((with_reducible refine gate_builtin (b := .append) (xs := #[.tmp 75, .tmp 77]) rfl ?_); at_builtin; refine Kd.R_append (Kd.int .i64) (w0 := w) w.heap.size rfl (.tmp 75) (.tmp 77) 22 3 (.int .i64 0) 8 rfl Try.underlying22 info3 rfl (by decide) (by omega) u9 x9_3 x64_3 [.int .i64 x64_3] (fun k_ => some k_ ≠ (v111 : Value).ownBlock ∧ some k_ ≠ (v118 : Value).ownBlock ∧ some k_ ≠ (u10 : Value).ownBlock) (fun _ => False) rfl rfl ?aP (fun _ hk => hk.elim) ?aF ?aO ?aB ?aS ?aL ?_; (case aP => exact rfl); (case aB => exact (by repeat (first | (with_reducible first | exact HB.out | apply below_alloc | apply pw_below_drewN | apply below_drew1 | refine below_set ?_ GE101.out | refine below_set ?_ GE102.out) | exact HB.out))); (case aF => exact (fun k_ hk => ⟨Kd.fresh' (Kd.R_lt (by (with_reducible repeat (first | apply Kd.R_alloc | apply Kd.R_drewN | apply Kd.R_drew)); exact HO_5.out)) k_ hk, Kd.fresh' (Kd.R_lt (by (with_reducible repeat (first | apply Kd.R_alloc | apply Kd.R_drewN | apply Kd.R_drew)); exact HO_7.out)) k_ hk, Kd.fresh' (Kd.R_lt (by (with_reducible repeat (first | apply Kd.R_alloc | apply Kd.R_drewN | apply Kd.R_drew)); exact HO_10.out)) k_ hk⟩)); (case aO => exact (by (with_reducible repeat (first | apply Kd.R_alloc | apply Kd.R_drewN | apply Kd.R_drew)); exact HO_9.out)); (case aS => exact (below_size (by repeat (first | (with_reducible first | exact HB.out | apply below_alloc | apply pw_below_drewN | apply below_drew1 | refine below_set ?_ GE101.out | refine below_set ?_ GE102.out) | exact HB.out)))); (case aL => have := LMc60.out; omega); intro v124 w61 ho hb hg hat; rw [← Ny123.out] at ho; have n0_ := Aside0.mk (Kd.R_after (ok := (fun k_ => some k_ ≠ (v118 : Value).ownBlock ∧ some k_ ≠ (u10 : Value).ownBlock)) (by (with_reducible repeat (first | apply Kd.R_alloc | apply Kd.R_drewN | apply Kd.R_drew)); exact Kd.R_mono HO_5.out (fun _ hk => ⟨⟨hk.1, hk.2.2⟩, hk.2.1⟩)) hg hat); have n1_ := Aside0.mk (Kd.R_after (ok := (fun k_ => some k_ ≠ (v111 : Value).ownBlock ∧ some k_ ≠ (u10 : Value).ownBlock)) (by (with_reducible repeat (first | apply Kd.R_alloc | apply Kd.R_drewN | apply Kd.R_drew)); exact Kd.R_mono HO_7.out (fun _ hk => ⟨⟨hk.1, hk.2.2⟩, hk.2.1⟩)) hg hat); have n2_ := Aside0.mk (Kd.R_after (ok := (fun k_ => some k_ ≠ (v111 : Value).ownBlock ∧ some k_ ≠ (v118 : Value).ownBlock)) (by (with_reducible repeat (first | apply Kd.R_alloc | apply Kd.R_drewN | apply Kd.R_drew)); exact Kd.R_mono HO_10.out (fun _ hk => ⟨⟨hk.1, hk.2.1⟩, hk.2.2⟩)) hg hat); have n3_ := Aside0.mk (blk_grown (g := gb101) (o := .cells #[.int .i64 a0_0, .slice A0_1 l0_1.length c0_1] 31 (0, 0)) (by (with_reducible repeat (first | refine blk_drewN ?_ _ | refine blk_drew ?_ | refine blk_alloc ?_ _)); exact BK101.out) hg (Kd.R_ne HO_9.out BK101.out (by decide))); have n4_ := Aside0.mk (blk_grown (g := gb102) (o := .cells #[.int .u32 a1_0, .int .u32 a1_1, .int .u32 a1_2] 58 (0, 0)) (by (with_reducible repeat (first | refine blk_drewN ?_ _ | refine blk_drew ?_ | refine blk_alloc ?_ _)); exact BK102.out) hg (Kd.R_ne HO_9.out BK102.out (by decide))); have n5_ := Aside0.mk (hb); have n6_ := Aside0.mk (ho); clear HO_5; clear HO_7; clear HO_10; clear BK101; clear BK102; clear HB; clear HO_9; have HO_5 := n0_; have HO_7 := n1_; have HO_10 := n2_; have BK101 := n3_; have BK102 := n4_; have HB := n5_; have HO125 := n6_; clear n0_ n1_ n2_ n3_ n4_ n5_ n6_; clear ho hb hg hat))
               go_meet
               case rel => exact ⟨_, (y123), H', ⟨by have := HJ2.out; have := HJ36.out; have := HK3.out; have := HJ50.out; first | omega | exact Nat.le_refl _⟩, ⟨by (with_reducible repeat (first | apply Kd.R_alloc | apply Kd.R_drewN | apply Kd.R_drew)); exact Kd.R_mono HO_5.out (fun _ hk => ⟨hk.1.1, ⟨hk.2, hk.1.2⟩⟩)⟩, ⟨by (with_reducible repeat (first | apply Kd.R_alloc | apply Kd.R_drewN | apply Kd.R_drew)); exact Kd.R_mono HO_7.out (fun _ hk => ⟨hk.1.1, ⟨hk.2, hk.1.2⟩⟩)⟩, ⟨by (with_reducible repeat (first | apply Kd.R_alloc | apply Kd.R_drewN | apply Kd.R_drew)); exact HO125.out⟩, ⟨by (with_reducible repeat (first | apply Kd.R_alloc | apply Kd.R_drewN | apply Kd.R_drew)); exact Kd.R_mono HO_10.out (fun _ hk => ⟨hk.1.1, ⟨hk.1.2, hk.2⟩⟩)⟩, ⟨by (with_reducible repeat (first | refine blk_drewN ?_ _ | refine blk_drew ?_ | refine blk_alloc ?_ _)); exact BK101.out⟩, ⟨by (with_reducible repeat (first | refine blk_drewN ?_ _ | refine blk_drew ?_ | refine blk_alloc ?_ _)); exact BK102.out⟩, ⟨by repeat (first | (with_reducible first | exact HB.out | apply below_alloc | apply pw_below_drewN | apply below_drew1 | refine below_set ?_ GE101.out | refine below_set ?_ GE102.out) | exact HB.out)⟩⟩
              ·rw [if_neg c60] at H
               exact absurd H (by simp)
             ·replace c59 := Bool.eq_false_iff.mpr c59
              subst c59
              have H1 : (codewrightlaw44_PeelUnions.j4 kj50 t110 t117 x9_3 x10_3 x64_3 a0_0 x64_3 a0_0 l0_1 a1_0 a1_1 a1_2) = some r := by rw [if_neg (show ¬ (false = true) by decide)] at H; exact H
              clear H
              have H := H1
              clear H1
              have H' := Aside0.mk H
              clear H
              go_wp2
              go_meet
              case rel => exact ⟨_, (x9_3), H', ⟨by have := HJ2.out; have := HJ36.out; have := HK3.out; have := HJ50.out; first | omega | exact Nat.le_refl _⟩, ⟨by (with_reducible repeat (first | apply Kd.R_alloc | apply Kd.R_drewN | apply Kd.R_drew)); exact HO_5.out⟩, ⟨by (with_reducible repeat (first | apply Kd.R_alloc | apply Kd.R_drewN | apply Kd.R_drew)); exact HO_7.out⟩, ⟨by (with_reducible repeat (first | apply Kd.R_alloc | apply Kd.R_drewN | apply Kd.R_drew)); exact HO_9.out⟩, ⟨by (with_reducible repeat (first | apply Kd.R_alloc | apply Kd.R_drewN | apply Kd.R_drew)); exact HO_10.out⟩, ⟨by (with_reducible repeat (first | refine blk_drewN ?_ _ | refine blk_drew ?_ | refine blk_alloc ?_ _)); exact BK101.out⟩, ⟨by (with_reducible repeat (first | refine blk_drewN ?_ _ | refine blk_drew ?_ | refine blk_alloc ?_ _)); exact BK102.out⟩, ⟨by repeat (first | (with_reducible first | exact HB.out | apply below_alloc | apply pw_below_drewN | apply below_drew1 | refine below_set ?_ GE101.out | refine below_set ?_ GE102.out) | exact HB.out)⟩⟩
            case rest =>
             clear HC58
             try clear c1
             try clear c2
             try clear p2
             try clear c3
             try clear c4
             try clear c5
             try clear c6
             try clear c7
             try clear c8
             try clear c9
             try clear c11
             try clear c11b0
             try clear c11b1
             try clear c12
             try clear c13
             try clear c20
             try clear c24
             try clear c26
             try clear c30
             try clear c35
             try clear c36
             try clear c46
             try clear c46b0
             try clear c46b1
             try clear c47
             try clear c48
             try clear c50
             try clear c50b0
             try clear c53
             try clear c59
             try clear c60
             try clear hcz14_0
             try clear hcz14_1
             try clear hcz16_0
             try clear hcz16_1
             try clear hcz18_0
             try clear hcz18_1
             try clear hcz21_0
             try clear hcz21_1
             try clear hcz23_0
             try clear hcz23_1
             try clear hcz27_0
             try clear hcz27_1
             try clear hcz49_0
             try clear hcz49_1
             try clear hfz14_0
             try clear hfz14_1
             try clear hfz16_0
             try clear hfz16_1
             try clear hfz18_0
             try clear hfz18_1
             try clear hfz21_0
             try clear hfz21_1
             try clear hfz23_0
             try clear hfz23_1
             try clear hfz27_0
             try clear hfz27_1
             try clear hfz49_0
             try clear hfz49_1
             try clear p2
             obtain ⟨kq, x9_57, HA, HJ57, HO_5, HO_7, HO_9, HO_10, BK101, BK102, HB⟩ := hcut
             cases kq with
             | zero => exact absurd HA.out (by simp [codewrightlaw44_PeelUnions.j4])
             | succ kj57 =>
              have H := HA.out
              clear HA
              simp only [codewrightlaw44_PeelUnions.j4] at H
              replace H := Option.bind_eq_some_iff.mp H
              obtain ⟨t126, A620, H⟩ := H
              replace H : (if t126 = true then (if x10_3.length < 17592186044416 then (codewrightlaw44_PeelUnions.l0 kj57 t110 t117 x9_57 (x10_3 ++ [x64_3]) a0_0 (wrap64 (x64_3 + 1)) a0_0 l0_1 a1_0 a1_1 a1_2) else (none)) else ((codewrightlaw44_member.f kj57 t117 x64_3).bind fun t130 => (if t130 = true then (if x10_3.length < 17592186044416 then (codewrightlaw44_PeelUnions.l0 kj57 t110 t117 x9_57 (x10_3 ++ [x64_3]) a0_0 (wrap64 (x64_3 + 1)) a0_0 l0_1 a1_0 a1_1 a1_2) else (none)) else (if 0 ≤ x64_3 then (if (Go.bits .and .u32 (shr .u32 a1_2 x64_3) 1) = 1 then (if x10_3.length < 17592186044416 then (codewrightlaw44_PeelUnions.l0 kj57 t110 t117 x9_57 (x10_3 ++ [x64_3]) a0_0 (wrap64 (x64_3 + 1)) a0_0 l0_1 a1_0 a1_1 a1_2) else (none)) else (codewrightlaw44_PeelUnions.l0 kj57 t110 t117 x9_57 x10_3 a0_0 (wrap64 (x64_3 + 1)) a0_0 l0_1 a1_0 a1_1 a1_2)) else (none))))) = some r := H
              have A62 := Aside0.mk A620
              clear A620
              by_cases c63 : t126 = true
              ·subst c63
               have H1 : (if x10_3.length < 17592186044416 then (codewrightlaw44_PeelUnions.l0 kj57 t110 t117 x9_57 (x10_3 ++ [x64_3]) a0_0 (wrap64 (x64_3 + 1)) a0_0 l0_1 a1_0 a1_1 a1_2) else (none)) = some r := by rw [if_pos rfl] at H; exact H
               clear H
               have H := H1
               clear H1
               by_cases c64 : x10_3.length < 17592186044416
               ·rw [if_pos c64] at H
                have LMc64 := Aside0.mk c64
                clear c64
                obtain ⟨y127, hy127⟩ : ∃ y_ : List Int, y_ = (x10_3 ++ [x64_3]) := ⟨_, rfl⟩
                replace H : (codewrightlaw44_PeelUnions.l0 kj57 t110 t117 x9_57 y127 a0_0 (wrap64 (x64_3 + 1)) a0_0 l0_1 a1_0 a1_1 a1_2) = some r := by first | (rw [hy127]; with_reducible exact H) | (have H2_ := (Option.bind_some _ _).symm.trans H; rw [hy127]; with_reducible exact H2_) | (have H2_ := (Option.bind_some _ _).symm.trans H; with_reducible exact H2_) | with_reducible exact H | (rw [hy127]; exact H) | exact H
                have Ny127 := Aside0.mk hy127
                clear hy127
                have H' := Aside0.mk H
                clear H
                obtain ⟨Ao65, co65, eo65⟩ := Kd.R_slice HO_5.out
                subst eo65
                go_wp2_with (first | ((with_reducible refine gate_callee (f := 36) rfl ?_); refine goesL_ (some 81) rfl rfl Try.func36 (by kernel_rfl) rfl #[.slice Ao65 t110.length co65, .int .i64 x64_3] rfl (by (try simp only [List.map_toArray, List.map_cons, List.map_nil]); first | done | rfl | (simp only [List.length_drop, List.length_take]; rfl)) ?_; (with_reducible refine (codewrightlaw44_member.calls kj57 _ _ t110 x64_3 true _ ?side1 ?side2 A62.out).mono ?_); (case side1 => repeat (first | exact (Kd.R_reads' HO_5.out).2.2 | (with_reducible refine Kd.C_alloc ?_ _) | (with_reducible refine Kd.C_drewN ?_ _) | (with_reducible refine Kd.C_drew ?_))); (case side2 => exact (Kd.R_reads' HO_5.out).2.1); rintro e w' ⟨rfl, ⟨nd, rfl⟩⟩; refine ⟨_, rfl, ?_⟩) | ((with_reducible refine gate_builtin (b := .append) (xs := #[.tmp 95, .tmp 97]) rfl ?_); at_builtin; refine Kd.R_append (Kd.int .i64) (w0 := w) w.heap.size rfl (.tmp 95) (.tmp 97) 22 3 (.int .i64 0) 8 rfl Try.underlying22 info3 rfl (by decide) (by omega) u10 x10_3 x64_3 [.int .i64 x64_3] (fun k_ => some k_ ≠ (.slice Ao65 t110.length co65 : Value).ownBlock ∧ some k_ ≠ (v118 : Value).ownBlock ∧ some k_ ≠ (u9 : Value).ownBlock) (fun _ => False) rfl rfl ?aP (fun _ hk => hk.elim) ?aF ?aO ?aB ?aS ?aL ?_; (case aP => exact rfl); (case aB => exact (by repeat (first | (with_reducible first | exact HB.out | apply below_alloc | apply pw_below_drewN | apply below_drew1 | refine below_set ?_ GE101.out | refine below_set ?_ GE102.out) | exact HB.out))); (case aF => exact (fun k_ hk => ⟨Kd.fresh' (Kd.R_lt (by (with_reducible repeat (first | apply Kd.R_alloc | apply Kd.R_drewN | apply Kd.R_drew)); exact HO_5.out)) k_ hk, Kd.fresh' (Kd.R_lt (by (with_reducible repeat (first | apply Kd.R_alloc | apply Kd.R_drewN | apply Kd.R_drew)); exact HO_7.out)) k_ hk, Kd.fresh' (Kd.R_lt (by (with_reducible repeat (first | apply Kd.R_alloc | apply Kd.R_drewN | apply Kd.R_drew)); exact HO_9.out)) k_ hk⟩)); (case aO => exact (by (with_reducible repeat (first | apply Kd.R_alloc | apply Kd.R_drewN | apply Kd.R_drew)); exact HO_10.out)); (case aS => exact (below_size (by repeat (first | (with_reducible first | exact HB.out | apply below_alloc | apply pw_below_drewN | apply below_drew1 | refine below_set ?_ GE101.out | refine below_set ?_ GE102.out) | exact HB.out)))); (case aL => have := LMc64.out; omega); intro v128 w66 ho hb hg hat; rw [← Ny127.out] at ho; have n0_ := Aside0.mk (Kd.R_after (ok := (fun k_ => some k_ ≠ (v118 : Value).ownBlock ∧ some k_ ≠ (u9 : Value).ownBlock)) (by (with_reducible repeat (first | apply Kd.R_alloc | apply Kd.R_drewN | apply Kd.R_drew)); exact Kd.R_mono HO_5.out (fun _ hk => ⟨⟨hk.1, hk.2.1⟩, hk.2.2⟩)) hg hat); have n1_ := Aside0.mk (Kd.R_after (ok := (fun k_ => some k_ ≠ (.slice Ao65 t110.length co65 : Value).ownBlock ∧ some k_ ≠ (u9 : Value).ownBlock)) (by (with_reducible repeat (first | apply Kd.R_alloc | apply Kd.R_drewN | apply Kd.R_drew)); exact Kd.R_mono HO_7.out (fun _ hk => ⟨⟨hk.1, hk.2.1⟩, hk.2.2⟩)) hg hat); have n2_ := Aside0.mk (Kd.R_after (ok := (fun k_ => some k_ ≠ (.slice Ao65 t110.length co65 : Value).ownBlock ∧ some k_ ≠ (v118 : Value).ownBlock)) (by (with_reducible repeat (first | apply Kd.R_alloc | apply Kd.R_drewN | apply Kd.R_drew)); exact Kd.R_mono HO_9.out (fun _ hk => ⟨⟨hk.1, hk.2.1⟩, hk.2.2⟩)) hg hat); have n3_ := Aside0.mk (blk_grown (g := gb101) (o := .cells #[.int .i64 a0_0, .slice A0_1 l0_1.length c0_1] 31 (0, 0)) (by (with_reducible repeat (first | refine blk_drewN ?_ _ | refine blk_drew ?_ | refine blk_alloc ?_ _)); exact BK101.out) hg (Kd.R_ne HO_10.out BK101.out (by decide))); have n4_ := Aside0.mk (blk_grown (g := gb102) (o := .cells #[.int .u32 a1_0, .int .u32 a1_1, .int .u32 a1_2] 58 (0, 0)) (by (with_reducible repeat (first | refine blk_drewN ?_ _ | refine blk_drew ?_ | refine blk_alloc ?_ _)); exact BK102.out) hg (Kd.R_ne HO_10.out BK102.out (by decide))); have n5_ := Aside0.mk (hb); have n6_ := Aside0.mk (ho); clear HO_5; clear HO_7; clear HO_9; clear BK101; clear BK102; clear HB; clear HO_10; have HO_5 := n0_; have HO_7 := n1_; have HO_9 := n2_; have BK101 := n3_; have BK102 := n4_; have HB := n5_; have HO129 := n6_; clear n0_ n1_ n2_ n3_ n4_ n5_ n6_; clear ho hb hg hat))
                go_roundg kj57
                case measure => have := HJ2.out; have := HJ36.out; have := HK3.out; have := HJ50.out; have := HJ57.out; omega
                case rel => exact ⟨(x9_57), (y127), (wrap64 (x64_3 + 1)), (by first | rfl | (simp; done) | (simp [*]; done)), H', ⟨by have := HJ2.out; have := HJ36.out; have := HK3.out; have := HJ50.out; have := HJ57.out; omega⟩, ⟨by (with_reducible repeat (first | apply Kd.R_alloc | apply Kd.R_drewN | apply Kd.R_drew)); exact Kd.R_mono HO_5.out (fun _ hk => ⟨hk.1.1, ⟨hk.1.2, hk.2⟩⟩)⟩, ⟨by (with_reducible repeat (first | apply Kd.R_alloc | apply Kd.R_drewN | apply Kd.R_drew)); exact Kd.R_mono HO_7.out (fun _ hk => ⟨hk.1.1, ⟨hk.1.2, hk.2⟩⟩)⟩, ⟨by (with_reducible repeat (first | apply Kd.R_alloc | apply Kd.R_drewN | apply Kd.R_drew)); exact Kd.R_mono HO_9.out (fun _ hk => ⟨hk.1.1, ⟨hk.1.2, hk.2⟩⟩)⟩, ⟨by (with_reducible repeat (first | apply Kd.R_alloc | apply Kd.R_drewN | apply Kd.R_drew)); exact HO129.out⟩, ⟨by (with_reducible repeat (first | refine blk_drewN ?_ _ | refine blk_drew ?_ | refine blk_alloc ?_ _)); exact BK101.out⟩, ⟨by (with_reducible repeat (first | refine blk_drewN ?_ _ | refine blk_drew ?_ | refine blk_alloc ?_ _)); exact BK102.out⟩, ⟨by repeat (first | (with_reducible first | exact HB.out | apply below_alloc | apply pw_below_drewN | apply below_drew1 | refine below_set ?_ GE101.out | refine below_set ?_ GE102.out) | exact HB.out)⟩⟩
               ·rw [if_neg c64] at H
                exact absurd H (by simp)
              ·replace c63 := Bool.eq_false_iff.mpr c63
               subst c63
               have H1 : ((codewrightlaw44_member.f kj57 t117 x64_3).bind fun t130 => (if t130 = true then (if x10_3.length < 17592186044416 then (codewrightlaw44_PeelUnions.l0 kj57 t110 t117 x9_57 (x10_3 ++ [x64_3]) a0_0 (wrap64 (x64_3 + 1)) a0_0 l0_1 a1_0 a1_1 a1_2) else (none)) else (if 0 ≤ x64_3 then (if (Go.bits .and .u32 (shr .u32 a1_2 x64_3) 1) = 1 then (if x10_3.length < 17592186044416 then (codewrightlaw44_PeelUnions.l0 kj57 t110 t117 x9_57 (x10_3 ++ [x64_3]) a0_0 (wrap64 (x64_3 + 1)) a0_0 l0_1 a1_0 a1_1 a1_2) else (none)) else (codewrightlaw44_PeelUnions.l0 kj57 t110 t117 x9_57 x10_3 a0_0 (wrap64 (x64_3 + 1)) a0_0 l0_1 a1_0 a1_1 a1_2)) else (none)))) = some r := by rw [if_neg (show ¬ (false = true) by decide)] at H; exact H
               clear H
               have H := H1
               clear H1
               replace H := Option.bind_eq_some_iff.mp H
               obtain ⟨t130, A670, H⟩ := H
               replace H : (if t130 = true then (if x10_3.length < 17592186044416 then (codewrightlaw44_PeelUnions.l0 kj57 t110 t117 x9_57 (x10_3 ++ [x64_3]) a0_0 (wrap64 (x64_3 + 1)) a0_0 l0_1 a1_0 a1_1 a1_2) else (none)) else (if 0 ≤ x64_3 then (if (Go.bits .and .u32 (shr .u32 a1_2 x64_3) 1) = 1 then (if x10_3.length < 17592186044416 then (codewrightlaw44_PeelUnions.l0 kj57 t110 t117 x9_57 (x10_3 ++ [x64_3]) a0_0 (wrap64 (x64_3 + 1)) a0_0 l0_1 a1_0 a1_1 a1_2) else (none)) else (codewrightlaw44_PeelUnions.l0 kj57 t110 t117 x9_57 x10_3 a0_0 (wrap64 (x64_3 + 1)) a0_0 l0_1 a1_0 a1_1 a1_2)) else (none))) = some r := H
               have A67 := Aside0.mk A670
               clear A670
               by_cases c68 : t130 = true
               ·subst c68
                have H1 : (if x10_3.length < 17592186044416 then (codewrightlaw44_PeelUnions.l0 kj57 t110 t117 x9_57 (x10_3 ++ [x64_3]) a0_0 (wrap64 (x64_3 + 1)) a0_0 l0_1 a1_0 a1_1 a1_2) else (none)) = some r := by rw [if_pos rfl] at H; exact H
                clear H
                have H := H1
                clear H1
                by_cases c69 : x10_3.length < 17592186044416
                ·rw [if_pos c69] at H
                 have LMc69 := Aside0.mk c69
                 clear c69
                 obtain ⟨y131, hy131⟩ : ∃ y_ : List Int, y_ = (x10_3 ++ [x64_3]) := ⟨_, rfl⟩
                 replace H : (codewrightlaw44_PeelUnions.l0 kj57 t110 t117 x9_57 y131 a0_0 (wrap64 (x64_3 + 1)) a0_0 l0_1 a1_0 a1_1 a1_2) = some r := by first | (rw [hy131]; with_reducible exact H) | (have H2_ := (Option.bind_some _ _).symm.trans H; rw [hy131]; with_reducible exact H2_) | (have H2_ := (Option.bind_some _ _).symm.trans H; with_reducible exact H2_) | with_reducible exact H | (rw [hy131]; exact H) | exact H
                 have Ny131 := Aside0.mk hy131
                 clear hy131
                 have H' := Aside0.mk H
                 clear H
                 obtain ⟨Ao70, co70, eo70⟩ := Kd.R_slice HO_5.out
                 subst eo70
                 go_wp2_with (first | ((with_reducible refine gate_callee (f := 36) rfl ?_); refine goesL_ (some 81) rfl rfl Try.func36 (by kernel_rfl) rfl #[.slice Ao70 t110.length co70, .int .i64 x64_3] rfl (by (try simp only [List.map_toArray, List.map_cons, List.map_nil]); first | done | rfl | (simp only [List.length_drop, List.length_take]; rfl)) ?_; (with_reducible refine (codewrightlaw44_member.calls kj57 _ _ t110 x64_3 false _ ?side1 ?side2 A62.out).mono ?_); (case side1 => repeat (first | exact (Kd.R_reads' HO_5.out).2.2 | (with_reducible refine Kd.C_alloc ?_ _) | (with_reducible refine Kd.C_drewN ?_ _) | (with_reducible refine Kd.C_drew ?_))); (case side2 => exact (Kd.R_reads' HO_5.out).2.1); rintro e w' ⟨rfl, ⟨nd, rfl⟩⟩; refine ⟨_, rfl, ?_⟩; obtain ⟨Ao71, co71, eo71⟩ := Kd.R_slice HO_7.out; subst eo71) | (go_at_call 36; (with_reducible refine (codewrightlaw44_member.calls kj57 _ _ t117 x64_3 true _ ?side1 ?side2 A67.out).mono ?_); (case side1 => repeat (first | exact (Kd.R_reads' HO_7.out).2.2 | (with_reducible refine Kd.C_alloc ?_ _) | (with_reducible refine Kd.C_drewN ?_ _) | (with_reducible refine Kd.C_drew ?_))); (case side2 => exact (Kd.R_reads' HO_7.out).2.1); rintro e w' ⟨rfl, ⟨nd, rfl⟩⟩) | ((with_reducible refine gate_builtin (b := .append) (xs := #[.tmp 95, .tmp 97]) rfl ?_); at_builtin; refine Kd.R_append (Kd.int .i64) (w0 := w) w.heap.size rfl (.tmp 95) (.tmp 97) 22 3 (.int .i64 0) 8 rfl Try.underlying22 info3 rfl (by decide) (by omega) u10 x10_3 x64_3 [.int .i64 x64_3] (fun k_ => some k_ ≠ (.slice Ao70 t110.length co70 : Value).ownBlock ∧ some k_ ≠ (.slice Ao71 t117.length co71 : Value).ownBlock ∧ some k_ ≠ (u9 : Value).ownBlock) (fun _ => False) rfl rfl ?aP (fun _ hk => hk.elim) ?aF ?aO ?aB ?aS ?aL ?_; (case aP => exact rfl); (case aB => exact (by repeat (first | (with_reducible first | exact HB.out | apply below_alloc | apply pw_below_drewN | apply below_drew1 | refine below_set ?_ GE101.out | refine below_set ?_ GE102.out) | exact HB.out))); (case aF => exact (fun k_ hk => ⟨Kd.fresh' (Kd.R_lt (by (with_reducible repeat (first | apply Kd.R_alloc | apply Kd.R_drewN | apply Kd.R_drew)); exact HO_5.out)) k_ hk, Kd.fresh' (Kd.R_lt (by (with_reducible repeat (first | apply Kd.R_alloc | apply Kd.R_drewN | apply Kd.R_drew)); exact HO_7.out)) k_ hk, Kd.fresh' (Kd.R_lt (by (with_reducible repeat (first | apply Kd.R_alloc | apply Kd.R_drewN | apply Kd.R_drew)); exact HO_9.out)) k_ hk⟩)); (case aO => exact (by (with_reducible repeat (first | apply Kd.R_alloc | apply Kd.R_drewN | apply Kd.R_drew)); exact HO_10.out)); (case aS => exact (below_size (by repeat (first | (with_reducible first | exact HB.out | apply below_alloc | apply pw_below_drewN | apply below_drew1 | refine below_set ?_ GE101.out | refine below_set ?_ GE102.out) | exact HB.out)))); (case aL => have := LMc69.out; omega); intro v132 w72 ho hb hg hat; rw [← Ny131.out] at ho; have n0_ := Aside0.mk (Kd.R_after (ok := (fun k_ => some k_ ≠ (.slice Ao71 t117.length co71 : Value).ownBlock ∧ some k_ ≠ (u9 : Value).ownBlock)) (by (with_reducible repeat (first | apply Kd.R_alloc | apply Kd.R_drewN | apply Kd.R_drew)); exact Kd.R_mono HO_5.out (fun _ hk => ⟨⟨hk.1, hk.2.1⟩, hk.2.2⟩)) hg hat); have n1_ := Aside0.mk (Kd.R_after (ok := (fun k_ => some k_ ≠ (.slice Ao70 t110.length co70 : Value).ownBlock ∧ some k_ ≠ (u9 : Value).ownBlock)) (by (with_reducible repeat (first | apply Kd.R_alloc | apply Kd.R_drewN | apply Kd.R_drew)); exact Kd.R_mono HO_7.out (fun _ hk => ⟨⟨hk.1, hk.2.1⟩, hk.2.2⟩)) hg hat); have n2_ := Aside0.mk (Kd.R_after (ok := (fun k_ => some k_ ≠ (.slice Ao70 t110.length co70 : Value).ownBlock ∧ some k_ ≠ (.slice Ao71 t117.length co71 : Value).ownBlock)) (by (with_reducible repeat (first | apply Kd.R_alloc | apply Kd.R_drewN | apply Kd.R_drew)); exact Kd.R_mono HO_9.out (fun _ hk => ⟨⟨hk.1, hk.2.1⟩, hk.2.2⟩)) hg hat); have n3_ := Aside0.mk (blk_grown (g := gb101) (o := .cells #[.int .i64 a0_0, .slice A0_1 l0_1.length c0_1] 31 (0, 0)) (by (with_reducible repeat (first | refine blk_drewN ?_ _ | refine blk_drew ?_ | refine blk_alloc ?_ _)); exact BK101.out) hg (Kd.R_ne HO_10.out BK101.out (by decide))); have n4_ := Aside0.mk (blk_grown (g := gb102) (o := .cells #[.int .u32 a1_0, .int .u32 a1_1, .int .u32 a1_2] 58 (0, 0)) (by (with_reducible repeat (first | refine blk_drewN ?_ _ | refine blk_drew ?_ | refine blk_alloc ?_ _)); exact BK102.out) hg (Kd.R_ne HO_10.out BK102.out (by decide))); have n5_ := Aside0.mk (hb); have n6_ := Aside0.mk (ho); clear HO_5; clear HO_7; clear HO_9; clear BK101; clear BK102; clear HB; clear HO_10; have HO_5 := n0_; have HO_7 := n1_; have HO_9 := n2_; have BK101 := n3_; have BK102 := n4_; have HB := n5_; have HO133 := n6_; clear n0_ n1_ n2_ n3_ n4_ n5_ n6_; clear ho hb hg hat))
                 go_roundg kj57
                 case measure => have := HJ2.out; have := HJ36.out; have := HK3.out; have := HJ50.out; have := HJ57.out; omega
                 case rel => exact ⟨(x9_57), (y131), (wrap64 (x64_3 + 1)), (by first | rfl | (simp; done) | (simp [*]; done)), H', ⟨by have := HJ2.out; have := HJ36.out; have := HK3.out; have := HJ50.out; have := HJ57.out; omega⟩, ⟨by (with_reducible repeat (first | apply Kd.R_alloc | apply Kd.R_drewN | apply Kd.R_drew)); exact Kd.R_mono HO_5.out (fun _ hk => ⟨hk.1.1, ⟨hk.1.2, hk.2⟩⟩)⟩, ⟨by (with_reducible repeat (first | apply Kd.R_alloc | apply Kd.R_drewN | apply Kd.R_drew)); exact Kd.R_mono HO_7.out (fun _ hk => ⟨hk.1.1, ⟨hk.1.2, hk.2⟩⟩)⟩, ⟨by (with_reducible repeat (first | apply Kd.R_alloc | apply Kd.R_drewN | apply Kd.R_drew)); exact Kd.R_mono HO_9.out (fun _ hk => ⟨hk.1.1, ⟨hk.1.2, hk.2⟩⟩)⟩, ⟨by (with_reducible repeat (first | apply Kd.R_alloc | apply Kd.R_drewN | apply Kd.R_drew)); exact HO133.out⟩, ⟨by (with_reducible repeat (first | refine blk_drewN ?_ _ | refine blk_drew ?_ | refine blk_alloc ?_ _)); exact BK101.out⟩, ⟨by (with_reducible repeat (first | refine blk_drewN ?_ _ | refine blk_drew ?_ | refine blk_alloc ?_ _)); exact BK102.out⟩, ⟨by repeat (first | (with_reducible first | exact HB.out | apply below_alloc | apply pw_below_drewN | apply below_drew1 | refine below_set ?_ GE101.out | refine below_set ?_ GE102.out) | exact HB.out)⟩⟩
                ·rw [if_neg c69] at H
                 exact absurd H (by simp)
               ·replace c68 := Bool.eq_false_iff.mpr c68
                subst c68
                have H1 : (if 0 ≤ x64_3 then (if (Go.bits .and .u32 (shr .u32 a1_2 x64_3) 1) = 1 then (if x10_3.length < 17592186044416 then (codewrightlaw44_PeelUnions.l0 kj57 t110 t117 x9_57 (x10_3 ++ [x64_3]) a0_0 (wrap64 (x64_3 + 1)) a0_0 l0_1 a1_0 a1_1 a1_2) else (none)) else (codewrightlaw44_PeelUnions.l0 kj57 t110 t117 x9_57 x10_3 a0_0 (wrap64 (x64_3 + 1)) a0_0 l0_1 a1_0 a1_1 a1_2)) else (none)) = some r := by rw [if_neg (show ¬ (false = true) by decide)] at H; exact H
                clear H
                have H := H1
                clear H1
                by_cases c73 : 0 ≤ x64_3
                ·rw [if_pos c73] at H
                 have c73b0 := eq_true c73
                 have c73b1 : decide (0 ≤ x64_3) = true := decide_eq_true c73
                 clear c73
                 obtain ⟨ji74, hji74⟩ : ∃ j_ : Int, (shr .u32 a1_2 x64_3) = j_ := ⟨_, rfl⟩
                 replace H : (if (Go.bits .and .u32 (ji74) 1) = 1 then (if x10_3.length < 17592186044416 then (codewrightlaw44_PeelUnions.l0 kj57 t110 t117 x9_57 (x10_3 ++ [x64_3]) a0_0 (wrap64 (x64_3 + 1)) a0_0 l0_1 a1_0 a1_1 a1_2) else (none)) else (codewrightlaw44_PeelUnions.l0 kj57 t110 t117 x9_57 x10_3 a0_0 (wrap64 (x64_3 + 1)) a0_0 l0_1 a1_0 a1_1 a1_2)) = some r := by first | (rw [hji74] at H; exact H) | (simp only [hji74] at H ⊢; exact H)
                 (try rw [hji74] at A62)
                 (try rw [hji74] at A67)
                 have hji74_ : (a1_2 / 2 ^ min x64_3.toNat 32) = ji74 := hji74
                 have hji74z : x64_3 ≤ 32 → (a1_2 / 2 ^ x64_3.toNat) = ji74 := shr_small hji74
                 by_cases c75 : (Go.bits .and .u32 (ji74) 1) = 1
                 ·rw [if_pos c75] at H
                  have c75b0 : ((Go.bits .and .u32 (ji74) 1) == 1) = true := beq_iff_eq.mpr c75
                  have c75b1 : ((Go.bits .and .u32 (ji74) 1) != 1) = false := bne_eq_false_iff_eq.mpr c75
                  clear c75
                  by_cases c76 : x10_3.length < 17592186044416
                  ·rw [if_pos c76] at H
                   have LMc76 := Aside0.mk c76
                   clear c76
                   obtain ⟨y134, hy134⟩ : ∃ y_ : List Int, y_ = (x10_3 ++ [x64_3]) := ⟨_, rfl⟩
                   replace H : (codewrightlaw44_PeelUnions.l0 kj57 t110 t117 x9_57 y134 a0_0 (wrap64 (x64_3 + 1)) a0_0 l0_1 a1_0 a1_1 a1_2) = some r := by first | (rw [hy134]; with_reducible exact H) | (have H2_ := (Option.bind_some _ _).symm.trans H; rw [hy134]; with_reducible exact H2_) | (have H2_ := (Option.bind_some _ _).symm.trans H; with_reducible exact H2_) | with_reducible exact H | (rw [hy134]; exact H) | exact H
                   have Ny134 := Aside0.mk hy134
                   clear hy134
                   have H' := Aside0.mk H
                   clear H
                   obtain ⟨Ao77, co77, eo77⟩ := Kd.R_slice HO_5.out
                   subst eo77
                   go_wp2_with (first | ((with_reducible refine gate_callee (f := 36) rfl ?_); refine goesL_ (some 81) rfl rfl Try.func36 (by kernel_rfl) rfl #[.slice Ao77 t110.length co77, .int .i64 x64_3] rfl (by (try simp only [List.map_toArray, List.map_cons, List.map_nil]); first | done | rfl | (simp only [List.length_drop, List.length_take]; rfl)) ?_; (with_reducible refine (codewrightlaw44_member.calls kj57 _ _ t110 x64_3 false _ ?side1 ?side2 A62.out).mono ?_); (case side1 => repeat (first | exact (Kd.R_reads' HO_5.out).2.2 | (with_reducible refine Kd.C_alloc ?_ _) | (with_reducible refine Kd.C_drewN ?_ _) | (with_reducible refine Kd.C_drew ?_))); (case side2 => exact (Kd.R_reads' HO_5.out).2.1); rintro e w' ⟨rfl, ⟨nd, rfl⟩⟩; refine ⟨_, rfl, ?_⟩; obtain ⟨Ao78, co78, eo78⟩ := Kd.R_slice HO_7.out; subst eo78) | (go_at_call 36; (with_reducible refine (codewrightlaw44_member.calls kj57 _ _ t117 x64_3 false _ ?side1 ?side2 A67.out).mono ?_); (case side1 => repeat (first | exact (Kd.R_reads' HO_7.out).2.2 | (with_reducible refine Kd.C_alloc ?_ _) | (with_reducible refine Kd.C_drewN ?_ _) | (with_reducible refine Kd.C_drew ?_))); (case side2 => exact (Kd.R_reads' HO_7.out).2.1); rintro e w' ⟨rfl, ⟨nd, rfl⟩⟩; have hnb79 := NB102_101.out; have hnc79 := NB101_102.out; have hcz80_0 : wc.cell? ⟨gb102, 0, none⟩ = some (.int .u32 a1_0) := (blk_cell BK102.out 0).trans rfl; have hcz80_1 : wc.cell? ⟨gb102, 1, none⟩ = some (.int .u32 a1_1) := (blk_cell BK102.out 1).trans rfl; have hcz80_2 : wc.cell? ⟨gb102, 2, none⟩ = some (.int .u32 a1_2) := (blk_cell BK102.out 2).trans rfl; have hfz80_0 := blk_frozen BK102.out 0; have hfz80_1 := blk_frozen BK102.out 1; have hfz80_2 := blk_frozen BK102.out 2) | ((with_reducible refine gate_builtin (b := .append) (xs := #[.tmp 95, .tmp 97]) rfl ?_); at_builtin; refine Kd.R_append (Kd.int .i64) (w0 := w) w.heap.size rfl (.tmp 95) (.tmp 97) 22 3 (.int .i64 0) 8 rfl Try.underlying22 info3 rfl (by decide) (by omega) u10 x10_3 x64_3 [.int .i64 x64_3] (fun k_ => some k_ ≠ (.slice Ao77 t110.length co77 : Value).ownBlock ∧ some k_ ≠ (.slice Ao78 t117.length co78 : Value).ownBlock ∧ some k_ ≠ (u9 : Value).ownBlock) (fun _ => False) rfl rfl ?aP (fun _ hk => hk.elim) ?aF ?aO ?aB ?aS ?aL ?_; (case aP => exact rfl); (case aB => exact (by repeat (first | (with_reducible first | exact HB.out | apply below_alloc | apply pw_below_drewN | apply below_drew1 | refine below_set ?_ GE101.out | refine below_set ?_ GE102.out) | exact HB.out))); (case aF => exact (fun k_ hk => ⟨Kd.fresh' (Kd.R_lt (by (with_reducible repeat (first | apply Kd.R_alloc | apply Kd.R_drewN | apply Kd.R_drew)); exact HO_5.out)) k_ hk, Kd.fresh' (Kd.R_lt (by (with_reducible repeat (first | apply Kd.R_alloc | apply Kd.R_drewN | apply Kd.R_drew)); exact HO_7.out)) k_ hk, Kd.fresh' (Kd.R_lt (by (with_reducible repeat (first | apply Kd.R_alloc | apply Kd.R_drewN | apply Kd.R_drew)); exact HO_9.out)) k_ hk⟩)); (case aO => exact (by (with_reducible repeat (first | apply Kd.R_alloc | apply Kd.R_drewN | apply Kd.R_drew)); exact HO_10.out)); (case aS => exact (below_size (by repeat (first | (with_reducible first | exact HB.out | apply below_alloc | apply pw_below_drewN | apply below_drew1 | refine below_set ?_ GE101.out | refine below_set ?_ GE102.out) | exact HB.out)))); (case aL => have := LMc76.out; omega); intro v135 w81 ho hb hg hat; rw [← Ny134.out] at ho; have n0_ := Aside0.mk (Kd.R_after (ok := (fun k_ => some k_ ≠ (.slice Ao78 t117.length co78 : Value).ownBlock ∧ some k_ ≠ (u9 : Value).ownBlock)) (by (with_reducible repeat (first | apply Kd.R_alloc | apply Kd.R_drewN | apply Kd.R_drew)); exact Kd.R_mono HO_5.out (fun _ hk => ⟨⟨hk.1, hk.2.1⟩, hk.2.2⟩)) hg hat); have n1_ := Aside0.mk (Kd.R_after (ok := (fun k_ => some k_ ≠ (.slice Ao77 t110.length co77 : Value).ownBlock ∧ some k_ ≠ (u9 : Value).ownBlock)) (by (with_reducible repeat (first | apply Kd.R_alloc | apply Kd.R_drewN | apply Kd.R_drew)); exact Kd.R_mono HO_7.out (fun _ hk => ⟨⟨hk.1, hk.2.1⟩, hk.2.2⟩)) hg hat); have n2_ := Aside0.mk (Kd.R_after (ok := (fun k_ => some k_ ≠ (.slice Ao77 t110.length co77 : Value).ownBlock ∧ some k_ ≠ (.slice Ao78 t117.length co78 : Value).ownBlock)) (by (with_reducible repeat (first | apply Kd.R_alloc | apply Kd.R_drewN | apply Kd.R_drew)); exact Kd.R_mono HO_9.out (fun _ hk => ⟨⟨hk.1, hk.2.1⟩, hk.2.2⟩)) hg hat); have n3_ := Aside0.mk (blk_grown (g := gb101) (o := .cells #[.int .i64 a0_0, .slice A0_1 l0_1.length c0_1] 31 (0, 0)) (by (with_reducible repeat (first | refine blk_drewN ?_ _ | refine blk_drew ?_ | refine blk_alloc ?_ _)); exact BK101.out) hg (Kd.R_ne HO_10.out BK101.out (by decide))); have n4_ := Aside0.mk (blk_grown (g := gb102) (o := .cells #[.int .u32 a1_0, .int .u32 a1_1, .int .u32 a1_2] 58 (0, 0)) (by (with_reducible repeat (first | refine blk_drewN ?_ _ | refine blk_drew ?_ | refine blk_alloc ?_ _)); exact BK102.out) hg (Kd.R_ne HO_10.out BK102.out (by decide))); have n5_ := Aside0.mk (hb); have n6_ := Aside0.mk (ho); clear HO_5; clear HO_7; clear HO_9; clear BK101; clear BK102; clear HB; clear HO_10; have HO_5 := n0_; have HO_7 := n1_; have HO_9 := n2_; have BK101 := n3_; have BK102 := n4_; have HB := n5_; have HO136 := n6_; clear n0_ n1_ n2_ n3_ n4_ n5_ n6_; clear ho hb hg hat))
                   go_roundg kj57
                   case measure => have := HJ2.out; have := HJ36.out; have := HK3.out; have := HJ50.out; have := HJ57.out; omega
                   case rel => exact ⟨(x9_57), (y134), (wrap64 (x64_3 + 1)), (by first | rfl | (simp; done) | (simp [*]; done)), H', ⟨by have := HJ2.out; have := HJ36.out; have := HK3.out; have := HJ50.out; have := HJ57.out; omega⟩, ⟨by (with_reducible repeat (first | apply Kd.R_alloc | apply Kd.R_drewN | apply Kd.R_drew)); exact Kd.R_mono HO_5.out (fun _ hk => ⟨hk.1.1, ⟨hk.1.2, hk.2⟩⟩)⟩, ⟨by (with_reducible repeat (first | apply Kd.R_alloc | apply Kd.R_drewN | apply Kd.R_drew)); exact Kd.R_mono HO_7.out (fun _ hk => ⟨hk.1.1, ⟨hk.1.2, hk.2⟩⟩)⟩, ⟨by (with_reducible repeat (first | apply Kd.R_alloc | apply Kd.R_drewN | apply Kd.R_drew)); exact Kd.R_mono HO_9.out (fun _ hk => ⟨hk.1.1, ⟨hk.1.2, hk.2⟩⟩)⟩, ⟨by (with_reducible repeat (first | apply Kd.R_alloc | apply Kd.R_drewN | apply Kd.R_drew)); exact HO136.out⟩, ⟨by (with_reducible repeat (first | refine blk_drewN ?_ _ | refine blk_drew ?_ | refine blk_alloc ?_ _)); exact BK101.out⟩, ⟨by (with_reducible repeat (first | refine blk_drewN ?_ _ | refine blk_drew ?_ | refine blk_alloc ?_ _)); exact BK102.out⟩, ⟨by repeat (first | (with_reducible first | exact HB.out | apply below_alloc | apply pw_below_drewN | apply below_drew1 | refine below_set ?_ GE101.out | refine below_set ?_ GE102.out) | exact HB.out)⟩⟩
                  ·rw [if_neg c76] at H
                   exact absurd H (by simp)
                 ·rw [if_neg c75] at H
                  have c75b0 : ((Go.bits .and .u32 (ji74) 1) == 1) = false := beq_eq_false_iff_ne.mpr c75
                  have c75b1 : ((Go.bits .and .u32 (ji74) 1) != 1) = true := bne_iff_ne.mpr c75
                  have H' := Aside0.mk H
                  clear H
                  obtain ⟨Ao82, co82, eo82⟩ := Kd.R_slice HO_5.out
                  subst eo82
                  go_wp2_with (first | ((with_reducible refine gate_callee (f := 36) rfl ?_); refine goesL_ (some 81) rfl rfl Try.func36 (by kernel_rfl) rfl #[.slice Ao82 t110.length co82, .int .i64 x64_3] rfl (by (try simp only [List.map_toArray, List.map_cons, List.map_nil]); first | done | rfl | (simp only [List.length_drop, List.length_take]; rfl)) ?_; (with_reducible refine (codewrightlaw44_member.calls kj57 _ _ t110 x64_3 false _ ?side1 ?side2 A62.out).mono ?_); (case side1 => repeat (first | exact (Kd.R_reads' HO_5.out).2.2 | (with_reducible refine Kd.C_alloc ?_ _) | (with_reducible refine Kd.C_drewN ?_ _) | (with_reducible refine Kd.C_drew ?_))); (case side2 => exact (Kd.R_reads' HO_5.out).2.1); rintro e w' ⟨rfl, ⟨nd, rfl⟩⟩; refine ⟨_, rfl, ?_⟩; obtain ⟨Ao83, co83, eo83⟩ := Kd.R_slice HO_7.out; subst eo83) | (go_at_call 36; (with_reducible refine (codewrightlaw44_member.calls kj57 _ _ t117 x64_3 false _ ?side1 ?side2 A67.out).mono ?_); (case side1 => repeat (first | exact (Kd.R_reads' HO_7.out).2.2 | (with_reducible refine Kd.C_alloc ?_ _) | (with_reducible refine Kd.C_drewN ?_ _) | (with_reducible refine Kd.C_drew ?_))); (case side2 => exact (Kd.R_reads' HO_7.out).2.1); rintro e w' ⟨rfl, ⟨nd, rfl⟩⟩; have hnb84 := NB102_101.out; have hnc84 := NB101_102.out; have hcz85_0 : wc.cell? ⟨gb102, 0, none⟩ = some (.int .u32 a1_0) := (blk_cell BK102.out 0).trans rfl; have hcz85_1 : wc.cell? ⟨gb102, 1, none⟩ = some (.int .u32 a1_1) := (blk_cell BK102.out 1).trans rfl; have hcz85_2 : wc.cell? ⟨gb102, 2, none⟩ = some (.int .u32 a1_2) := (blk_cell BK102.out 2).trans rfl; have hfz85_0 := blk_frozen BK102.out 0; have hfz85_1 := blk_frozen BK102.out 1; have hfz85_2 := blk_frozen BK102.out 2))
                  go_roundg kj57
                  case measure => have := HJ2.out; have := HJ36.out; have := HK3.out; have := HJ50.out; have := HJ57.out; omega
                  case rel => exact ⟨(x9_57), (x10_3), (wrap64 (x64_3 + 1)), (by first | rfl | (simp; done) | (simp [*]; done)), H', ⟨by have := HJ2.out; have := HJ36.out; have := HK3.out; have := HJ50.out; have := HJ57.out; omega⟩, ⟨by (with_reducible repeat (first | apply Kd.R_alloc | apply Kd.R_drewN | apply Kd.R_drew)); exact HO_5.out⟩, ⟨by (with_reducible repeat (first | apply Kd.R_alloc | apply Kd.R_drewN | apply Kd.R_drew)); exact HO_7.out⟩, ⟨by (with_reducible repeat (first | apply Kd.R_alloc | apply Kd.R_drewN | apply Kd.R_drew)); exact HO_9.out⟩, ⟨by (with_reducible repeat (first | apply Kd.R_alloc | apply Kd.R_drewN | apply Kd.R_drew)); exact HO_10.out⟩, ⟨by (with_reducible repeat (first | refine blk_drewN ?_ _ | refine blk_drew ?_ | refine blk_alloc ?_ _)); exact BK101.out⟩, ⟨by (with_reducible repeat (first | refine blk_drewN ?_ _ | refine blk_drew ?_ | refine blk_alloc ?_ _)); exact BK102.out⟩, ⟨by repeat (first | (with_reducible first | exact HB.out | apply below_alloc | apply pw_below_drewN | apply below_drew1 | refine below_set ?_ GE101.out | refine below_set ?_ GE102.out) | exact HB.out)⟩⟩
                ·rw [if_neg c73] at H
                 exact absurd H (by simp)
         ·rw [if_neg c50] at H
          have c50b0 : decide (x64_3 < a0_0) = false := decide_eq_false c50
          clear c50
          replace H := Option.bind_eq_some_iff.mp H
          obtain ⟨⟨t137, t138⟩, A860, H⟩ := H
          replace H : ((peel_Greatest.f k3 a0_0 l0_1 x10_3).bind fun bt139 => ((peel_Stopping.f k3 a0_0 l0_1 bt139.1).bind fun bt143 => (if t138 = 0 then (if bt139.2 = 0 then (if bt143.2 = 0 then (if t137 = true then (codewrightlaw44_PeelUnions.j5 k3 x9_3 bt139.1 (!bt143.1)) else (codewrightlaw44_PeelUnions.j5 k3 x9_3 bt139.1 true)) else (codewrightlaw44_PeelUnions.j5 k3 x9_3 bt139.1 true)) else (codewrightlaw44_PeelUnions.j5 k3 x9_3 bt139.1 true)) else (codewrightlaw44_PeelUnions.j5 k3 x9_3 bt139.1 true)))) = some r := H
          have A86 := Aside0.mk A860
          clear A860
          replace H := Option.bind_eq_some_iff.mp H
          obtain ⟨⟨t139, t142⟩, A870, H⟩ := H
          replace H : ((peel_Stopping.f k3 a0_0 l0_1 t139).bind fun bt143 => (if t138 = 0 then (if t142 = 0 then (if bt143.2 = 0 then (if t137 = true then (codewrightlaw44_PeelUnions.j5 k3 x9_3 t139 (!bt143.1)) else (codewrightlaw44_PeelUnions.j5 k3 x9_3 t139 true)) else (codewrightlaw44_PeelUnions.j5 k3 x9_3 t139 true)) else (codewrightlaw44_PeelUnions.j5 k3 x9_3 t139 true)) else (codewrightlaw44_PeelUnions.j5 k3 x9_3 t139 true))) = some r := H
          have A87 := Aside0.mk A870
          clear A870
          replace H := Option.bind_eq_some_iff.mp H
          obtain ⟨⟨t143, t144⟩, A880, H⟩ := H
          replace H : (if t138 = 0 then (if t142 = 0 then (if t144 = 0 then (if t137 = true then (codewrightlaw44_PeelUnions.j5 k3 x9_3 t139 (!t143)) else (codewrightlaw44_PeelUnions.j5 k3 x9_3 t139 true)) else (codewrightlaw44_PeelUnions.j5 k3 x9_3 t139 true)) else (codewrightlaw44_PeelUnions.j5 k3 x9_3 t139 true)) else (codewrightlaw44_PeelUnions.j5 k3 x9_3 t139 true)) = some r := H
          have A88 := Aside0.mk A880
          clear A880
          have HC89 := Aside0.mk H
          clear H
          have hnb90 := NB101_102.out
          have hnc90 := NB102_101.out
          have hcz91_0 : wr.cell? ⟨gb101, 0, none⟩ = some (.int .i64 a0_0) := (blk_cell BK101.out 0).trans rfl
          have hcz91_1 : wr.cell? ⟨gb101, 1, none⟩ = some (.slice A0_1 l0_1.length c0_1) := (blk_cell BK101.out 1).trans rfl
          have hfz91_0 := blk_frozen BK101.out 0
          have hfz91_1 := blk_frozen BK101.out 1
          obtain ⟨Ao92, co92, eo92⟩ := Kd.R_slice HO_9.out
          subst eo92
          go_upto_region 19 with (first | ((with_reducible refine gate_callee (f := 20) rfl ?_); refine goesL_ (some 103) rfl rfl Try.func20 (by kernel_rfl) rfl #[.agg #[.int .i64 a0_0, .slice A0_1 l0_1.length c0_1], .slice Ao92 x9_3.length co92] rfl (by (try simp only [List.map_toArray, List.map_cons, List.map_nil]); first | done | rfl | (simp only [List.length_drop, List.length_take]; rfl)) ?_; (with_reducible refine (peel_Stopping.calls k3 a0_0 _ _ l0_1 _ _ x9_3 t137 t138 _ ?side1 ?side2 ?side3 ?side4 A86.out).mono ?_); (case side1 => repeat (first | exact (Kd.C_below HR0_1.out HB.out) | (with_reducible refine Kd.C_alloc ?_ _) | (with_reducible refine Kd.C_drewN ?_ _) | (with_reducible refine Kd.C_drew ?_))); (case side2 => exact HC0_1.out); (case side3 => repeat (first | exact (Kd.R_reads' HO_9.out).2.2 | (with_reducible refine Kd.C_alloc ?_ _) | (with_reducible refine Kd.C_drewN ?_ _) | (with_reducible refine Kd.C_drew ?_))); (case side4 => exact (Kd.R_reads' HO_9.out).2.1); rintro e w93 ⟨rfl, hb⟩; refine ⟨_, rfl, ?_⟩; have n0_ := Aside0.mk (Kd.R_below (by (with_reducible repeat (first | apply Kd.R_alloc | apply Kd.R_drewN | apply Kd.R_drew)); exact HO_5.out) hb); have n1_ := Aside0.mk (Kd.R_below (by (with_reducible repeat (first | apply Kd.R_alloc | apply Kd.R_drewN | apply Kd.R_drew)); exact HO_7.out) hb); have n2_ := Aside0.mk (Kd.R_below (by (with_reducible repeat (first | apply Kd.R_alloc | apply Kd.R_drewN | apply Kd.R_drew)); exact HO_9.out) hb); have n3_ := Aside0.mk (Kd.R_below (by (with_reducible repeat (first | apply Kd.R_alloc | apply Kd.R_drewN | apply Kd.R_drew)); exact HO_10.out) hb); have n4_ := Aside0.mk (blk_below (g := gb101) (o := .cells #[.int .i64 a0_0, .slice A0_1 l0_1.length c0_1] 31 (0, 0)) (by (with_reducible repeat (first | refine blk_drewN ?_ _ | refine blk_drew ?_ | refine blk_alloc ?_ _)); exact BK101.out) hb); have n5_ := Aside0.mk (blk_below (g := gb102) (o := .cells #[.int .u32 a1_0, .int .u32 a1_1, .int .u32 a1_2] 58 (0, 0)) (by (with_reducible repeat (first | refine blk_drewN ?_ _ | refine blk_drew ?_ | refine blk_alloc ?_ _)); exact BK102.out) hb); have n6_ := Aside0.mk (below_step (by repeat (first | (with_reducible first | exact HB.out | apply below_alloc | apply pw_below_drewN | apply below_drew1 | refine below_set ?_ GE101.out | refine below_set ?_ GE102.out) | exact HB.out)) hb); clear HO_5; clear HO_7; clear HO_9; clear HO_10; clear BK101; clear BK102; clear HB; have HO_5 := n0_; have HO_7 := n1_; have HO_9 := n2_; have HO_10 := n3_; have BK101 := n4_; have BK102 := n5_; have HB := n6_; clear n0_ n1_ n2_ n3_ n4_ n5_ n6_; (try clear hb); (try clear hb2); (try clear hk); (try clear hi); have hcz94_0 : w93.cell? ⟨gb101, 0, none⟩ = some (.int .i64 a0_0) := (blk_cell BK101.out 0).trans rfl; have hcz94_1 : w93.cell? ⟨gb101, 1, none⟩ = some (.slice A0_1 l0_1.length c0_1) := (blk_cell BK101.out 1).trans rfl; have hfz94_0 := blk_frozen BK101.out 0; have hfz94_1 := blk_frozen BK101.out 1; obtain ⟨Ao95, co95, eo95⟩ := Kd.R_slice HO_10.out; subst eo95) | ((with_reducible refine gate_callee (f := 24) rfl ?_); refine goesL_ (some 109) rfl rfl Try.func24 (by kernel_rfl) rfl #[.agg #[.int .i64 a0_0, .slice A0_1 l0_1.length c0_1], .slice Ao95 x10_3.length co95] rfl (by (try simp only [List.map_toArray, List.map_cons, List.map_nil]); first | done | rfl | (simp only [List.length_drop, List.length_take]; rfl)) ?_; (with_reducible refine (peel_Greatest.calls k3 a0_0 _ _ l0_1 _ _ x10_3 t139 t142 _ ?side1 ?side2 ?side3 ?side4 A87.out).mono ?_); (case side1 => repeat (first | exact (Kd.C_below HR0_1.out HB.out) | (with_reducible refine Kd.C_alloc ?_ _) | (with_reducible refine Kd.C_drewN ?_ _) | (with_reducible refine Kd.C_drew ?_))); (case side2 => exact HC0_1.out); (case side3 => repeat (first | exact (Kd.R_reads' HO_10.out).2.2 | (with_reducible refine Kd.C_alloc ?_ _) | (with_reducible refine Kd.C_drewN ?_ _) | (with_reducible refine Kd.C_drew ?_))); (case side4 => exact (Kd.R_reads' HO_10.out).2.1); rintro e w96 ⟨v140, rfl, ho0, hb⟩; refine ⟨_, rfl, ?_⟩; have n0_ := Aside0.mk (Kd.R_elder' (by (with_reducible repeat (first | apply Kd.R_alloc | apply Kd.R_drewN | apply Kd.R_drew)); exact HO_5.out) (Kd.R_base ho0) hb); have n1_ := Aside0.mk (Kd.R_elder' (by (with_reducible repeat (first | apply Kd.R_alloc | apply Kd.R_drewN | apply Kd.R_drew)); exact HO_7.out) (Kd.R_base ho0) hb); have n2_ := Aside0.mk (Kd.R_elder' (by (with_reducible repeat (first | apply Kd.R_alloc | apply Kd.R_drewN | apply Kd.R_drew)); exact HO_9.out) (Kd.R_base ho0) hb); have n3_ := Aside0.mk (Kd.R_elder' (by (with_reducible repeat (first | apply Kd.R_alloc | apply Kd.R_drewN | apply Kd.R_drew)); exact HO_10.out) (Kd.R_base ho0) hb); have n4_ := Aside0.mk (Kd.R_lower (Kd.R_new' (Kd.R_new' (Kd.R_new' (Kd.R_new' ho0 (Kd.R_lt (by (with_reducible repeat (first | apply Kd.R_alloc | apply Kd.R_drewN | apply Kd.R_drew)); exact HO_5.out))) (Kd.R_lt (by (with_reducible repeat (first | apply Kd.R_alloc | apply Kd.R_drewN | apply Kd.R_drew)); exact HO_7.out))) (Kd.R_lt (by (with_reducible repeat (first | apply Kd.R_alloc | apply Kd.R_drewN | apply Kd.R_drew)); exact HO_9.out))) (Kd.R_lt (by (with_reducible repeat (first | apply Kd.R_alloc | apply Kd.R_drewN | apply Kd.R_drew)); exact HO_10.out))) (below_size (by repeat (first | (with_reducible first | exact HB.out | apply below_alloc | apply pw_below_drewN | apply below_drew1 | refine below_set ?_ GE101.out | refine below_set ?_ GE102.out) | exact HB.out)))); have n5_ := Aside0.mk (blk_below (g := gb101) (o := .cells #[.int .i64 a0_0, .slice A0_1 l0_1.length c0_1] 31 (0, 0)) (by (with_reducible repeat (first | refine blk_drewN ?_ _ | refine blk_drew ?_ | refine blk_alloc ?_ _)); exact BK101.out) hb); have n6_ := Aside0.mk (blk_below (g := gb102) (o := .cells #[.int .u32 a1_0, .int .u32 a1_1, .int .u32 a1_2] 58 (0, 0)) (by (with_reducible repeat (first | refine blk_drewN ?_ _ | refine blk_drew ?_ | refine blk_alloc ?_ _)); exact BK102.out) hb); have n7_ := Aside0.mk (below_step (by repeat (first | (with_reducible first | exact HB.out | apply below_alloc | apply pw_below_drewN | apply below_drew1 | refine below_set ?_ GE101.out | refine below_set ?_ GE102.out) | exact HB.out)) hb); clear HO_5; clear HO_7; clear HO_9; clear HO_10; clear BK101; clear BK102; clear HB; have HO_5 := n0_; have HO_7 := n1_; have HO_9 := n2_; have HO_10 := n3_; have HO141 := n4_; have BK101 := n5_; have BK102 := n6_; have HB := n7_; clear n0_ n1_ n2_ n3_ n4_ n5_ n6_ n7_; (try clear hb); (try clear hb2); (try clear hk); (try clear hi); (try clear ho0); have hcz97_0 : w96.cell? ⟨gb101, 0, none⟩ = some (.int .i64 a0_0) := (blk_cell BK101.out 0).trans rfl; have hcz97_1 : w96.cell? ⟨gb101, 1, none⟩ = some (.slice A0_1 l0_1.length c0_1) := (blk_cell BK101.out 1).trans rfl; have hfz97_0 := blk_frozen BK101.out 0; have hfz97_1 := blk_frozen BK101.out 1; obtain ⟨Ao98, co98, eo98⟩ := Kd.R_slice HO141.out; subst eo98) | ((with_reducible refine gate_callee (f := 20) rfl ?_); refine goesL_ (some 115) rfl rfl Try.func20 (by kernel_rfl) rfl #[.agg #[.int .i64 a0_0, .slice A0_1 l0_1.length c0_1], .slice Ao98 t139.length co98] rfl (by (try simp only [List.map_toArray, List.map_cons, List.map_nil]); first | done | rfl | (simp only [List.length_drop, List.length_take]; rfl)) ?_; (with_reducible refine (peel_Stopping.calls k3 a0_0 _ _ l0_1 _ _ t139 t143 t144 _ ?side1 ?side2 ?side3 ?side4 A88.out).mono ?_); (case side1 => repeat (first | exact (Kd.C_below HR0_1.out HB.out) | (with_reducible refine Kd.C_alloc ?_ _) | (with_reducible refine Kd.C_drewN ?_ _) | (with_reducible refine Kd.C_drew ?_))); (case side2 => exact HC0_1.out); (case side3 => repeat (first | exact (Kd.R_reads' HO141.out).2.2 | (with_reducible refine Kd.C_alloc ?_ _) | (with_reducible refine Kd.C_drewN ?_ _) | (with_reducible refine Kd.C_drew ?_))); (case side4 => exact (Kd.R_reads' HO141.out).2.1); rintro e w99 ⟨rfl, hb⟩; refine ⟨_, rfl, ?_⟩; have n0_ := Aside0.mk (Kd.R_below (by (with_reducible repeat (first | apply Kd.R_alloc | apply Kd.R_drewN | apply Kd.R_drew)); exact HO_5.out) hb); have n1_ := Aside0.mk (Kd.R_below (by (with_reducible repeat (first | apply Kd.R_alloc | apply Kd.R_drewN | apply Kd.R_drew)); exact HO_7.out) hb); have n2_ := Aside0.mk (Kd.R_below (by (with_reducible repeat (first | apply Kd.R_alloc | apply Kd.R_drewN | apply Kd.R_drew)); exact HO_9.out) hb); have n3_ := Aside0.mk (Kd.R_below (by (with_reducible repeat (first | apply Kd.R_alloc | apply Kd.R_drewN | apply Kd.R_drew)); exact HO_10.out) hb); have n4_ := Aside0.mk (Kd.R_below (by (with_reducible repeat (first | apply Kd.R_alloc | apply Kd.R_drewN | apply Kd.R_drew)); exact HO141.out) hb); have n5_ := Aside0.mk (blk_below (g := gb101) (o := .cells #[.int .i64 a0_0, .slice A0_1 l0_1.length c0_1] 31 (0, 0)) (by (with_reducible repeat (first | refine blk_drewN ?_ _ | refine blk_drew ?_ | refine blk_alloc ?_ _)); exact BK101.out) hb); have n6_ := Aside0.mk (blk_below (g := gb102) (o := .cells #[.int .u32 a1_0, .int .u32 a1_1, .int .u32 a1_2] 58 (0, 0)) (by (with_reducible repeat (first | refine blk_drewN ?_ _ | refine blk_drew ?_ | refine blk_alloc ?_ _)); exact BK102.out) hb); have n7_ := Aside0.mk (below_step (by repeat (first | (with_reducible first | exact HB.out | apply below_alloc | apply pw_below_drewN | apply below_drew1 | refine below_set ?_ GE101.out | refine below_set ?_ GE102.out) | exact HB.out)) hb); clear HO_5; clear HO_7; clear HO_9; clear HO_10; clear HO141; clear BK101; clear BK102; clear HB; have HO_5 := n0_; have HO_7 := n1_; have HO_9 := n2_; have HO_10 := n3_; have HO141 := n4_; have BK101 := n5_; have BK102 := n6_; have HB := n7_; clear n0_ n1_ n2_ n3_ n4_ n5_ n6_ n7_; (try clear hb); (try clear hb2); (try clear hk); (try clear hi)))
          (try simp only [Act.put, List.setIfInBounds_toArray, List.set_cons_zero, List.set_cons_succ])
          go_cut [135] (fun v135 wc => ∃ (kq : Nat) (x135_88 : Bool), v135 = .bool x135_88 ∧ Aside0 (codewrightlaw44_PeelUnions.j5 kq x9_3 t139 x135_88 = some r) ∧ Aside0 (kq ≤ k3) ∧ Aside0 (Kd.R (Kd.int .i64) 3 wc w.heap.size (fun k_ => some k_ ≠ ((.slice Ao98 t139.length co98) : Value).ownBlock) (.slice Ao92 x9_3.length co92) x9_3) ∧ Aside0 (Kd.R (Kd.int .i64) 3 wc w.heap.size (fun k_ => some k_ ≠ ((.slice Ao92 x9_3.length co92) : Value).ownBlock) (.slice Ao98 t139.length co98) t139) ∧ Aside0 (wc.heap[gb101]? = some (.cells #[.int .i64 a0_0, (.slice A0_1 l0_1.length c0_1)] 31 (0, 0))) ∧ Aside0 (wc.heap[gb102]? = some (.cells #[.int .u32 a1_0, .int .u32 a1_1, .int .u32 a1_2] 58 (0, 0))) ∧ Aside0 (Below w.heap.size w wc))
          case first =>
           have H := HC89.out
           clear HC89
           by_cases c100 : t138 = 0
           ·rw [if_pos c100] at H
            have c100b0 : (t138 == 0) = true := beq_iff_eq.mpr c100
            have c100b1 : (t138 != 0) = false := bne_eq_false_iff_eq.mpr c100
            clear c100
            (first | rw [c100b0] | (simp only [i64_w, i32_w]; rw [c100b0]) | skip)
            by_cases c101 : t142 = 0
            ·rw [if_pos c101] at H
             have c101b0 : (t142 == 0) = true := beq_iff_eq.mpr c101
             have c101b1 : (t142 != 0) = false := bne_eq_false_iff_eq.mpr c101
             clear c101
             by_cases c102 : t144 = 0
             ·rw [if_pos c102] at H
              have c102b0 : (t144 == 0) = true := beq_iff_eq.mpr c102
              have c102b1 : (t144 != 0) = false := bne_eq_false_iff_eq.mpr c102
              clear c102
              by_cases c103 : t137 = true
              ·subst c103
               have H1 : (codewrightlaw44_PeelUnions.j5 k3 x9_3 t139 (!t143)) = some r := by rw [if_pos rfl] at H; exact H
               clear H
               have H := H1
               clear H1
               have H' := Aside0.mk H
               clear H
               go_wp2
               go_meet
               case rel => exact ⟨_, (!t143), (by first | rfl | (simp; done) | (simp [*]; done)), H', ⟨by have := HJ2.out; have := HJ36.out; have := HK3.out; first | omega | exact Nat.le_refl _⟩, ⟨by (with_reducible repeat (first | apply Kd.R_alloc | apply Kd.R_drewN | apply Kd.R_drew)); exact Kd.R_mono HO_9.out (fun _ hk => hk.2)⟩, ⟨by (with_reducible repeat (first | apply Kd.R_alloc | apply Kd.R_drewN | apply Kd.R_drew)); exact Kd.R_mono HO141.out (fun _ hk => hk.1.2)⟩, ⟨by (with_reducible repeat (first | refine blk_drewN ?_ _ | refine blk_drew ?_ | refine blk_alloc ?_ _)); exact BK101.out⟩, ⟨by (with_reducible repeat (first | refine blk_drewN ?_ _ | refine blk_drew ?_ | refine blk_alloc ?_ _)); exact BK102.out⟩, ⟨by repeat (first | (with_reducible first | exact HB.out | apply below_alloc | apply pw_below_drewN | apply below_drew1 | refine below_set ?_ GE101.out | refine below_set ?_ GE102.out) | exact HB.out)⟩⟩
              ·replace c103 := Bool.eq_false_iff.mpr c103
               subst c103
               have H1 : (codewrightlaw44_PeelUnions.j5 k3 x9_3 t139 true) = some r := by rw [if_neg (show ¬ (false = true) by decide)] at H; exact H
               clear H
               have H := H1
               clear H1
               have H' := Aside0.mk H
               clear H
               go_wp2
               go_meet
               case rel => exact ⟨_, (true), (by first | rfl | (simp; done) | (simp [*]; done)), H', ⟨by have := HJ2.out; have := HJ36.out; have := HK3.out; first | omega | exact Nat.le_refl _⟩, ⟨by (with_reducible repeat (first | apply Kd.R_alloc | apply Kd.R_drewN | apply Kd.R_drew)); exact Kd.R_mono HO_9.out (fun _ hk => hk.2)⟩, ⟨by (with_reducible repeat (first | apply Kd.R_alloc | apply Kd.R_drewN | apply Kd.R_drew)); exact Kd.R_mono HO141.out (fun _ hk => hk.1.2)⟩, ⟨by (with_reducible repeat (first | refine blk_drewN ?_ _ | refine blk_drew ?_ | refine blk_alloc ?_ _)); exact BK101.out⟩, ⟨by (with_reducible repeat (first | refine blk_drewN ?_ _ | refine blk_drew ?_ | refine blk_alloc ?_ _)); exact BK102.out⟩, ⟨by repeat (first | (with_reducible first | exact HB.out | apply below_alloc | apply pw_below_drewN | apply below_drew1 | refine below_set ?_ GE101.out | refine below_set ?_ GE102.out) | exact HB.out)⟩⟩
             ·rw [if_neg c102] at H
              have c102b0 : (t144 == 0) = false := beq_eq_false_iff_ne.mpr c102
              have c102b1 : (t144 != 0) = true := bne_iff_ne.mpr c102
              have H' := Aside0.mk H
              clear H
              go_wp2
              go_meet
              case rel => exact ⟨_, (true), (by first | rfl | (simp; done) | (simp [*]; done)), H', ⟨by have := HJ2.out; have := HJ36.out; have := HK3.out; first | omega | exact Nat.le_refl _⟩, ⟨by (with_reducible repeat (first | apply Kd.R_alloc | apply Kd.R_drewN | apply Kd.R_drew)); exact Kd.R_mono HO_9.out (fun _ hk => hk.2)⟩, ⟨by (with_reducible repeat (first | apply Kd.R_alloc | apply Kd.R_drewN | apply Kd.R_drew)); exact Kd.R_mono HO141.out (fun _ hk => hk.1.2)⟩, ⟨by (with_reducible repeat (first | refine blk_drewN ?_ _ | refine blk_drew ?_ | refine blk_alloc ?_ _)); exact BK101.out⟩, ⟨by (with_reducible repeat (first | refine blk_drewN ?_ _ | refine blk_drew ?_ | refine blk_alloc ?_ _)); exact BK102.out⟩, ⟨by repeat (first | (with_reducible first | exact HB.out | apply below_alloc | apply pw_below_drewN | apply below_drew1 | refine below_set ?_ GE101.out | refine below_set ?_ GE102.out) | exact HB.out)⟩⟩
            ·rw [if_neg c101] at H
             have c101b0 : (t142 == 0) = false := beq_eq_false_iff_ne.mpr c101
             have c101b1 : (t142 != 0) = true := bne_iff_ne.mpr c101
             have H' := Aside0.mk H
             clear H
             go_wp2
             go_meet
             case rel => exact ⟨_, (true), (by first | rfl | (simp; done) | (simp [*]; done)), H', ⟨by have := HJ2.out; have := HJ36.out; have := HK3.out; first | omega | exact Nat.le_refl _⟩, ⟨by (with_reducible repeat (first | apply Kd.R_alloc | apply Kd.R_drewN | apply Kd.R_drew)); exact Kd.R_mono HO_9.out (fun _ hk => hk.2)⟩, ⟨by (with_reducible repeat (first | apply Kd.R_alloc | apply Kd.R_drewN | apply Kd.R_drew)); exact Kd.R_mono HO141.out (fun _ hk => hk.1.2)⟩, ⟨by (with_reducible repeat (first | refine blk_drewN ?_ _ | refine blk_drew ?_ | refine blk_alloc ?_ _)); exact BK101.out⟩, ⟨by (with_reducible repeat (first | refine blk_drewN ?_ _ | refine blk_drew ?_ | refine blk_alloc ?_ _)); exact BK102.out⟩, ⟨by repeat (first | (with_reducible first | exact HB.out | apply below_alloc | apply pw_below_drewN | apply below_drew1 | refine below_set ?_ GE101.out | refine below_set ?_ GE102.out) | exact HB.out)⟩⟩
           ·rw [if_neg c100] at H
            have c100b0 : (t138 == 0) = false := beq_eq_false_iff_ne.mpr c100
            have c100b1 : (t138 != 0) = true := bne_iff_ne.mpr c100
            (first | rw [c100b0] | (simp only [i64_w, i32_w]; rw [c100b0]) | skip)
            have H' := Aside0.mk H
            clear H
            go_wp2
            go_meet
            case rel => exact ⟨_, (true), (by first | rfl | (simp; done) | (simp [*]; done)), H', ⟨by have := HJ2.out; have := HJ36.out; have := HK3.out; first | omega | exact Nat.le_refl _⟩, ⟨by (with_reducible repeat (first | apply Kd.R_alloc | apply Kd.R_drewN | apply Kd.R_drew)); exact Kd.R_mono HO_9.out (fun _ hk => hk.2)⟩, ⟨by (with_reducible repeat (first | apply Kd.R_alloc | apply Kd.R_drewN | apply Kd.R_drew)); exact Kd.R_mono HO141.out (fun _ hk => hk.1.2)⟩, ⟨by (with_reducible repeat (first | refine blk_drewN ?_ _ | refine blk_drew ?_ | refine blk_alloc ?_ _)); exact BK101.out⟩, ⟨by (with_reducible repeat (first | refine blk_drewN ?_ _ | refine blk_drew ?_ | refine blk_alloc ?_ _)); exact BK102.out⟩, ⟨by repeat (first | (with_reducible first | exact HB.out | apply below_alloc | apply pw_below_drewN | apply below_drew1 | refine below_set ?_ GE101.out | refine below_set ?_ GE102.out) | exact HB.out)⟩⟩
          case rest =>
           clear HC89
           try clear c1
           try clear c2
           try clear p2
           try clear c3
           try clear c4
           try clear c5
           try clear c6
           try clear p6
           try clear c7
           try clear c8
           try clear c9
           try clear c10
           try clear c11
           try clear c11b0
           try clear c11b1
           try clear c12
           try clear c13
           try clear c20
           try clear c24
           try clear c26
           try clear c30
           try clear c35
           try clear c36
           try clear c46
           try clear c46b0
           try clear c46b1
           try clear c47
           try clear c48
           try clear c50
           try clear c50b0
           try clear c53
           try clear c59
           try clear c60
           try clear c63
           try clear c64
           try clear p64
           try clear c68
           try clear c69
           try clear c73
           try clear c73b0
           try clear c73b1
           try clear c75
           try clear c75b0
           try clear c75b1
           try clear c76
           try clear c79
           try clear c84
           try clear c90
           try clear c100
           try clear c100b0
           try clear c100b1
           try clear c101
           try clear c101b0
           try clear c101b1
           try clear c102
           try clear c102b0
           try clear c102b1
           try clear c103
           try clear hcz14_0
           try clear hcz14_1
           try clear hcz16_0
           try clear hcz16_1
           try clear hcz18_0
           try clear hcz18_1
           try clear hcz21_0
           try clear hcz21_1
           try clear hcz23_0
           try clear hcz23_1
           try clear hcz27_0
           try clear hcz27_1
           try clear hcz49_0
           try clear hcz49_1
           try clear hcz80_0
           try clear hcz80_1
           try clear hcz80_2
           try clear hcz85_0
           try clear hcz85_1
           try clear hcz85_2
           try clear hcz91_0
           try clear hcz91_1
           try clear hcz94_0
           try clear hcz94_1
           try clear hcz97_0
           try clear hcz97_1
           try clear hfz14_0
           try clear hfz14_1
           try clear hfz16_0
           try clear hfz16_1
           try clear hfz18_0
           try clear hfz18_1
           try clear hfz21_0
           try clear hfz21_1
           try clear hfz23_0
           try clear hfz23_1
           try clear hfz27_0
           try clear hfz27_1
           try clear hfz49_0
           try clear hfz49_1
           try clear hfz80_0
           try clear hfz80_1
           try clear hfz80_2
           try clear hfz85_0
           try clear hfz85_1
           try clear hfz85_2
           try clear hfz91_0
           try clear hfz91_1
           try clear hfz94_0
           try clear hfz94_1
           try clear hfz97_0
           try clear hfz97_1
           try clear p2
           obtain ⟨kq, x135_88, rfl, HA, HJ88, HO_9, HO_13, BK101, BK102, HB⟩ := hcut
           cases kq with
           | zero => exact absurd HA.out (by simp [codewrightlaw44_PeelUnions.j5])
           | succ kj88 =>
            have H := HA.out
            clear HA
            simp only [codewrightlaw44_PeelUnions.j5] at H
            by_cases c104 : x135_88 = true
            ·subst c104
             have H1 : (some false) = some r := by rw [if_pos rfl] at H; exact H
             clear H
             have H := H1
             clear H1
             exact absurd ((Option.some.inj H).trans hrt) (by decide)
            ·replace c104 := Bool.eq_false_iff.mpr c104
             subst c104
             have H1 : (codewrightlaw44_PeelUnions.l1 kj88 t139 x9_3 (x9_3.length : Int) 0) = some r := by rw [if_neg (show ¬ (false = true) by decide)] at H; exact H
             clear H
             have H := H1
             clear H1
             have H' := Aside0.mk H
             clear H
             go_wp2
             go_loopg [138] kj88 (fun kq v138 w' => ∃ (x138_5 : Int), v138 = .int .i64 x138_5 ∧ Aside0 (codewrightlaw44_PeelUnions.l1 kq t139 x9_3 (x9_3.length : Int) x138_5 = some r) ∧ Aside0 (kq ≤ kj88) ∧ Aside0 (Kd.R (Kd.int .i64) 3 w' w.heap.size (fun k_ => some k_ ≠ ((.slice Ao92 x9_3.length co92) : Value).ownBlock) (.slice Ao98 t139.length co98) t139) ∧ Aside0 (Kd.R (Kd.int .i64) 3 w' w.heap.size (fun k_ => some k_ ≠ ((.slice Ao98 t139.length co98) : Value).ownBlock) (.slice Ao92 x9_3.length co92) x9_3) ∧ Aside0 (w'.heap[gb101]? = some (.cells #[.int .i64 a0_0, (.slice A0_1 l0_1.length c0_1)] 31 (0, 0))) ∧ Aside0 (w'.heap[gb102]? = some (.cells #[.int .u32 a1_0, .int .u32 a1_1, .int .u32 a1_2] 58 (0, 0))) ∧ Aside0 (Below w.heap.size w w'))
             case atStart => exact ⟨(0), (by first | rfl | (simp; done) | (simp [*]; done)), H', ⟨Nat.le_refl _⟩, ⟨by (with_reducible repeat (first | apply Kd.R_alloc | apply Kd.R_drewN | apply Kd.R_drew)); exact HO_13.out⟩, ⟨by (with_reducible repeat (first | apply Kd.R_alloc | apply Kd.R_drewN | apply Kd.R_drew)); exact HO_9.out⟩, ⟨by (with_reducible repeat (first | refine blk_drewN ?_ _ | refine blk_drew ?_ | refine blk_alloc ?_ _)); exact BK101.out⟩, ⟨by (with_reducible repeat (first | refine blk_drewN ?_ _ | refine blk_drew ?_ | refine blk_alloc ?_ _)); exact BK102.out⟩, ⟨by repeat (first | (with_reducible first | exact HB.out | apply below_alloc | apply pw_below_drewN | apply below_drew1 | refine below_set ?_ GE101.out | refine below_set ?_ GE102.out) | exact HB.out)⟩⟩
             case round =>
              clear H'
              try clear c1
              try clear c2
              try clear p2
              try clear c3
              try clear c4
              try clear c5
              try clear c6
              try clear p6
              try clear c7
              try clear c8
              try clear c9
              try clear c10
              try clear c11
              try clear c11b0
              try clear c11b1
              try clear c12
              try clear c13
              try clear c20
              try clear c24
              try clear c26
              try clear c30
              try clear c35
              try clear c36
              try clear c46
              try clear c46b0
              try clear c46b1
              try clear c47
              try clear c48
              try clear c50
              try clear c50b0
              try clear c53
              try clear c59
              try clear c60
              try clear c63
              try clear c64
              try clear p64
              try clear c68
              try clear c69
              try clear c73
              try clear c73b0
              try clear c73b1
              try clear c75
              try clear c75b0
              try clear c75b1
              try clear c76
              try clear c79
              try clear c84
              try clear c90
              try clear c100
              try clear c100b0
              try clear c100b1
              try clear c101
              try clear c101b0
              try clear c101b1
              try clear c102
              try clear c102b0
              try clear c102b1
              try clear c103
              try clear c104
              try clear hcz14_0
              try clear hcz14_1
              try clear hcz16_0
              try clear hcz16_1
              try clear hcz18_0
              try clear hcz18_1
              try clear hcz21_0
              try clear hcz21_1
              try clear hcz23_0
              try clear hcz23_1
              try clear hcz27_0
              try clear hcz27_1
              try clear hcz49_0
              try clear hcz49_1
              try clear hcz80_0
              try clear hcz80_1
              try clear hcz80_2
              try clear hcz85_0
              try clear hcz85_1
              try clear hcz85_2
              try clear hcz91_0
              try clear hcz91_1
              try clear hcz94_0
              try clear hcz94_1
              try clear hcz97_0
              try clear hcz97_1
              try clear hfz14_0
              try clear hfz14_1
              try clear hfz16_0
              try clear hfz16_1
              try clear hfz18_0
              try clear hfz18_1
              try clear hfz21_0
              try clear hfz21_1
              try clear hfz23_0
              try clear hfz23_1
              try clear hfz27_0
              try clear hfz27_1
              try clear hfz49_0
              try clear hfz49_1
              try clear hfz80_0
              try clear hfz80_1
              try clear hfz80_2
              try clear hfz85_0
              try clear hfz85_1
              try clear hfz85_2
              try clear hfz91_0
              try clear hfz91_1
              try clear hfz94_0
              try clear hfz94_1
              try clear hfz97_0
              try clear hfz97_1
              try clear p2
              try clear p6
              try clear p64
              obtain ⟨x138_5, rfl, HA, HK5, HO_13, HO_136, BK101, BK102, HB⟩ := hrel
              cases gk with
              | zero => exact absurd HA.out (by simp [codewrightlaw44_PeelUnions.l1])
              | succ k5 =>
               have H := HA.out
               clear HA
               simp only [codewrightlaw44_PeelUnions.l1] at H
               by_cases c105 : x138_5 < (x9_3.length : Int)
               ·rw [if_pos c105] at H
                have c105b0 : decide (x138_5 < (x9_3.length : Int)) = true := decide_eq_true c105
                clear c105
                by_cases c106 : 0 ≤ x138_5
                ·rw [if_pos c106] at H
                 have c106b0 : decide (0 ≤ x138_5) = true := decide_eq_true c106
                 clear c106
                 by_cases c107 : x138_5 < (x9_3.length : Int)
                 ·rw [if_pos c107] at H
                  have c107b0 : decide (x138_5 < (x9_3.length : Int)) = true := decide_eq_true c107
                  clear c107
                  replace H := Option.bind_eq_some_iff.mp H
                  obtain ⟨t146, A1080, H⟩ := H
                  replace H : (if t146 = true then (codewrightlaw44_PeelUnions.l1 k5 t139 x9_3 (x9_3.length : Int) (wrap64 (x138_5 + 1))) else (some false)) = some r := H
                  have A108 := Aside0.mk A1080
                  clear A1080
                  by_cases c109 : t146 = true
                  ·subst c109
                   have H1 : (codewrightlaw44_PeelUnions.l1 k5 t139 x9_3 (x9_3.length : Int) (wrap64 (x138_5 + 1))) = some r := by rw [if_pos rfl] at H; exact H
                   clear H
                   have H := H1
                   clear H1
                   have H' := Aside0.mk H
                   clear H
                   have p145 : 0 ≤ (x138_5 : Int) := of_decide_eq_true (by first | (with_reducible assumption) | assumption)
                   have q145 : x138_5 < (x9_3.length : Int) := of_decide_eq_true (by first | (with_reducible assumption) | assumption)
                   obtain ⟨ad145, e145, hx145_0⟩ := Kd.at_int (Kd.R_reads' HO_136.out).2.2 x138_5 p145 q145
                   cases e145
                   replace p145 := eq_true p145
                   replace q145 := eq_true q145
                   go_wp2_with (first | ((with_reducible refine gate_callee (f := 36) rfl ?_); refine goesL_ (some 144) rfl rfl Try.func36 (by kernel_rfl) rfl #[.slice Ao98 t139.length co98, .int .i64 (rd x9_3 x138_5)] rfl (by (try simp only [List.map_toArray, List.map_cons, List.map_nil]); first | done | rfl | (simp only [List.length_drop, List.length_take]; rfl)) ?_; (with_reducible refine (codewrightlaw44_member.calls k5 _ _ t139 (rd x9_3 x138_5) true _ ?side1 ?side2 A108.out).mono ?_); (case side1 => repeat (first | exact (Kd.R_reads' HO_13.out).2.2 | (with_reducible refine Kd.C_alloc ?_ _) | (with_reducible refine Kd.C_drewN ?_ _) | (with_reducible refine Kd.C_drew ?_))); (case side2 => exact (Kd.R_reads' HO_13.out).2.1); rintro e w' ⟨rfl, ⟨nd, rfl⟩⟩; refine ⟨_, rfl, ?_⟩))
                   go_roundg k5
                   case measure => have := HJ2.out; have := HJ36.out; have := HK3.out; have := HJ88.out; have := HK5.out; omega
                   case rel => exact ⟨(wrap64 (x138_5 + 1)), (by first | rfl | (simp; done) | (simp [*]; done)), H', ⟨by have := HJ2.out; have := HJ36.out; have := HK3.out; have := HJ88.out; have := HK5.out; omega⟩, ⟨by (with_reducible repeat (first | apply Kd.R_alloc | apply Kd.R_drewN | apply Kd.R_drew)); exact HO_13.out⟩, ⟨by (with_reducible repeat (first | apply Kd.R_alloc | apply Kd.R_drewN | apply Kd.R_drew)); exact HO_136.out⟩, ⟨by (with_reducible repeat (first | refine blk_drewN ?_ _ | refine blk_drew ?_ | refine blk_alloc ?_ _)); exact BK101.out⟩, ⟨by (with_reducible repeat (first | refine blk_drewN ?_ _ | refine blk_drew ?_ | refine blk_alloc ?_ _)); exact BK102.out⟩, ⟨by repeat (first | (with_reducible first | exact HB.out | apply below_alloc | apply pw_below_drewN | apply below_drew1 | refine below_set ?_ GE101.out | refine below_set ?_ GE102.out) | exact HB.out)⟩⟩
                  ·replace c109 := Bool.eq_false_iff.mpr c109
                   subst c109
                   have H1 : (some false) = some r := by rw [if_neg (show ¬ (false = true) by decide)] at H; exact H
                   clear H
                   have H := H1
                   clear H1
                   exact absurd ((Option.some.inj H).trans hrt) (by decide)
                 ·rw [if_neg c107] at H
                  exact absurd H (by simp)
                ·rw [if_neg c106] at H
                 exact absurd H (by simp)
               ·rw [if_neg c105] at H
                have c105b0 : decide (x138_5 < (x9_3.length : Int)) = false := decide_eq_false c105
                clear c105
                obtain rfl := Option.some.inj H
                go_wp2
                go_ret
                exact ⟨by first | rfl | (simp [errW_none, errW_some] <;> rfl) | (simp [*, errW_none, errW_some] <;> rfl), by repeat (first | (with_reducible first | exact HB.out | apply below_alloc | apply pw_below_drewN | apply below_drew1 | refine below_set ?_ GE101.out | refine below_set ?_ GE102.out) | exact HB.out)⟩
end Go.Proofs.Ytkifipakikbhcaa.Lc
namespace Go.Proofs.Ytkifipakikbhcaa.Hand
def StopP (inn : List Bool) (ch : List (List Int)) : Prop := ∀ l ∈ ch, l.countP (inAt inn) ≠ 1
theorem aloneRow_pos (inn : List Bool) : ∀ (l : List Int) (o : Int), 0 ≤ o → aloneRow inn l o = if l.countP (inAt inn) = 0 then some o else none
 | [], o, h => by simp [aloneRow]
 | i :: l, o, h => by
  rw [aloneRow, List.countP_cons]
  by_cases hi : inAt inn i = true
  ·rw [if_pos hi, if_pos h, if_neg (by simp [hi])]
  ·rw [if_neg hi, aloneRow_pos inn l o h]; simp [hi]
theorem aloneRow_neg (inn : List Bool) : ∀ (l : List Int) (o : Int), o < 0 → (∀ i ∈ l, 0 ≤ i) →
  (l.countP (inAt inn) = 0 → aloneRow inn l o = some o) ∧ (l.countP (inAt inn) = 1 → ∃ i ∈ l, inAt inn i = true ∧ aloneRow inn l o = some i) ∧ (2 ≤ l.countP (inAt inn) → aloneRow inn l o = none)
 | [], o, h, hl => by simp [aloneRow]
 | i :: l, o, h, hl => by
  have ih := aloneRow_neg inn l o h (fun j hj => hl j (List.mem_cons_of_mem _ hj))
  have h0 := hl i (List.mem_cons_self ..)
  rw [aloneRow, List.countP_cons]
  by_cases hi : inAt inn i = true
  ·rw [if_pos hi, if_neg (show ¬ 0 ≤ o by omega), aloneRow_pos inn l i h0]
   simp only [hi, if_true]
   refine ⟨by omega, fun h1 => ⟨i, List.mem_cons_self .., hi, ?_⟩, fun h2 => ?_⟩
   ·rw [if_pos (by omega)]
   ·rw [if_neg (by omega)]
  ·rw [if_neg hi]
   simp only [hi]
   refine ⟨fun h1 => ih.1 (by simpa using h1), fun h1 => ?_, fun h1 => ih.2.2 (by simpa using h1)⟩
   obtain ⟨j, hj, h2⟩ := ih.2.1 (by simpa using h1)
   exact ⟨j, List.mem_cons_of_mem _ hj, h2⟩
theorem alone_spec (inn : List Bool) : ∀ (ch : List (List Int)), (∀ l ∈ ch, ∀ i ∈ l, 0 ≤ i) →
  (StopP inn ch → alone inn ch = -1) ∧ (¬ StopP inn ch → 0 ≤ alone inn ch ∧ ∃ l ∈ ch, alone inn ch ∈ l ∧ inAt inn (alone inn ch) = true ∧ l.countP (inAt inn) = 1)
 | [], _ => by simp [StopP, alone]
 | l :: ls, h => by
  have ih := alone_spec inn ls (fun x hx => h x (List.mem_cons_of_mem _ hx))
  have hr := aloneRow_neg inn l (-1) (by omega) (h l (List.mem_cons_self ..))
  by_cases h1 : l.countP (inAt inn) = 1
  ·obtain ⟨i, hi, hin, e⟩ := hr.2.1 h1
   have h0 := h l (List.mem_cons_self ..) i hi
   have e2 : alone inn (l :: ls) = i := by rw [alone, e]; simp only [if_pos h0]
   rw [e2]
   exact ⟨fun hs => absurd h1 (hs l (List.mem_cons_self ..)), fun _ => ⟨h0, l, List.mem_cons_self .., hi, hin, h1⟩⟩
  ·have e2 : alone inn (l :: ls) = alone inn ls := by
    rw [alone]
    by_cases h2 : l.countP (inAt inn) = 0
    ·rw [hr.1 h2]; rfl
    ·rw [hr.2.2 (by omega)]
   rw [e2]
   refine ⟨fun hs => ih.1 (fun x hx => hs x (List.mem_cons_of_mem _ hx)), fun hs => ?_⟩
   obtain ⟨h3, x, hx, h4⟩ := ih.2 (fun hs2 => hs (fun x hx => by
    rcases List.mem_cons.1 hx with rfl | hx
    ·exact h1
    ·exact hs2 x hx))
   exact ⟨h3, x, List.mem_cons_of_mem _ hx, h4⟩
theorem alone_neg {inn : List Bool} {ch : List (List Int)} (h : ∀ l ∈ ch, ∀ i ∈ l, 0 ≤ i) : alone inn ch < 0 ↔ StopP inn ch := by
 have := alone_spec inn ch h
 by_cases hs : StopP inn ch
 ·simp [hs, this.1 hs]
 ·simp only [hs, iff_false]; have := (this.2 hs).1; omega
def leftR : List Bool → Nat → List Int
 | [], _ => []
 | b :: bs, i => if b = true then (i : Int) :: leftR bs (i + 1) else leftR bs (i + 1)
theorem leftR_mem : ∀ (bs : List Bool) (i : Nat) (x : Int), x ∈ leftR bs i ↔ ∃ k : Nat, bs[k]? = some true ∧ x = ((i + k : Nat) : Int)
 | [], i, x => by simp [leftR]
 | b :: bs, i, x => by
  rw [leftR]
  have ih := leftR_mem bs (i + 1) x
  constructor
  ·intro h
   by_cases hb : b = true
   ·rw [if_pos hb] at h
    rcases List.mem_cons.1 h with rfl | h
    ·exact ⟨0, by simp [hb], by simp⟩
    ·obtain ⟨k, hk, e⟩ := ih.1 h
     exact ⟨k + 1, by simpa using hk, by rw [e]; congr 1; omega⟩
   ·rw [if_neg hb] at h
    obtain ⟨k, hk, e⟩ := ih.1 h
    exact ⟨k + 1, by simpa using hk, by rw [e]; congr 1; omega⟩
  ·rintro ⟨k, hk, e⟩
   cases k with
   | zero =>
    have hb : b = true := by simpa using hk
    rw [if_pos hb, e]; simp
   | succ k =>
    have := ih.2 ⟨k, by simpa using hk, by rw [e]; congr 1; omega⟩
    by_cases hb : b = true
    ·rw [if_pos hb]; exact List.mem_cons_of_mem _ this
    ·rw [if_neg hb]; exact this
theorem leftR_length : ∀ (bs : List Bool) (i : Nat), (leftR bs i).length = bs.count true
 | [], i => by simp [leftR]
 | b :: bs, i => by
  rw [leftR, List.count_cons]
  by_cases hb : b = true
  ·rw [if_pos hb, List.length_cons, leftR_length]; simp [hb]
  ·rw [if_neg hb, leftR_length]; simp [hb]
theorem leftR_set : ∀ (bs : List Bool) (i : Nat) (V : Int) (p : Option Int), (i : Int) + bs.length ≤ V → (∀ y, p = some y → y < i) → setR V p (leftR bs i) = true
 | [], i, V, p, _, _ => by cases p <;> rfl
 | b :: bs, i, V, p, h, hp => by
  rw [leftR]
  simp only [List.length_cons] at h
  by_cases hb : b = true
  ·rw [if_pos hb, setR_cons, if_neg (by omega), if_neg (by omega)]
   have ih := leftR_set bs (i + 1) V (some (i : Int)) (by push_cast; omega) (fun y e => by cases e; push_cast; omega)
   cases p with
   | none => simpa using ih
   | some y =>
    have hy := hp y rfl
    have hm : decide ((i : Int) ≤ y) = false := decide_eq_false (by omega)
    simp only [hm, Bool.false_eq_true, if_false]
    exact ih
  ·rw [if_neg hb]
   exact leftR_set bs (i + 1) V p (by push_cast; omega) (fun y e => by have := hp y e; push_cast; omega)
def maskR : List Int → List Bool → List Bool
 | [], o => o
 | i :: l, o => maskR l (o.set i.toNat true)
theorem maskR_length : ∀ (l : List Int) (o : List Bool), (maskR l o).length = o.length
 | [], o => rfl
 | i :: l, o => by rw [maskR, maskR_length, List.length_set]
theorem maskR_get : ∀ (l : List Int) (o : List Bool) (k : Nat), k < o.length → (maskR l o)[k]? = some (o.getD k false || l.any fun i => decide (i.toNat = k))
 | [], o, k, h => by simp [maskR, List.getD_eq_getElem?_getD, List.getElem?_eq_getElem h]
 | i :: l, o, k, h => by
  rw [maskR, maskR_get l _ k (by rw [List.length_set]; exact h), List.any_cons]
  by_cases e : i.toNat = k
  ·subst e; simp [List.getD_eq_getElem?_getD, List.getElem?_set_self h]
  ·simp [List.getD_eq_getElem?_getD, List.getElem?_set_ne e, e]
theorem maskR_left (m : List Bool) (n : Nat) (h : m.length = n) : maskR (leftR m 0) (List.replicate n false) = m := by
 apply List.ext_getElem?
 intro k
 by_cases hk : k < n
 ·rw [maskR_get _ _ k (by rw [List.length_replicate]; exact hk)]
  have h0 : (List.replicate n false).getD k false = false := by rw [List.getD_eq_getElem?_getD, List.getElem?_replicate, if_pos hk]; rfl
  rw [h0, Bool.false_or, List.getElem?_eq_getElem (by omega)]
  congr 1
  cases hb : m[k] with
  | true =>
   rw [List.any_eq_true]
   exact ⟨(k : Int), (leftR_mem m 0 k).2 ⟨k, by rw [List.getElem?_eq_getElem (by omega), hb], by simp⟩, by simp⟩
  | false =>
   rw [List.any_eq_false]
   intro x hx
   obtain ⟨j, hj, e⟩ := (leftR_mem m 0 x).1 hx
   intro he
   have he := of_decide_eq_true he
   have : j = k := by omega
   subst this
   rw [List.getElem?_eq_getElem (by omega), hb] at hj
   simp at hj
 ·rw [List.getElem?_eq_none (by rw [maskR_length, List.length_replicate]; omega), List.getElem?_eq_none (by omega)]
theorem countP_le {p q : Int → Bool} (h : ∀ x, p x = true → q x = true) : ∀ (l : List Int), l.countP p ≤ l.countP q
 | [] => by simp
 | x :: l => by
  have ih := countP_le h l
  rw [List.countP_cons, List.countP_cons]
  by_cases hp : p x = true
  ·simp only [hp, h x hp, if_true]; omega
  ·simp only [hp]; simp; omega
theorem countP_or (p q : Int → Bool) : ∀ (l : List Int), l.countP (fun x => p x || q x) ≤ l.countP p + l.countP q
 | [] => by simp
 | x :: l => by
  have ih := countP_or p q l
  rw [List.countP_cons, List.countP_cons, List.countP_cons]
  cases p x <;> cases q x <;> simp <;> omega
theorem stop_or {a b c : List Bool} {ch : List (List Int)} (ha : StopP a ch) (hb : StopP b ch) (h : ∀ i : Int, inAt c i = (inAt a i || inAt b i)) : StopP c ch := by
 intro l hl h1
 have h2 : l.countP (inAt c) = l.countP (fun x => inAt a x || inAt b x) := by congr 1; funext x; exact h x
 have h3 := countP_or (inAt a) (inAt b) l
 have h4 := countP_le (p := inAt a) (q := inAt c) (fun x hx => by rw [h x, hx]; rfl) l
 have h5 := countP_le (p := inAt b) (q := inAt c) (fun x hx => by rw [h x, hx]; simp) l
 have h6 := ha l hl
 have h7 := hb l hl
 omega
def coreGo (ch : List (List Int)) : Nat → List Bool → Option (List Bool)
 | 0, _ => none
 | n + 1, inn => if alone inn ch < 0 then some inn else coreGo ch n (inn.set (alone inn ch).toNat false)
theorem count_clear : ∀ (l : List Bool) (i : Nat), l.getD i false = true → (l.set i false).count true + 1 = l.count true
 | [], i, h => by simp at h
 | b :: l, 0, h => by
  have hb : b = true := by simpa using h
  subst hb; simp
 | b :: l, i + 1, h => by
  have := count_clear l i (by simpa using h)
  simp only [List.set_cons_succ, List.count_cons]; omega
theorem getD_clear (l : List Bool) (i j : Nat) : (l.set i false).getD j false = if i = j then false else l.getD j false := by
 simp only [List.getD_eq_getElem?_getD]
 by_cases e : i = j
 ·subst e
  rw [if_pos rfl]
  by_cases h : i < l.length
  ·rw [List.getElem?_set_self h]; rfl
  ·rw [List.getElem?_eq_none (by rw [List.length_set]; omega)]; rfl
 ·rw [List.getElem?_set_ne e, if_neg e]
theorem core_law {ch : List (List Int)} (hch : ∀ l ∈ ch, ∀ i ∈ l, 0 ≤ i) : ∀ (n : Nat) (inn : List Bool), inn.count true < n →
  ∃ r, coreGo ch n inn = some r ∧ r.length = inn.length ∧ StopP r ch ∧ (∀ i : Int, inAt r i = true → inAt inn i = true) ∧ ∀ x : List Bool, StopP x ch → (∀ i : Int, 0 ≤ i → inAt x i = true → inAt inn i = true) → ∀ i : Int, 0 ≤ i → inAt x i = true → inAt r i = true
 | 0, inn, h => by omega
 | n + 1, inn, h => by
  rw [coreGo]
  by_cases ha : alone inn ch < 0
  ·rw [if_pos ha]
   exact ⟨inn, rfl, rfl, (alone_neg hch).1 ha, fun i hi => hi, fun x _ hx => hx⟩
  ·rw [if_neg ha]
   have hs : ¬ StopP inn ch := fun hs => ha ((alone_neg hch).2 hs)
   obtain ⟨h0, l, hl, hol, hin, hcl⟩ := (alone_spec inn ch hch).2 hs
   have hc := count_clear inn (alone inn ch).toNat hin
   obtain ⟨r, h1, h2, h3, h4, h5⟩ := core_law hch n (inn.set (alone inn ch).toNat false) (by omega)
   have hsub : ∀ i : Int, inAt (inn.set (alone inn ch).toNat false) i = true → inAt inn i = true := by
    intro i hi
    unfold inAt at hi ⊢
    rw [getD_clear] at hi
    split at hi
    ·simp at hi
    ·exact hi
   refine ⟨r, h1, by rw [h2, List.length_set], h3, fun i hi => hsub i (h4 i hi), fun x hx hxi => h5 x hx (fun i hi0 hi => ?_)⟩
   have hii := hxi i hi0 hi
   unfold inAt
   rw [getD_clear]
   by_cases e : (alone inn ch).toNat = i.toNat
   ·exfalso
    have e2 : alone inn ch = i := by omega
    have hle : l.countP (inAt x) ≤ 1 := by
     rw [← hcl, List.countP_eq_length_filter, List.countP_eq_length_filter]
     have : ∀ (l : List Int), (∀ j ∈ l, 0 ≤ j) → (l.filter (inAt x)).length ≤ (l.filter (inAt inn)).length := by
      intro l
      induction l with
      | nil => intro _; simp
      | cons j l ih =>
       intro hj
       have ih := ih (fun k hk => hj k (List.mem_cons_of_mem _ hk))
       rw [List.filter_cons, List.filter_cons]
       by_cases hp : inAt x j = true
       ·rw [if_pos hp, if_pos (hxi j (hj j (List.mem_cons_self ..)) hp)]; simp; exact ih
       ·rw [if_neg hp]; split <;> simp <;> omega
     exact this l (hch l hl)
    have hge : 0 < l.countP (inAt x) := List.countP_pos_iff.2 ⟨alone inn ch, hol, by rw [e2]; exact hi⟩
    exact hx l hl (by omega)
   ·rw [if_neg e]; exact hii
end Go.Proofs.Ytkifipakikbhcaa.Hand
namespace Go.Proofs.Ytkifipakikbhcaa.Hand
open Go.Proofs.Ytkifipakikbhcaa.Ref Go.Proofs.Ytkifipakikbhcaa.Pg
open Go.Proofs.Ytkifipakikbhcaa.Pk (peel_Stopping.f peel_Greatest.f)
open Go.RowKit Go.Proofs.YtkifipakikbhcaaW.PrintWords Go.Proofs.YtkifipakikbhcaaW.PrintLast Go.Proofs.YtkifipakikbhcaaW.PrintMore
theorem w64_succ {i n : Nat} (h : i < n) (hn : n ≤ 4611686018427387904) : wrap64 ((i : Int) + 1) = ((i + 1 : Nat) : Int) := by unfold wrap64; omega
theorem set_fk {l : List Int} {n : Int} {k : Nat} (hl : l.length ≤ 4611686018427387904) (hk : l.length < k) : peel_set.f k l n = some (setR n none l) := by
 have := set_l0 l n hl l.length k 0 (by omega) (by omega) hk
 rw [if_pos rfl, List.drop_zero] at this
 exact this
theorem rising_l0 (l : List Int) (n : Int) (hl : l.length ≤ 4611686018427387904) : ∀ (m k i : Nat), m = l.length - i → i ≤ l.length → m < k →
  codewrightref10_Rising.l0 k l n (i : Int) = some (setR n (if i = 0 then none else some (rd l ((i : Int) - 1))) (l.drop i)) := by
 intro m
 induction m with
 | zero =>
  intro k i hm hi hk
  obtain ⟨k, rfl⟩ : ∃ k', k = k' + 1 := ⟨k - 1, by omega⟩
  have h : i = l.length := by omega
  rw [codewrightref10_Rising.l0, if_neg (by omega), h, List.drop_length, setR]
 | succ m ih =>
  intro k i hm hi hk
  obtain ⟨k, rfl⟩ : ∃ k', k = k' + 1 := ⟨k - 1, by omega⟩
  have h : i < l.length := by omega
  have hn := ih k (i + 1) (by omega) (by omega) (by omega)
  have hw : wrap64 ((i : Int) + 1) = ((i + 1 : Nat) : Int) := by unfold wrap64; omega
  rw [if_neg (by omega), show (((i + 1 : Nat) : Int) - 1) = (i : Int) from by omega] at hn
  rw [codewrightref10_Rising.l0, if_pos (by omega), if_pos (by omega), rd_drop h, setR_cons, hw, hn]
  by_cases h1 : rd l (i : Int) < 0
  ·rw [if_pos h1, if_pos h1]
  ·rw [if_neg h1, if_neg h1]
   by_cases h2 : rd l (i : Int) ≥ n
   ·rw [if_pos h2, if_pos h2]
   ·rw [if_neg h2, if_neg h2]
    by_cases h3 : i = 0
    ·rw [if_neg (by omega), if_pos h3]
     simp
    ·have hw1 : wrap64 ((i : Int) - 1) = (i : Int) - 1 := by unfold wrap64; omega
     rw [if_pos (by omega), hw1, if_pos (by omega), if_pos (by omega), if_neg h3]
     by_cases h4 : rd l (i : Int) ≤ rd l ((i : Int) - 1)
     ·rw [if_pos h4]; simp [h4]
     ·rw [if_neg h4]; simp [h4]
theorem rising_f {l : List Int} {n : Int} {k : Nat} (hl : l.length ≤ 4611686018427387904) (hk : l.length < k) : codewrightref10_Rising.f k l n = some (setR n none l) := by
 have := rising_l0 l n hl l.length k 0 (by omega) (by omega) hk
 rw [if_pos rfl, List.drop_zero] at this
 exact this
theorem rcheck_l0 (V : Int) (ch : List (List Int)) (n : Nat) (hn : n ≤ 4611686018427387904) (hc : ch.length ≤ 4611686018427387904) (hr : ∀ l ∈ ch, l.length ≤ n) : ∀ (m k i : Nat), m = ch.length - i → i ≤ ch.length → m + n + 1 < k →
  codewrightref44_Check.l0 k (i : Int) V ch = some (if (ch.drop i).any (fun l => !setR V none l) = true then 6 else 0) := by
 intro m
 induction m with
 | zero =>
  intro k i hm hi hk
  obtain ⟨k, rfl⟩ : ∃ k', k = k' + 1 := ⟨k - 1, by omega⟩
  have h : i = ch.length := by omega
  rw [codewrightref44_Check.l0, if_neg (by omega), h, List.drop_length]
  rfl
 | succ m ih =>
  intro k i hm hi hk
  obtain ⟨k, rfl⟩ : ∃ k', k = k' + 1 := ⟨k - 1, by omega⟩
  have h : i < ch.length := by omega
  have hmem : rd_L1 ch (i : Int) ∈ ch := rd_memRow (by omega) (by omega)
  have hln := hr _ hmem
  have hi' := ih k (i + 1) (by omega) (by omega) (by omega)
  rw [codewrightref44_Check.l0, if_pos (by omega), if_pos (by omega), rising_f (by omega) (by omega), Option.bind_some, rows_drop h, List.any_cons, w64_succ h hc, hi']
  cases hs : setR V none (rd_L1 ch (i : Int)) with
  | true => simp
  | false => simp
theorem rcheck_f {V : Int} {ch : List (List Int)} {n k : Nat} (hn : n ≤ 4611686018427387904) (hc : ch.length ≤ 4611686018427387904) (hr : ∀ l ∈ ch, l.length ≤ n) (hk : 300 + n < k) :
  codewrightref44_Check.f k V ch = peel_Check.f V ch ∧ ∃ e, peel_Check.f V ch = some e := by
 have hall : ch.all (fun l => decide (l.length ≤ 4611686018427387904)) = true := List.all_eq_true.2 (fun l hl => decide_eq_true (by have := hr l hl; omega))
 have hp : peel_Check.f V ch = some (if V < 1 then 4 else if V > 64 then 4 else if (ch.length : Int) > 256 then 8 else if ch.any (fun l => !setR V none l) = true then 6 else 0) := by
  unfold peel_Check.f; rw [if_pos hall]
 obtain ⟨k, rfl⟩ : ∃ k', k = k' + 1 := ⟨k - 1, by omega⟩
 refine ⟨?_, _, hp⟩
 rw [hp, codewrightref44_Check.f]
 by_cases h1 : V < 1
 ·rw [if_pos h1, if_pos h1, codewrightref44_Check.j0, if_pos rfl]
 ·rw [if_neg h1, if_neg h1, codewrightref44_Check.j0]
  by_cases h2 : V > 64
  ·rw [if_pos (decide_eq_true h2), if_pos h2]
  ·rw [if_neg (by simp; omega), if_neg h2]
   by_cases h3 : (ch.length : Int) > 256
   ·rw [if_pos h3, if_pos h3]
   ·rw [if_neg h3, if_neg h3]
    have := rcheck_l0 V ch n hn hc hr ch.length k 0 (by omega) (by omega) (by omega)
    rw [List.drop_zero] at this
    exact this
theorem few_l0 (c : Int) (ls : List (List Int)) (B : Nat) (hB : B ≤ 1000) : ∀ (m k i : Nat) (x : Int), m = ls.length - i → i ≤ ls.length → ls.length ≤ B → x ≤ B → -1000000000 ≤ x → m < k → (∀ l ∈ ls.take i, l.length ≤ B) →
  ∃ b, codewrightref09_Few.l0 k x (i : Int) c ls = some b ∧ (b = true → ∀ l ∈ ls, l.length ≤ B) := by
 intro m
 induction m with
 | zero =>
  intro k i x hm hi hls hx hx2 hk ht
  obtain ⟨k, rfl⟩ : ∃ k', k = k' + 1 := ⟨k - 1, by omega⟩
  refine ⟨true, by rw [codewrightref09_Few.l0, if_neg (by omega)], fun _ l hl => ht l ?_⟩
  rw [List.take_of_length_le (by omega)]; exact hl
 | succ m ih =>
  intro k i x hm hi hls hx hx2 hk ht
  obtain ⟨k, rfl⟩ : ∃ k', k = k' + 1 := ⟨k - 1, by omega⟩
  have h : i < ls.length := by omega
  by_cases h1 : ((rd_L1 ls (i : Int)).length : Int) > x
  ·exact ⟨false, by rw [codewrightref09_Few.l0, if_pos (by omega), if_pos (by omega), if_pos h1], by simp⟩
  ·have hw : wrap64 (x - ((rd_L1 ls (i : Int)).length : Int)) = x - ((rd_L1 ls (i : Int)).length : Int) := by unfold wrap64; omega
   obtain ⟨b, hb, h2⟩ := ih k (i + 1) (x - ((rd_L1 ls (i : Int)).length : Int)) (by omega) (by omega) hls (by omega) (by omega) (by omega) (by
    intro l hl
    rw [List.take_add_one] at hl
    rcases List.mem_append.1 hl with hl | hl
    ·exact ht l hl
    ·have e : ls[i]? = some (rd_L1 ls (i : Int)) := by
      have h2 : (ls.drop i)[0]? = some (rd_L1 ls (i : Int)) := by rw [rows_drop h]; rfl
      rw [List.getElem?_drop, Nat.add_zero] at h2
      exact h2
     rw [e] at hl
     have : l = rd_L1 ls (i : Int) := by simpa using hl
     rw [this]; omega)
   exact ⟨b, by rw [codewrightref09_Few.l0, if_pos (by omega), if_pos (by omega), if_neg h1, hw, w64_succ h (by omega)]; exact hb, h2⟩
theorem few_f (c : Int) (ls : List (List Int)) (B k : Nat) (hB : B ≤ 1000) (hk : B + 2 < k) :
  ∃ b, codewrightref09_Few.f k c ls (B : Int) = some b ∧ (b = true → c ≤ 260 ∧ ls.length ≤ B ∧ ∀ l ∈ ls, l.length ≤ B) := by
 obtain ⟨k, rfl⟩ : ∃ k', k = k' + 1 := ⟨k - 1, by omega⟩
 unfold codewrightref09_Few.f
 by_cases h1 : c > 260
 ·exact ⟨false, by rw [if_pos h1, codewrightref09_Few.j0, if_pos rfl], by simp⟩
 ·rw [if_neg h1, codewrightref09_Few.j0]
  by_cases h2 : (ls.length : Int) > (B : Int)
  ·exact ⟨false, by rw [if_pos (decide_eq_true h2)], by simp⟩
  ·rw [if_neg (by simp; omega)]
   have hw : wrap64 ((B : Int) - (ls.length : Int)) = (B : Int) - (ls.length : Int) := by unfold wrap64; omega
   rw [hw]
   obtain ⟨b, hb, h3⟩ := few_l0 c ls B hB ls.length k 0 ((B : Int) - (ls.length : Int)) (by omega) (by omega) (by omega) (by omega) (by omega) (by omega) (by simp)
   exact ⟨b, hb, fun hbt => ⟨by omega, by omega, h3 hbt⟩⟩
theorem fewG_f (V : Int) (ch : List (List Int)) (k : Nat) (hk : 302 < k) :
  ∃ b, codewrightref44_Few.f k V ch = some b ∧ (b = true → (V ≤ 10 ∨ 16 < V) ∧ ch.length ≤ 300 ∧ ∀ l ∈ ch, l.length ≤ 300) := by
 obtain ⟨b, hb, h⟩ := few_f 0 ch 300 k (by omega) (by omega)
 unfold codewrightref44_Few.f
 rw [show ((300 : Nat) : Int) = 300 from rfl] at hb
 rw [hb, Option.bind_some]
 cases b with
 | false => exact ⟨false, by simp, by simp⟩
 | true =>
  rw [if_pos rfl]
  by_cases h1 : V ≤ 10
  ·exact ⟨true, by rw [if_pos h1], fun _ => ⟨Or.inl h1, (h rfl).2⟩⟩
  ·exact ⟨decide (V > 16), by rw [if_neg h1], fun h2 => ⟨Or.inr (of_decide_eq_true h2), (h rfl).2⟩⟩
theorem split_l0 (bits : Int) (V : Nat) (hV : V ≤ 31) : ∀ (d k i : Nat) (acc : List Int), d = V - i → i ≤ V → 2 * d + 1 < k → acc.length ≤ i →
  ∃ m : List Bool, m.length = d ∧ codewrightlaw44_split.l0 k bits (V : Int) acc (i : Int) = some (acc ++ leftR m i) := by
 intro d
 induction d with
 | zero =>
  intro k i acc hd hi hk ha
  obtain ⟨k, rfl⟩ : ∃ k', k = k' + 2 := ⟨k - 2, by omega⟩
  refine ⟨[], rfl, ?_⟩
  rw [codewrightlaw44_split.l0, if_neg (by omega), codewrightlaw44_split.j1, if_neg (by simp)]
  simp [leftR]
 | succ d ih =>
  intro k i acc hd hi hk ha
  obtain ⟨k, rfl⟩ : ∃ k', k = k' + 2 := ⟨k - 2, by omega⟩
  rw [codewrightlaw44_split.l0, if_pos (by omega), codewrightlaw44_split.j1, if_pos (decide_eq_true (by omega)), if_pos (by omega)]
  have hw : wrap64 ((i : Int) + 1) = ((i + 1 : Nat) : Int) := by unfold wrap64; omega
  rw [hw]
  split
  ·rw [if_pos (by omega)]
   obtain ⟨m, hm, e⟩ := ih k (i + 1) (acc ++ [(i : Int)]) (by omega) (by omega) (by omega) (by simp; omega)
   refine ⟨true :: m, by simp [hm], ?_⟩
   rw [e, leftR, if_pos rfl]; simp
  ·obtain ⟨m, hm, e⟩ := ih k (i + 1) acc (by omega) (by omega) (by omega) (by omega)
   refine ⟨false :: m, by simp [hm], ?_⟩
   rw [e, leftR, if_neg (by simp)]
theorem split_f (bits : Int) (V k : Nat) (hV : V ≤ 31) (hk : 64 < k) : ∃ m : List Bool, m.length = V ∧ codewrightlaw44_split.f k bits (V : Int) = some (leftR m 0) := by
 obtain ⟨m, hm, e⟩ := split_l0 bits V hV V k 0 [] (by omega) (by omega) (by omega) (by simp)
 exact ⟨m, hm, e⟩
theorem mask_l0 (l : List Int) (n : Nat) (hl : l.length ≤ 4611686018427387904) (hr : ∀ x ∈ l, 0 ≤ x ∧ x < (n : Int)) : ∀ (d k i : Nat) (o : List Bool), d = l.length - i → i ≤ l.length → d < k → o.length = n →
  peel_mask.l0 k o l (l.length : Int) (i : Int) = some (maskR (l.drop i) o) := by
 intro d
 induction d with
 | zero =>
  intro k i o hd hi hk ho
  obtain ⟨k, rfl⟩ : ∃ k', k = k' + 1 := ⟨k - 1, by omega⟩
  have h : i = l.length := by omega
  rw [peel_mask.l0, if_neg (by omega), h, List.drop_length, maskR]
 | succ d ih =>
  intro k i o hd hi hk ho
  obtain ⟨k, rfl⟩ : ∃ k', k = k' + 1 := ⟨k - 1, by omega⟩
  have h : i < l.length := by omega
  have hm := hr _ (rd_memInt (l := l) (i := (i : Int)) (by omega) (by omega))
  rw [peel_mask.l0, if_pos (by omega), if_pos (by omega), if_pos (by omega), if_pos hm.1, if_pos (by omega), rd_drop h, maskR, w64_succ h hl]
  exact ih k (i + 1) _ (by omega) (by omega) (by omega) (by rw [List.length_set]; exact ho)
theorem mask_f {l : List Int} {V k : Nat} {ch : List (List Int)} (hV : V ≤ 64) (hl : l.length ≤ 4611686018427387904) (hr : ∀ x ∈ l, 0 ≤ x ∧ x < (V : Int)) (hk : l.length < k) : peel_mask.f k (V : Int) ch l = some (maskR l (List.replicate V false)) := by
 unfold peel_mask.f
 rw [if_pos (by omega), if_pos (by omega), Int.toNat_natCast]
 have := mask_l0 l V hl hr l.length k 0 (List.replicate V false) (by omega) (by omega) hk (List.length_replicate ..)
 rw [List.drop_zero] at this
 exact this
theorem bool_drop {l : List Bool} {i : Nat} (h : i < l.length) : l.drop i = rdOf false l (i : Int) :: l.drop (i + 1) := by
 have := drop_cons (d := false) (i := (i : Int)) (l := l) (by omega) (by omega)
 rw [Int.toNat_natCast, show ((i : Int) + 1).toNat = i + 1 from by omega] at this
 exact this
theorem left_l0 (l : List Bool) (hl : l.length ≤ 1000000) : ∀ (d k i : Nat) (acc : List Int), d = l.length - i → i ≤ l.length → d < k → acc.length ≤ i →
  peel_left.l0 k acc l (l.length : Int) (i : Int) = some (acc ++ leftR (l.drop i) i) := by
 intro d
 induction d with
 | zero =>
  intro k i acc hd hi hk ha
  obtain ⟨k, rfl⟩ : ∃ k', k = k' + 1 := ⟨k - 1, by omega⟩
  have h : i = l.length := by omega
  rw [peel_left.l0, if_neg (by omega), h, List.drop_length, leftR, List.append_nil]
 | succ d ih =>
  intro k i acc hd hi hk ha
  obtain ⟨k, rfl⟩ : ∃ k', k = k' + 1 := ⟨k - 1, by omega⟩
  have h : i < l.length := by omega
  rw [peel_left.l0, if_pos (by omega), if_pos (by omega), if_pos (by omega), bool_drop h, leftR, w64_succ h (by omega)]
  by_cases hb : rdOf false l (i : Int) = true
  ·rw [if_pos hb, if_pos (by omega), if_pos hb, ih k (i + 1) _ (by omega) (by omega) (by omega) (by simp; omega)]
   simp
  ·rw [if_neg hb, if_neg hb, ih k (i + 1) _ (by omega) (by omega) (by omega) (by omega)]
theorem left_f {l : List Bool} {k : Nat} (hl : l.length ≤ 1000000) (hk : l.length < k) : peel_left.f k l = some (leftR l 0) := by
 have := left_l0 l hl l.length k 0 [] (by omega) (by omega) hk (by simp)
 rw [List.drop_zero, List.nil_append] at this
 exact this
theorem leftR_mem0 {m : List Bool} {x : Int} (h : x ∈ leftR m 0) : 0 ≤ x ∧ x < (m.length : Int) := by
 obtain ⟨k, hk, e⟩ := (leftR_mem m 0 x).1 h
 have := (List.getElem?_eq_some_iff.1 hk).1
 omega
theorem graph_ok {V : Int} {ch : List (List Int)} (h : peel_Check.f V ch = some 0) : ∃ n : Nat, V = n ∧ 1 ≤ n ∧ n ≤ 64 ∧ ch.length ≤ 256 ∧ (∀ l ∈ ch, setR n none l = true) ∧ ∀ l ∈ ch, ∀ i ∈ l, 0 ≤ i ∧ i < (n : Int) := by
 obtain ⟨h1, h2, h3, h4⟩ := check_zero h
 refine ⟨V.toNat, by omega, by omega, by omega, h3, ?_, fun l hl i hi => ?_⟩
 ·rw [Int.toNat_of_nonneg (by omega)]; exact h4
 ·rw [Int.toNat_of_nonneg (by omega)]; exact setR_mem (h4 l hl) i hi
theorem alone_f {V : Int} {ch : List (List Int)} {m : List Bool} (hc : ch.length ≤ 256) (h : ∀ l ∈ ch, ∀ i ∈ l, 0 ≤ i ∧ i < (m.length : Int)) : peel_alone.f V ch m = some (alone m ch) := by
 unfold peel_alone.f
 rw [if_pos (List.all_eq_true.2 fun l hl => List.all_eq_true.2 fun i hi => decide_eq_true (h l hl i hi)), if_pos (by omega)]
theorem stopping_f {n k : Nat} {ch : List (List Int)} {m : List Bool} (h : peel_Check.f (n : Int) ch = some 0) (hm : m.length = n) (hk : 64 < k) :
  peel_Stopping.f k (n : Int) ch (leftR m 0) = some (decide (alone m ch < 0), 0) := by
 obtain ⟨n', e, h1, h2, h3, h4, h5⟩ := graph_ok h
 have e : n = n' := by omega
 subst e
 have hlen : (leftR m 0).length ≤ n := by rw [leftR_length, ← hm]; exact List.count_le_length
 unfold peel_Stopping.f
 rw [h, Option.bind_some, if_pos rfl, set_fk (by omega) (by omega), Option.bind_some, leftR_set m 0 n none (by omega) (by simp), if_pos rfl, mask_f h2 (by omega) (fun x hx => by rw [← hm]; exact leftR_mem0 hx) (by omega), Option.bind_some, maskR_left m n hm, alone_f h3 (by rw [hm]; exact h5), Option.bind_some]
end Go.Proofs.Ytkifipakikbhcaa.Hand
namespace Go.Proofs.Ytkifipakikbhcaa.Hand
open Go.Proofs.Ytkifipakikbhcaa.Ref Go.Proofs.Ytkifipakikbhcaa.Pg
open Go.Proofs.Ytkifipakikbhcaa.Pk (peel_Stopping.f peel_Greatest.f peel_Greatest.l0)
open Go.RowKit Go.Proofs.YtkifipakikbhcaaW.PrintWords Go.Proofs.YtkifipakikbhcaaW.PrintLast Go.Proofs.YtkifipakikbhcaaW.PrintMore
theorem greatest_l0 {n : Nat} {ch : List (List Int)} (hn : n ≤ 64) (hc : ch.length ≤ 256) (h5 : ∀ l ∈ ch, ∀ i ∈ l, 0 ≤ i ∧ i < (n : Int)) : ∀ (d k : Nat) (inn : List Bool), inn.length = n → inn.count true < d → d + 70 < k →
  peel_Greatest.l0 k inn (alone inn ch) (n : Int) ch = (coreGo ch d inn).map fun r => (leftR r 0, 0)
 | 0, k, inn, hl, hcn, hk => by omega
 | d + 1, k, inn, hl, hcn, hk => by
  obtain ⟨k, rfl⟩ : ∃ k', k = k' + 1 := ⟨k - 1, by omega⟩
  have hch : ∀ l ∈ ch, ∀ i ∈ l, 0 ≤ i := fun l hl i hi => (h5 l hl i hi).1
  rw [peel_Greatest.l0, coreGo]
  by_cases ha : alone inn ch < 0
  ·rw [if_neg (by omega), if_pos ha, left_f (by omega) (by omega)]
   rfl
  ·have hlt : alone inn ch < (n : Int) := alone_lt inn n (by omega) ch h5
   have hs : ¬ StopP inn ch := fun hs => ha ((alone_neg hch).2 hs)
   obtain ⟨h0, l, hl2, hol, hin, hcl⟩ := (alone_spec inn ch hch).2 hs
   have hcc := count_clear inn (alone inn ch).toNat hin
   rw [if_pos (by omega), if_pos (by omega), if_pos (by omega), if_neg ha, Option.bind_some]
   rw [alone_f hc (by rw [List.length_set, hl]; exact h5), Option.bind_some]
   exact greatest_l0 hn hc h5 d k _ (by rw [List.length_set]; exact hl) (by omega) (by omega)
theorem greatest_f {n k : Nat} {ch : List (List Int)} {m : List Bool} (h : peel_Check.f (n : Int) ch = some 0) (hm : m.length = n) (hk : 200 < k) :
  ∃ r : List Bool, coreGo ch (n + 1) m = some r ∧ peel_Greatest.f k (n : Int) ch (leftR m 0) = some (leftR r 0, 0) ∧ r.length = n ∧ StopP r ch ∧ (∀ i : Int, inAt r i = true → inAt m i = true) ∧ ∀ x : List Bool, StopP x ch → (∀ i : Int, 0 ≤ i → inAt x i = true → inAt m i = true) → ∀ i : Int, 0 ≤ i → inAt x i = true → inAt r i = true := by
 obtain ⟨n', e, h1, h2, h3, h4, h5⟩ := graph_ok h
 have e : n = n' := by omega
 subst e
 have hch : ∀ l ∈ ch, ∀ i ∈ l, 0 ≤ i := fun l hl i hi => (h5 l hl i hi).1
 have hct : m.count true ≤ n := by rw [← hm]; exact List.count_le_length
 have hlen : (leftR m 0).length ≤ n := by rw [leftR_length]; exact hct
 obtain ⟨r, e1, e2, e3, e4, e5⟩ := core_law hch (n + 1) m (by omega)
 refine ⟨r, e1, ?_, by rw [e2, hm], e3, e4, e5⟩
 unfold peel_Greatest.f
 rw [h, Option.bind_some, if_pos rfl, set_fk (by omega) (by omega), Option.bind_some, leftR_set m 0 n none (by omega) (by simp), if_pos rfl, mask_f h2 (by omega) (fun x hx => by rw [← hm]; exact leftR_mem0 hx) (by omega), Option.bind_some, maskR_left m n hm, alone_f h3 (by rw [hm]; exact h5), Option.bind_some, greatest_l0 h2 h3 h5 (n + 1) k m hm (by omega) (by omega), e1]
 rfl
theorem member_l0 (l : List Int) (a : Int) (hl : l.length ≤ 4611686018427387904) : ∀ (d k i : Nat), d = l.length - i → i ≤ l.length → d < k →
  codewrightlaw44_member.l0 k a l (l.length : Int) (i : Int) = some (decide (a ∈ l.drop i)) := by
 intro d
 induction d with
 | zero =>
  intro k i hd hi hk
  obtain ⟨k, rfl⟩ : ∃ k', k = k' + 1 := ⟨k - 1, by omega⟩
  have h : i = l.length := by omega
  rw [codewrightlaw44_member.l0, if_neg (by omega), h, List.drop_length]
  simp
 | succ d ih =>
  intro k i hd hi hk
  obtain ⟨k, rfl⟩ : ∃ k', k = k' + 1 := ⟨k - 1, by omega⟩
  have h : i < l.length := by omega
  rw [codewrightlaw44_member.l0, if_pos (by omega), if_pos (by omega), if_pos (by omega), rd_drop h]
  by_cases he : rd l (i : Int) = a
  ·rw [if_pos he]; simp [he]
  ·rw [if_neg he, w64_succ h hl, ih k (i + 1) (by omega) (by omega) (by omega)]
   simp [Ne.symm he]
theorem member_f {l : List Int} {a : Int} {k : Nat} (hl : l.length ≤ 4611686018427387904) (hk : l.length < k) : codewrightlaw44_member.f k l a = some (decide (a ∈ l)) := by
 have := member_l0 l a hl l.length k 0 (by omega) (by omega) hk
 rw [List.drop_zero] at this
 exact this
theorem leftR_mem' (m : List Bool) (i : Nat) : ((i : Int) ∈ leftR m 0) ↔ inAt m (i : Int) = true := by
 rw [leftR_mem]
 unfold inAt
 rw [Int.toNat_natCast, List.getD_eq_getElem?_getD]
 constructor
 ·rintro ⟨k, hk, e⟩
  have : k = i := by omega
  subst this; rw [hk]; rfl
 ·intro h
  refine ⟨i, ?_, by simp⟩
  cases hm : m[i]? with
  | none => rw [hm] at h; simp at h
  | some b => rw [hm] at h; simp at h; rw [h]
theorem leftR_append : ∀ (a b : List Bool) (i : Nat), leftR (a ++ b) i = leftR a i ++ leftR b (i + a.length)
 | [], b, i => by simp [leftR]
 | x :: a, b, i => by
  rw [List.cons_append, leftR, leftR, leftR_append a b (i + 1), List.length_cons, show i + 1 + a.length = i + (a.length + 1) by omega]
  split <;> simp
end Go.Proofs.Ytkifipakikbhcaa.Hand
namespace Go.Proofs.Ytkifipakikbhcaa.Hand
open Go.Proofs.Ytkifipakikbhcaa.Ref Go.Proofs.Ytkifipakikbhcaa.Pg
open Go.Proofs.Ytkifipakikbhcaa.Pk (peel_Stopping.f peel_Greatest.f)
open Go.Proofs.Ytkifipakikbhcaa.Lc (codewrightlaw44_PeelUnions.f codewrightlaw44_PeelUnions.j0 codewrightlaw44_PeelUnions.j1 codewrightlaw44_PeelUnions.l0 codewrightlaw44_PeelUnions.j3 codewrightlaw44_PeelUnions.j4 codewrightlaw44_PeelUnions.j5 codewrightlaw44_PeelUnions.l1)
open Go.RowKit Go.Proofs.YtkifipakikbhcaaW.PrintWords Go.Proofs.YtkifipakikbhcaaW.PrintLast Go.Proofs.YtkifipakikbhcaaW.PrintMore
theorem unions_l1 (c both : List Int) (hc : c.length ≤ 64) (hb : both.length ≤ 64) (h : ∀ x ∈ both, x ∈ c) : ∀ (d k i : Nat), d = both.length - i → i ≤ both.length → d + 70 < k →
  codewrightlaw44_PeelUnions.l1 k c both (both.length : Int) (i : Int) = some true := by
 intro d
 induction d with
 | zero =>
  intro k i hd hi hk
  obtain ⟨k, rfl⟩ : ∃ k', k = k' + 1 := ⟨k - 1, by omega⟩
  rw [codewrightlaw44_PeelUnions.l1, if_neg (by omega)]
 | succ d ih =>
  intro k i hd hi hk
  obtain ⟨k, rfl⟩ : ∃ k', k = k' + 1 := ⟨k - 1, by omega⟩
  have hlt : i < both.length := by omega
  rw [codewrightlaw44_PeelUnions.l1, if_pos (by omega), if_pos (by omega), if_pos (by omega), member_f (by omega) (by omega), Option.bind_some, decide_eq_true (h _ (rd_memInt (by omega) (by omega))), if_pos rfl, w64_succ hlt (by omega)]
  exact ih k (i + 1) (by omega) (by omega) (by omega)
theorem inAt_nat {m : List Bool} {i : Int} (h0 : 0 ≤ i) : inAt m i = m.getD i.toNat false := rfl
theorem unions_end {n : Nat} {ch : List (List Int)} {U M a b : List Bool} {b0 b1 b2 : Int} {x5 x7 : List Int} (hck : peel_Check.f (n : Int) ch = some 0) (hU : U.length = n) (hM : M.length = n) (hs : StopP U ch) (hsub : ∀ i : Int, 0 ≤ i → inAt U i = true → inAt M i = true) {k : Nat} (hk : 500 < k) :
  codewrightlaw44_PeelUnions.l0 k x5 x7 (leftR U 0) (leftR M 0) (n : Int) (n : Int) (n : Int) ch b0 b1 b2 = some true := by
 obtain ⟨k, rfl⟩ : ∃ k', k = k' + 2 := ⟨k - 2, by omega⟩
 obtain ⟨n', e, h1, h2, h3, h4, h5⟩ := graph_ok hck
 have e : n = n' := by omega
 subst e
 have hch : ∀ l ∈ ch, ∀ i ∈ l, 0 ≤ i := fun l hl i hi => (h5 l hl i hi).1
 obtain ⟨r, _, hg, hr, hrs, _, hmax⟩ := greatest_f (k := k + 1) hck hM (by omega)
 have ha := (alone_neg hch).2 hs
 have hb := (alone_neg hch).2 hrs
 rw [codewrightlaw44_PeelUnions.l0, if_neg (by omega), stopping_f hck hU (by omega), Option.bind_some, hg, Option.bind_some, stopping_f hck hr (by omega), Option.bind_some, if_pos rfl, if_pos rfl, if_pos rfl, if_pos (decide_eq_true ha), codewrightlaw44_PeelUnions.j5, if_neg (by simp [hb])]
 have hl1 : (leftR U 0).length ≤ n := by rw [leftR_length, ← hU]; exact List.count_le_length
 have hl2 : (leftR r 0).length ≤ n := by rw [leftR_length, ← hr]; exact List.count_le_length
 refine unions_l1 (leftR r 0) (leftR U 0) (by omega) (by omega) (fun x hx => ?_) (leftR U 0).length k 0 (by omega) (by omega) (by omega)
 have hx0 := (leftR_mem0 hx).1
 have e : ((x.toNat : Nat) : Int) = x := Int.toNat_of_nonneg hx0
 rw [← e] at hx ⊢
 rw [leftR_mem'] at hx ⊢
 exact hmax U hs hsub _ (by omega) hx
theorem getD_snoc (l : List Bool) (b : Bool) (j : Nat) : (l ++ [b]).getD j false = if j < l.length then l.getD j false else if j = l.length then b else false := by
 simp only [List.getD_eq_getElem?_getD]
 by_cases h : j < l.length
 ·rw [if_pos h, List.getElem?_append_left h]
 ·rw [if_neg h, List.getElem?_append_right (by omega)]
  by_cases e : j = l.length
  ·rw [if_pos e, e]; simp
  ·rw [if_neg e, List.getElem?_eq_none (by simp; omega)]; rfl
theorem leftR_snoc (l : List Bool) (b : Bool) : leftR (l ++ [b]) 0 = leftR l 0 ++ (if b = true then [(l.length : Int)] else []) := by
 rw [leftR_append, leftR, leftR]; simp
theorem member_left {m : List Bool} {i k n : Nat} (hn : m.length = n) (h64 : n ≤ 64) (hk : n < k) : codewrightlaw44_member.f k (leftR m 0) (i : Int) = some (m.getD i false) := by
 have hl : (leftR m 0).length ≤ n := by rw [leftR_length, ← hn]; exact List.count_le_length
 rw [member_f (by omega) (by omega)]
 have h := leftR_mem' m i
 rw [inAt_nat (by omega), Int.toNat_natCast] at h
 cases hb : m.getD i false with
 | true => rw [decide_eq_true (h.2 hb)]
 | false => rw [decide_eq_false (fun h2 => by rw [h.1 h2] at hb; simp at hb)]
theorem unions_loop {n : Nat} {ch : List (List Int)} {a b : List Bool} {b0 b1 b2 : Int} (hck : peel_Check.f (n : Int) ch = some 0) (ha : a.length = n) (hb : b.length = n) (sa : StopP a ch) (sb : StopP b ch) :
  ∀ (d k i : Nat) (U M : List Bool), d = n - i → i ≤ n → U.length = i → M.length = i → (∀ j, j < i → U.getD j false = (a.getD j false || b.getD j false)) → (∀ j, U.getD j false = true → M.getD j false = true) → 500 + 3 * d < k →
  codewrightlaw44_PeelUnions.l0 k (leftR a 0) (leftR b 0) (leftR U 0) (leftR M 0) (n : Int) (i : Int) (n : Int) ch b0 b1 b2 = some true := by
 obtain ⟨n', e, h1, h2, h3, h4, h5⟩ := graph_ok hck
 have e : n = n' := by omega
 subst e
 have hla : (leftR a 0).length ≤ n := by rw [leftR_length, ← ha]; exact List.count_le_length
 have hlb : (leftR b 0).length ≤ n := by rw [leftR_length, ← hb]; exact List.count_le_length
 intro d
 induction d with
 | zero =>
  intro k i U M hd hi hU hM hu hm hk
  have e : i = n := by omega
  subst e
  refine unions_end (a := a) (b := b) hck hU hM ?_ (fun i h0 h => hm _ h) (by omega)
  refine stop_or sa sb (fun j => ?_)
  unfold inAt
  by_cases hj : j.toNat < i
  ·exact hu _ hj
  ·have hz : ∀ l : List Bool, l.length = i → l.getD j.toNat false = false := fun l hl => by rw [List.getD_eq_getElem?_getD, List.getElem?_eq_none (by omega)]; rfl
   rw [hz U hU, hz a ha, hz b hb]; rfl
 | succ d ih =>
  intro k i U M hd hi hU hM hu hm hk
  obtain ⟨k, rfl⟩ : ∃ k', k = k' + 3 := ⟨k - 3, by omega⟩
  have hcu : (leftR U 0).length ≤ i := by rw [leftR_length, ← hU]; exact List.count_le_length
  have hcm : (leftR M 0).length ≤ i := by rw [leftR_length, ← hM]; exact List.count_le_length
  have hma : ∀ t : Nat, t = k + 2 ∨ t = k → codewrightlaw44_member.f t (leftR a 0) (i : Int) = some (a.getD i false) := fun t ht => member_left ha h2 (by omega)
  have hmb : ∀ t : Nat, t = k + 2 ∨ t = k → codewrightlaw44_member.f t (leftR b 0) (i : Int) = some (b.getD i false) := fun t ht => member_left hb h2 (by omega)
  have HW := Aside0.mk (show wrap64 ((i : Int) + 1) = ((i + 1 : Nat) : Int) from w64_succ (n := n) (by omega) (by omega))
  have key : ∀ (u v : Bool), u = (a.getD i false || b.getD i false) → (u = true → v = true) →
    codewrightlaw44_PeelUnions.l0 k (leftR a 0) (leftR b 0) (leftR (U ++ [u]) 0) (leftR (M ++ [v]) 0) (n : Int) ((i + 1 : Nat) : Int) (n : Int) ch b0 b1 b2 = some true := by
   intro u v hu1 huv
   refine ih k (i + 1) (U ++ [u]) (M ++ [v]) (by omega) (by omega) (by simp [hU]) (by simp [hM]) (fun j hj => ?_) (fun j hj => ?_) (by omega)
   ·rw [getD_snoc, hU]
    by_cases h : j < i
    ·rw [if_pos h]; exact hu j h
    ·have : j = i := by omega
     subst this; rw [if_neg h, if_pos rfl, hu1]
   ·rw [getD_snoc, hU] at hj
    rw [getD_snoc, hM]
    by_cases h : j < i
    ·rw [if_pos h] at hj ⊢; exact hm j hj
    ·rw [if_neg h] at hj ⊢
     by_cases h6 : j = i
     ·rw [if_pos h6] at hj ⊢; exact huv hj
     ·rw [if_neg h6] at hj; simp at hj
  rw [codewrightlaw44_PeelUnions.l0, if_pos (by omega), hma (k + 2) (Or.inl rfl), Option.bind_some]
  have j4 : ∀ (u : Bool), u = (a.getD i false || b.getD i false) → codewrightlaw44_PeelUnions.j4 (k + 1) (leftR a 0) (leftR b 0) (leftR (U ++ [u]) 0) (leftR M 0) (i : Int) (n : Int) (i : Int) (n : Int) ch b0 b1 b2 = some true := by
   intro u hu1
   have pl : ∀ v : Bool, leftR M 0 ++ (if v = true then [(i : Int)] else []) = leftR (M ++ [v]) 0 := fun v => by rw [leftR_snoc, hM]
   have k1 := key u true hu1 (fun _ => rfl)
   rw [← pl true, if_pos rfl] at k1
   rw [codewrightlaw44_PeelUnions.j4, hma k (Or.inr rfl), Option.bind_some]
   by_cases hA : a.getD i false = true
   ·rw [if_pos hA, if_pos (by omega), HW.out]; exact k1
   ·rw [if_neg hA, hmb k (Or.inr rfl), Option.bind_some]
    by_cases hB : b.getD i false = true
    ·rw [if_pos hB, if_pos (by omega), HW.out]; exact k1
    ·rw [if_neg hB, if_pos (by omega)]
     split
     ·rw [if_pos (by omega), HW.out]; exact k1
     ·have k0 := key u false hu1 (fun h => by rw [hu1, Bool.eq_false_iff.2 hA, Bool.eq_false_iff.2 hB] at h; exact h)
      rw [← pl false, if_neg (by simp), List.append_nil] at k0
      rw [HW.out]; exact k0
  have pu : ∀ v : Bool, leftR U 0 ++ (if v = true then [(i : Int)] else []) = leftR (U ++ [v]) 0 := fun v => by rw [leftR_snoc, hU]
  by_cases hA : a.getD i false = true
  ·rw [if_pos hA, codewrightlaw44_PeelUnions.j3, if_pos rfl, if_pos (by omega)]
   have := j4 true (by rw [hA]; rfl)
   rw [← pu true, if_pos rfl] at this
   exact this
  ·rw [if_neg hA, hmb (k + 2) (Or.inl rfl), Option.bind_some, codewrightlaw44_PeelUnions.j3]
   by_cases hB : b.getD i false = true
   ·rw [if_pos hB, if_pos (by omega)]
    have := j4 true (by rw [hB]; simp)
    rw [← pu true, if_pos rfl] at this
    exact this
   ·rw [if_neg hB]
    have := j4 false (by rw [Bool.eq_false_iff.2 hA, Bool.eq_false_iff.2 hB]; rfl)
    rw [← pu false, if_neg (by simp), List.append_nil] at this
    exact this
theorem unions_pure (V : Int) (ch : List (List Int)) (b0 b1 b2 : Int) : codewrightlaw44_PeelUnions.f 2000 V ch b0 b1 b2 = some true := by
 have haw : ∀ (b : Bool), b = true → codewrightlaw44_PeelUnions.j0 2000 b V ch b0 b1 b2 = some true := by
  intro b hb
  rw [codewrightlaw44_PeelUnions.j0, if_pos hb]; rfl
 unfold codewrightlaw44_PeelUnions.f
 rw [show codewrightlaw44_awake.f = some true from rfl, Option.bind_some, if_pos rfl]
 obtain ⟨b, hb, hfew⟩ := fewG_f V ch 2000 (by omega)
 rw [hb, Option.bind_some]
 cases b with
 | false => rw [if_neg (by simp)]; exact haw _ rfl
 | true =>
  obtain ⟨f1, f2, f3⟩ := hfew rfl
  rw [if_pos rfl]
  obtain ⟨hc, e, he⟩ := rcheck_f (V := V) (ch := ch) (n := 300) (k := 2000) (by omega) (by omega) f3 (by omega)
  rw [hc, he, Option.bind_some]
  by_cases h0 : e = 0
  ·subst h0
   rw [if_pos rfl]
   by_cases h20 : V > 20
   ·exact haw _ (decide_eq_true h20)
   ·obtain ⟨n, e, h1, h2, _⟩ := graph_ok he
    subst e
    rw [decide_eq_false h20, codewrightlaw44_PeelUnions.j0, if_neg (by simp)]
    obtain ⟨m0, hm0, s0⟩ := split_f b0 n 1999 (by omega) (by omega)
    obtain ⟨m1, hm1, s1⟩ := split_f b1 n 1999 (by omega) (by omega)
    obtain ⟨r0, _, g0, l0, t0, _, _⟩ := greatest_f (k := 1999) he hm0 (by omega)
    obtain ⟨r1, _, g1, l1, t1, _, _⟩ := greatest_f (k := 1999) he hm1 (by omega)
    rw [s0, Option.bind_some, g0, Option.bind_some, s1, Option.bind_some, g1, Option.bind_some, if_pos rfl, codewrightlaw44_PeelUnions.j1, if_neg (by simp)]
    exact unions_loop (b0 := b0) (b1 := b1) (b2 := b2) he l0 l1 t0 t1 n 1998 0 [] [] (by omega) (by omega) rfl rfl (fun j hj => by omega) (fun j hj => by simp at hj) (by omega)
  ·rw [if_neg h0]; exact haw _ rfl
end Go.Proofs.Ytkifipakikbhcaa.Hand
namespace Go.Proofs.Ytkifipakikbhcaa.Hand
open Go.ChangeShapes Go.WideShapes Go.ChangeAt Go.RowKit
open Go.Proofs.Ytkifipakikbhcaa.Ref
open Go.Proofs.YtkifipakikbhcaaW.PrintWords Go.Proofs.YtkifipakikbhcaaW.PrintLast Go.Proofs.YtkifipakikbhcaaW.PrintMore
theorem own : ownKnob Try.prog.godebug = none := by kernel_rfl
theorem laidOut : laidOutB Try.prog = true := by kernel_rfl
section
variable {H : Type} {enc : TypeId × Value → H} {W : World}
theorem ints_C {fuel : Nat} {v : Value} {x : DataW H × List MemPlace} (h : DataW.trod enc Try.prog W 0 (fun _ => true) true fuel 22 [v] = some x) :
  ∃ (A : Option Addr) (c : Nat) (l : List Int), v = .slice A l.length c ∧ l.length ≤ c ∧ c ≤ maxLen ∧ Kd.C (Kd.int .i64) W A l.length l := by
 rcases Go.ChangeShapes.open_ints Try.underlying22 Try.underlying3 (by kernel_rfl) h with ⟨hcs, _⟩ | ⟨a, len, cap, zs, hcs, _, hl, hm, hz, _, hcell, _⟩
 ·exact ⟨none, 0, [], by simpa using hcs, Nat.le_refl _, Nat.zero_le _, Kd.C_nil _ _⟩
 ·simp only [if_true] at hz
  have hlen : (zs.take len).length = len := by rw [List.length_take]; omega
  refine ⟨some a, cap, zs.take len, by rw [hlen]; simpa using hcs, by omega, hm, ?_⟩
  refine Kd.C_of_reads (d := 0) ⟨rfl, by rw [hlen]; have := hm; unfold maxLen at this; omega, fun hp => ⟨a, rfl, fun j hj => ?_⟩⟩
  rw [hlen] at hj
  rw [hcell j (by omega)]
  simp [List.getD_eq_getElem?_getD, List.getElem?_take, hj]
theorem rows_C {fuel : Nat} {v : Value} {x : DataW H × List MemPlace} (h : DataW.trod enc Try.prog W 0 (fun _ => true) true fuel 25 [v] = some x) :
  ∃ (A : Option Addr) (c : Nat) (l : List (List Int)), v = .slice A l.length c ∧ l.length ≤ c ∧ c ≤ maxLen ∧ Kd.C (Kd.slice 3 (Kd.int .i64)) W A l.length l := by
 rcases Go.Deep.open_int_rows Try.underlying25 Try.underlying22 Try.underlying3 (by kernel_rfl) (by kernel_rfl) h with ⟨hcs, _⟩ | ⟨a, len, cap, A, L, C, Z, hcs, _, hl, hm, _, hr⟩
 ·exact ⟨none, 0, [], by simpa using hcs, Nat.le_refl _, Nat.zero_le _, Kd.C_nil _ _⟩
 ·have hlen : ((List.range len).map fun r => (Z r).take (L r)).length = len := by simp
  refine ⟨some a, cap, (List.range len).map fun r => (Z r).take (L r), by rw [hlen]; simpa using hcs, by omega, hm, rfl, by rw [hlen]; have := hm; unfold maxLen at this; omega, fun hp => ⟨a, rfl, fun j p hj => ?_⟩⟩
  have hj2 : j < len := by
   have := (List.getElem?_eq_some_iff.1 hj).1
   rw [hlen] at this; exact this
  have hp : p = (Z j).take (L j) := by
   rw [List.getElem?_map, List.getElem?_range hj2] at hj
   exact (Option.some.inj hj).symm
  obtain ⟨hc, h1, h2, h3, h4, h5, h6⟩ := hr j (by omega)
  have hpl : p.length = L j := by rw [hp, List.length_take]; omega
  refine ⟨[.slice (A j) p.length (C j)], rfl, ⟨A j, C j, rfl, by omega, ?_⟩, ?_⟩
  ·refine Kd.C_of_reads (d := 0) ⟨rfl, by have := h2; unfold maxLen at this; omega, fun hp0 => ?_⟩
   cases hA : A j with
   | none => exact absurd (h5 hA) (by omega)
   | some a' =>
    refine ⟨a', rfl, fun i hi => ?_⟩
    rw [(h6 a' hA).2 i (by omega)]
    have hi2 : i < L j := by omega
    simp [hp, List.getD_eq_getElem?_getD, List.getElem?_take, hi2]
  ·intro i u hu
   have hi : i = 0 := by
    have := (List.getElem?_eq_some_iff.1 hu).1
    simp at this; exact this
   subst hi
   have hu : Value.slice (A j) p.length (C j) = u := by simpa using hu
   rw [← hu, hpl]
   have e : j * (Kd.slice 3 (Kd.int .i64)).sz + 0 = j := by show j * 1 + 0 = j; omega
   rw [e]; exact hc
end
end Go.Proofs.Ytkifipakikbhcaa.Hand
namespace Go.Proofs.Ytkifipakikbhcaa.Hand
open Go.ChangeShapes Go.WideShapes Go.ChangeAt Go.RowKit
open Go.Proofs.YtkifipakikbhcaaW.PrintWords Go.Proofs.YtkifipakikbhcaaW.PrintLast Go.Proofs.YtkifipakikbhcaaW.PrintMore
set_option maxRecDepth 100000
section
variable {H : Type} {enc : TypeId × Value → H} {W : World} {b0 : Nat} {d : DataW H} {p : List MemPlace} {v : Value}
theorem okWide_array {t e : TypeId} {n : Nat} {r : Reach} {b0 : Nat} {v : Value} (ht : Try.prog.underlying t = some (.array n e)) (h : Value.okWide Try.prog W r b0 t v) : ∃ cs, v = .agg cs ∧ cs.size = Try.prog.cellsOf t := by
 simp only [Value.okWide, ht] at h
 obtain ⟨cs, h1, h2, _⟩ := h
 exact ⟨cs, h1, h2⟩
theorem open_arr3 {t e : TypeId} (ht : Try.prog.underlying t = some (.array 3 e)) (hce : Try.prog.cellsOf e = 1) (hC : Try.prog.cellsOf t = 3) (hv : Value.okWide Try.prog W .any b0 t v) (h : DataW.Trod enc Try.prog W 0 (fun _ => true) true t v d p) :
  ∃ (v0 v1 v2 : Value) (y0 y1 y2 : DataW H × List MemPlace) (n : Nat), v = .agg #[v0, v1, v2] ∧ DataW.trod enc Try.prog W 0 (fun _ => true) true n e [v0] = some y0 ∧ DataW.trod enc Try.prog W 0 (fun _ => true) true n e [v1] = some y1 ∧ DataW.trod enc Try.prog W 0 (fun _ => true) true n e [v2] = some y2 := by
 obtain ⟨cs, rfl, hsz⟩ := okWide_array ht hv
 obtain ⟨c0, c1, c2, rfl⟩ := Go.Joins.array3 (hsz.trans hC)
 obtain ⟨fuel, hf⟩ := h
 obtain ⟨y0, y1, y2, n, _, h0, h1, h2⟩ := trod_array3 ht hce hf
 exact ⟨c0, c1, c2, y0, y1, y2, n, rfl, h0, h1, h2⟩
theorem open_arr2 {t e : TypeId} (ht : Try.prog.underlying t = some (.array 2 e)) (hce : Try.prog.cellsOf e = 1) (hC : Try.prog.cellsOf t = 2) (hv : Value.okWide Try.prog W .any b0 t v) (h : DataW.Trod enc Try.prog W 0 (fun _ => true) true t v d p) :
  ∃ (v0 v1 : Value) (y0 y1 : DataW H × List MemPlace) (n : Nat), v = .agg #[v0, v1] ∧ DataW.trod enc Try.prog W 0 (fun _ => true) true n e [v0] = some y0 ∧ DataW.trod enc Try.prog W 0 (fun _ => true) true n e [v1] = some y1 := by
 obtain ⟨cs, rfl, hsz⟩ := okWide_array ht hv
 obtain ⟨c0, c1, rfl⟩ := Go.Joins.array2 (hsz.trans hC)
 obtain ⟨fuel, hf⟩ := h
 obtain ⟨xs, m, _, _, _, hlen, hx⟩ := DataW.trod_array ht hf
 have h0 := hx 0 (by omega)
 have h1 := hx 1 (by omega)
 match xs, hlen with
 | [y0, y1], _ => exact ⟨c0, c1, y0, y1, m, rfl, by simpa [hce, Value.cells] using h0, by simpa [hce, Value.cells] using h1⟩
theorem int_of {fuel : Nat} {c0 : Value} {y : DataW H × List MemPlace} {t : TypeId} {k : IntKind} (ht : Try.prog.underlying t = some (.int k)) (h : DataW.trod enc Try.prog W 0 (fun _ => true) true fuel t [c0] = some y) : ∃ a : Int, c0 = .int k a := by
 obtain ⟨a, e0, _, _⟩ := DataW.trod_int ht h
 exact ⟨a, by simpa using e0⟩
theorem open_graph (hv : Value.okWide Try.prog W .any b0 31 v) (h : DataW.Trod enc Try.prog W 0 (fun _ => true) true 31 v d p) :
  ∃ (a : Int) (A : Option Addr) (c : Nat) (l : List (List Int)), v = .agg #[.int .i64 a, .slice A l.length c] ∧ l.length ≤ c ∧ c ≤ maxLen ∧ Kd.C (Kd.slice 3 (Kd.int .i64)) W A l.length l := by
 obtain ⟨c0, c1, y0, y1, m, rfl, _, _, hy0, hy1⟩ := Go.Joins.open_agg2 Try.underlying31 (by kernel_rfl) (by kernel_rfl) hv h
 obtain ⟨a, rfl⟩ := int_of Try.underlying3 hy0
 obtain ⟨A, c, l, rfl, hc, hm, hC⟩ := rows_C hy1
 exact ⟨a, A, c, l, rfl, hc, hm, hC⟩
theorem open_matrix (hv : Value.okWide Try.prog W .any b0 27 v) (h : DataW.Trod enc Try.prog W 0 (fun _ => true) true 27 v d p) :
  ∃ (a : Int) (A : Option Addr) (c : Nat) (l : List (List Int)), v = .agg #[.int .i64 a, .slice A l.length c] ∧ l.length ≤ c ∧ c ≤ maxLen ∧ Kd.C (Kd.slice 3 (Kd.int .i64)) W A l.length l := by
 obtain ⟨c0, c1, y0, y1, m, rfl, _, _, hy0, hy1⟩ := Go.Joins.open_agg2 Try.underlying27 (by kernel_rfl) (by kernel_rfl) hv h
 obtain ⟨a, rfl⟩ := int_of Try.underlying3 hy0
 obtain ⟨A, c, l, rfl, hc, hm, hC⟩ := rows_C hy1
 exact ⟨a, A, c, l, rfl, hc, hm, hC⟩
theorem open_field (hv : Value.okWide Try.prog W .any b0 24 v) (h : DataW.Trod enc Try.prog W 0 (fun _ => true) true 24 v d p) :
  ∃ (P M : Int) (A : Option Addr) (c : Nat) (l : List Int), v = .agg #[.int .i64 P, .int .i64 M, .slice A l.length c] ∧ l.length ≤ c ∧ c ≤ maxLen ∧ Kd.C (Kd.int .i64) W A l.length l := by
 obtain ⟨c0, c1, c2, y0, y1, y2, m, rfl, _, _, hy0, hy1, hy2⟩ := Go.Joins.open_agg3 Try.underlying24 (by kernel_rfl) (by kernel_rfl) hv h
 obtain ⟨a, rfl⟩ := int_of Try.underlying3 hy0
 obtain ⟨b, rfl⟩ := int_of Try.underlying3 hy1
 obtain ⟨A, c, l, rfl, hc, hm, hC⟩ := ints_C hy2
 exact ⟨a, b, A, c, l, rfl, hc, hm, hC⟩
end
end Go.Proofs.Ytkifipakikbhcaa.Hand
