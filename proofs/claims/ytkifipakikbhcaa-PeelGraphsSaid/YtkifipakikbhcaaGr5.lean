/- Part 5 of the claim: what the law reaches, walked (merged by slim.py out of the texts in wip). -/
import Derived.Test.YtkifipakikbhcaaGr4
import Derived.ArgAppend
import Derived.Below
import Derived.BigQuiet
import Derived.Deep.AppendLies
import Derived.Deep.CutBlock
import Derived.Deep.CutRange
import Derived.Deep.DeepCutAuto
import Derived.Deep.DrawnRows
import Derived.Deep.Draws
import Derived.Deep.LoopGhost
import Derived.Deep.OwnRows
import Derived.Deep.QuietTactic
import Derived.Deep.RegionHeld3
import Derived.KernelRfl
import Derived.Laws.BitsLemmas
import Derived.Laws.BytesArg
import Derived.Laws.IdiomCopy
import Derived.Laws.MakeOwn
import Derived.Laws.OwnMore
import Derived.Laws.Rows
import Derived.Laws.Slices
import Derived.Lib.AppendStr
import Derived.Lib.ConvBytes
import Derived.Maps.AppendAt
import Derived.OrdersHeld
import Derived.OwnWalk
import Derived.RowKit
import Derived.RowKit3
import Derived.Shelf.Abstract
import Derived.Tactics
import Derived.Test.YtkifipakikbhcaaProg
import Derived.WalkKit
import Derived.WideLaws
set_option maxHeartbeats 8000000
set_option maxRecDepth 100000
set_option linter.unusedSimpArgs false
set_option linter.unusedVariables false
namespace Go.Proofs.Ytkifipakikbhcaa.Pm
open Ytkifipakikbhcaa.Ref Ytkifipakikbhcaa.Pg Ytkifipakikbhcaa.Hand
open Go.RowKit YtkifipakikbhcaaW.PrintWords YtkifipakikbhcaaW.PrintLast YtkifipakikbhcaaW.PrintMore
mutual
def peel_Graph.j0 : Nat → Bool → Int → List (List Int) → Option (Int × (List (List Int)) × Int)
 | 0, _, _, _ => none
 | k + 1, x27, x103000, x103001 => if x27 = true then (some (0, ([] : List (List Int)), 4)) else (peel_Graph.l0 k x103001 (x103001.length : Int) 0 x103000 ([] : List (List Int)))
def peel_Graph.l0 : Nat → List (List Int) → Int → Int → Int → List (List Int) → Option (Int × (List (List Int)) × Int)
 | 0, _, _, _, _, _ => none
 | k + 1, x33, x34, x35, x106000, x106001 => if x35 < x34 then (if 0 ≤ x35 then (if x35 < (x33.length : Int) then (peel_Graph.l1 k ([] : List Int) x33 x34 x35 (rd_L1 x33 x35) ((rd_L1 x33 x35).length : Int) 0 x106000 x106001) else (none)) else (none)) else (some (x106000, x106001, 0))
def peel_Graph.l1 : Nat → List Int → List (List Int) → Int → Int → List Int → Int → Int → Int → List (List Int) → Option (Int × (List (List Int)) × Int)
 | 0, _, _, _, _, _, _, _, _, _ => none
 | k + 1, x10, x33, x34, x35, x39, x40, x41, x106000, x106001 => if x41 < x40 then (if 0 ≤ x41 then (if x41 < (x39.length : Int) then (if (rd x39 x41) = 0 then (peel_Graph.l1 k x10 x33 x34 x35 x39 x40 (wrap64 (x41 + 1)) x106000 x106001) else (if x10.length < 17592186044416 then (peel_Graph.l1 k (x10 ++ [x41]) x33 x34 x35 x39 x40 (wrap64 (x41 + 1)) x106000 x106001) else (none))) else (none)) else (none)) else (if x106001.length < 5864062014805 then (peel_Graph.l0 k x33 x34 (wrap64 (x35 + 1)) x106000 (x106001 ++ [x10])) else (none))
end
def peel_Graph.f (k : Nat) (a0_0 : Int) (a0_1 : Int) (l0_2 : List Int) (a1_0 : Int) (l1_1 : List (List Int)) : Option (Int × (List (List Int)) × Int) := (matrix_Check.f a0_0 a0_1 l0_2 a1_0 l1_1).bind fun t104 => (if t104 = 0 then (if a1_0 < 1 then (peel_Graph.j0 k true a1_0 l1_1) else (peel_Graph.j0 k (decide (a1_0 > 64)) a1_0 l1_1)) else (some (0, ([] : List (List Int)), t104)))
theorem peel_Graph.calls (k : Nat) (a0_0 : Int) (a0_1 : Int) (A0_2 : Option Addr) (c0_2 : Nat) (l0_2 : List Int) (a1_0 : Int) (A1_1 : Option Addr) (c1_1 : Nat) (l1_1 : List (List Int)) (r1 : Int) (r2 : List (List Int)) (r3 : Int) (w : World) (hr0_2 : Kd.C (Kd.int .i64) w A0_2 l0_2.length l0_2) (hc0_2 : l0_2.length ≤ c0_2) (hr1_1 : Kd.C (Kd.slice 3 (Kd.int .i64)) w A1_1 l1_1.length l1_1) (hc1_1 : l1_1.length ≤ c1_1) (h : peel_Graph.f k a0_0 a0_1 l0_2 a1_0 l1_1 = some (r1, r2, r3)) :
  Calls Try.prog 14 #[.agg #[.int .i64 a0_0, .int .i64 a0_1, .slice A0_2 l0_2.length c0_2], .agg #[.int .i64 a1_0, .slice A1_1 l1_1.length c1_1]] w fun e w' => ∃ v1_ : Value, e = .returned (.tuple #[.agg #[.int .i64 r1, v1_], .int .i64 r3]) ∧ Kd.S (Kd.slice 3 (Kd.int .i64)) 22 w' w.heap.size (fun _ => True) v1_ r2 ∧ Below w.heap.size w w' := by
 have hu24 := Try.underlying24
 have hu27 := Try.underlying27
 have hu31 := Try.underlying31
 have HR0_2 := ak hr0_2
 have HC0_2 := ak hc0_2
 clear hr0_2 hc0_2
 have HR1_1 := ak hr1_1
 have HC1_1 := ak hc1_1
 clear hr1_1 hc1_1
 have HB := ak (Below.refl w.heap.size w)
 have H : ((matrix_Check.f a0_0 a0_1 l0_2 a1_0 l1_1).bind fun t104 => (if t104 = 0 then (if a1_0 < 1 then (peel_Graph.j0 k true a1_0 l1_1) else (peel_Graph.j0 k (decide (a1_0 > 64)) a1_0 l1_1)) else (some (0, ([] : List (List Int)), t104)))) = some (r1, r2, r3) := h
 clear h
 replace H := obm H
 obtain ⟨t104, A30, H⟩ := H
 replace H : (if t104 = 0 then (if a1_0 < 1 then (peel_Graph.j0 k true a1_0 l1_1) else (peel_Graph.j0 k (decide (a1_0 > 64)) a1_0 l1_1)) else (some (0, ([] : List (List Int)), t104))) = some (r1, r2, r3) := H
 have A3 := ak A30
 clear A30
 by_cases c4 : t104 = 0
 ·rw [if_pos c4] at H
  have c4b0 : (t104 == 0) = true := beq_iff_eq.mpr c4
  have c4b1 : (t104 != 0) = false := bnm c4
  clear c4
  have HC5 := ak H
  clear H
  go_enter Try.func14, Try.ntmps14
  go_upto_region 4 with (first | ((with_reducible refine gate_dst (N := 2) rfl ?_); refine box_event ?hg (N := 2) ?hd (cs := #[.int .i64 a0_0, .int .i64 a0_1, .slice A0_2 l0_2.length c0_2]) (t := 24) ?hr ?_; (case hd => rfl); (case hg => rfl); (case hr => first | (go_simp; done) | (go_simp; rfl)); intro gb101 hg w6 hbox hb; have n0_ := ak (bsp HB.out hb); have n1_ := ak (hbox); have n2_ := ak ((by rw [hg]; exact (bsz HB.out) : w.heap.size ≤ gb101)); have n3_ := ak ((by rw [hg]; exact (bsz HB.out) : w.heap.size ≤ gb101)); clear HB; have HB := n0_; have BK101 := n1_; have GW101 := n2_; have GE101 := n3_; clear n0_ n1_ n2_ n3_; clear hb hbox hg) | ((with_reducible refine gate_dst (N := 3) rfl ?_); refine box_event ?hg (N := 3) ?hd (cs := #[.int .i64 a1_0, .slice A1_1 l1_1.length c1_1]) (t := 27) ?hr ?_; (case hd => rfl); (case hg => rfl); (case hr => first | (go_simp; done) | (go_simp; rfl)); intro gb102 hg w7 hbox hb; have n0_ := ak (kbe BK101.out hb); have n1_ := ak (bsp HB.out hb); have n2_ := ak (hbox); have n3_ := ak ((by rw [hg]; exact (bsz HB.out) : w.heap.size ≤ gb102)); have n4_ := ak ((by rw [hg]; exact (bsz HB.out) : w.heap.size ≤ gb102)); have n5_ := ak ((by rw [hg]; exact Nat.ne_of_lt (klt BK101.out) : gb101 ≠ gb102)); have n6_ := ak ((by rw [hg]; exact Nat.ne_of_gt (klt BK101.out) : gb102 ≠ gb101)); clear BK101 HB; have BK101 := n0_; have HB := n1_; have BK102 := n2_; have GW102 := n3_; have GE102 := n4_; have NB101_102 := n5_; have NB102_101 := n6_; clear n0_ n1_ n2_ n3_ n4_ n5_ n6_; clear hb hbox hg) | ((with_reducible refine gate_dst (N := 4) rfl ?_); refine box_event ?hg (N := 4) ?hd (cs := #[.int .i64 0, .slice none 0 0]) (t := 31) ?hr ?_; (case hd => rfl); (case hg => rfl); (case hr => first | (go_simp; done) | (go_simp; rfl)); intro gb103 hg w8 hbox hb; have n0_ := ak (kbe BK101.out hb); have n1_ := ak (kbe BK102.out hb); have n2_ := ak (bsp HB.out hb); have n3_ := ak (hbox); have n4_ := ak ((by rw [hg]; exact (bsz HB.out) : w.heap.size ≤ gb103)); have n5_ := ak ((by rw [hg]; exact (bsz HB.out) : w.heap.size ≤ gb103)); have n6_ := ak ((by rw [hg]; exact Nat.ne_of_lt (klt BK101.out) : gb101 ≠ gb103)); have n7_ := ak ((by rw [hg]; exact Nat.ne_of_gt (klt BK101.out) : gb103 ≠ gb101)); have n8_ := ak ((by rw [hg]; exact Nat.ne_of_lt (klt BK102.out) : gb102 ≠ gb103)); have n9_ := ak ((by rw [hg]; exact Nat.ne_of_gt (klt BK102.out) : gb103 ≠ gb102)); clear BK101 BK102 HB; have BK101 := n0_; have BK102 := n1_; have HB := n2_; have BK103 := n3_; have GW103 := n4_; have GE103 := n5_; have NB101_103 := n6_; have NB103_101 := n7_; have NB102_103 := n8_; have NB103_102 := n9_; clear n0_ n1_ n2_ n3_ n4_ n5_ n6_ n7_ n8_ n9_; clear hb hbox hg; have hnb9 := NB101_102.out; have hnc9 := NB102_101.out; have hnb10 := NB101_103.out; have hnc10 := NB103_101.out; have hcz11_0 : w8.cell? ⟨gb101, 0, none⟩ = some (.int .i64 a0_0) := (kce BK101.out 0).trans rfl; have hcz11_1 : w8.cell? ⟨gb101, 1, none⟩ = some (.int .i64 a0_1) := (kce BK101.out 1).trans rfl; have hcz11_2 : w8.cell? ⟨gb101, 2, none⟩ = some (.slice A0_2 l0_2.length c0_2) := (kce BK101.out 2).trans rfl; have hnb12 := NB102_103.out; have hnc12 := NB103_102.out; have hcz13_0 : w8.cell? ⟨gb102, 0, none⟩ = some (.int .i64 a1_0) := (kce BK102.out 0).trans rfl; have hcz13_1 : w8.cell? ⟨gb102, 1, none⟩ = some (.slice A1_1 l1_1.length c1_1) := (kce BK102.out 1).trans rfl) | ((with_reducible refine gate_callee (f := 42) rfl ?_); refine goesL_ (some 15) rfl rfl Try.func42 (by kernel_rfl) rfl #[.agg #[.int .i64 a0_0, .int .i64 a0_1, .slice A0_2 l0_2.length c0_2], .agg #[.int .i64 a1_0, .slice A1_1 l1_1.length c1_1]] rfl (by (try simp only [List.map_toArray, List.map_cons, List.map_nil]); first | done | rfl) ?_; (with_reducible refine (matrix_Check.calls a0_0 a0_1 _ _ l0_2 a1_0 _ _ l1_1 t104 _ ?side1 ?side2 ?side3 ?side4 A3.out).mono ?_); (case side1 => repeat (first | exact (Kd.C_below HR0_2.out HB.out) | (with_reducible refine Kd.C_alloc ?_ _) | (with_reducible refine Kd.C_drewN ?_ _) | (with_reducible refine Kd.C_drew ?_))); (case side2 => exact HC0_2.out); (case side3 => repeat (first | exact (Kd.C_below HR1_1.out HB.out) | (with_reducible refine Kd.C_alloc ?_ _) | (with_reducible refine Kd.C_drewN ?_ _) | (with_reducible refine Kd.C_drew ?_))); (case side4 => exact HC1_1.out); rintro e w14 ⟨rfl, hb⟩; refine ⟨_, rfl, ?_⟩; have n0_ := ak (kbe BK101.out hb); have n1_ := ak (kbe BK102.out hb); have n2_ := ak (kbe BK103.out hb); have n3_ := ak (bsp HB.out hb); clear BK101 BK102 BK103 HB; have BK101 := n0_; have BK102 := n1_; have BK103 := n2_; have HB := n3_; clear n0_ n1_ n2_ n3_; (try clear hb); (try clear hb2); (try clear hk); (try clear hi)))
  (try simp only [Act.put, sia, scz, scs])
  go_cut [27] (fun v27 wc => ∃ (kq : Nat) (x27_4 : Bool), v27 = .bool x27_4 ∧ Aside0 (peel_Graph.j0 kq x27_4 a1_0 l1_1 = some (r1, r2, r3)) ∧ Aside0 (kq ≤ k) ∧ Aside0 (wc.heap[gb101]? = some (.cells #[.int .i64 a0_0, .int .i64 a0_1, (.slice A0_2 l0_2.length c0_2)] 24 (0, 0))) ∧ Aside0 (wc.heap[gb102]? = some (.cells #[.int .i64 a1_0, (.slice A1_1 l1_1.length c1_1)] 27 (0, 0))) ∧ Aside0 (wc.heap[gb103]? = some (.cells #[.int .i64 0, (.slice none 0 0)] 31 (0, 0))) ∧ Aside0 (Below w.heap.size w wc))
  case first =>
   have H := HC5.out
   clear HC5
   by_cases c15 : a1_0 < 1
   ·rw [if_pos c15] at H
    have c15b0 : decide (a1_0 < 1) = true := det c15
    clear c15
    (first | rw [c15b0] | (simp only [i64_w, i32_w]; rw [c15b0]) | skip)
    have H' := ak H
    clear H
    have hnb16 := NB102_101.out
    have hnc16 := NB101_102.out
    have hnb17 := NB102_103.out
    have hnc17 := NB103_102.out
    have hcz18_0 : w14.cell? ⟨gb102, 0, none⟩ = some (.int .i64 a1_0) := (kce BK102.out 0).trans rfl
    have hcz18_1 : w14.cell? ⟨gb102, 1, none⟩ = some (.slice A1_1 l1_1.length c1_1) := (kce BK102.out 1).trans rfl
    have hfz18_0 := kfz BK102.out 0
    have hfz18_1 := kfz BK102.out 1
    go_wp2
    go_meet
    case rel => exact ⟨_, (true), (by first | rfl | (simp; done) | (simp [*]; done)), H', ⟨by first | omega | exact Nat.le_refl _⟩, ⟨by (with_reducible repeat (first | refine kdn ?_ _ | refine kdr ?_ | refine kal ?_ _)); exact BK101.out⟩, ⟨by (with_reducible repeat (first | refine kdn ?_ _ | refine kdr ?_ | refine kal ?_ _)); exact BK102.out⟩, ⟨by (with_reducible repeat (first | refine kdn ?_ _ | refine kdr ?_ | refine kal ?_ _)); exact BK103.out⟩, ⟨by repeat (first | (with_reducible first | exact HB.out | apply bal | apply pbn | apply bd1 | refine bst ?_ GE101.out | refine bst ?_ GE102.out | refine bst ?_ GE103.out) | exact HB.out)⟩⟩
   ·rw [if_neg c15] at H
    have c15b0 : decide (a1_0 < 1) = false := dff c15
    clear c15
    (first | rw [c15b0] | (simp only [i64_w, i32_w]; rw [c15b0]) | skip)
    have H' := ak H
    clear H
    have hnb19 := NB102_101.out
    have hnc19 := NB101_102.out
    have hnb20 := NB102_103.out
    have hnc20 := NB103_102.out
    have hcz21_0 : w14.cell? ⟨gb102, 0, none⟩ = some (.int .i64 a1_0) := (kce BK102.out 0).trans rfl
    have hcz21_1 : w14.cell? ⟨gb102, 1, none⟩ = some (.slice A1_1 l1_1.length c1_1) := (kce BK102.out 1).trans rfl
    have hfz21_0 := kfz BK102.out 0
    have hfz21_1 := kfz BK102.out 1
    go_wp2
    go_meet
    case rel => exact ⟨_, (decide (a1_0 > 64)), (by first | rfl | (simp; done) | (simp [*]; done)), H', ⟨by first | omega | exact Nat.le_refl _⟩, ⟨by (with_reducible repeat (first | refine kdn ?_ _ | refine kdr ?_ | refine kal ?_ _)); exact BK101.out⟩, ⟨by (with_reducible repeat (first | refine kdn ?_ _ | refine kdr ?_ | refine kal ?_ _)); exact BK102.out⟩, ⟨by (with_reducible repeat (first | refine kdn ?_ _ | refine kdr ?_ | refine kal ?_ _)); exact BK103.out⟩, ⟨by repeat (first | (with_reducible first | exact HB.out | apply bal | apply pbn | apply bd1 | refine bst ?_ GE101.out | refine bst ?_ GE102.out | refine bst ?_ GE103.out) | exact HB.out)⟩⟩
  case rest =>
   clear HC5
   obtain ⟨kq, x27_4, rfl, HA, HJ4, BK101, BK102, BK103, HB⟩ := hcut
   cases kq with
   | zero => exact absurd HA.out (by simp [peel_Graph.j0])
   | succ kj4 =>
    have H := HA.out
    clear HA
    simp only [peel_Graph.j0] at H
    by_cases c22 : x27_4 = true
    ·subst c22
     have H1 : (some (0, ([] : List (List Int)), 4)) = some (r1, r2, r3) := by rw [if_pos rfl] at H; exact H
     clear H
     have H := H1
     clear H1
     simp only [Option.some.injEq, Prod.mk.injEq] at H
     obtain ⟨rfl, rfl, rfl⟩ := H
     have hnb23 := NB103_101.out
     have hnc23 := NB101_103.out
     have hnb24 := NB103_102.out
     have hnc24 := NB102_103.out
     have hcz25_0 : wc.cell? ⟨gb103, 0, none⟩ = some (.int .i64 0) := (kce BK103.out 0).trans rfl
     have hcz25_1 : wc.cell? ⟨gb103, 1, none⟩ = some (.slice none 0 0) := (kce BK103.out 1).trans rfl
     have hfz25_0 := kfz BK103.out 0
     have hfz25_1 := kfz BK103.out 1
     go_wp2
     refine bodyPost_ret (results_ct rfl _ _ gb103 31 #[.int .i64 0, .slice none 0 0] (0, 0) _ rfl (by (with_reducible repeat (first | refine kdn ?_ _ | refine kdr ?_ | refine kal ?_ _)); refine blk_put (cs := #[.int .i64 0, .slice none 0 0]) ?_ 1 _ rfl; (with_reducible repeat (first | refine kdn ?_ _ | refine kdr ?_ | refine kal ?_ _)); refine blk_put (cs := #[.int .i64 0, .slice none 0 0]) ?_ 0 _ rfl; (with_reducible repeat (first | refine kdn ?_ _ | refine kdr ?_ | refine kal ?_ _)); exact BK103.out) Try.underlying31 rfl (by kernel_rfl)) rfl ?_
     exact ⟨_, by first | rfl | (simp <;> rfl) | (simp [*] <;> rfl), by first | exact Kd.S_nil _ _ _ _ _ | exact Kd.N_nil _ _ _ _ _ | exact Kd.V_nil _ _ _ _ _ | exact Kd.Q_nil _ _ _ _ _ | exact Kd.R_nil _ _ _ _ _, by repeat (first | (with_reducible first | exact HB.out | apply bal | apply pbn | apply bd1 | refine bst ?_ GE101.out | refine bst ?_ GE102.out | refine bst ?_ GE103.out) | exact HB.out)⟩
    ·replace c22 := Bool.eq_false_iff.mpr c22
     subst c22
     have H1 : (peel_Graph.l0 kj4 l1_1 (l1_1.length : Int) 0 a1_0 ([] : List (List Int))) = some (r1, r2, r3) := by rw [if_neg (show ¬ (false = true) by decide)] at H; exact H
     clear H
     have H := H1
     clear H1
     have H' := ak H
     clear H
     have hnb26 := NB102_101.out
     have hnc26 := NB101_102.out
     have hnb27 := NB102_103.out
     have hnc27 := NB103_102.out
     have hcz28_0 : wc.cell? ⟨gb102, 0, none⟩ = some (.int .i64 a1_0) := (kce BK102.out 0).trans rfl
     have hcz28_1 : wc.cell? ⟨gb102, 1, none⟩ = some (.slice A1_1 l1_1.length c1_1) := (kce BK102.out 1).trans rfl
     have hfz28_0 := kfz BK102.out 0
     have hfz28_1 := kfz BK102.out 1
     go_wp2_with (first | ((with_reducible refine gate_dst (N := 7) rfl ?_); refine box_event ?hg (N := 7) ?hd (cs := #[.int .i64 0, .slice none 0 0]) (t := 31) ?hr ?_; (case hd => rfl); (case hg => rfl); (case hr => first | (go_simp; done) | (go_simp; rfl)); intro gb105 hg w29 hbox hb; have n0_ := ak (kbe (g := gb101) (o := .cells #[.int .i64 a0_0, .int .i64 a0_1, .slice A0_2 l0_2.length c0_2] 24 (0, 0)) (by (with_reducible repeat (first | refine kdn ?_ _ | refine kdr ?_ | refine kal ?_ _)); exact BK101.out) hb); have n1_ := ak (kbe (g := gb102) (o := .cells #[.int .i64 a1_0, .slice A1_1 l1_1.length c1_1] 27 (0, 0)) (by (with_reducible repeat (first | refine kdn ?_ _ | refine kdr ?_ | refine kal ?_ _)); exact BK102.out) hb); have n2_ := ak (kbe (g := gb103) (o := .cells #[.int .i64 0, .slice none 0 0] 31 (0, 0)) (by (with_reducible repeat (first | refine kdn ?_ _ | refine kdr ?_ | refine kal ?_ _)); exact BK103.out) hb); have n3_ := ak (bsp (by repeat (first | (with_reducible first | exact HB.out | apply bal | apply pbn | apply bd1 | refine bst ?_ GE101.out | refine bst ?_ GE102.out | refine bst ?_ GE103.out) | exact HB.out)) hb); have n4_ := ak (hbox); have n5_ := ak ((by rw [hg]; exact (bsz (by repeat (first | (with_reducible first | exact HB.out | apply bal | apply pbn | apply bd1 | refine bst ?_ GE101.out | refine bst ?_ GE102.out | refine bst ?_ GE103.out) | exact HB.out))) : w.heap.size ≤ gb105)); have n6_ := ak ((by rw [hg]; exact (bsz (by repeat (first | (with_reducible first | exact HB.out | apply bal | apply pbn | apply bd1 | refine bst ?_ GE101.out | refine bst ?_ GE102.out | refine bst ?_ GE103.out) | exact HB.out))) : w.heap.size ≤ gb105)); have n7_ := ak ((by rw [hg]; exact Nat.ne_of_lt (klt (g := gb101) (o := .cells #[.int .i64 a0_0, .int .i64 a0_1, .slice A0_2 l0_2.length c0_2] 24 (0, 0)) (by (with_reducible repeat (first | refine kdn ?_ _ | refine kdr ?_ | refine kal ?_ _)); exact BK101.out)) : gb101 ≠ gb105)); have n8_ := ak ((by rw [hg]; exact Nat.ne_of_gt (klt (g := gb101) (o := .cells #[.int .i64 a0_0, .int .i64 a0_1, .slice A0_2 l0_2.length c0_2] 24 (0, 0)) (by (with_reducible repeat (first | refine kdn ?_ _ | refine kdr ?_ | refine kal ?_ _)); exact BK101.out)) : gb105 ≠ gb101)); have n9_ := ak ((by rw [hg]; exact Nat.ne_of_lt (klt (g := gb102) (o := .cells #[.int .i64 a1_0, .slice A1_1 l1_1.length c1_1] 27 (0, 0)) (by (with_reducible repeat (first | refine kdn ?_ _ | refine kdr ?_ | refine kal ?_ _)); exact BK102.out)) : gb102 ≠ gb105)); have n10_ := ak ((by rw [hg]; exact Nat.ne_of_gt (klt (g := gb102) (o := .cells #[.int .i64 a1_0, .slice A1_1 l1_1.length c1_1] 27 (0, 0)) (by (with_reducible repeat (first | refine kdn ?_ _ | refine kdr ?_ | refine kal ?_ _)); exact BK102.out)) : gb105 ≠ gb102)); have n11_ := ak ((by rw [hg]; exact Nat.ne_of_lt (klt (g := gb103) (o := .cells #[.int .i64 0, .slice none 0 0] 31 (0, 0)) (by (with_reducible repeat (first | refine kdn ?_ _ | refine kdr ?_ | refine kal ?_ _)); exact BK103.out)) : gb103 ≠ gb105)); have n12_ := ak ((by rw [hg]; exact Nat.ne_of_gt (klt (g := gb103) (o := .cells #[.int .i64 0, .slice none 0 0] 31 (0, 0)) (by (with_reducible repeat (first | refine kdn ?_ _ | refine kdr ?_ | refine kal ?_ _)); exact BK103.out)) : gb105 ≠ gb103)); clear BK101 BK102 BK103 HB; have BK101 := n0_; have BK102 := n1_; have BK103 := n2_; have HB := n3_; have BK105 := n4_; have GW105 := n5_; have GE105 := n6_; have NB101_105 := n7_; have NB105_101 := n8_; have NB102_105 := n9_; have NB105_102 := n10_; have NB103_105 := n11_; have NB105_103 := n12_; clear n0_ n1_ n2_ n3_ n4_ n5_ n6_ n7_ n8_ n9_ n10_ n11_ n12_; clear hb hbox hg; have hnb30 := NB105_101.out; have hnc30 := NB101_105.out; have hnb31 := NB105_102.out; have hnc31 := NB102_105.out; have hnb32 := NB105_103.out; have hnc32 := NB103_105.out; have hcz33_0 : w29.cell? ⟨gb105, 0, none⟩ = some (.int .i64 0) := (kce BK105.out 0).trans rfl; have hcz33_1 : w29.cell? ⟨gb105, 1, none⟩ = some (.slice none 0 0) := (kce BK105.out 1).trans rfl; have hfz33_0 := kfz BK105.out 0; have hfz33_1 := kfz BK105.out 1; have hcz34_0 : w29.cell? ⟨gb102, 0, none⟩ = some (.int .i64 a1_0) := (kce BK102.out 0).trans rfl; have hcz34_1 : w29.cell? ⟨gb102, 1, none⟩ = some (.slice A1_1 l1_1.length c1_1) := (kce BK102.out 1).trans rfl; have hfz34_0 := kfz BK102.out 0; have hfz34_1 := kfz BK102.out 1))
     go_loopg [35] kj4 (fun kq v35 w' => ∃ (x35_2 : Int) (x106001_2 : List (List Int)) (u106001 : Value), v35 = .int .i64 x35_2 ∧ Aside0 (peel_Graph.l0 kq l1_1 (l1_1.length : Int) x35_2 a1_0 x106001_2 = some (r1, r2, r3)) ∧ Aside0 (kq ≤ kj4) ∧ Aside0 (Kd.S (Kd.slice 3 (Kd.int .i64)) 22 w' w.heap.size (fun _ => True) u106001 x106001_2) ∧ Aside0 (w'.heap[gb101]? = some (.cells #[.int .i64 a0_0, .int .i64 a0_1, (.slice A0_2 l0_2.length c0_2)] 24 (0, 0))) ∧ Aside0 (w'.heap[gb102]? = some (.cells #[.int .i64 a1_0, (.slice A1_1 l1_1.length c1_1)] 27 (0, 0))) ∧ Aside0 (w'.heap[gb103]? = some (.cells #[.int .i64 0, (.slice none 0 0)] 31 (0, 0))) ∧ Aside0 (w'.heap[gb105]? = some (.cells #[.int .i64 a1_0, u106001] 31 (0, 0))) ∧ Aside0 (Below w.heap.size w w'))
     case atStart => exact ⟨(0), (([] : List (List Int))), (.slice none 0 0), (by first | rfl | (simp; done) | (simp [*]; done)), H', ⟨Nat.le_refl _⟩, ⟨by first | exact Kd.S_nil _ _ _ _ _ | exact Kd.N_nil _ _ _ _ _ | exact Kd.V_nil _ _ _ _ _ | exact Kd.Q_nil _ _ _ _ _ | exact Kd.R_nil _ _ _ _ _⟩, ⟨by (with_reducible repeat (first | refine kdn ?_ _ | refine kdr ?_ | refine kal ?_ _)); refine blk_far ?_ NB101_105.out _; (with_reducible repeat (first | refine kdn ?_ _ | refine kdr ?_ | refine kal ?_ _)); refine blk_far ?_ NB101_105.out _; (with_reducible repeat (first | refine kdn ?_ _ | refine kdr ?_ | refine kal ?_ _)); exact BK101.out⟩, ⟨by (with_reducible repeat (first | refine kdn ?_ _ | refine kdr ?_ | refine kal ?_ _)); refine blk_far ?_ NB102_105.out _; (with_reducible repeat (first | refine kdn ?_ _ | refine kdr ?_ | refine kal ?_ _)); refine blk_far ?_ NB102_105.out _; (with_reducible repeat (first | refine kdn ?_ _ | refine kdr ?_ | refine kal ?_ _)); exact BK102.out⟩, ⟨by (with_reducible repeat (first | refine kdn ?_ _ | refine kdr ?_ | refine kal ?_ _)); refine blk_far ?_ NB103_105.out _; (with_reducible repeat (first | refine kdn ?_ _ | refine kdr ?_ | refine kal ?_ _)); refine blk_far ?_ NB103_105.out _; (with_reducible repeat (first | refine kdn ?_ _ | refine kdr ?_ | refine kal ?_ _)); exact BK103.out⟩, ⟨by (with_reducible repeat (first | refine kdn ?_ _ | refine kdr ?_ | refine kal ?_ _)); refine blk_put (cs := #[.int .i64 a1_0, .slice none 0 0]) ?_ 1 _ rfl; (with_reducible repeat (first | refine kdn ?_ _ | refine kdr ?_ | refine kal ?_ _)); refine blk_put (cs := #[.int .i64 0, .slice none 0 0]) ?_ 0 _ rfl; (with_reducible repeat (first | refine kdn ?_ _ | refine kdr ?_ | refine kal ?_ _)); exact BK105.out⟩, ⟨by repeat (first | (with_reducible first | exact HB.out | apply bal | apply pbn | apply bd1 | refine bst ?_ GE101.out | refine bst ?_ GE102.out | refine bst ?_ GE103.out | refine bst ?_ GE105.out) | exact HB.out)⟩⟩
     case round =>
      clear H'
      obtain ⟨x35_2, x106001_2, u106001, rfl, HA, HK2, HO_106001, BK101, BK102, BK103, BK105, HB⟩ := hrel
      cases gk with
      | zero => exact absurd HA.out (by simp [peel_Graph.l0])
      | succ k2 =>
       have H := HA.out
       clear HA
       simp only [peel_Graph.l0] at H
       by_cases c35 : x35_2 < (l1_1.length : Int)
       ·rw [if_pos c35] at H
        have c35b0 : decide (x35_2 < (l1_1.length : Int)) = true := det c35
        clear c35
        by_cases c36 : 0 ≤ x35_2
        ·rw [if_pos c36] at H
         have c36b0 : decide (0 ≤ x35_2) = true := det c36
         clear c36
         by_cases c37 : x35_2 < (l1_1.length : Int)
         ·rw [if_pos c37] at H
          have c37b0 : decide (x35_2 < (l1_1.length : Int)) = true := det c37
          clear c37
          have H' := ak H
          clear H
          have p106 : 0 ≤ (x35_2 : Int) := odt (by first | (with_reducible assumption) | assumption)
          have q106 : x35_2 < (l1_1.length : Int) := odt (by first | (with_reducible assumption) | assumption)
          obtain ⟨ad106, A106_0, c106_0, e106, hx106_0, hl106_0, hi106_0⟩ := at_L1 HR1_1.out x35_2 p106 q106
          cases e106
          replace hx106_0 := (HB.out.cell (World.block_lt_of_cell? w _ hx106_0)).trans hx106_0
          have HR106_0 := ak hi106_0
          have HC106_0 := ak hl106_0
          clear hi106_0 hl106_0
          replace p106 := eq_true p106
          replace q106 := eq_true q106
          go_wp2
          go_loopg [10, 41] k2 (fun kq v10 v41 w' => ∃ (x10_3 : List Int) (x41_3 : Int), v41 = .int .i64 x41_3 ∧ Aside0 (peel_Graph.l1 kq x10_3 l1_1 (l1_1.length : Int) x35_2 (rd_L1 l1_1 x35_2) ((rd_L1 l1_1 x35_2).length : Int) x41_3 a1_0 x106001_2 = some (r1, r2, r3)) ∧ Aside0 (kq ≤ k2) ∧ Aside0 (Kd.R (Kd.int .i64) 3 w' w.heap.size (fun _ => True) v10 x10_3) ∧ Aside0 (Kd.S (Kd.slice 3 (Kd.int .i64)) 22 w' w.heap.size (fun k_ => some k_ ≠ (v10 : Value).ownBlock) u106001 x106001_2) ∧ Aside0 (w'.heap[gb101]? = some (.cells #[.int .i64 a0_0, .int .i64 a0_1, (.slice A0_2 l0_2.length c0_2)] 24 (0, 0))) ∧ Aside0 (w'.heap[gb102]? = some (.cells #[.int .i64 a1_0, (.slice (some ad106) l1_1.length c1_1)] 27 (0, 0))) ∧ Aside0 (w'.heap[gb103]? = some (.cells #[.int .i64 0, (.slice none 0 0)] 31 (0, 0))) ∧ Aside0 (w'.heap[gb105]? = some (.cells #[.int .i64 a1_0, u106001] 31 (0, 0))) ∧ Aside0 (Below w.heap.size w w'))
          case atStart => exact ⟨(([] : List Int)), (0), (by first | rfl | (simp; done) | (simp [*]; done)), H', ⟨Nat.le_refl _⟩, ⟨by first | exact Kd.R_nil _ _ _ _ _ | exact Kd.N_nil _ _ _ _ _ | exact Kd.V_nil _ _ _ _ _ | exact Kd.Q_nil _ _ _ _ _ | exact Kd.S_nil _ _ _ _ _⟩, ⟨by (with_reducible repeat (first | apply Kd.S_alloc | apply Kd.S_drewN | apply Kd.S_drew)); exact Kd.S_mono HO_106001.out (fun _ hk => (by simp [Value.ownBlock]))⟩, ⟨by (with_reducible repeat (first | refine kdn ?_ _ | refine kdr ?_ | refine kal ?_ _)); exact BK101.out⟩, ⟨by (with_reducible repeat (first | refine kdn ?_ _ | refine kdr ?_ | refine kal ?_ _)); exact BK102.out⟩, ⟨by (with_reducible repeat (first | refine kdn ?_ _ | refine kdr ?_ | refine kal ?_ _)); exact BK103.out⟩, ⟨by (with_reducible repeat (first | refine kdn ?_ _ | refine kdr ?_ | refine kal ?_ _)); exact BK105.out⟩, ⟨by repeat (first | (with_reducible first | exact HB.out | apply bal | apply pbn | apply bd1 | refine bst ?_ GE101.out | refine bst ?_ GE102.out | refine bst ?_ GE103.out | refine bst ?_ GE105.out) | exact HB.out)⟩⟩
          case round =>
           clear H'
           obtain ⟨x10_3, x41_3, rfl, HA, HK3, HO_10, HO_106001, BK101, BK102, BK103, BK105, HB⟩ := hrel
           cases gk with
           | zero => exact absurd HA.out (by simp [peel_Graph.l1])
           | succ k3 =>
            have H := HA.out
            clear HA
            simp only [peel_Graph.l1] at H
            by_cases c38 : x41_3 < ((rd_L1 l1_1 x35_2).length : Int)
            ·rw [if_pos c38] at H
             have c38b0 : decide (x41_3 < ((rd_L1 l1_1 x35_2).length : Int)) = true := det c38
             clear c38
             by_cases c39 : 0 ≤ x41_3
             ·rw [if_pos c39] at H
              have c39b0 : decide (0 ≤ x41_3) = true := det c39
              clear c39
              by_cases c40 : x41_3 < ((rd_L1 l1_1 x35_2).length : Int)
              ·rw [if_pos c40] at H
               have c40b0 : decide (x41_3 < ((rd_L1 l1_1 x35_2).length : Int)) = true := det c40
               clear c40
               by_cases c41 : (rd (rd_L1 l1_1 x35_2) x41_3) = 0
               ·rw [if_pos c41] at H
                have c41b0 : ((rd (rd_L1 l1_1 x35_2) x41_3) == 0) = true := beq_iff_eq.mpr c41
                have c41b1 : ((rd (rd_L1 l1_1 x35_2) x41_3) != 0) = false := bnm c41
                clear c41
                have H' := ak H
                clear H
                have p107 : 0 ≤ (x41_3 : Int) := odt (by first | (with_reducible assumption) | assumption)
                have q107 : x41_3 < ((rd_L1 l1_1 x35_2).length : Int) := odt (by first | (with_reducible assumption) | assumption)
                obtain ⟨ad107, e107, hx107_0⟩ := Kd.at_int HR106_0.out x41_3 p107 q107
                cases e107
                replace hx107_0 := (HB.out.cell (World.block_lt_of_cell? w _ hx107_0)).trans hx107_0
                replace p107 := eq_true p107
                replace q107 := eq_true q107
                go_wp2
                go_roundg k3
                case measure => have := HJ4.out; have := HK2.out; have := HK3.out; omega
                case rel => exact ⟨(x10_3), (wrap64 (x41_3 + 1)), (by first | rfl | (simp; done) | (simp [*]; done)), H', ⟨by have := HJ4.out; have := HK2.out; have := HK3.out; omega⟩, ⟨by (with_reducible repeat (first | apply Kd.R_alloc | apply Kd.R_drewN | apply Kd.R_drew)); exact HO_10.out⟩, ⟨by (with_reducible repeat (first | apply Kd.S_alloc | apply Kd.S_drewN | apply Kd.S_drew)); exact HO_106001.out⟩, ⟨by (with_reducible repeat (first | refine kdn ?_ _ | refine kdr ?_ | refine kal ?_ _)); exact BK101.out⟩, ⟨by (with_reducible repeat (first | refine kdn ?_ _ | refine kdr ?_ | refine kal ?_ _)); exact BK102.out⟩, ⟨by (with_reducible repeat (first | refine kdn ?_ _ | refine kdr ?_ | refine kal ?_ _)); exact BK103.out⟩, ⟨by (with_reducible repeat (first | refine kdn ?_ _ | refine kdr ?_ | refine kal ?_ _)); exact BK105.out⟩, ⟨by repeat (first | (with_reducible first | exact HB.out | apply bal | apply pbn | apply bd1 | refine bst ?_ GE101.out | refine bst ?_ GE102.out | refine bst ?_ GE103.out | refine bst ?_ GE105.out) | exact HB.out)⟩⟩
               ·rw [if_neg c41] at H
                have c41b0 : ((rd (rd_L1 l1_1 x35_2) x41_3) == 0) = false := bqm c41
                have c41b1 : ((rd (rd_L1 l1_1 x35_2) x41_3) != 0) = true := bne_iff_ne.mpr c41
                by_cases c42 : x10_3.length < 17592186044416
                ·rw [if_pos c42] at H
                 have LMc42 := ak c42
                 clear c42
                 obtain ⟨y108, hy108⟩ : ∃ y_ : List Int, y_ = (x10_3 ++ [x41_3]) := ⟨_, rfl⟩
                 replace H : (peel_Graph.l1 k3 y108 l1_1 (l1_1.length : Int) x35_2 (rd_L1 l1_1 x35_2) ((rd_L1 l1_1 x35_2).length : Int) (wrap64 (x41_3 + 1)) a1_0 x106001_2) = some (r1, r2, r3) := by first | (rw [hy108]; with_reducible exact H) | (have H2_ := (Option.bind_some _ _).symm.trans H; rw [hy108]; with_reducible exact H2_) | (have H2_ := (Option.bind_some _ _).symm.trans H; with_reducible exact H2_) | with_reducible exact H | (rw [hy108]; exact H) | exact H
                 have Ny108 := ak hy108
                 clear hy108
                 have H' := ak H
                 clear H
                 have p107 : 0 ≤ (x41_3 : Int) := odt (by first | (with_reducible assumption) | assumption)
                 have q107 : x41_3 < ((rd_L1 l1_1 x35_2).length : Int) := odt (by first | (with_reducible assumption) | assumption)
                 obtain ⟨ad107, e107, hx107_0⟩ := Kd.at_int HR106_0.out x41_3 p107 q107
                 cases e107
                 replace hx107_0 := (HB.out.cell (World.block_lt_of_cell? w _ hx107_0)).trans hx107_0
                 replace p107 := eq_true p107
                 replace q107 := eq_true q107
                 go_wp2_with (first | ((with_reducible refine gate_builtin (b := .append) (xs := #[.tmp 48, .tmp 50]) rfl ?_); at_builtin; refine Kd.R_append (Kd.int .i64) (w0 := w) w.heap.size rfl (.tmp 48) (.tmp 50) 22 3 (.int .i64 0) 8 rfl Try.underlying22 info3 rfl (by decide) (by omega) u10 x10_3 x41_3 [.int .i64 x41_3] (fun _ => True) (fun _ => False) rfl rfl ?aP (fun _ hk => hk.elim) ?aF ?aO ?aB ?aS ?aL ?_; (case aP => exact rfl); (case aB => exact HB.out); (case aF => exact (fun _ _ => trivial)); (case aO => exact HO_10.out); (case aS => exact (bsz HB.out)); (case aL => have := LMc42.out; omega); intro v109 w43 ho hb hg hat; rw [← Ny108.out] at ho; have n0_ := ak (Kd.S_after (ok := (fun _ => True)) (by (with_reducible repeat (first | apply Kd.S_alloc | apply Kd.S_drewN | apply Kd.S_drew)); exact Kd.S_mono HO_106001.out (fun _ hk => ⟨trivial, hk⟩)) hg hat); have n1_ := ak (blk_grown (g := gb101) (o := .cells #[.int .i64 a0_0, .int .i64 a0_1, .slice A0_2 l0_2.length c0_2] 24 (0, 0)) BK101.out hg (Kd.R_ne HO_10.out BK101.out (by decide))); have n2_ := ak (blk_grown (g := gb102) (o := .cells #[.int .i64 a1_0, .slice (some ad106) l1_1.length c1_1] 27 (0, 0)) BK102.out hg (Kd.R_ne HO_10.out BK102.out (by decide))); have n3_ := ak (blk_grown (g := gb103) (o := .cells #[.int .i64 0, .slice none 0 0] 31 (0, 0)) BK103.out hg (Kd.R_ne HO_10.out BK103.out (by decide))); have n4_ := ak (blk_grown (g := gb105) (o := .cells #[.int .i64 a1_0, u106001] 31 (0, 0)) BK105.out hg (Kd.R_ne HO_10.out BK105.out (by decide))); have n5_ := ak (hb); have n6_ := ak (ho); clear HO_106001 BK101 BK102 BK103 BK105 HB HO_10; have HO_106001 := n0_; have BK101 := n1_; have BK102 := n2_; have BK103 := n3_; have BK105 := n4_; have HB := n5_; have HO110 := n6_; clear n0_ n1_ n2_ n3_ n4_ n5_ n6_; clear ho hb hg hat))
                 go_roundg k3
                 case measure => have := HJ4.out; have := HK2.out; have := HK3.out; omega
                 case rel => exact ⟨(y108), (wrap64 (x41_3 + 1)), (by first | rfl | (simp; done) | (simp [*]; done)), H', ⟨by have := HJ4.out; have := HK2.out; have := HK3.out; omega⟩, ⟨by (with_reducible repeat (first | apply Kd.R_alloc | apply Kd.R_drewN | apply Kd.R_drew)); exact HO110.out⟩, ⟨by (with_reducible repeat (first | apply Kd.S_alloc | apply Kd.S_drewN | apply Kd.S_drew)); exact Kd.S_mono HO_106001.out (fun _ hk => hk.2)⟩, ⟨by (with_reducible repeat (first | refine kdn ?_ _ | refine kdr ?_ | refine kal ?_ _)); exact BK101.out⟩, ⟨by (with_reducible repeat (first | refine kdn ?_ _ | refine kdr ?_ | refine kal ?_ _)); exact BK102.out⟩, ⟨by (with_reducible repeat (first | refine kdn ?_ _ | refine kdr ?_ | refine kal ?_ _)); exact BK103.out⟩, ⟨by (with_reducible repeat (first | refine kdn ?_ _ | refine kdr ?_ | refine kal ?_ _)); exact BK105.out⟩, ⟨by repeat (first | (with_reducible first | exact HB.out | apply bal | apply pbn | apply bd1 | refine bst ?_ GE101.out | refine bst ?_ GE102.out | refine bst ?_ GE103.out | refine bst ?_ GE105.out) | exact HB.out)⟩⟩
                ·rw [if_neg c42] at H
                 exact absurd H (by simp)
              ·rw [if_neg c40] at H
               exact absurd H (by simp)
             ·rw [if_neg c39] at H
              exact absurd H (by simp)
            ·rw [if_neg c38] at H
             have c38b0 : decide (x41_3 < ((rd_L1 l1_1 x35_2).length : Int)) = false := dff c38
             clear c38
             by_cases c44 : x106001_2.length < 5864062014805
             ·rw [if_pos c44] at H
              have LMc44 := ak c44
              clear c44
              obtain ⟨y111, hy111⟩ : ∃ y_ : List (List Int), y_ = (x106001_2 ++ [x10_3]) := ⟨_, rfl⟩
              replace H : (peel_Graph.l0 k3 l1_1 (l1_1.length : Int) (wrap64 (x35_2 + 1)) a1_0 y111) = some (r1, r2, r3) := by first | (rw [hy111]; with_reducible exact H) | (have H2_ := (Option.bind_some _ _).symm.trans H; rw [hy111]; with_reducible exact H2_) | (have H2_ := (Option.bind_some _ _).symm.trans H; with_reducible exact H2_) | with_reducible exact H | (rw [hy111]; exact H) | exact H
              have Ny111 := ak hy111
              clear hy111
              have H' := ak H
              clear H
              have hnb45 := NB105_101.out
              have hnc45 := NB101_105.out
              have hnb46 := NB105_102.out
              have hnc46 := NB102_105.out
              have hnb47 := NB105_103.out
              have hnc47 := NB103_105.out
              have hcz48_0 : wr.cell? ⟨gb105, 0, none⟩ = some (.int .i64 a1_0) := (kce BK105.out 0).trans rfl
              have hcz48_1 : wr.cell? ⟨gb105, 1, none⟩ = some (u106001) := (kce BK105.out 1).trans rfl
              have hfz48_0 := kfz BK105.out 0
              have hfz48_1 := kfz BK105.out 1
              obtain ⟨Ao50, co50, eo50⟩ := Kd.R_slice HO_10.out
              subst eo50
              go_wp2_with (first | ((with_reducible refine gate_builtin (b := .append) (xs := #[.tmp 54, .tmp 56]) rfl ?_); at_builtin; refine Kd.S_append (Kd.slice 3 (Kd.int .i64)) (w0 := w) w.heap.size rfl (.tmp 54) (.tmp 56) 25 22 (.slice none 0 0) 24 rfl Try.underlying25 info22 rfl (by decide) (by omega) u106001 x106001_2 x10_3 [.slice Ao50 x10_3.length co50] (fun _ => True) (fun k_ => some k_ = (.slice Ao50 x10_3.length co50 : Value).ownBlock) rfl rfl ?aP (fun k_ hk_ => ((Kd.R_mono (ok' := fun k_ => ((fun _ => True)) k_ ∧ some k_ ≠ (u106001 : Value).ownBlock) (Kd.R_apart' (HO_10.out) (Kd.S_typed HO_106001.out) (by decide)) (fun k_ hk => ⟨trivial, hk.2⟩))).1 k_ hk_.symm) ?aF ?aO ?aB ?aS ?aL ?_; (case aP => exact Kd.M_row (Kd.R_mono (Kd.R_tight rfl (Kd.R_mono (ok' := fun k_ => ((fun _ => True)) k_ ∧ some k_ ≠ (u106001 : Value).ownBlock) (Kd.R_apart' (HO_10.out) (Kd.S_typed HO_106001.out) (by decide)) (fun k_ hk => ⟨trivial, hk.2⟩))) (fun _ h_ => h_))); (case aB => exact (by repeat (first | (with_reducible first | exact HB.out | apply bal | apply pbn | apply bd1 | refine bst ?_ GE101.out | refine bst ?_ GE102.out | refine bst ?_ GE103.out | refine bst ?_ GE105.out) | exact HB.out))); (case aF => exact (fun _ _ => trivial)); (case aO => exact (by (with_reducible repeat (first | apply Kd.S_alloc | apply Kd.S_drewN | apply Kd.S_drew)); exact Kd.S_mono HO_106001.out (fun k_ hk => ⟨trivial, fun e_ => hk e_⟩))); (case aS => exact (bsz (by repeat (first | (with_reducible first | exact HB.out | apply bal | apply pbn | apply bd1 | refine bst ?_ GE101.out | refine bst ?_ GE102.out | refine bst ?_ GE103.out | refine bst ?_ GE105.out) | exact HB.out)))); (case aL => have := LMc44.out; omega); intro v112 w49 ho hb hg hat; rw [← Ny111.out] at ho; have n0_ := ak (blk_grown (g := gb101) (o := .cells #[.int .i64 a0_0, .int .i64 a0_1, .slice A0_2 l0_2.length c0_2] 24 (0, 0)) (by (with_reducible repeat (first | refine kdn ?_ _ | refine kdr ?_ | refine kal ?_ _)); exact BK101.out) hg (Kd.S_ne HO_106001.out BK101.out (by decide))); have n1_ := ak (blk_grown (g := gb102) (o := .cells #[.int .i64 a1_0, .slice (some ad106) l1_1.length c1_1] 27 (0, 0)) (by (with_reducible repeat (first | refine kdn ?_ _ | refine kdr ?_ | refine kal ?_ _)); exact BK102.out) hg (Kd.S_ne HO_106001.out BK102.out (by decide))); have n2_ := ak (blk_grown (g := gb103) (o := .cells #[.int .i64 0, .slice none 0 0] 31 (0, 0)) (by (with_reducible repeat (first | refine kdn ?_ _ | refine kdr ?_ | refine kal ?_ _)); exact BK103.out) hg (Kd.S_ne HO_106001.out BK103.out (by decide))); have n3_ := ak (blk_grown (g := gb105) (o := .cells #[.int .i64 a1_0, u106001] 31 (0, 0)) (by (with_reducible repeat (first | refine kdn ?_ _ | refine kdr ?_ | refine kal ?_ _)); exact BK105.out) hg (Kd.S_ne HO_106001.out BK105.out (by decide))); have n4_ := ak (hb); have n5_ := ak (ho); clear BK101 BK102 BK103 BK105 HB HO_106001 HO_10; have BK101 := n0_; have BK102 := n1_; have BK103 := n2_; have BK105 := n3_; have HB := n4_; have HO113 := n5_; clear n0_ n1_ n2_ n3_ n4_ n5_; clear ho hb hg hat; obtain ⟨Ao51, co51, eo51⟩ := Kd.S_slice HO113.out; subst eo51; have hcz52_0 : w49.cell? ⟨gb105, 0, none⟩ = some (.int .i64 a1_0) := (kce BK105.out 0).trans rfl; have hcz52_1 : w49.cell? ⟨gb105, 1, none⟩ = some (u106001) := (kce BK105.out 1).trans rfl; have hfz52_0 := kfz BK105.out 0; have hfz52_1 := kfz BK105.out 1))
              go_roundg k3
              case measure => have := HJ4.out; have := HK2.out; have := HK3.out; omega
              case rel => exact ⟨(wrap64 (x35_2 + 1)), (y111), (.slice Ao51 y111.length co51), (by first | rfl | (simp; done) | (simp [*]; done)), H', ⟨by have := HJ4.out; have := HK2.out; have := HK3.out; omega⟩, ⟨by (with_reducible repeat (first | apply Kd.S_alloc | apply Kd.S_drewN | apply Kd.S_drew)); exact Kd.S_mono (Kd.S_far (p := ⟨gb105, 1, none⟩) (Kd.S_types HO113.out BK105.out (by decide)) (fun _ hk => hk.2) (.slice Ao51 y111.length co51)) (fun _ hk => trivial)⟩, ⟨by (with_reducible repeat (first | refine kdn ?_ _ | refine kdr ?_ | refine kal ?_ _)); refine blk_far ?_ NB101_105.out _; (with_reducible repeat (first | refine kdn ?_ _ | refine kdr ?_ | refine kal ?_ _)); exact BK101.out⟩, ⟨by (with_reducible repeat (first | refine kdn ?_ _ | refine kdr ?_ | refine kal ?_ _)); refine blk_far ?_ NB102_105.out _; (with_reducible repeat (first | refine kdn ?_ _ | refine kdr ?_ | refine kal ?_ _)); exact BK102.out⟩, ⟨by (with_reducible repeat (first | refine kdn ?_ _ | refine kdr ?_ | refine kal ?_ _)); refine blk_far ?_ NB103_105.out _; (with_reducible repeat (first | refine kdn ?_ _ | refine kdr ?_ | refine kal ?_ _)); exact BK103.out⟩, ⟨by (with_reducible repeat (first | refine kdn ?_ _ | refine kdr ?_ | refine kal ?_ _)); refine blk_put (cs := #[.int .i64 a1_0, u106001]) ?_ 1 _ rfl; (with_reducible repeat (first | refine kdn ?_ _ | refine kdr ?_ | refine kal ?_ _)); exact BK105.out⟩, ⟨by repeat (first | (with_reducible first | exact HB.out | apply bal | apply pbn | apply bd1 | refine bst ?_ GE101.out | refine bst ?_ GE102.out | refine bst ?_ GE103.out | refine bst ?_ GE105.out) | exact HB.out)⟩⟩
             ·rw [if_neg c44] at H
              exact absurd H (by simp)
         ·rw [if_neg c37] at H
          exact absurd H (by simp)
        ·rw [if_neg c36] at H
         exact absurd H (by simp)
       ·rw [if_neg c35] at H
        have c35b0 : decide (x35_2 < (l1_1.length : Int)) = false := dff c35
        clear c35
        simp only [Option.some.injEq, Prod.mk.injEq] at H
        obtain ⟨rfl, rfl, rfl⟩ := H
        have hnb53 := NB105_101.out
        have hnc53 := NB101_105.out
        have hnb54 := NB105_102.out
        have hnc54 := NB102_105.out
        have hnb55 := NB105_103.out
        have hnc55 := NB103_105.out
        have hcz56_0 : wr.cell? ⟨gb105, 0, none⟩ = some (.int .i64 a1_0) := (kce BK105.out 0).trans rfl
        have hcz56_1 : wr.cell? ⟨gb105, 1, none⟩ = some (u106001) := (kce BK105.out 1).trans rfl
        have hfz56_0 := kfz BK105.out 0
        have hfz56_1 := kfz BK105.out 1
        have hnb57 := NB103_101.out
        have hnc57 := NB101_103.out
        have hnb58 := NB103_102.out
        have hnc58 := NB102_103.out
        have hcz59_0 : wr.cell? ⟨gb103, 0, none⟩ = some (.int .i64 0) := (kce BK103.out 0).trans rfl
        have hcz59_1 : wr.cell? ⟨gb103, 1, none⟩ = some (.slice none 0 0) := (kce BK103.out 1).trans rfl
        have hfz59_0 := kfz BK103.out 0
        have hfz59_1 := kfz BK103.out 1
        obtain ⟨Ao60, co60, eo60⟩ := Kd.S_slice HO_106001.out
        subst eo60
        go_wp2
        refine bodyPost_ret (results_ct rfl _ _ gb103 31 #[.int .i64 a1_0, .slice Ao60 x106001_2.length co60] (0, 0) _ rfl (by (with_reducible repeat (first | refine kdn ?_ _ | refine kdr ?_ | refine kal ?_ _)); refine blk_put (cs := #[.int .i64 a1_0, .slice none 0 0]) ?_ 1 _ rfl; (with_reducible repeat (first | refine kdn ?_ _ | refine kdr ?_ | refine kal ?_ _)); refine blk_put (cs := #[.int .i64 0, .slice none 0 0]) ?_ 0 _ rfl; (with_reducible repeat (first | refine kdn ?_ _ | refine kdr ?_ | refine kal ?_ _)); exact BK103.out) Try.underlying31 rfl (by kernel_rfl)) rfl ?_
        exact ⟨_, by first | rfl | (simp <;> rfl) | (simp [*] <;> rfl), by (with_reducible repeat (first | apply Kd.S_alloc | apply Kd.S_drewN | apply Kd.S_drew)); exact Kd.S_mono (Kd.S_far (p := ⟨gb103, 1, none⟩) (Kd.S_far (p := ⟨gb103, 0, none⟩) (Kd.S_types HO_106001.out BK103.out (by decide)) (fun _ hk => hk.2) (.int .i64 a1_0)) (fun _ hk => hk.2) (.slice Ao60 x106001_2.length co60)) (fun _ hk => trivial), by repeat (first | (with_reducible first | exact HB.out | apply bal | apply pbn | apply bd1 | refine bst ?_ GE101.out | refine bst ?_ GE102.out | refine bst ?_ GE103.out | refine bst ?_ GE105.out) | exact HB.out)⟩
 ·rw [if_neg c4] at H
  have c4b0 : (t104 == 0) = false := bqm c4
  have c4b1 : (t104 != 0) = true := bne_iff_ne.mpr c4
  simp only [Option.some.injEq, Prod.mk.injEq] at H
  obtain ⟨rfl, rfl, rfl⟩ := H
  go_enter Try.func14, Try.ntmps14
  go_wp2_with (first | ((with_reducible refine gate_dst (N := 2) rfl ?_); refine box_event ?hg (N := 2) ?hd (cs := #[.int .i64 a0_0, .int .i64 a0_1, .slice A0_2 l0_2.length c0_2]) (t := 24) ?hr ?_; (case hd => rfl); (case hg => rfl); (case hr => first | (go_simp; done) | (go_simp; rfl)); intro gb101 hg w61 hbox hb; have n0_ := ak (bsp (by repeat (first | (with_reducible first | exact HB.out | apply bal | apply pbn | apply bd1) | exact HB.out)) hb); have n1_ := ak (hbox); have n2_ := ak ((by rw [hg]; exact (bsz (by repeat (first | (with_reducible first | exact HB.out | apply bal | apply pbn | apply bd1) | exact HB.out))) : w.heap.size ≤ gb101)); have n3_ := ak ((by rw [hg]; exact (bsz (by repeat (first | (with_reducible first | exact HB.out | apply bal | apply pbn | apply bd1) | exact HB.out))) : w.heap.size ≤ gb101)); clear HB; have HB := n0_; have BK101 := n1_; have GW101 := n2_; have GE101 := n3_; clear n0_ n1_ n2_ n3_; clear hb hbox hg) | ((with_reducible refine gate_dst (N := 3) rfl ?_); refine box_event ?hg (N := 3) ?hd (cs := #[.int .i64 a1_0, .slice A1_1 l1_1.length c1_1]) (t := 27) ?hr ?_; (case hd => rfl); (case hg => rfl); (case hr => first | (go_simp; done) | (go_simp; rfl)); intro gb102 hg w62 hbox hb; have n0_ := ak (kbe (g := gb101) (o := .cells #[.int .i64 a0_0, .int .i64 a0_1, .slice A0_2 l0_2.length c0_2] 24 (0, 0)) (by (with_reducible repeat (first | refine kdn ?_ _ | refine kdr ?_ | refine kal ?_ _)); exact BK101.out) hb); have n1_ := ak (bsp (by repeat (first | (with_reducible first | exact HB.out | apply bal | apply pbn | apply bd1 | refine bst ?_ GE101.out) | exact HB.out)) hb); have n2_ := ak (hbox); have n3_ := ak ((by rw [hg]; exact (bsz (by repeat (first | (with_reducible first | exact HB.out | apply bal | apply pbn | apply bd1 | refine bst ?_ GE101.out) | exact HB.out))) : w.heap.size ≤ gb102)); have n4_ := ak ((by rw [hg]; exact (bsz (by repeat (first | (with_reducible first | exact HB.out | apply bal | apply pbn | apply bd1 | refine bst ?_ GE101.out) | exact HB.out))) : w.heap.size ≤ gb102)); have n5_ := ak ((by rw [hg]; exact Nat.ne_of_lt (klt (g := gb101) (o := .cells #[.int .i64 a0_0, .int .i64 a0_1, .slice A0_2 l0_2.length c0_2] 24 (0, 0)) (by (with_reducible repeat (first | refine kdn ?_ _ | refine kdr ?_ | refine kal ?_ _)); exact BK101.out)) : gb101 ≠ gb102)); have n6_ := ak ((by rw [hg]; exact Nat.ne_of_gt (klt (g := gb101) (o := .cells #[.int .i64 a0_0, .int .i64 a0_1, .slice A0_2 l0_2.length c0_2] 24 (0, 0)) (by (with_reducible repeat (first | refine kdn ?_ _ | refine kdr ?_ | refine kal ?_ _)); exact BK101.out)) : gb102 ≠ gb101)); clear BK101 HB; have BK101 := n0_; have HB := n1_; have BK102 := n2_; have GW102 := n3_; have GE102 := n4_; have NB101_102 := n5_; have NB102_101 := n6_; clear n0_ n1_ n2_ n3_ n4_ n5_ n6_; clear hb hbox hg) | ((with_reducible refine gate_dst (N := 4) rfl ?_); refine box_event ?hg (N := 4) ?hd (cs := #[.int .i64 0, .slice none 0 0]) (t := 31) ?hr ?_; (case hd => rfl); (case hg => rfl); (case hr => first | (go_simp; done) | (go_simp; rfl)); intro gb103 hg w63 hbox hb; have n0_ := ak (kbe (g := gb101) (o := .cells #[.int .i64 a0_0, .int .i64 a0_1, .slice A0_2 l0_2.length c0_2] 24 (0, 0)) (by (with_reducible repeat (first | refine kdn ?_ _ | refine kdr ?_ | refine kal ?_ _)); exact BK101.out) hb); have n1_ := ak (kbe (g := gb102) (o := .cells #[.int .i64 a1_0, .slice A1_1 l1_1.length c1_1] 27 (0, 0)) (by (with_reducible repeat (first | refine kdn ?_ _ | refine kdr ?_ | refine kal ?_ _)); exact BK102.out) hb); have n2_ := ak (bsp (by repeat (first | (with_reducible first | exact HB.out | apply bal | apply pbn | apply bd1 | refine bst ?_ GE101.out | refine bst ?_ GE102.out) | exact HB.out)) hb); have n3_ := ak (hbox); have n4_ := ak ((by rw [hg]; exact (bsz (by repeat (first | (with_reducible first | exact HB.out | apply bal | apply pbn | apply bd1 | refine bst ?_ GE101.out | refine bst ?_ GE102.out) | exact HB.out))) : w.heap.size ≤ gb103)); have n5_ := ak ((by rw [hg]; exact (bsz (by repeat (first | (with_reducible first | exact HB.out | apply bal | apply pbn | apply bd1 | refine bst ?_ GE101.out | refine bst ?_ GE102.out) | exact HB.out))) : w.heap.size ≤ gb103)); have n6_ := ak ((by rw [hg]; exact Nat.ne_of_lt (klt (g := gb101) (o := .cells #[.int .i64 a0_0, .int .i64 a0_1, .slice A0_2 l0_2.length c0_2] 24 (0, 0)) (by (with_reducible repeat (first | refine kdn ?_ _ | refine kdr ?_ | refine kal ?_ _)); exact BK101.out)) : gb101 ≠ gb103)); have n7_ := ak ((by rw [hg]; exact Nat.ne_of_gt (klt (g := gb101) (o := .cells #[.int .i64 a0_0, .int .i64 a0_1, .slice A0_2 l0_2.length c0_2] 24 (0, 0)) (by (with_reducible repeat (first | refine kdn ?_ _ | refine kdr ?_ | refine kal ?_ _)); exact BK101.out)) : gb103 ≠ gb101)); have n8_ := ak ((by rw [hg]; exact Nat.ne_of_lt (klt (g := gb102) (o := .cells #[.int .i64 a1_0, .slice A1_1 l1_1.length c1_1] 27 (0, 0)) (by (with_reducible repeat (first | refine kdn ?_ _ | refine kdr ?_ | refine kal ?_ _)); exact BK102.out)) : gb102 ≠ gb103)); have n9_ := ak ((by rw [hg]; exact Nat.ne_of_gt (klt (g := gb102) (o := .cells #[.int .i64 a1_0, .slice A1_1 l1_1.length c1_1] 27 (0, 0)) (by (with_reducible repeat (first | refine kdn ?_ _ | refine kdr ?_ | refine kal ?_ _)); exact BK102.out)) : gb103 ≠ gb102)); clear BK101 BK102 HB; have BK101 := n0_; have BK102 := n1_; have HB := n2_; have BK103 := n3_; have GW103 := n4_; have GE103 := n5_; have NB101_103 := n6_; have NB103_101 := n7_; have NB102_103 := n8_; have NB103_102 := n9_; clear n0_ n1_ n2_ n3_ n4_ n5_ n6_ n7_ n8_ n9_; clear hb hbox hg; have hnb64 := NB101_102.out; have hnc64 := NB102_101.out; have hnb65 := NB101_103.out; have hnc65 := NB103_101.out; have hcz66_0 : w63.cell? ⟨gb101, 0, none⟩ = some (.int .i64 a0_0) := (kce BK101.out 0).trans rfl; have hcz66_1 : w63.cell? ⟨gb101, 1, none⟩ = some (.int .i64 a0_1) := (kce BK101.out 1).trans rfl; have hcz66_2 : w63.cell? ⟨gb101, 2, none⟩ = some (.slice A0_2 l0_2.length c0_2) := (kce BK101.out 2).trans rfl; have hfz66_0 := kfz BK101.out 0; have hfz66_1 := kfz BK101.out 1; have hfz66_2 := kfz BK101.out 2; have hnb67 := NB102_103.out; have hnc67 := NB103_102.out; have hcz68_0 : w63.cell? ⟨gb102, 0, none⟩ = some (.int .i64 a1_0) := (kce BK102.out 0).trans rfl; have hcz68_1 : w63.cell? ⟨gb102, 1, none⟩ = some (.slice A1_1 l1_1.length c1_1) := (kce BK102.out 1).trans rfl; have hfz68_0 := kfz BK102.out 0; have hfz68_1 := kfz BK102.out 1) | ((with_reducible refine gate_callee (f := 42) rfl ?_); refine goesL_ (some 15) rfl rfl Try.func42 (by kernel_rfl) rfl #[.agg #[.int .i64 a0_0, .int .i64 a0_1, .slice A0_2 l0_2.length c0_2], .agg #[.int .i64 a1_0, .slice A1_1 l1_1.length c1_1]] rfl (by (try simp only [List.map_toArray, List.map_cons, List.map_nil]); first | done | rfl | (simp only [List.length_drop, List.length_take]; rfl)) ?_; (with_reducible refine (matrix_Check.calls a0_0 a0_1 _ _ l0_2 a1_0 _ _ l1_1 t104 _ ?side1 ?side2 ?side3 ?side4 A3.out).mono ?_); (case side1 => repeat (first | exact (Kd.C_below HR0_2.out HB.out) | (with_reducible refine Kd.C_alloc ?_ _) | (with_reducible refine Kd.C_drewN ?_ _) | (with_reducible refine Kd.C_drew ?_))); (case side2 => exact HC0_2.out); (case side3 => repeat (first | exact (Kd.C_below HR1_1.out HB.out) | (with_reducible refine Kd.C_alloc ?_ _) | (with_reducible refine Kd.C_drewN ?_ _) | (with_reducible refine Kd.C_drew ?_))); (case side4 => exact HC1_1.out); rintro e w69 ⟨rfl, hb⟩; refine ⟨_, rfl, ?_⟩; have n0_ := ak (kbe (g := gb101) (o := .cells #[.int .i64 a0_0, .int .i64 a0_1, .slice A0_2 l0_2.length c0_2] 24 (0, 0)) (by (with_reducible repeat (first | refine kdn ?_ _ | refine kdr ?_ | refine kal ?_ _)); exact BK101.out) hb); have n1_ := ak (kbe (g := gb102) (o := .cells #[.int .i64 a1_0, .slice A1_1 l1_1.length c1_1] 27 (0, 0)) (by (with_reducible repeat (first | refine kdn ?_ _ | refine kdr ?_ | refine kal ?_ _)); exact BK102.out) hb); have n2_ := ak (kbe (g := gb103) (o := .cells #[.int .i64 0, .slice none 0 0] 31 (0, 0)) (by (with_reducible repeat (first | refine kdn ?_ _ | refine kdr ?_ | refine kal ?_ _)); exact BK103.out) hb); have n3_ := ak (bsp (by repeat (first | (with_reducible first | exact HB.out | apply bal | apply pbn | apply bd1 | refine bst ?_ GE101.out | refine bst ?_ GE102.out | refine bst ?_ GE103.out) | exact HB.out)) hb); clear BK101 BK102 BK103 HB; have BK101 := n0_; have BK102 := n1_; have BK103 := n2_; have HB := n3_; clear n0_ n1_ n2_ n3_; (try clear hb); (try clear hb2); (try clear hk); (try clear hi); have hcz70_0 : w69.cell? ⟨gb103, 0, none⟩ = some (.int .i64 0) := (kce BK103.out 0).trans rfl; have hcz70_1 : w69.cell? ⟨gb103, 1, none⟩ = some (.slice none 0 0) := (kce BK103.out 1).trans rfl; have hfz70_0 := kfz BK103.out 0; have hfz70_1 := kfz BK103.out 1))
  refine bodyPost_ret (results_ct rfl _ _ gb103 31 #[.int .i64 0, .slice none 0 0] (0, 0) _ rfl (by (with_reducible repeat (first | refine kdn ?_ _ | refine kdr ?_ | refine kal ?_ _)); refine blk_put (cs := #[.int .i64 0, .slice none 0 0]) ?_ 1 _ rfl; (with_reducible repeat (first | refine kdn ?_ _ | refine kdr ?_ | refine kal ?_ _)); refine blk_put (cs := #[.int .i64 0, .slice none 0 0]) ?_ 0 _ rfl; (with_reducible repeat (first | refine kdn ?_ _ | refine kdr ?_ | refine kal ?_ _)); exact BK103.out) Try.underlying31 rfl (by kernel_rfl)) rfl ?_
  exact ⟨_, by first | rfl | (simp <;> rfl) | (simp [*] <;> rfl), by first | exact Kd.S_nil _ _ _ _ _ | exact Kd.N_nil _ _ _ _ _ | exact Kd.V_nil _ _ _ _ _ | exact Kd.Q_nil _ _ _ _ _ | exact Kd.R_nil _ _ _ _ _, by repeat (first | (with_reducible first | exact HB.out | apply bal | apply pbn | apply bd1 | refine bst ?_ GE101.out | refine bst ?_ GE102.out | refine bst ?_ GE103.out) | exact HB.out)⟩
end Go.Proofs.Ytkifipakikbhcaa.Pm
namespace Go.Proofs.Ytkifipakikbhcaa.La
open Ytkifipakikbhcaa.Ref Ytkifipakikbhcaa.Pg Ytkifipakikbhcaa.Pk Ytkifipakikbhcaa.Pm Ytkifipakikbhcaa.Hand
open Go.RowKit YtkifipakikbhcaaW.PrintWords YtkifipakikbhcaaW.PrintLast YtkifipakikbhcaaW.PrintMore
theorem info3 : (Try.prog.info? 3).map (fun i => (i.zero, i.size, i.bytes)) = some (some (.int .i64 0), 1, 8) := by kernel_rfl
def rd_L1 (xs : List (List Int)) (i : Int) : (List Int) := xs.getD i.toNat ([] : List Int)
end Go.Proofs.Ytkifipakikbhcaa.La
namespace Go.Proofs.Ytkifipakikbhcaa.Hand
open Ytkifipakikbhcaa.Ref Ytkifipakikbhcaa.Pg
open Ytkifipakikbhcaa.Gf (IsS109 field_GF_Is.f field_GF_Is.calls)
open Go.RowKit YtkifipakikbhcaaW.PrintWords YtkifipakikbhcaaW.PrintLast YtkifipakikbhcaaW.PrintMore
attribute [local go_sem ↓] Go.wp_at_zero Go.wp_at_succ
theorem eg62 : ∀ args w, (callFunc 62 args).run Try.prog w = .ok (.enter 62 args) w := enters_of Try.func62 (by kernel_rfl) rfl
theorem eg66 : ∀ args w, (callFunc 66 args).run Try.prog w = .ok (.enter 66 args) w := enters_of Try.func66 (by kernel_rfl) rfl
theorem eg70 : ∀ args w, (callFunc 70 args).run Try.prog w = .ok (.enter 70 args) w := enters_of Try.func70 (by kernel_rfl) rfl
def isB (q x : Int) : Bool := decide (0 ≤ x) && decide (x < q)
theorem is_f (P M : Int) (md : List Int) (q : Int) (ex lg : List Int) (x : Int) : field_GF_Is.f P M md q ex lg x = some (isB q x, P, M, q) := by
 unfold Gf.field_GF_Is.f isB
 by_cases h : x ≥ 0
 ·rw [if_pos h]; simp [show 0 ≤ x from h]
 ·rw [if_neg h]; simp [show ¬ 0 ≤ x from h]
theorem closure62 (x : Int) (g b13 : Nat) (P M : Int) (md : List Int) (q : Int) (ex lg : List Int) (w0 W : World) (hne : b13 ≠ g) (hI : IsS109 w0 W g P M md q ex lg) (hB : Below w0.heap.size w0 W) (hc : W.cell? ⟨b13, 0, none⟩ = some (.pointer (some ⟨g, 0, none⟩))) :
  Calls Try.prog 62 #[.int .i64 x, .pointer (some ⟨b13, 0, none⟩)] W fun e W' => e = .returned (.bool (!isB q x)) ∧ IsS109 w0 W' g P M md q ex lg ∧ Below w0.heap.size w0 W' ∧ W'.cell? ⟨b13, 0, none⟩ = some (.pointer (some ⟨g, 0, none⟩)) := by
 have HI := ak hI
 have HB := ak hB
 have HNE := ak hne
 have HIS := ak (is_f P M md q ex lg x)
 obtain ⟨b, hb⟩ : ∃ b, isB q x = b := ⟨_, rfl⟩
 rw [hb] at HIS ⊢
 clear hI hB hne hb
 go_enter Try.func62, Try.ntmps62
 go_wp2_with (first | (go_at_call 63; (with_reducible refine (field_GF_Is.calls g P M md q ex lg x _ _ _ _ w0 W HI.out HB.out HIS.out).mono ?_); rintro e w2 ⟨rfl, hI, hB, hk⟩; have HI2 := ak hI; have HB2 := ak hB; have HC2 := ak (keep_cell hk hc (fun h => HNE.out h)); clear hI hB hk))
 go_ret
 exact ⟨rfl, HI2.out, HB2.out, HC2.out⟩
theorem closure70 (x : Int) (b15 : Nat) (A : Option Addr) (c : Nat) (inn : List Bool) (W : World) (hc : W.cell? ⟨b15, 0, none⟩ = some (.slice A inn.length c)) (hr : Kd.C Kd.bool W A inn.length inn) (h0 : 0 ≤ x) (h1 : x < inn.length) :
  Calls Try.prog 70 #[.int .i64 x, .pointer (some ⟨b15, 0, none⟩)] W fun e W' => e = .returned (.bool (inAt inn x)) ∧ W = W' := by
 have r0 := eq_true h0
 have r1 := eq_true h1
 obtain ⟨ad, e, hx⟩ := Kd.at_bool hr x h0 h1
 subst e
 clear h0 h1
 go_enter Try.func70, Try.ntmps70
 go_wp2
 go_ret
 exact ⟨rfl, rfl⟩
theorem closure66 (x i : Int) (b18 b15 : Nat) (A : Option Addr) (c : Nat) (inn : List Bool) (W : World) (hi : W.cell? ⟨b18, 0, none⟩ = some (.int .i64 i)) (hc : W.cell? ⟨b15, 0, none⟩ = some (.slice A inn.length c)) (hr : Kd.C Kd.bool W A inn.length inn) (h0 : 0 ≤ x) (h1 : x < inn.length) :
  Calls Try.prog 66 #[.int .i64 x, .pointer (some ⟨b18, 0, none⟩), .pointer (some ⟨b15, 0, none⟩)] W fun e W' => e = .returned (.bool (!decide (x = i) && inAt inn x)) ∧ W = W' := by
 have r0 := eq_true h0
 have r1 := eq_true h1
 obtain ⟨ad, e, hx⟩ := Kd.at_bool hr x h0 h1
 subst e
 clear h0 h1
 by_cases h : x = i
 ·have t1 : (x != i) = false := by simp [h]
  have t2 : decide (x = i) = true := det h
  rw [t2]
  clear h t2
  go_enter Try.func66, Try.ntmps66
  go_wp2
  go_ret
  exact ⟨rfl, rfl⟩
 ·have t1 : (x != i) = true := by simp [h]
  have t2 : decide (x = i) = false := dff h
  rw [t2]
  clear h t2
  go_enter Try.func66, Try.ntmps66
  go_wp2
  go_ret
  exact ⟨rfl, rfl⟩
end Go.Proofs.Ytkifipakikbhcaa.Hand
namespace Go.Proofs.Ytkifipakikbhcaa.Hand
open Ytkifipakikbhcaa.Ref
open Go.RowKit YtkifipakikbhcaaW.PrintWords YtkifipakikbhcaaW.PrintLast YtkifipakikbhcaaW.PrintMore
attribute [local go_sem ↓] Go.wp_at_zero Go.wp_at_succ
theorem Clone_calls (A : Option Addr) (c : Nat) (l : List Int) (w : World) (hr : Kd.C (Kd.int .i64) w A l.length l) (hc : l.length ≤ c) (hl : l.length ≤ 1000000) :
  Calls Try.prog 64 #[.slice A l.length c] w fun e w' => ∃ v0_ : Value, e = .returned v0_ ∧ Kd.R (Kd.int .i64) 3 w' w.heap.size (fun _ => True) v0_ l ∧ Below w.heap.size w w' := by
 have HR := ak hr
 have HL := ak hl
 have hnil := fun (W : World) (a : Option Addr) (n c : Nat) => Lib.run_eql_slice_nil (P := Try.prog) W 22 3 a n c 0 0 Try.underlying22
 clear hc hl
 cases A with
 | none =>
  have hl0 : l = [] := by
   cases l with
   | nil => rfl
   | cons x l =>
    obtain ⟨ad, e, -⟩ := Kd.at_int hr 0 (by omega) (by simp)
    exact absurd e (by simp)
  subst hl0
  clear hr
  go_enter Try.func64, Try.ntmps64
  go_wp2
  go_ret
  exact ⟨_, rfl, Kd.R_nil _ _ _ _ _, Below.refl _ _⟩
 | some ad =>
  clear hr
  go_enter Try.func64, Try.ntmps64
  go_wp2_with (first | ((with_reducible refine gate_dst (N := 5) rfl ?_); refine Kd.R_lit (Kd.int .i64) _ 3 ?hg (N := 5) ?hd (xs := ([] : List Int)) (inner := []) (ok := fun _ => True) (okp := fun _ => True) ?hr ?hp (fun _ hk => hk) trivial (Below.refl _ _) (Nat.le_refl _) (by simp) ?_; (case hd => rfl); (case hg => rfl); (case hr => first | (go_simp; done) | (go_simp; rfl)); (case hp => exact (Reps.none _ _)); intro v5 w1 ho hb hg_ hnew_; have HO := ak ho; have HB := ak hb; clear ho hb hg_ hnew_) | ((with_reducible refine gate_builtin (b := .append) (xs := #[.tmp 5, .tmp 6]) rfl ?_); at_builtin; refine Kd.R_append_rows (Kd.int .i64) (w0 := w) w.heap.size rfl (.tmp 5) (.tmp 6) 22 3 (.int .i64 0) 8 rfl Try.underlying22 Go.Proofs.Ytkifipakikbhcaa.Ref.info3 rfl (by decide) (by omega) v5 [] l _ _ _ (fun _ => True) (fun _ => False) rfl rfl ?aO ?aR (fun _ _ h => h) (fun _ h => h.elim) ?aF ?aB ?aS ?aL ?_; (case aR => exact Kd.C_below HR.out HB.out); (case aB => exact HB.out); (case aF => exact (fun _ _ => trivial)); (case aO => exact HO.out); (case aS => exact bsz HB.out); (case aL => have := HL.out; simp only [List.length_nil]; omega); intro v7 w2 ho hb hg hat; rw [List.nil_append] at ho; have HO2 := ak ho; have HB2 := ak hb; clear ho hb hg hat))
  go_ret
  exact ⟨_, rfl, HO2.out, HB2.out⟩
end Go.Proofs.Ytkifipakikbhcaa.Hand
namespace Go.Proofs.Ytkifipakikbhcaa.Pc
open Ytkifipakikbhcaa.Ref
open Go.RowKit YtkifipakikbhcaaW.PrintWords YtkifipakikbhcaaW.PrintLast YtkifipakikbhcaaW.PrintMore
def slices_Index_int_int.l0 : Nat → List Int → Int → Int → Int → Option (Int)
 | 0, _, _, _, _ => none
 | k + 1, x0, x1, x7, x8 => if x8 < x7 then (if 0 ≤ x8 then (if x8 < (x0.length : Int) then (if x1 = (rd x0 x8) then (some x8) else (slices_Index_int_int.l0 k x0 x1 x7 (wrap64 (x8 + 1)))) else (none)) else (none)) else (some (-1))
def slices_Index_int_int.f (k : Nat) (l0 : List Int) (a1 : Int) : Option (Int) := slices_Index_int_int.l0 k l0 a1 (l0.length : Int) 0
theorem slices_Index_int_int.calls (k : Nat) (A0 : Option Addr) (c0 : Nat) (l0 : List Int) (a1 : Int) (r : Int) (w : World) (hr0 : Kd.C (Kd.int .i64) w A0 l0.length l0) (hc0 : l0.length ≤ c0) (h : slices_Index_int_int.f k l0 a1 = some r) :
  Calls Try.prog 89 #[.slice A0 l0.length c0, .int .i64 a1] w fun e w' => e = .returned (.int .i64 r) ∧ Drawn0 w w' := by
 have HR0 := ak hr0
 have HC0 := ak hc0
 clear hr0 hc0
 have H : (slices_Index_int_int.l0 k l0 a1 (l0.length : Int) 0) = some r := h
 clear h
 have H' := ak H
 clear H
 go_enter Try.func89, Try.ntmps89
 go_wp2
 go_loopg [8] k (fun kq v8 w' => ∃ (x8_1 : Int), v8 = .int .i64 x8_1 ∧ Aside0 (slices_Index_int_int.l0 kq l0 a1 (l0.length : Int) x8_1 = some r) ∧ Aside0 (kq ≤ k) ∧ Drawn0 w w')
 case atStart => exact ⟨(0), (by first | rfl | (simp; done) | (simp [*]; done)), H', ⟨Nat.le_refl _⟩, by repeat (first | exact Drawn0.refl _ | apply Drawn0.step)⟩
 case round =>
  clear H'
  obtain ⟨x8_1, rfl, HA, HK1, ⟨m1, rfl⟩⟩ := hrel
  cases gk with
  | zero => exact absurd HA.out (by simp [slices_Index_int_int.l0])
  | succ k1 =>
   have H := HA.out
   clear HA
   simp only [slices_Index_int_int.l0] at H
   by_cases c3 : x8_1 < (l0.length : Int)
   ·rw [if_pos c3] at H
    have c3b0 : decide (x8_1 < (l0.length : Int)) = true := det c3
    clear c3
    by_cases c4 : 0 ≤ x8_1
    ·rw [if_pos c4] at H
     have c4b0 : decide (0 ≤ x8_1) = true := det c4
     clear c4
     by_cases c5 : x8_1 < (l0.length : Int)
     ·rw [if_pos c5] at H
      have c5b0 : decide (x8_1 < (l0.length : Int)) = true := det c5
      clear c5
      by_cases c6 : a1 = (rd l0 x8_1)
      ·rw [if_pos c6] at H
       have c6b0 : (a1 == (rd l0 x8_1)) = true := beq_iff_eq.mpr c6
       have c6b1 : (a1 != (rd l0 x8_1)) = false := bnm c6
       clear c6
       obtain rfl := osi H
       have p101 : 0 ≤ (x8_1 : Int) := odt (by first | (with_reducible assumption) | assumption)
       have q101 : x8_1 < (l0.length : Int) := odt (by first | (with_reducible assumption) | assumption)
       obtain ⟨ad101, e101, hx101_0⟩ := Kd.at_int HR0.out x8_1 p101 q101
       cases e101
       replace p101 := eq_true p101
       replace q101 := eq_true q101
       go_wp2
       go_ret
       exact ⟨by first | rfl | (simp; done) | (simp [*]; done), by repeat (first | exact Drawn0.refl _ | apply Drawn0.step)⟩
      ·rw [if_neg c6] at H
       have c6b0 : (a1 == (rd l0 x8_1)) = false := bqm c6
       have c6b1 : (a1 != (rd l0 x8_1)) = true := bne_iff_ne.mpr c6
       have H' := ak H
       clear H
       have p101 : 0 ≤ (x8_1 : Int) := odt (by first | (with_reducible assumption) | assumption)
       have q101 : x8_1 < (l0.length : Int) := odt (by first | (with_reducible assumption) | assumption)
       obtain ⟨ad101, e101, hx101_0⟩ := Kd.at_int HR0.out x8_1 p101 q101
       cases e101
       replace p101 := eq_true p101
       replace q101 := eq_true q101
       go_wp2
       go_roundg k1
       case measure => have := HK1.out; omega
       case rel => exact ⟨(wrap64 (x8_1 + 1)), (by first | rfl | (simp; done) | (simp [*]; done)), H', ⟨by have := HK1.out; omega⟩, by repeat (first | exact Drawn0.refl _ | apply Drawn0.step)⟩
     ·rw [if_neg c5] at H
      exact absurd H (by simp)
    ·rw [if_neg c4] at H
     exact absurd H (by simp)
   ·rw [if_neg c3] at H
    have c3b0 : decide (x8_1 < (l0.length : Int)) = false := dff c3
    clear c3
    obtain rfl := osi H
    go_wp2
    go_ret
    exact ⟨by first | rfl | (simp; done) | (simp [*]; done), by repeat (first | exact Drawn0.refl _ | apply Drawn0.step)⟩
def slices_Contains_int_int.f (k : Nat) (l0 : List Int) (a1 : Int) : Option (Bool) := (slices_Index_int_int.f k l0 a1).bind fun t102 => (some (decide (t102 ≥ 0)))
theorem slices_Contains_int_int.calls (k : Nat) (A0 : Option Addr) (c0 : Nat) (l0 : List Int) (a1 : Int) (r : Bool) (w : World) (hr0 : Kd.C (Kd.int .i64) w A0 l0.length l0) (hc0 : l0.length ≤ c0) (h : slices_Contains_int_int.f k l0 a1 = some r) :
  Calls Try.prog 65 #[.slice A0 l0.length c0, .int .i64 a1] w fun e w' => e = .returned (.bool r) ∧ Drawn0 w w' := by
 have HR0 := ak hr0
 have HC0 := ak hc0
 clear hr0 hc0
 have H : ((slices_Index_int_int.f k l0 a1).bind fun t102 => (some (decide (t102 ≥ 0)))) = some r := h
 clear h
 replace H := obm H
 obtain ⟨t102, A30, H⟩ := H
 replace H : (some (decide (t102 ≥ 0))) = some r := H
 have A3 := ak A30
 clear A30
 obtain rfl := osi H
 go_enter Try.func65, Try.ntmps65
 go_wp2_with (first | ((with_reducible refine gate_callee (f := 89) rfl ?_); refine goesL_ (some 7) rfl rfl Try.func89 (by kernel_rfl) rfl #[.slice A0 l0.length c0, .int .i64 a1] rfl (by (try simp only [List.map_toArray, List.map_cons, List.map_nil]); first | done | rfl | (simp only [List.length_drop, List.length_take]; rfl)) ?_; (with_reducible refine (slices_Index_int_int.calls k _ _ l0 a1 t102 _ ?side1 ?side2 A3.out).mono ?_); (case side1 => repeat (first | exact HR0.out | (with_reducible refine Kd.C_alloc ?_ _) | (with_reducible refine Kd.C_drewN ?_ _) | (with_reducible refine Kd.C_drew ?_))); (case side2 => exact HC0.out); rintro e w' ⟨rfl, ⟨nd, rfl⟩⟩; refine ⟨_, rfl, ?_⟩))
 go_ret
 exact ⟨by first | rfl | (simp; done) | (simp [*]; done), by repeat (first | exact Drawn0.refl _ | apply Drawn0.step)⟩
end Go.Proofs.Ytkifipakikbhcaa.Pc
namespace Go.Proofs.Ytkifipakikbhcaa.Gf
open Ytkifipakikbhcaa.Ref
open Go.RowKit YtkifipakikbhcaaW.PrintWords YtkifipakikbhcaaW.PrintLast YtkifipakikbhcaaW.PrintMore
attribute [local go_sem] max2_int min2_int max_two min_two max_three min_three max_four min_four
def field_GF_Dot.l0 : Nat → List Int → List Int → Int → Int → Int → Int → Int → List Int → Int → List Int → List Int → Option (Int × Int × Int × Int)
 | 0, _, _, _, _, _, _, _, _, _, _, _ => none
 | k + 1, x1, x2, x7, x13, x14, x1000, x1001, x1002, x1003, x1004, x1005 => if x14 < x13 then (if 0 ≤ x14 then (if x14 < (x1.length : Int) then (if x14 < (x2.length : Int) then ((field_GF_Mul.f x1000 x1001 x1002 x1003 x1004 x1005 (rd x1 x14) (rd x2 x14)).bind fun bt141 => ((field_GF_Add.f k bt141.2.1 bt141.2.2.1 x1002 bt141.2.2.2 x1004 x1005 x7 bt141.1).bind fun bt145 => (field_GF_Dot.l0 k x1 x2 bt145.1 x13 (wrap64 (x14 + 1)) bt145.2.1 bt145.2.2.1 x1002 bt145.2.2.2 x1004 x1005))) else (none)) else (none)) else (none)) else (some (x7, x1000, x1001, x1003))
def field_GF_Dot.f (k : Nat) (s0_0 : Int) (s0_1 : Int) (s0_2 : List Int) (s0_3 : Int) (s0_4 : List Int) (s0_5 : List Int) (l1 : List Int) (l2 : List Int) : Option (Int × Int × Int × Int) := field_GF_Dot.l0 k l1 l2 0 (mn (l1.length : Int) (l2.length : Int)) 0 s0_0 s0_1 s0_2 s0_3 s0_4 s0_5
def field_GF_Dot.T5 : Bool × List (List Nat × List Nat) := (true, [([], []), ([], []), ([], []), ([], []), ([], []), ([3, 4], [3, 4]), ([5], [5]), ([], []), ([], []), ([7, 8], [7, 8]), ([9], [9]), ([2, 6, 10], [2, 6, 10]), ([0, 1, 11, 11], [0, 1, 11]), ([12, 12, 0, 1, 2, 3, 4, 5, 6, 7, 8, 9, 10, 11, 12], [1, 12])])
def field_GF_Dot.B5 : List Nat := [0, 0, 0, 0, 0, 24, 56, 0, 0, 384, 896, 2044, 4095, 8191]
theorem field_GF_Dot.tab5 : rtab .any (opsOf Try.f68 5) = field_GF_Dot.T5 := by kernel_rfl
theorem field_GF_Dot.bits5 : waitsOk field_GF_Dot.T5.2 field_GF_Dot.B5 = true := by kernel_rfl
theorem field_GF_Dot.calls_lt (k : Nat) (g : Nat) (s0_0 : Int) (s0_1 : Int) (s0_2 : List Int) (s0_3 : Int) (s0_4 : List Int) (s0_5 : List Int) (A1 : Option Addr) (c1 : Nat) (l1 : List Int) (A2 : Option Addr) (c2 : Nat) (l2 : List Int) (r1 : Int) (r2 : Int) (r3 : Int) (r4 : Int) (w0 w : World) (hI : IsS109 w0 w g s0_0 s0_1 s0_2 s0_3 s0_4 s0_5) (hB : Below w0.heap.size w0 w) (hr1 : Kd.C (Kd.int .i64) w A1 l1.length l1) (hc1 : l1.length ≤ c1) (hf1 : ∀ ad, A1 = some ad → 0 < l1.length → ad.block ≠ g) (hr2 : Kd.C (Kd.int .i64) w A2 l2.length l2) (hc2 : l2.length ≤ c2) (hf2 : ∀ ad, A2 = some ad → 0 < l2.length → ad.block ≠ g) (hlt : (l2.length : Int) < (l1.length : Int)) (h : field_GF_Dot.f k s0_0 s0_1 s0_2 s0_3 s0_4 s0_5 l1 l2 = some (r1, r2, r3, r4)) :
  Calls Try.prog 68 #[.pointer (some ⟨g, 0, none⟩), .slice A1 l1.length c1, .slice A2 l2.length c2] w fun e w' => e = .returned (.int .i64 r1) ∧ IsS109 w0 w' g r2 r3 s0_2 r4 s0_4 s0_5 ∧ Below w0.heap.size w0 w' ∧ KeepBut w w' g none := by
 have HR1 := ak hr1
 have HC1 := ak hc1
 clear hr1 hc1
 have HR2 := ak hr2
 have HC2 := ak hc2
 clear hr2 hc2
 have HI0 := ak hI
 have HK := ak (KeepBut.refl w g none)
 have HL := ak hB.size
 clear hI
 have HW0 := ak hB.size
 have HB := ak hB
 clear hB
 have H : (field_GF_Dot.l0 k l1 l2 0 (mn (l1.length : Int) (l2.length : Int)) 0 s0_0 s0_1 s0_2 s0_3 s0_4 s0_5) = some (r1, r2, r3, r4) := h
 clear h
 obtain ⟨ji4, hji4⟩ : ∃ j_ : Int, (mn (l1.length : Int) (l2.length : Int)) = j_ := ⟨_, rfl⟩
 replace H : (field_GF_Dot.l0 k l1 l2 0 ji4 0 s0_0 s0_1 s0_2 s0_3 s0_4 s0_5) = some (r1, r2, r3, r4) := by first | (rw [hji4] at H; exact H) | (simp only [hji4] at H ⊢; exact H)
 (try (have hji4l : 0 ≤ ji4 := by (rw [← hji4]; unfold mn; (repeat' split) <;> omega)))
 (try (have hji4m : 0 ≤ ji4 := by omega))
 have hji4_ : (if (l2.length : Int) < (l1.length : Int) then (l2.length : Int) else (l1.length : Int)) = ji4 := hji4
 have H' := ak H
 clear H
 have hdec := eq_true hlt
 have HLEN := ak (show (l2.length : Int) = ji4 by rw [← hji4_]; split <;> omega)
 go_enter Try.func68, Try.ntmps68
 go_wp2
 simp only [HLEN.out]
 go_loopg [7, 14] k (fun kq v7 v14 w' => ∃ (x7_1 : Int) (x14_1 : Int) (x1000_1 : Int) (x1001_1 : Int) (x1003_1 : Int), v7 = .int .i64 x7_1 ∧ v14 = .int .i64 x14_1 ∧ Aside0 (field_GF_Dot.l0 kq l1 l2 x7_1 ji4 x14_1 x1000_1 x1001_1 s0_2 x1003_1 s0_4 s0_5 = some (r1, r2, r3, r4)) ∧ Aside0 (kq ≤ k) ∧ Aside0 (IsS109 w0 w' g x1000_1 x1001_1 s0_2 x1003_1 s0_4 s0_5) ∧ Aside0 (KeepBut w w' g none) ∧ Aside0 (Below w0.heap.size w0 w'))
 case atStart => exact ⟨(0), (0), (s0_0), (s0_1), (s0_3), (by first | rfl | (simp; done) | (simp [*]; done)), (by first | rfl | (simp; done) | (simp [*]; done)), H', ⟨Nat.le_refl _⟩, ⟨by repeat (first | (with_reducible first | exact HI0.out | apply IsS109.alloc | apply IsS109.drewN | apply IsS109.drew | apply IsS109.set_0 | apply IsS109.set_1 | apply IsS109.set_3) | exact HI0.out)⟩, ⟨by repeat (first | (with_reducible first | exact HK.out | apply KeepBut.set_ | apply keep_drewN | apply keep_drew | apply keep_alloc) | exact HK.out)⟩, ⟨by repeat (first | (with_reducible first | exact HB.out | apply bal | apply pbn | apply bd1 | refine bst ?_ (IsS109.ge HI0.out)) | exact HB.out)⟩⟩
 case round =>
  clear H'
  obtain ⟨x7_1, x14_1, x1000_1, x1001_1, x1003_1, rfl, rfl, HA, HK1, HI0, HK, HB⟩ := hrel
  cases gk with
  | zero => exact absurd HA.out (by simp [field_GF_Dot.l0])
  | succ k1 =>
   have H := HA.out
   clear HA
   simp only [field_GF_Dot.l0] at H
   by_cases c5 : x14_1 < ji4
   ·rw [if_pos c5] at H
    have c5b0 : decide (x14_1 < ji4) = true := det c5
    clear c5
    by_cases c6 : 0 ≤ x14_1
    ·rw [if_pos c6] at H
     have c6b0 : decide (0 ≤ x14_1) = true := det c6
     clear c6
     by_cases c7 : x14_1 < (l1.length : Int)
     ·rw [if_pos c7] at H
      have c7b0 : decide (x14_1 < (l1.length : Int)) = true := det c7
      clear c7
      by_cases c8 : x14_1 < (l2.length : Int)
      ·rw [if_pos c8] at H
       have c8b0 : decide (x14_1 < (l2.length : Int)) = true := det c8
       clear c8
       replace H := obm H
       obtain ⟨⟨t141, t142, t143, t144⟩, A90, H⟩ := H
       replace H : ((field_GF_Add.f k1 t142 t143 s0_2 t144 s0_4 s0_5 x7_1 t141).bind fun bt145 => (field_GF_Dot.l0 k1 l1 l2 bt145.1 ji4 (wrap64 (x14_1 + 1)) bt145.2.1 bt145.2.2.1 s0_2 bt145.2.2.2 s0_4 s0_5)) = some (r1, r2, r3, r4) := H
       have A9 := ak A90
       clear A90
       replace H := obm H
       obtain ⟨⟨t145, t146, t147, t148⟩, A100, H⟩ := H
       replace H : (field_GF_Dot.l0 k1 l1 l2 t145 ji4 (wrap64 (x14_1 + 1)) t146 t147 s0_2 t148 s0_4 s0_5) = some (r1, r2, r3, r4) := H
       have A10 := ak A100
       clear A100
       have H' := ak H
       clear H
       try go_wp2
       have n0_ := ak (IsS109.drew HI0.out)
       have n1_ := ak (keep_drew HK.out)
       have n2_ := ak (bd1 HB.out)
       clear HI0
       clear HK
       clear HB
       have HI0 := n0_
       have HK := n1_
       have HB := n2_
       clear n0_ n1_ n2_
       have p139 : 0 ≤ (x14_1 : Int) := odt (by first | (with_reducible assumption) | assumption)
       have q139 : x14_1 < (l1.length : Int) := odt (by first | (with_reducible assumption) | assumption)
       obtain ⟨ad139, e139, hx139_0⟩ := Kd.at_int HR1.out x14_1 p139 q139
       have hw139_0 := hx139_0
       cases e139
       have hne139_0 := (show ((ad139.add (x14_1).toNat) : Addr).block ≠ g from by first | (rw [add_block]; exact hf1 ad139 rfl (by omega)) | (show (Addr.add _ _).block ≠ _; rw [add_block]; exact hf1 ad139 rfl (by omega)) | exact hf1 ad139 rfl (by omega))
       replace hx139_0 := keep_cell HK.out hx139_0 (by first | (rw [add_block]; exact hf1 _ rfl (by omega)) | exact hf1 _ rfl (by omega) | exact hf1 ad139 rfl (by omega))
       replace p139 := eq_true p139
       replace q139 := eq_true q139
       have p140 : 0 ≤ (x14_1 : Int) := odt (by first | (with_reducible assumption) | assumption)
       have q140 : x14_1 < (l2.length : Int) := odt (by first | (with_reducible assumption) | assumption)
       obtain ⟨ad140, e140, hx140_0⟩ := Kd.at_int HR2.out x14_1 p140 q140
       have hw140_0 := hx140_0
       cases e140
       have hne140_0 := (show ((ad140.add (x14_1).toNat) : Addr).block ≠ g from by first | (rw [add_block]; exact hf2 ad140 rfl (by omega)) | (show (Addr.add _ _).block ≠ _; rw [add_block]; exact hf2 ad140 rfl (by omega)) | exact hf2 ad140 rfl (by omega))
       replace hx140_0 := keep_cell HK.out hx140_0 (by first | (rw [add_block]; exact hf2 _ rfl (by omega)) | exact hf2 _ rfl (by omega) | exact hf2 ad140 rfl (by omega))
       replace p140 := eq_true p140
       replace q140 := eq_true q140
       refine start_ (n := 14) (S := fun w' => w'.cell? (ad139.add (x14_1).toNat) = some (.int .i64 (rd l1 x14_1)) ∧ w'.cell? (ad140.add (x14_1).toNat) = some (.int .i64 (rd l2 x14_1))) (ds := []) #[false, false, false, false, false, false, false, false, false, false, false, false, false, false] (by kernel_rfl) rfl rfl ⟨(keep_cell HK.out hw139_0 hne139_0), (keep_cell HK.out hw140_0 hne140_0)⟩ (fun hHeld => ?_); refine with_tabW field_GF_Dot.tab5 field_GF_Dot.bits5 (fun HT_ HW_ => ?_)
       generalize wr.drew = w11 at HI0 HK HB hx139_0 hx140_0 hHeld ⊢
       refine pure_ (i := 0) (N := some 17) (v := ?_) (a' := ?_) #[true, false, false, false, false, false, false, false, false, false, false, false, false, false] rfl rfl (any_of HT_.out (by kernel_rfl)) (fun _ _ _ h => h) (Or.inl ⟨by rfl, ?_⟩) ?_ ?_
       rotate_left
       ·intro w'
        go_simp
        with_reducible rfl
       rotate_left
       ·simp only [Act.put, sia, scz, scs, i64_w, i32_w]
        rfl
       refine pure_ (i := 1) (N := some 18) (v := ?_) (a' := ?_) #[true, true, false, false, false, false, false, false, false, false, false, false, false, false] rfl rfl (any_of HT_.out (by kernel_rfl)) (fun _ _ _ h => h) (Or.inl ⟨by rfl, ?_⟩) ?_ ?_
       rotate_left
       ·intro w'
        go_simp
        with_reducible rfl
       rotate_left
       ·simp only [Act.put, sia, scz, scs, i64_w, i32_w]
        rfl
       refine pure_ (i := 2) (N := some 19) (v := ?_) (a' := ?_) #[true, true, true, false, false, false, false, false, false, false, false, false, false, false] rfl rfl (any_of HT_.out (by kernel_rfl)) (fun _ _ _ h => h) (Or.inl ⟨by rfl, ?_⟩) ?_ ?_
       rotate_left
       ·intro w'
        go_simp
        with_reducible rfl
       rotate_left
       ·simp only [Act.put, sia, scz, scs, i64_w, i32_w]
        rfl
       refine pure_ (i := 3) (N := some 20) (v := ?_) (a' := ?_) #[true, true, true, true, false, false, false, false, false, false, false, false, false, false] rfl rfl (any_of HT_.out (by kernel_rfl)) (fun _ _ _ h => h) (Or.inl ⟨by rfl, ?_⟩) ?_ ?_
       rotate_left
       ·intro w'
        go_simp
        with_reducible rfl
       rotate_left
       ·simp only [Act.put, sia, scz, scs, i64_w, i32_w]
        rfl
       refine pure_ (i := 4) (N := some 21) (v := ?_) (a' := ?_) #[true, true, true, true, true, false, false, false, false, false, false, false, false, false] rfl rfl (any_of HT_.out (by kernel_rfl)) (fun _ _ _ h => h) (Or.inl ⟨by rfl, ?_⟩) ?_ ?_
       rotate_left
       ·intro w'
        go_simp
        with_reducible rfl
       rotate_left
       ·simp only [Act.put, sia, scz, scs, i64_w, i32_w]
        rfl
       refine pure_ (i := 5) (N := some 22) (v := ?_) (a' := ?_) #[true, true, true, true, true, true, false, false, false, false, false, false, false, false] rfl rfl (any_of HT_.out (by kernel_rfl)) (fun _ _ _ h => h) (Or.inl ⟨by rfl, ?_⟩) ?_ ?_
       rotate_left
       ·intro w'
        go_simp
        with_reducible rfl
       rotate_left
       ·simp only [Act.put, sia, scz, scs, i64_w, i32_w]
        rfl
       refine pure_ (i := 7) (N := some 24) (v := ?_) (a' := ?_) #[true, true, true, true, true, true, false, true, false, false, false, false, false, false] rfl rfl (any_of HT_.out (by kernel_rfl)) (fun _ _ _ h => h) (Or.inl ⟨by rfl, ?_⟩) ?_ ?_
       rotate_left
       ·intro w'
        go_simp
        with_reducible rfl
       rotate_left
       ·simp only [Act.put, sia, scz, scs, i64_w, i32_w]
        rfl
       refine pure_ (i := 8) (N := some 25) (v := ?_) (a' := ?_) #[true, true, true, true, true, true, false, true, true, false, false, false, false, false] rfl rfl (any_of HT_.out (by kernel_rfl)) (fun _ _ _ h => h) (Or.inl ⟨by rfl, ?_⟩) ?_ ?_
       rotate_left
       ·intro w'
        go_simp
        with_reducible rfl
       rotate_left
       ·simp only [Act.put, sia, scz, scs, i64_w, i32_w]
        rfl
       refine pure_ (i := 9) (N := some 26) (v := ?_) (a' := ?_) #[true, true, true, true, true, true, false, true, true, true, false, false, false, false] rfl rfl (any_of HT_.out (by kernel_rfl)) (fun _ _ _ h => h) (Or.inl ⟨by rfl, ?_⟩) ?_ ?_
       rotate_left
       ·intro w'
        go_simp
        with_reducible rfl
       rotate_left
       ·simp only [Act.put, sia, scz, scs, i64_w, i32_w]
        rfl
       refine take_ (i := 6) (N := some 23) (v := ?_) (a' := ?_) #[true, true, true, true, true, true, true, true, true, true, false, false, false, false] rfl rfl (take_ofW HT_.out HW_.out (by kernel_rfl)) (fun _ _ _ h => h) (Or.inl ⟨by rfl, ?_⟩) hHeld ?_ ?_
       rotate_left
       ·rintro w' ⟨s0, s1⟩
        go_simp
        with_reducible rfl
       rotate_left
       ·simp only [Act.put, sia, scz, scs, i64_w, i32_w]
        rfl
       refine take_ (i := 10) (N := some 27) (v := ?_) (a' := ?_) #[true, true, true, true, true, true, true, true, true, true, true, false, false, false] rfl rfl (take_ofW HT_.out HW_.out (by kernel_rfl)) (fun _ _ _ h => h) (Or.inl ⟨by rfl, ?_⟩) hHeld ?_ ?_
       rotate_left
       ·rintro w' ⟨s0, s1⟩
        go_simp
        with_reducible rfl
       rotate_left
       ·simp only [Act.put, sia, scz, scs, i64_w, i32_w]
        rfl
       refine one_ (i := 11) (N := some 28) #[true, true, true, true, true, true, true, true, true, true, true, true, false, false] rfl rfl (one_of HT_.out (by kernel_rfl)) (by decide) (fun K hK => ?_)
       refine goes_ Try.func91 (by kernel_rfl) rfl #[.pointer (some ⟨g, 0, none⟩), .int .i64 (rd l1 x14_1), .int .i64 (rd l2 x14_1)] (by rfl) rfl rfl (by (try simp only [List.map_toArray, List.map_cons, List.map_nil]); first | done | rfl | (simp only [List.length_drop, List.length_take]; rfl)) ?_
       with_reducible refine (field_GF_Mul.calls g x1000_1 x1001_1 s0_2 x1003_1 s0_4 s0_5 (rd l1 x14_1) (rd l2 x14_1) t141 t142 t143 t144 w0 _ ?side1 ?side2 A9.out).mono ?_
       (case side1 => repeat (first | (with_reducible first | exact HI0.out | apply IsS109.alloc | apply IsS109.drewN | apply IsS109.drew | apply IsS109.set_0 | apply IsS109.set_1 | apply IsS109.set_3) | exact HI0.out))
       (case side2 => repeat (first | (with_reducible first | exact HB.out | apply bal | apply pbn | apply bd1 | refine bst ?_ (IsS109.ge HI0.out)) | exact HB.out))
       rintro e w12 ⟨rfl, hi, hb, hk⟩
       refine ⟨_, rfl, ?_⟩
       have n0_ := ak (KeepBut.trans (by repeat (first | (with_reducible first | exact HK.out | apply KeepBut.set_ | apply keep_drewN | apply keep_drew | apply keep_alloc) | exact HK.out)) hk (.inl rfl))
       have n1_ := ak (hb)
       have n2_ := ak (hi)
       clear HK
       clear HB
       clear HI0
       have HK := n0_
       have HB := n1_
       have HI0 := n2_
       clear n0_ n1_ n2_
       (try clear hb)
       (try clear hb2)
       (try clear hk)
       (try clear hi)
       refine hK.out _ _ ⟨(keep_cell HK.out hw139_0 hne139_0), (keep_cell HK.out hw140_0 hne140_0)⟩ (fun hHeld => ?_)
       clear hK K
       refine norm_ (a' := ?_) ?_ ?_
       rotate_left
       ·show Act.put _ (some 28) _ = _
        simp only [Act.put, sia, scz, scs, i64_w, i32_w]
        rfl
       refine one_ (i := 12) (N := some 29) #[true, true, true, true, true, true, true, true, true, true, true, true, true, false] rfl rfl (one_of HT_.out (by kernel_rfl)) (by decide) (fun K hK => ?_)
       refine goes_ Try.func92 (by kernel_rfl) rfl #[.pointer (some ⟨g, 0, none⟩), .int .i64 x7_1, .int .i64 t141] (by rfl) rfl rfl (by (try simp only [List.map_toArray, List.map_cons, List.map_nil]); first | done | rfl | (simp only [List.length_drop, List.length_take]; rfl)) ?_
       with_reducible refine (field_GF_Add.calls k1 g t142 t143 s0_2 t144 s0_4 s0_5 x7_1 t141 t145 t146 t147 t148 w0 _ ?side1 ?side2 A10.out).mono ?_
       (case side1 => repeat (first | (with_reducible first | exact HI0.out | apply IsS109.alloc | apply IsS109.drewN | apply IsS109.drew | apply IsS109.set_0 | apply IsS109.set_1 | apply IsS109.set_3) | exact HI0.out))
       (case side2 => repeat (first | (with_reducible first | exact HB.out | apply bal | apply pbn | apply bd1 | refine bst ?_ (IsS109.ge HI0.out)) | exact HB.out))
       rintro e w13 ⟨rfl, hi, hb, hk⟩
       refine ⟨_, rfl, ?_⟩
       have n0_ := ak (KeepBut.trans (by repeat (first | (with_reducible first | exact HK.out | apply KeepBut.set_ | apply keep_drewN | apply keep_drew | apply keep_alloc) | exact HK.out)) hk (.inl rfl))
       have n1_ := ak (hb)
       have n2_ := ak (hi)
       clear HK
       clear HB
       clear HI0
       have HK := n0_
       have HB := n1_
       have HI0 := n2_
       clear n0_ n1_ n2_
       (try clear hb)
       (try clear hb2)
       (try clear hk)
       (try clear hi)
       refine hK.out _ _ ⟨(keep_cell HK.out hw139_0 hne139_0), (keep_cell HK.out hw140_0 hne140_0)⟩ (fun hHeld => ?_)
       clear hK K
       refine norm_ (a' := ?_) ?_ ?_
       rotate_left
       ·show Act.put _ (some 29) _ = _
        simp only [Act.put, sia, scz, scs, i64_w, i32_w]
        rfl
       refine pure_ (i := 13) (N := some 7) (v := ?_) (a' := ?_) #[true, true, true, true, true, true, true, true, true, true, true, true, true, true] rfl rfl (any_of HT_.out (by kernel_rfl)) (fun _ _ _ h => h) (Or.inl ⟨by rfl, ?_⟩) ?_ ?_
       rotate_left
       ·intro w'
        go_simp
        with_reducible rfl
       rotate_left
       ·simp only [Act.put, sia, scz, scs, i64_w, i32_w]
        rfl
       refine done_ (done_of HT_.out (by kernel_rfl)) ?_
       try go_wp2
       go_roundg k1
       case measure => have := HK1.out; omega
       case rel => exact ⟨(t145), (wrap64 (x14_1 + 1)), (t146), (t147), (t148), (by first | rfl | (simp; done) | (simp [*]; done)), (by first | rfl | (simp; done) | (simp [*]; done)), H', ⟨by have := HK1.out; omega⟩, ⟨by repeat (first | (with_reducible first | exact HI0.out | apply IsS109.alloc | apply IsS109.drewN | apply IsS109.drew | apply IsS109.set_0 | apply IsS109.set_1 | apply IsS109.set_3) | exact HI0.out)⟩, ⟨by repeat (first | (with_reducible first | exact HK.out | apply KeepBut.set_ | apply keep_drewN | apply keep_drew | apply keep_alloc) | exact HK.out)⟩, ⟨by repeat (first | (with_reducible first | exact HB.out | apply bal | apply pbn | apply bd1 | refine bst ?_ (IsS109.ge HI0.out)) | exact HB.out)⟩⟩
      ·rw [if_neg c8] at H
       exact absurd H (by simp)
     ·rw [if_neg c7] at H
      exact absurd H (by simp)
    ·rw [if_neg c6] at H
     exact absurd H (by simp)
   ·rw [if_neg c5] at H
    have c5b0 : decide (x14_1 < ji4) = false := dff c5
    clear c5
    simp only [Option.some.injEq, Prod.mk.injEq] at H
    obtain ⟨rfl, rfl, rfl, rfl⟩ := H
    go_wp2
    go_ret
    exact ⟨by first | rfl | (simp <;> rfl) | (simp only [← hji4]; first | rfl | (simp <;> rfl)) | (simp [*] <;> rfl), by repeat (first | (with_reducible first | exact HI0.out | apply IsS109.alloc | apply IsS109.drewN | apply IsS109.drew | apply IsS109.set_0 | apply IsS109.set_1 | apply IsS109.set_3) | exact HI0.out), by repeat (first | (with_reducible first | exact HB.out | apply bal | apply pbn | apply bd1 | refine bst ?_ (IsS109.ge HI0.out)) | exact HB.out), by repeat (first | (with_reducible first | exact HK.out | apply KeepBut.set_ | apply keep_drewN | apply keep_drew | apply keep_alloc) | exact HK.out)⟩
theorem field_GF_Dot.calls_ge (k : Nat) (g : Nat) (s0_0 : Int) (s0_1 : Int) (s0_2 : List Int) (s0_3 : Int) (s0_4 : List Int) (s0_5 : List Int) (A1 : Option Addr) (c1 : Nat) (l1 : List Int) (A2 : Option Addr) (c2 : Nat) (l2 : List Int) (r1 : Int) (r2 : Int) (r3 : Int) (r4 : Int) (w0 w : World) (hI : IsS109 w0 w g s0_0 s0_1 s0_2 s0_3 s0_4 s0_5) (hB : Below w0.heap.size w0 w) (hr1 : Kd.C (Kd.int .i64) w A1 l1.length l1) (hc1 : l1.length ≤ c1) (hf1 : ∀ ad, A1 = some ad → 0 < l1.length → ad.block ≠ g) (hr2 : Kd.C (Kd.int .i64) w A2 l2.length l2) (hc2 : l2.length ≤ c2) (hf2 : ∀ ad, A2 = some ad → 0 < l2.length → ad.block ≠ g) (hlt : ¬ (l2.length : Int) < (l1.length : Int)) (h : field_GF_Dot.f k s0_0 s0_1 s0_2 s0_3 s0_4 s0_5 l1 l2 = some (r1, r2, r3, r4)) :
  Calls Try.prog 68 #[.pointer (some ⟨g, 0, none⟩), .slice A1 l1.length c1, .slice A2 l2.length c2] w fun e w' => e = .returned (.int .i64 r1) ∧ IsS109 w0 w' g r2 r3 s0_2 r4 s0_4 s0_5 ∧ Below w0.heap.size w0 w' ∧ KeepBut w w' g none := by
 have HR1 := ak hr1
 have HC1 := ak hc1
 clear hr1 hc1
 have HR2 := ak hr2
 have HC2 := ak hc2
 clear hr2 hc2
 have HI0 := ak hI
 have HK := ak (KeepBut.refl w g none)
 have HL := ak hB.size
 clear hI
 have HW0 := ak hB.size
 have HB := ak hB
 clear hB
 have H : (field_GF_Dot.l0 k l1 l2 0 (mn (l1.length : Int) (l2.length : Int)) 0 s0_0 s0_1 s0_2 s0_3 s0_4 s0_5) = some (r1, r2, r3, r4) := h
 clear h
 obtain ⟨ji4, hji4⟩ : ∃ j_ : Int, (mn (l1.length : Int) (l2.length : Int)) = j_ := ⟨_, rfl⟩
 replace H : (field_GF_Dot.l0 k l1 l2 0 ji4 0 s0_0 s0_1 s0_2 s0_3 s0_4 s0_5) = some (r1, r2, r3, r4) := by first | (rw [hji4] at H; exact H) | (simp only [hji4] at H ⊢; exact H)
 (try (have hji4l : 0 ≤ ji4 := by (rw [← hji4]; unfold mn; (repeat' split) <;> omega)))
 (try (have hji4m : 0 ≤ ji4 := by omega))
 have hji4_ : (if (l2.length : Int) < (l1.length : Int) then (l2.length : Int) else (l1.length : Int)) = ji4 := hji4
 have H' := ak H
 clear H
 have hdec := eq_false hlt
 have HLEN := ak (show (l1.length : Int) = ji4 by rw [← hji4_]; split <;> omega)
 go_enter Try.func68, Try.ntmps68
 go_wp2
 simp only [HLEN.out]
 go_loopg [7, 14] k (fun kq v7 v14 w' => ∃ (x7_1 : Int) (x14_1 : Int) (x1000_1 : Int) (x1001_1 : Int) (x1003_1 : Int), v7 = .int .i64 x7_1 ∧ v14 = .int .i64 x14_1 ∧ Aside0 (field_GF_Dot.l0 kq l1 l2 x7_1 ji4 x14_1 x1000_1 x1001_1 s0_2 x1003_1 s0_4 s0_5 = some (r1, r2, r3, r4)) ∧ Aside0 (kq ≤ k) ∧ Aside0 (IsS109 w0 w' g x1000_1 x1001_1 s0_2 x1003_1 s0_4 s0_5) ∧ Aside0 (KeepBut w w' g none) ∧ Aside0 (Below w0.heap.size w0 w'))
 case atStart => exact ⟨(0), (0), (s0_0), (s0_1), (s0_3), (by first | rfl | (simp; done) | (simp [*]; done)), (by first | rfl | (simp; done) | (simp [*]; done)), H', ⟨Nat.le_refl _⟩, ⟨by repeat (first | (with_reducible first | exact HI0.out | apply IsS109.alloc | apply IsS109.drewN | apply IsS109.drew | apply IsS109.set_0 | apply IsS109.set_1 | apply IsS109.set_3) | exact HI0.out)⟩, ⟨by repeat (first | (with_reducible first | exact HK.out | apply KeepBut.set_ | apply keep_drewN | apply keep_drew | apply keep_alloc) | exact HK.out)⟩, ⟨by repeat (first | (with_reducible first | exact HB.out | apply bal | apply pbn | apply bd1 | refine bst ?_ (IsS109.ge HI0.out)) | exact HB.out)⟩⟩
 case round =>
  clear H'
  obtain ⟨x7_1, x14_1, x1000_1, x1001_1, x1003_1, rfl, rfl, HA, HK1, HI0, HK, HB⟩ := hrel
  cases gk with
  | zero => exact absurd HA.out (by simp [field_GF_Dot.l0])
  | succ k1 =>
   have H := HA.out
   clear HA
   simp only [field_GF_Dot.l0] at H
   by_cases c5 : x14_1 < ji4
   ·rw [if_pos c5] at H
    have c5b0 : decide (x14_1 < ji4) = true := det c5
    clear c5
    by_cases c6 : 0 ≤ x14_1
    ·rw [if_pos c6] at H
     have c6b0 : decide (0 ≤ x14_1) = true := det c6
     clear c6
     by_cases c7 : x14_1 < (l1.length : Int)
     ·rw [if_pos c7] at H
      have c7b0 : decide (x14_1 < (l1.length : Int)) = true := det c7
      clear c7
      by_cases c8 : x14_1 < (l2.length : Int)
      ·rw [if_pos c8] at H
       have c8b0 : decide (x14_1 < (l2.length : Int)) = true := det c8
       clear c8
       replace H := obm H
       obtain ⟨⟨t141, t142, t143, t144⟩, A90, H⟩ := H
       replace H : ((field_GF_Add.f k1 t142 t143 s0_2 t144 s0_4 s0_5 x7_1 t141).bind fun bt145 => (field_GF_Dot.l0 k1 l1 l2 bt145.1 ji4 (wrap64 (x14_1 + 1)) bt145.2.1 bt145.2.2.1 s0_2 bt145.2.2.2 s0_4 s0_5)) = some (r1, r2, r3, r4) := H
       have A9 := ak A90
       clear A90
       replace H := obm H
       obtain ⟨⟨t145, t146, t147, t148⟩, A100, H⟩ := H
       replace H : (field_GF_Dot.l0 k1 l1 l2 t145 ji4 (wrap64 (x14_1 + 1)) t146 t147 s0_2 t148 s0_4 s0_5) = some (r1, r2, r3, r4) := H
       have A10 := ak A100
       clear A100
       have H' := ak H
       clear H
       try go_wp2
       have n0_ := ak (IsS109.drew HI0.out)
       have n1_ := ak (keep_drew HK.out)
       have n2_ := ak (bd1 HB.out)
       clear HI0
       clear HK
       clear HB
       have HI0 := n0_
       have HK := n1_
       have HB := n2_
       clear n0_ n1_ n2_
       have p139 : 0 ≤ (x14_1 : Int) := odt (by first | (with_reducible assumption) | assumption)
       have q139 : x14_1 < (l1.length : Int) := odt (by first | (with_reducible assumption) | assumption)
       obtain ⟨ad139, e139, hx139_0⟩ := Kd.at_int HR1.out x14_1 p139 q139
       have hw139_0 := hx139_0
       cases e139
       have hne139_0 := (show ((ad139.add (x14_1).toNat) : Addr).block ≠ g from by first | (rw [add_block]; exact hf1 ad139 rfl (by omega)) | (show (Addr.add _ _).block ≠ _; rw [add_block]; exact hf1 ad139 rfl (by omega)) | exact hf1 ad139 rfl (by omega))
       replace hx139_0 := keep_cell HK.out hx139_0 (by first | (rw [add_block]; exact hf1 _ rfl (by omega)) | exact hf1 _ rfl (by omega) | exact hf1 ad139 rfl (by omega))
       replace p139 := eq_true p139
       replace q139 := eq_true q139
       have p140 : 0 ≤ (x14_1 : Int) := odt (by first | (with_reducible assumption) | assumption)
       have q140 : x14_1 < (l2.length : Int) := odt (by first | (with_reducible assumption) | assumption)
       obtain ⟨ad140, e140, hx140_0⟩ := Kd.at_int HR2.out x14_1 p140 q140
       have hw140_0 := hx140_0
       cases e140
       have hne140_0 := (show ((ad140.add (x14_1).toNat) : Addr).block ≠ g from by first | (rw [add_block]; exact hf2 ad140 rfl (by omega)) | (show (Addr.add _ _).block ≠ _; rw [add_block]; exact hf2 ad140 rfl (by omega)) | exact hf2 ad140 rfl (by omega))
       replace hx140_0 := keep_cell HK.out hx140_0 (by first | (rw [add_block]; exact hf2 _ rfl (by omega)) | exact hf2 _ rfl (by omega) | exact hf2 ad140 rfl (by omega))
       replace p140 := eq_true p140
       replace q140 := eq_true q140
       refine start_ (n := 14) (S := fun w' => w'.cell? (ad139.add (x14_1).toNat) = some (.int .i64 (rd l1 x14_1)) ∧ w'.cell? (ad140.add (x14_1).toNat) = some (.int .i64 (rd l2 x14_1))) (ds := []) #[false, false, false, false, false, false, false, false, false, false, false, false, false, false] (by kernel_rfl) rfl rfl ⟨(keep_cell HK.out hw139_0 hne139_0), (keep_cell HK.out hw140_0 hne140_0)⟩ (fun hHeld => ?_); refine with_tabW field_GF_Dot.tab5 field_GF_Dot.bits5 (fun HT_ HW_ => ?_)
       generalize wr.drew = w11 at HI0 HK HB hx139_0 hx140_0 hHeld ⊢
       refine pure_ (i := 0) (N := some 17) (v := ?_) (a' := ?_) #[true, false, false, false, false, false, false, false, false, false, false, false, false, false] rfl rfl (any_of HT_.out (by kernel_rfl)) (fun _ _ _ h => h) (Or.inl ⟨by rfl, ?_⟩) ?_ ?_
       rotate_left
       ·intro w'
        go_simp
        with_reducible rfl
       rotate_left
       ·simp only [Act.put, sia, scz, scs, i64_w, i32_w]
        rfl
       refine pure_ (i := 1) (N := some 18) (v := ?_) (a' := ?_) #[true, true, false, false, false, false, false, false, false, false, false, false, false, false] rfl rfl (any_of HT_.out (by kernel_rfl)) (fun _ _ _ h => h) (Or.inl ⟨by rfl, ?_⟩) ?_ ?_
       rotate_left
       ·intro w'
        go_simp
        with_reducible rfl
       rotate_left
       ·simp only [Act.put, sia, scz, scs, i64_w, i32_w]
        rfl
       refine pure_ (i := 2) (N := some 19) (v := ?_) (a' := ?_) #[true, true, true, false, false, false, false, false, false, false, false, false, false, false] rfl rfl (any_of HT_.out (by kernel_rfl)) (fun _ _ _ h => h) (Or.inl ⟨by rfl, ?_⟩) ?_ ?_
       rotate_left
       ·intro w'
        go_simp
        with_reducible rfl
       rotate_left
       ·simp only [Act.put, sia, scz, scs, i64_w, i32_w]
        rfl
       refine pure_ (i := 3) (N := some 20) (v := ?_) (a' := ?_) #[true, true, true, true, false, false, false, false, false, false, false, false, false, false] rfl rfl (any_of HT_.out (by kernel_rfl)) (fun _ _ _ h => h) (Or.inl ⟨by rfl, ?_⟩) ?_ ?_
       rotate_left
       ·intro w'
        go_simp
        with_reducible rfl
       rotate_left
       ·simp only [Act.put, sia, scz, scs, i64_w, i32_w]
        rfl
       refine pure_ (i := 4) (N := some 21) (v := ?_) (a' := ?_) #[true, true, true, true, true, false, false, false, false, false, false, false, false, false] rfl rfl (any_of HT_.out (by kernel_rfl)) (fun _ _ _ h => h) (Or.inl ⟨by rfl, ?_⟩) ?_ ?_
       rotate_left
       ·intro w'
        go_simp
        with_reducible rfl
       rotate_left
       ·simp only [Act.put, sia, scz, scs, i64_w, i32_w]
        rfl
       refine pure_ (i := 5) (N := some 22) (v := ?_) (a' := ?_) #[true, true, true, true, true, true, false, false, false, false, false, false, false, false] rfl rfl (any_of HT_.out (by kernel_rfl)) (fun _ _ _ h => h) (Or.inl ⟨by rfl, ?_⟩) ?_ ?_
       rotate_left
       ·intro w'
        go_simp
        with_reducible rfl
       rotate_left
       ·simp only [Act.put, sia, scz, scs, i64_w, i32_w]
        rfl
       refine pure_ (i := 7) (N := some 24) (v := ?_) (a' := ?_) #[true, true, true, true, true, true, false, true, false, false, false, false, false, false] rfl rfl (any_of HT_.out (by kernel_rfl)) (fun _ _ _ h => h) (Or.inl ⟨by rfl, ?_⟩) ?_ ?_
       rotate_left
       ·intro w'
        go_simp
        with_reducible rfl
       rotate_left
       ·simp only [Act.put, sia, scz, scs, i64_w, i32_w]
        rfl
       refine pure_ (i := 8) (N := some 25) (v := ?_) (a' := ?_) #[true, true, true, true, true, true, false, true, true, false, false, false, false, false] rfl rfl (any_of HT_.out (by kernel_rfl)) (fun _ _ _ h => h) (Or.inl ⟨by rfl, ?_⟩) ?_ ?_
       rotate_left
       ·intro w'
        go_simp
        with_reducible rfl
       rotate_left
       ·simp only [Act.put, sia, scz, scs, i64_w, i32_w]
        rfl
       refine pure_ (i := 9) (N := some 26) (v := ?_) (a' := ?_) #[true, true, true, true, true, true, false, true, true, true, false, false, false, false] rfl rfl (any_of HT_.out (by kernel_rfl)) (fun _ _ _ h => h) (Or.inl ⟨by rfl, ?_⟩) ?_ ?_
       rotate_left
       ·intro w'
        go_simp
        with_reducible rfl
       rotate_left
       ·simp only [Act.put, sia, scz, scs, i64_w, i32_w]
        rfl
       refine take_ (i := 6) (N := some 23) (v := ?_) (a' := ?_) #[true, true, true, true, true, true, true, true, true, true, false, false, false, false] rfl rfl (take_ofW HT_.out HW_.out (by kernel_rfl)) (fun _ _ _ h => h) (Or.inl ⟨by rfl, ?_⟩) hHeld ?_ ?_
       rotate_left
       ·rintro w' ⟨s0, s1⟩
        go_simp
        with_reducible rfl
       rotate_left
       ·simp only [Act.put, sia, scz, scs, i64_w, i32_w]
        rfl
       refine take_ (i := 10) (N := some 27) (v := ?_) (a' := ?_) #[true, true, true, true, true, true, true, true, true, true, true, false, false, false] rfl rfl (take_ofW HT_.out HW_.out (by kernel_rfl)) (fun _ _ _ h => h) (Or.inl ⟨by rfl, ?_⟩) hHeld ?_ ?_
       rotate_left
       ·rintro w' ⟨s0, s1⟩
        go_simp
        with_reducible rfl
       rotate_left
       ·simp only [Act.put, sia, scz, scs, i64_w, i32_w]
        rfl
       refine one_ (i := 11) (N := some 28) #[true, true, true, true, true, true, true, true, true, true, true, true, false, false] rfl rfl (one_of HT_.out (by kernel_rfl)) (by decide) (fun K hK => ?_)
       refine goes_ Try.func91 (by kernel_rfl) rfl #[.pointer (some ⟨g, 0, none⟩), .int .i64 (rd l1 x14_1), .int .i64 (rd l2 x14_1)] (by rfl) rfl rfl (by (try simp only [List.map_toArray, List.map_cons, List.map_nil]); first | done | rfl | (simp only [List.length_drop, List.length_take]; rfl)) ?_
       with_reducible refine (field_GF_Mul.calls g x1000_1 x1001_1 s0_2 x1003_1 s0_4 s0_5 (rd l1 x14_1) (rd l2 x14_1) t141 t142 t143 t144 w0 _ ?side1 ?side2 A9.out).mono ?_
       (case side1 => repeat (first | (with_reducible first | exact HI0.out | apply IsS109.alloc | apply IsS109.drewN | apply IsS109.drew | apply IsS109.set_0 | apply IsS109.set_1 | apply IsS109.set_3) | exact HI0.out))
       (case side2 => repeat (first | (with_reducible first | exact HB.out | apply bal | apply pbn | apply bd1 | refine bst ?_ (IsS109.ge HI0.out)) | exact HB.out))
       rintro e w12 ⟨rfl, hi, hb, hk⟩
       refine ⟨_, rfl, ?_⟩
       have n0_ := ak (KeepBut.trans (by repeat (first | (with_reducible first | exact HK.out | apply KeepBut.set_ | apply keep_drewN | apply keep_drew | apply keep_alloc) | exact HK.out)) hk (.inl rfl))
       have n1_ := ak (hb)
       have n2_ := ak (hi)
       clear HK
       clear HB
       clear HI0
       have HK := n0_
       have HB := n1_
       have HI0 := n2_
       clear n0_ n1_ n2_
       (try clear hb)
       (try clear hb2)
       (try clear hk)
       (try clear hi)
       refine hK.out _ _ ⟨(keep_cell HK.out hw139_0 hne139_0), (keep_cell HK.out hw140_0 hne140_0)⟩ (fun hHeld => ?_)
       clear hK K
       refine norm_ (a' := ?_) ?_ ?_
       rotate_left
       ·show Act.put _ (some 28) _ = _
        simp only [Act.put, sia, scz, scs, i64_w, i32_w]
        rfl
       refine one_ (i := 12) (N := some 29) #[true, true, true, true, true, true, true, true, true, true, true, true, true, false] rfl rfl (one_of HT_.out (by kernel_rfl)) (by decide) (fun K hK => ?_)
       refine goes_ Try.func92 (by kernel_rfl) rfl #[.pointer (some ⟨g, 0, none⟩), .int .i64 x7_1, .int .i64 t141] (by rfl) rfl rfl (by (try simp only [List.map_toArray, List.map_cons, List.map_nil]); first | done | rfl | (simp only [List.length_drop, List.length_take]; rfl)) ?_
       with_reducible refine (field_GF_Add.calls k1 g t142 t143 s0_2 t144 s0_4 s0_5 x7_1 t141 t145 t146 t147 t148 w0 _ ?side1 ?side2 A10.out).mono ?_
       (case side1 => repeat (first | (with_reducible first | exact HI0.out | apply IsS109.alloc | apply IsS109.drewN | apply IsS109.drew | apply IsS109.set_0 | apply IsS109.set_1 | apply IsS109.set_3) | exact HI0.out))
       (case side2 => repeat (first | (with_reducible first | exact HB.out | apply bal | apply pbn | apply bd1 | refine bst ?_ (IsS109.ge HI0.out)) | exact HB.out))
       rintro e w13 ⟨rfl, hi, hb, hk⟩
       refine ⟨_, rfl, ?_⟩
       have n0_ := ak (KeepBut.trans (by repeat (first | (with_reducible first | exact HK.out | apply KeepBut.set_ | apply keep_drewN | apply keep_drew | apply keep_alloc) | exact HK.out)) hk (.inl rfl))
       have n1_ := ak (hb)
       have n2_ := ak (hi)
       clear HK
       clear HB
       clear HI0
       have HK := n0_
       have HB := n1_
       have HI0 := n2_
       clear n0_ n1_ n2_
       (try clear hb)
       (try clear hb2)
       (try clear hk)
       (try clear hi)
       refine hK.out _ _ ⟨(keep_cell HK.out hw139_0 hne139_0), (keep_cell HK.out hw140_0 hne140_0)⟩ (fun hHeld => ?_)
       clear hK K
       refine norm_ (a' := ?_) ?_ ?_
       rotate_left
       ·show Act.put _ (some 29) _ = _
        simp only [Act.put, sia, scz, scs, i64_w, i32_w]
        rfl
       refine pure_ (i := 13) (N := some 7) (v := ?_) (a' := ?_) #[true, true, true, true, true, true, true, true, true, true, true, true, true, true] rfl rfl (any_of HT_.out (by kernel_rfl)) (fun _ _ _ h => h) (Or.inl ⟨by rfl, ?_⟩) ?_ ?_
       rotate_left
       ·intro w'
        go_simp
        with_reducible rfl
       rotate_left
       ·simp only [Act.put, sia, scz, scs, i64_w, i32_w]
        rfl
       refine done_ (done_of HT_.out (by kernel_rfl)) ?_
       try go_wp2
       go_roundg k1
       case measure => have := HK1.out; omega
       case rel => exact ⟨(t145), (wrap64 (x14_1 + 1)), (t146), (t147), (t148), (by first | rfl | (simp; done) | (simp [*]; done)), (by first | rfl | (simp; done) | (simp [*]; done)), H', ⟨by have := HK1.out; omega⟩, ⟨by repeat (first | (with_reducible first | exact HI0.out | apply IsS109.alloc | apply IsS109.drewN | apply IsS109.drew | apply IsS109.set_0 | apply IsS109.set_1 | apply IsS109.set_3) | exact HI0.out)⟩, ⟨by repeat (first | (with_reducible first | exact HK.out | apply KeepBut.set_ | apply keep_drewN | apply keep_drew | apply keep_alloc) | exact HK.out)⟩, ⟨by repeat (first | (with_reducible first | exact HB.out | apply bal | apply pbn | apply bd1 | refine bst ?_ (IsS109.ge HI0.out)) | exact HB.out)⟩⟩
      ·rw [if_neg c8] at H
       exact absurd H (by simp)
     ·rw [if_neg c7] at H
      exact absurd H (by simp)
    ·rw [if_neg c6] at H
     exact absurd H (by simp)
   ·rw [if_neg c5] at H
    have c5b0 : decide (x14_1 < ji4) = false := dff c5
    clear c5
    simp only [Option.some.injEq, Prod.mk.injEq] at H
    obtain ⟨rfl, rfl, rfl, rfl⟩ := H
    go_wp2
    go_ret
    exact ⟨by first | rfl | (simp <;> rfl) | (simp only [← hji4]; first | rfl | (simp <;> rfl)) | (simp [*] <;> rfl), by repeat (first | (with_reducible first | exact HI0.out | apply IsS109.alloc | apply IsS109.drewN | apply IsS109.drew | apply IsS109.set_0 | apply IsS109.set_1 | apply IsS109.set_3) | exact HI0.out), by repeat (first | (with_reducible first | exact HB.out | apply bal | apply pbn | apply bd1 | refine bst ?_ (IsS109.ge HI0.out)) | exact HB.out), by repeat (first | (with_reducible first | exact HK.out | apply KeepBut.set_ | apply keep_drewN | apply keep_drew | apply keep_alloc) | exact HK.out)⟩
theorem field_GF_Dot.calls (k : Nat) (g : Nat) (s0_0 : Int) (s0_1 : Int) (s0_2 : List Int) (s0_3 : Int) (s0_4 : List Int) (s0_5 : List Int) (A1 : Option Addr) (c1 : Nat) (l1 : List Int) (A2 : Option Addr) (c2 : Nat) (l2 : List Int) (r1 : Int) (r2 : Int) (r3 : Int) (r4 : Int) (w0 w : World) (hI : IsS109 w0 w g s0_0 s0_1 s0_2 s0_3 s0_4 s0_5) (hB : Below w0.heap.size w0 w) (hr1 : Kd.C (Kd.int .i64) w A1 l1.length l1) (hc1 : l1.length ≤ c1) (hf1 : ∀ ad, A1 = some ad → 0 < l1.length → ad.block ≠ g) (hr2 : Kd.C (Kd.int .i64) w A2 l2.length l2) (hc2 : l2.length ≤ c2) (hf2 : ∀ ad, A2 = some ad → 0 < l2.length → ad.block ≠ g) (h : field_GF_Dot.f k s0_0 s0_1 s0_2 s0_3 s0_4 s0_5 l1 l2 = some (r1, r2, r3, r4)) :
  Calls Try.prog 68 #[.pointer (some ⟨g, 0, none⟩), .slice A1 l1.length c1, .slice A2 l2.length c2] w fun e w' => e = .returned (.int .i64 r1) ∧ IsS109 w0 w' g r2 r3 s0_2 r4 s0_4 s0_5 ∧ Below w0.heap.size w0 w' ∧ KeepBut w w' g none := by
 by_cases hlt : (l2.length : Int) < (l1.length : Int)
 ·exact field_GF_Dot.calls_lt k g s0_0 s0_1 s0_2 s0_3 s0_4 s0_5 A1 c1 l1 A2 c2 l2 r1 r2 r3 r4 w0 w hI hB hr1 hc1 hf1 hr2 hc2 hf2 hlt h
 ·exact field_GF_Dot.calls_ge k g s0_0 s0_1 s0_2 s0_3 s0_4 s0_5 A1 c1 l1 A2 c2 l2 r1 r2 r3 r4 w0 w hI hB hr1 hc1 hf1 hr2 hc2 hf2 hlt h
end Go.Proofs.Ytkifipakikbhcaa.Gf
namespace Go.Proofs.Ytkifipakikbhcaa.Hand
open Ytkifipakikbhcaa.Ref
open Ytkifipakikbhcaa.Pg (peel_set.f peel_set.calls peel_mask.f peel_mask.calls peel_left.f peel_left.calls)
open Ytkifipakikbhcaa.Pm (peel_Graph.f peel_Graph.calls)
open Ytkifipakikbhcaa.Pc (slices_Contains_int_int.f slices_Contains_int_int.calls)
open Ytkifipakikbhcaa.Gf (IsS109 field_GF_Dot.f field_GF_Dot.calls field_GF_Div.f field_GF_Div.calls field_GF_Neg.f field_GF_Neg.calls)
open Go.RowKit YtkifipakikbhcaaW.PrintWords YtkifipakikbhcaaW.PrintLast YtkifipakikbhcaaW.PrintMore
attribute [local go_sem ↓] Go.wp_at_zero Go.wp_at_succ
theorem index_l0 (l : List Int) (a : Int) (hl : l.length ≤ 4611686018427387904) : ∀ (m k i : Nat), m = l.length - i → i ≤ l.length → m < k →
  ∃ r, Pc.slices_Index_int_int.l0 k l a (l.length : Int) (i : Int) = some r ∧ (0 ≤ r ↔ a ∈ l.drop i) := by
 intro m
 induction m with
 | zero =>
  intro k i hm hi hk
  obtain ⟨k, rfl⟩ : ∃ k', k = k' + 1 := ⟨k - 1, by omega⟩
  have h : i = l.length := by omega
  refine ⟨-1, by rw [Pc.slices_Index_int_int.l0, if_neg (by omega)], ?_⟩
  rw [h, List.drop_length]; simp
 | succ m ih =>
  intro k i hm hi hk
  obtain ⟨k, rfl⟩ : ∃ k', k = k' + 1 := ⟨k - 1, by omega⟩
  have h : i < l.length := by omega
  obtain ⟨r, hr, hmem⟩ := ih k (i + 1) (by omega) (by omega) (by omega)
  have hw : wrap64 ((i : Int) + 1) = ((i + 1 : Nat) : Int) := by unfold wrap64; omega
  have hd : l.drop i = rd l (i : Int) :: l.drop (i + 1) := by
   have := drop_cons (d := (0 : Int)) (i := (i : Int)) (l := l) (by omega) (by omega)
   rw [Int.toNat_natCast, show ((i : Int) + 1).toNat = i + 1 from by omega] at this
   exact this
  by_cases he : a = rd l (i : Int)
  ·refine ⟨i, by rw [Pc.slices_Index_int_int.l0, if_pos (by omega), if_pos (by omega), if_pos (by omega), if_pos he], ?_⟩
   rw [hd, ← he]; simp
  ·refine ⟨r, by rw [Pc.slices_Index_int_int.l0, if_pos (by omega), if_pos (by omega), if_pos (by omega), if_neg he, hw, hr], ?_⟩
   rw [hmem, hd]; simp [he]
theorem contains_f (l : List Int) (a : Int) (hl : l.length ≤ 4611686018427387904) : slices_Contains_int_int.f (l.length + 1) l a = some (decide (a ∈ l)) := by
 obtain ⟨r, hr, hm⟩ := index_l0 l a hl l.length (l.length + 1) 0 (by omega) (by omega) (by omega)
 unfold Pc.slices_Contains_int_int.f Pc.slices_Index_int_int.f
 have hr' : Pc.slices_Index_int_int.l0 (l.length + 1) l a (l.length : Int) 0 = some r := hr
 rw [hr', Option.bind_some]
 congr 1
 rw [List.drop_zero] at hm
 exact decide_eq_decide.2 hm
structure Fd where
 P : Int
 M : Int
 md : List Int
 q : Int
 ex : List Int
 lg : List Int
def gDot (F : Fd) (a b : List Int) : Option Int := (field_GF_Dot.f 4096 F.P F.M F.md F.q F.ex F.lg a b).bind fun r => if r.2 = (F.P, F.M, F.q) then some r.1 else none
def gDiv (F : Fd) (a b : Int) : Option Int := (field_GF_Div.f F.P F.M F.md F.q F.ex F.lg a b).bind fun r => if r.2.2 = (F.P, F.M, F.q) then some r.1 else none
def gNeg (F : Fd) (a : Int) : Option Int := (field_GF_Neg.f 4096 F.P F.M F.md F.q F.ex F.lg a).bind fun r => if r.2 = (F.P, F.M, F.q) then some r.1 else none
def lone (inn : List Bool) (i : Int) (l : List Int) : Bool := decide (i ∈ l) && !(l.any fun k => !decide (k = i) && inAt inn k)
def fillIn (F : Fd) (inn : List Bool) (i : Int) (out : List Int) : List (List Int) → List (List Int) → Option (List Int)
 | [], _ => some out
 | l :: ls, r :: rs => if lone inn i l = true then (if i < r.length then (gDot F r out).bind fun d => (gDiv F d (rd r i)).bind fun x => (gNeg F x).bind fun y => some (out.set i.toNat y) else none) else fillIn F inn i out ls rs
 | _ :: _, [] => none
def peelGo (F : Fd) (ch rows : List (List Int)) : Nat → List Int → List Bool → Option (List Int × List Bool)
 | 0, _, _ => none
 | n + 1, out, inn => if alone inn ch < 0 then some (out, inn) else (fillIn F inn (alone inn ch) out ch rows).bind fun o => peelGo F ch rows n o (inn.set (alone inn ch).toNat false)
def failsAt (F : Fd) (inn : List Bool) (out : List Int) : List (List Int) → List (List Int) → Option Bool
 | [], _ => some false
 | l :: ls, r :: rs => if (l.any fun k => inAt inn k) = true then failsAt F inn out ls rs else (gDot F r out).bind fun d => if d = 0 then failsAt F inn out ls rs else some true
 | _ :: _, [] => none
def clearAt : List Int → List Int → List Int
 | [], out => out
 | i :: l, out => clearAt l (out.set i.toNat 0)
def peelMain (F : Fd) (V : Int) (ch rows : List (List Int)) (wd er : List Int) : Option (List Int × List Int × Int) :=
 (peel_mask.f 4096 V ch er).bind fun inn =>
  if (er.all fun i => decide (0 ≤ i ∧ i < wd.length)) = true ∧ inn.length = wd.length ∧ (ch.all fun l => l.all fun i => decide (0 ≤ i ∧ i < wd.length)) = true ∧ ch.length ≤ 256 ∧ wd.length ≤ 256 ∧ er.length ≤ 256 ∧ 0 < wd.length ∧ (ch.all fun l => decide (l.length ≤ 256)) = true then
   (peelGo F ch rows (wd.length + 1) (clearAt er wd) inn).bind fun r => (failsAt F r.2 r.1 ch rows).bind fun b => if b = true then some ([], [], 12) else (peel_left.f 4096 r.2).map fun l => (r.1, l, 0)
  else none
structure PJ (F : Fd) (w0 : World) (g b13 b15 go co gi ci n : Nat) (W : World) (out : List Int) (inn : List Bool) : Prop where
 I : IsS109 w0 W g F.P F.M F.md F.q F.ex F.lg
 B : Below w0.heap.size w0 W
 c13 : W.cell? ⟨b13, 0, none⟩ = some (.pointer (some ⟨g, 0, none⟩))
 c15 : W.cell? ⟨b15, 0, none⟩ = some (.slice (some ⟨gi, 0, none⟩) n ci)
 o1 : Kd.R (Kd.int .i64) 3 W w0.heap.size (fun _ => True) (.slice (some ⟨go, 0, none⟩) n co) out
 o2 : Kd.R Kd.bool 4 W w0.heap.size (fun _ => True) (.slice (some ⟨gi, 0, none⟩) n ci) inn
 l1 : out.length = n
 l2 : inn.length = n
 n1 : g ≠ go
 n2 : g ≠ gi
 n3 : g ≠ b13
 n4 : g ≠ b15
 n5 : go ≠ gi
 n6 : go ≠ b13
 n7 : go ≠ b15
 n8 : gi ≠ b13
 n9 : gi ≠ b15
theorem PJ.step {F : Fd} {w0 : World} {g b13 b15 go co gi ci n : Nat} {W W' : World} {out : List Int} {inn : List Bool} (h : PJ F w0 g b13 b15 go co gi ci n W out inn) (hb : Below W.heap.size W W') : PJ F w0 g b13 b15 go co gi ci n W' out inn :=
 ⟨h.I.below hb, bsp h.B hb, cbl h.c13 hb, cbl h.c15 hb, Kd.R_below h.o1 hb, Kd.R_below h.o2 hb, h.l1, h.l2, h.n1, h.n2, h.n3, h.n4, h.n5, h.n6, h.n7, h.n8, h.n9⟩
theorem PJ.keep {F : Fd} {w0 : World} {g b13 b15 go co gi ci n : Nat} {W W' : World} {out : List Int} {inn : List Bool} (h : PJ F w0 g b13 b15 go co gi ci n W out inn) (hi : IsS109 w0 W' g F.P F.M F.md F.q F.ex F.lg) (hb : Below w0.heap.size w0 W') (hk : KeepBut W W' g none) : PJ F w0 g b13 b15 go co gi ci n W' out inn :=
 ⟨hi, hb, keep_cell hk h.c13 (fun e => h.n3 e.symm), keep_cell hk h.c15 (fun e => h.n4 e.symm), Kd.R_mono (Kd.R_keep (Kd.R_tight rfl h.o1) hk (fun k hk e => h.n1 (by rw [e] at hk; exact osi hk))) (fun _ _ => trivial), Kd.R_mono (Kd.R_keep (Kd.R_tight rfl h.o2) hk (fun k hk e => h.n2 (by rw [e] at hk; exact osi hk))) (fun _ _ => trivial), h.l1, h.l2, h.n1, h.n2, h.n3, h.n4, h.n5, h.n6, h.n7, h.n8, h.n9⟩
theorem PJ.putOut {F : Fd} {w0 : World} {g b13 b15 go co gi ci n : Nat} {W : World} {out : List Int} {inn : List Bool} (h : PJ F w0 g b13 b15 go co gi ci n W out inn) (i : Int) (x : Int) : PJ F w0 g b13 b15 go co gi ci n (W.setCell ⟨go, i.toNat, none⟩ (.int .i64 x)) (out.set i.toNat x) inn := by
 have hp := Kd.R_put (show Kd.R (Kd.int .i64) 3 W w0.heap.size (fun _ => True) (.slice (some ⟨go, 0, none⟩) out.length co) out by rw [h.l1]; exact h.o1) i x
 refine ⟨h.I.grown hp.2 ?_, bst h.B (Kd.R_base h.o1 go rfl), cell_grown hp.2 h.c13 ?_, cell_grown hp.2 h.c15 ?_, by rw [← h.l1]; exact hp.1, Kd.R_grown1 h.o2 rfl hp.2 ?_, by rw [List.length_set]; exact h.l1, h.l2, h.n1, h.n2, h.n3, h.n4, h.n5, h.n6, h.n7, h.n8, h.n9⟩
 ·exact fun e => h.n1 (osi e)
 ·exact fun e => h.n6 (osi e).symm
 ·exact fun e => h.n7 (osi e).symm
 ·exact fun e => h.n5 (osi e)
theorem PJ.putIn {F : Fd} {w0 : World} {g b13 b15 go co gi ci n : Nat} {W : World} {out : List Int} {inn : List Bool} (h : PJ F w0 g b13 b15 go co gi ci n W out inn) (i : Int) (x : Bool) : PJ F w0 g b13 b15 go co gi ci n (W.setCell ⟨gi, i.toNat, none⟩ (.bool x)) out (inn.set i.toNat x) := by
 have hp := Kd.R_put (show Kd.R Kd.bool 4 W w0.heap.size (fun _ => True) (.slice (some ⟨gi, 0, none⟩) inn.length ci) inn by rw [h.l2]; exact h.o2) i x
 refine ⟨h.I.grown hp.2 ?_, bst h.B (Kd.R_base h.o2 gi rfl), cell_grown hp.2 h.c13 ?_, cell_grown hp.2 h.c15 ?_, Kd.R_grown1 h.o1 rfl hp.2 ?_, by rw [← h.l2]; exact hp.1, h.l1, by rw [List.length_set]; exact h.l2, h.n1, h.n2, h.n3, h.n4, h.n5, h.n6, h.n7, h.n8, h.n9⟩
 ·exact fun e => h.n2 (osi e)
 ·exact fun e => h.n8 (osi e).symm
 ·exact fun e => h.n9 (osi e).symm
 ·exact fun e => h.n5 (osi e).symm
theorem PJ.dot {F : Fd} {w0 : World} {g b13 b15 go co gi ci n : Nat} {W : World} {out : List Int} {inn : List Bool} (h : PJ F w0 g b13 b15 go co gi ci n W out inn) {A : Option Addr} {c : Nat} {r : List Int} (hr : Kd.C (Kd.int .i64) w0 A r.length r) (hc : r.length ≤ c) {d : Int} (hd : gDot F r out = some d) :
  Calls Try.prog 68 #[.pointer (some ⟨g, 0, none⟩), .slice A r.length c, .slice (some ⟨go, 0, none⟩) n co] W fun e w' => e = .returned (.int .i64 d) ∧ IsS109 w0 w' g F.P F.M F.md F.q F.ex F.lg ∧ Below w0.heap.size w0 w' ∧ KeepBut W w' g none := by
 obtain ⟨⟨x, y1, y2, y3⟩, hx, hy⟩ := Option.bind_eq_some_iff.1 hd
 split at hy
 ·rename_i he
  have hy := osi hy
  injection he with e1 e2
  injection e2 with e2 e3
  subst e1 e2 e3 hy
  have ho : Kd.R (Kd.int .i64) 3 W w0.heap.size (fun _ => True) (.slice (some ⟨go, 0, none⟩) out.length co) out := by rw [h.l1]; exact h.o1
  have hc2 := field_GF_Dot.calls 4096 g F.P F.M F.md F.q F.ex F.lg A c r (some ⟨go, 0, none⟩) co out _ _ _ _ w0 W h.I h.B (Kd.C_below hr h.B) hc (C_ne hr h.I.ge) (Kd.R_reads' ho).2.2 (Kd.R_reads' ho).2.1 (fun ad e _ => by injection e with e; subst e; exact fun e => h.n1 e.symm) hx
  rw [h.l1] at hc2
  exact hc2
 ·exact absurd hy (by simp)
theorem PJ.div {F : Fd} {w0 : World} {g b13 b15 go co gi ci n : Nat} {W : World} {out : List Int} {inn : List Bool} (h : PJ F w0 g b13 b15 go co gi ci n W out inn) {a b d : Int} (hd : gDiv F a b = some d) :
  Calls Try.prog 67 #[.pointer (some ⟨g, 0, none⟩), .int .i64 a, .int .i64 b] W fun e w' => ∃ x : Int, e = .returned (.tuple #[.int .i64 d, .int .i64 x]) ∧ IsS109 w0 w' g F.P F.M F.md F.q F.ex F.lg ∧ Below w0.heap.size w0 w' ∧ KeepBut W w' g none := by
 obtain ⟨⟨x, z, y1, y2, y3⟩, hx, hy⟩ := Option.bind_eq_some_iff.1 hd
 split at hy
 ·rename_i he
  have hy := osi hy
  injection he with e1 e2
  injection e2 with e2 e3
  subst e1 e2 e3 hy
  exact (field_GF_Div.calls g F.P F.M F.md F.q F.ex F.lg a b _ _ _ _ _ w0 W h.I h.B hx).mono (fun e w' hh => ⟨_, hh⟩)
 ·exact absurd hy (by simp)
theorem PJ.neg {F : Fd} {w0 : World} {g b13 b15 go co gi ci n : Nat} {W : World} {out : List Int} {inn : List Bool} (h : PJ F w0 g b13 b15 go co gi ci n W out inn) {a d : Int} (hd : gNeg F a = some d) :
  Calls Try.prog 69 #[.pointer (some ⟨g, 0, none⟩), .int .i64 a] W fun e w' => e = .returned (.int .i64 d) ∧ IsS109 w0 w' g F.P F.M F.md F.q F.ex F.lg ∧ Below w0.heap.size w0 w' ∧ KeepBut W w' g none := by
 obtain ⟨⟨x, y1, y2, y3⟩, hx, hy⟩ := Option.bind_eq_some_iff.1 hd
 split at hy
 ·rename_i he
  have hy := osi hy
  injection he with e1 e2
  injection e2 with e2 e3
  subst e1 e2 e3 hy
  exact field_GF_Neg.calls 4096 g F.P F.M F.md F.q F.ex F.lg a _ _ _ _ w0 W h.I h.B hx
 ·exact absurd hy (by simp)
theorem fill_take {F : Fd} {inn : List Bool} {i : Int} {out : List Int} {l : List Int} {ls rows : List (List Int)} {j : Nat} {o : List Int} (h : fillIn F inn i out (l :: ls) (rows.drop j) = some o) (hl : lone inn i l = true) :
  j < rows.length ∧ i < (rd_L1 rows (j : Int)).length ∧ ∃ d x y, gDot F (rd_L1 rows (j : Int)) out = some d ∧ gDiv F d (rd (rd_L1 rows (j : Int)) i) = some x ∧ gNeg F x = some y ∧ o = out.set i.toNat y := by
 by_cases hj : j < rows.length
 ·rw [rows_drop hj, fillIn, if_pos hl] at h
  split at h
  ·rename_i hi
   obtain ⟨d, hd, h⟩ := Option.bind_eq_some_iff.1 h
   obtain ⟨x, hx, h⟩ := Option.bind_eq_some_iff.1 h
   obtain ⟨y, hy, h⟩ := Option.bind_eq_some_iff.1 h
   exact ⟨hj, hi, d, x, y, hd, hx, hy, (osi h).symm⟩
  ·exact absurd h (by simp)
 ·rw [List.drop_eq_nil_of_le (by omega)] at h
  simp [fillIn] at h
theorem drawn0_below' {W W' : World} (h : Drawn0 W W') : Below W.heap.size W W' := by
 obtain ⟨n, rfl⟩ := h
 exact pbn (Below.refl _ _) n
theorem PJ.far {F : Fd} {w0 : World} {g b13 b15 go co gi ci n : Nat} {W : World} {out : List Int} {inn : List Bool} (h : PJ F w0 g b13 b15 go co gi ci n W out inn) (b : Nat) (u : Value) (hd : w0.heap.size ≤ b ∧ b ≠ g ∧ b ≠ go ∧ b ≠ gi ∧ b ≠ b13 ∧ b ≠ b15) : PJ F w0 g b13 b15 go co gi ci n (W.setCell ⟨b, 0, none⟩ u) out inn := by
 have hk := (KeepBut.refl W b none).set_ 0 u
 exact ⟨h.I.far (fun e => hd.2.1 e.symm) u, bst h.B hd.1, keep_cell hk h.c13 (fun e => hd.2.2.2.2.1 e.symm), keep_cell hk h.c15 (fun e => hd.2.2.2.2.2 e.symm), Kd.R_mono (Kd.R_keep (Kd.R_tight rfl h.o1) hk (fun k hk e => hd.2.2.1 (by rw [e] at hk; exact osi hk))) (fun _ _ => trivial), Kd.R_mono (Kd.R_keep (Kd.R_tight rfl h.o2) hk (fun k hk e => hd.2.2.2.1 (by rw [e] at hk; exact osi hk))) (fun _ _ => trivial), h.l1, h.l2, h.n1, h.n2, h.n3, h.n4, h.n5, h.n6, h.n7, h.n8, h.n9⟩
theorem fill_skip {F : Fd} {inn : List Bool} {i : Int} {out : List Int} {l : List Int} {ls rows : List (List Int)} {j : Nat} {o : List Int} (h : fillIn F inn i out (l :: ls) (rows.drop j) = some o) (hl : lone inn i l = false) : fillIn F inn i out ls (rows.drop (j + 1)) = some o := by
 rw [← List.tail_drop]
 cases hr : rows.drop j with
 | nil => rw [hr] at h; simp [fillIn] at h
 | cons r rs =>
  rw [hr, fillIn, if_neg (by simp [hl])] at h
  exact h
theorem closure66' {F : Fd} {w0 : World} {g b13 go co gi ci n : Nat} {W : World} {out : List Int} {inn : List Bool} (x i : Int) (b b15 : Nat) (h : PJ F w0 g b13 b15 go co gi ci n W out inn) (hb : W.heap[b]? = some (.cells #[.int .i64 i] 3 (0, 0))) (hx : 0 ≤ x ∧ x < (n : Int)) :
  Calls Try.prog 66 (#[.int .i64 x] ++ #[.pointer (some ⟨b, 0, none⟩), .pointer (some ⟨b15, 0, none⟩)]) W fun e W' => e = .returned (.bool (!decide (x = i) && inAt inn x)) ∧ (PJ F w0 g b13 b15 go co gi ci n W' out inn ∧ W'.heap[b]? = some (.cells #[.int .i64 i] 3 (0, 0))) := by
 refine (closure66 x i b b15 (some ⟨gi, 0, none⟩) ci inn W ((kce hb 0).trans rfl) (by rw [h.l2]; exact h.c15) (Kd.R_reads' (show Kd.R Kd.bool 4 W w0.heap.size (fun _ => True) (.slice (some ⟨gi, 0, none⟩) inn.length ci) inn by rw [h.l2]; exact h.o2)).2.2 hx.1 (by rw [h.l2]; exact hx.2)).mono ?_
 rintro e W' ⟨rfl, rfl⟩
 exact ⟨rfl, h, hb⟩
theorem aloneRow_lt (inn : List Bool) (n : Int) : ∀ (l : List Int) (only o : Int), aloneRow inn l only = some o → (∀ i ∈ l, i < n) → only < n → o < n
 | [], only, o, h, _, h2 => by rw [aloneRow] at h; have := osi h; omega
 | i :: l, only, o, h, h1, h2 => by
  rw [aloneRow] at h
  split at h
  ·split at h
   ·simp at h
   ·exact aloneRow_lt inn n l i o h (fun j hj => h1 j (List.mem_cons_of_mem _ hj)) (h1 i (List.mem_cons_self ..))
  ·exact aloneRow_lt inn n l only o h (fun j hj => h1 j (List.mem_cons_of_mem _ hj)) h2
theorem alone_lt (inn : List Bool) (n : Int) (hn : 0 ≤ n) : ∀ (ls : List (List Int)), (∀ l ∈ ls, ∀ i ∈ l, 0 ≤ i ∧ i < n) → alone inn ls < n
 | [], _ => by rw [alone]; omega
 | l :: ls, h => by
  have ih := alone_lt inn n hn ls (fun x hx => h x (List.mem_cons_of_mem _ hx))
  rw [alone]
  cases hr : aloneRow inn l (-1) with
  | none => exact ih
  | some o =>
   simp only []
   split
   ·exact aloneRow_lt inn n l (-1) o hr (fun i hi => (h l (List.mem_cons_self ..) i hi).2) (by omega)
   ·exact ih
theorem fails_skip {F : Fd} {inn : List Bool} {out : List Int} {l : List Int} {ls rows : List (List Int)} {j : Nat} {o : Bool} (h : failsAt F inn out (l :: ls) (rows.drop j) = some o) (hl : l.any (fun k => inAt inn k) = true) : failsAt F inn out ls (rows.drop (j + 1)) = some o := by
 rw [← List.tail_drop]
 cases hr : rows.drop j with
 | nil => rw [hr] at h; simp [failsAt] at h
 | cons r rs =>
  rw [hr, failsAt, if_pos hl] at h
  exact h
theorem fails_take {F : Fd} {inn : List Bool} {out : List Int} {l : List Int} {ls rows : List (List Int)} {j : Nat} {o : Bool} (h : failsAt F inn out (l :: ls) (rows.drop j) = some o) (hl : l.any (fun k => inAt inn k) = false) :
  j < rows.length ∧ ∃ d, gDot F (rd_L1 rows (j : Int)) out = some d ∧ (if d = 0 then failsAt F inn out ls (rows.drop (j + 1)) = some o else o = true) := by
 by_cases hj : j < rows.length
 ·rw [rows_drop hj, failsAt, if_neg (by simp [hl])] at h
  obtain ⟨d, hd, h⟩ := Option.bind_eq_some_iff.1 h
  refine ⟨hj, d, hd, ?_⟩
  split at h
  ·rename_i e; rw [if_pos e]; exact h
  ·rename_i e; rw [if_neg e]; exact (osi h).symm
 ·rw [List.drop_eq_nil_of_le (by omega)] at h
  simp [failsAt] at h
theorem closure70' {F : Fd} {w0 : World} {g b13 b15 go co gi ci n : Nat} {W : World} {out : List Int} {inn : List Bool} (x : Int) (h : PJ F w0 g b13 b15 go co gi ci n W out inn) (hx : 0 ≤ x ∧ x < (n : Int)) :
  Calls Try.prog 70 (#[.int .i64 x] ++ #[.pointer (some ⟨b15, 0, none⟩)]) W fun e W' => e = .returned (.bool (inAt inn x)) ∧ PJ F w0 g b13 b15 go co gi ci n W' out inn := by
 refine (closure70 x b15 (some ⟨gi, 0, none⟩) ci inn W (by rw [h.l2]; exact h.c15) (Kd.R_reads' (show Kd.R Kd.bool 4 W w0.heap.size (fun _ => True) (.slice (some ⟨gi, 0, none⟩) inn.length ci) inn by rw [h.l2]; exact h.o2)).2.2 hx.1 (by rw [h.l2]; exact hx.2)).mono ?_
 rintro e W' ⟨rfl, rfl⟩
 exact ⟨rfl, h⟩
theorem peel_ok (P M : Int) (A0 : Option Addr) (c0 : Nat) (md : List Int) (cols : Int) (A1 : Option Addr) (c1 : Nat) (rows : List (List Int)) (A2 : Option Addr) (c2 : Nat) (wd : List Int) (A3 : Option Addr) (c3 : Nat) (er : List Int) (w : World)
  (hr0 : Kd.C (Kd.int .i64) w A0 md.length md) (hc0 : md.length ≤ c0) (hr1 : Kd.C (Kd.slice 3 (Kd.int .i64)) w A1 rows.length rows) (hc1 : rows.length ≤ c1) (hr2 : Kd.C (Kd.int .i64) w A2 wd.length wd) (hc2 : wd.length ≤ c2) (hr3 : Kd.C (Kd.int .i64) w A3 er.length er) (hc3 : er.length ≤ c3)
  (V : Int) (ch : List (List Int)) (hg : peel_Graph.f 4096 P M md cols rows = some (V, ch, 0)) (q : Int) (ex lg : List Int) (hn : newO P M md = some (some (q, ex, lg))) (hw : (wd.length : Int) = cols) (hwl : wd.length ≤ 1000000) (hany : wd.any (fun y => !isB q y) = false) (hset : peel_set.f 4096 er cols = some true)
  (r1 r2 : List Int) (r3 : Int) (hm : peelMain ⟨P, M, md, q, ex, lg⟩ V ch rows wd er = some (r1, r2, r3)) :
  Calls Try.prog 30 #[.agg #[.int .i64 P, .int .i64 M, .slice A0 md.length c0], .agg #[.int .i64 cols, .slice A1 rows.length c1], .slice A2 wd.length c2, .slice A3 er.length c3] w fun e w' => ∃ v1 v2 : Value, e = .returned (.tuple #[v1, v2, .int .i64 r3]) ∧ Kd.R (Kd.int .i64) 3 w' w.heap.size (fun _ => True) v1 r1 ∧ Kd.R (Kd.int .i64) 3 w' w.heap.size (fun _ => True) v2 r2 ∧ Below w.heap.size w w' := by
 have hu24 := Try.underlying24
 have hu27 := Try.underlying27
 have hu31 := Try.underlying31
 have HR0 := ak hr0
 have HC0 := ak hc0
 have HR1 := ak hr1
 have HC1 := ak hc1
 have HR2 := ak hr2
 have HC2 := ak hc2
 have HR3 := ak hr3
 have HC3 := ak hc3
 have HG := ak hg
 have HN := ak hn
 have HW := ak hw
 have HWL := ak hwl
 have HANY := ak hany
 have HSET := ak hset
 unfold peelMain at hm
 obtain ⟨inn, hmask, hm⟩ := Option.bind_eq_some_iff.1 hm
 by_cases hcnd : (er.all fun i => decide (0 ≤ i ∧ i < wd.length)) = true ∧ inn.length = wd.length ∧ (ch.all fun l => l.all fun i => decide (0 ≤ i ∧ i < wd.length)) = true ∧ ch.length ≤ 256 ∧ wd.length ≤ 256 ∧ er.length ≤ 256 ∧ 0 < wd.length ∧ (ch.all fun l => decide (l.length ≤ 256)) = true
 rotate_left
 ·rw [if_neg hcnd] at hm; exact absurd hm (by simp)
 rw [if_pos hcnd] at hm
 have HMASK := ak hmask
 have HMAIN := ak hm
 have HER := ak (show ∀ i ∈ er, 0 ≤ i ∧ i < (wd.length : Int) from fun i hi => odt (List.all_eq_true.1 hcnd.1 i hi))
 have HCHI := ak (show ∀ l ∈ ch, ∀ i ∈ l, 0 ≤ i ∧ i < (wd.length : Int) from fun l hl i hi => odt (List.all_eq_true.1 (List.all_eq_true.1 hcnd.2.2.1 l hl) i hi))
 have HINN := ak hcnd.2.1
 have HSZ := ak hcnd.2.2.2
 have HLL := ak (show ∀ l ∈ ch, l.length ≤ 256 from fun l hl => odt (List.all_eq_true.1 hcnd.2.2.2.2.2.2.2 l hl))
 have t7 : ((wd.length : Int) != cols) = false := by simp [hw]
 clear hr0 hc0 hr1 hc1 hr2 hc2 hr3 hc3 hg hn hw hwl hany hset hm hmask hcnd
 go_enter Try.func30, Try.ntmps30
 go_upto_region 1 with (first | ((with_reducible refine gate_dst (N := 4) rfl ?_); refine box_event ?hg (N := 4) ?hd (cs := #[.int .i64 P, .int .i64 M, .slice A0 md.length c0]) (t := 24) ?hr ?_; (case hd => rfl); (case hg => rfl); (case hr => first | (go_simp; done) | (go_simp; rfl)); intro b4 hb4 w1 hbox hb; have HB4 := ak hbox; have HB := ak hb; clear hb4 hbox hb) | ((with_reducible refine gate_dst (N := 5) rfl ?_); refine box_event ?hg (N := 5) ?hd (cs := #[.int .i64 cols, .slice A1 rows.length c1]) (t := 27) ?hr ?_; (case hd => rfl); (case hg => rfl); (case hr => first | (go_simp; done) | (go_simp; rfl)); intro b5 hb5 w2 hbox hb; have HB5 := ak hbox; have HB4' := ak (blk_grown HB4.out (grown_of_below hb none) (by simp)); have HB2 := ak (bsp HB.out hb); clear hb5 hbox hb HB HB4))
 have hz0 : w2.cell? ⟨b4, 0, none⟩ = some (.int .i64 P) := (kce HB4'.out 0).trans rfl
 have hz1 : w2.cell? ⟨b4, 1, none⟩ = some (.int .i64 M) := (kce HB4'.out 1).trans rfl
 have hz2 : w2.cell? ⟨b4, 2, none⟩ = some (.slice A0 md.length c0) := (kce HB4'.out 2).trans rfl
 have hm0 : w2.cell? ⟨b5, 0, none⟩ = some (.int .i64 cols) := (kce HB5.out 0).trans rfl
 have hm1 : w2.cell? ⟨b5, 1, none⟩ = some (.slice A1 rows.length c1) := (kce HB5.out 1).trans rfl
 go_upto_region 4 with (first | (go_at_call 14; (with_reducible refine (peel_Graph.calls 4096 P M A0 c0 md cols A1 c1 rows V ch 0 w2 (Kd.C_below HR0.out HB2.out) HC0.out (Kd.C_below HR1.out HB2.out) HC1.out HG.out).mono ?_); rintro e w3 ⟨v1, rfl, hS, hB⟩; obtain ⟨AG, cG, eG⟩ := Kd.S_slice hS; subst eG; have HS := ak hS; replace hz0 := cbl hz0 hB; replace hz1 := cbl hz1 hB; replace hz2 := cbl hz2 hB; replace hm0 := cbl hm0 hB; replace hm1 := cbl hm1 hB; have HB3 := ak (bsp HB2.out hB); clear hS hB))
 have hb4 := bal (Below.refl w3.heap.size w3) (Obj.cells #[Value.int IntKind.i64 V, Value.slice AG ch.length cG] 31)
 have ht0 : (w3.alloc (Obj.cells #[Value.int IntKind.i64 V, Value.slice AG ch.length cG] 31)).cell? ⟨w3.heap.size, 0, none⟩ = some (.int .i64 V) := (kce (heap_alloc_new w3 _) 0).trans rfl
 have ht1 : (w3.alloc (Obj.cells #[Value.int IntKind.i64 V, Value.slice AG ch.length cG] 31)).cell? ⟨w3.heap.size, 1, none⟩ = some (.slice AG ch.length cG) := (kce (heap_alloc_new w3 _) 1).trans rfl
 replace hz0 := cbl hz0 hb4
 replace hz1 := cbl hz1 hb4
 replace hz2 := cbl hz2 hb4
 replace hm0 := cbl hm0 hb4
 replace hm1 := cbl hm1 hb4
 have HS4 := ak (Kd.C_below (Kd.S_reads' HS.out).2.2 hb4)
 have HSC := ak (Kd.S_reads' HS.out).2.1
 have HBX := ak (bsp HB3.out hb4)
 clear hb4 HS HB3 HB2
 generalize w3.alloc (Obj.cells #[Value.int IntKind.i64 V, Value.slice AG ch.length cG] 31) = w4 at hz0 hz1 hz2 hm0 hm1 ht0 ht1 HS4 HBX ⊢
 generalize w3.heap.size = b11 at ht0 ht1 ⊢
 go_upto_region 7 with (first | (go_at_call 60; (with_reducible refine (New_some P M A0 c0 md q ex lg w4 (Kd.C_below HR0.out HBX.out) HC0.out HN.out).mono ?_); rintro e w5 ⟨g, rfl, w0, hI, hB1, hB2⟩; have HI := ak hI; have HB1 := ak hB1; have HB2 := ak hB2; clear hI hB1 hB2))
 have hb5 := bal (Below.refl w5.heap.size w5) (Obj.cells #[Value.pointer (some ⟨g, 0, none⟩)] 83)
 have hp0 : (w5.alloc (Obj.cells #[Value.pointer (some ⟨g, 0, none⟩)] 83)).cell? ⟨w5.heap.size, 0, none⟩ = some (.pointer (some ⟨g, 0, none⟩)) := (kce (heap_alloc_new w5 _) 0).trans rfl
 have HI6 := ak (HI.out.below hb5)
 have HB6 := ak (bsp HB2.out hb5)
 have HNE := ak (show g ≠ w5.heap.size by have := HI.out.lt; omega)
 have hz := And.intro hm0 (And.intro hm1 (And.intro ht0 ht1))
 have HZ0 := ak (show w0.cell? ⟨b5, 0, none⟩ = some (.int .i64 cols) ∧ w0.cell? ⟨b5, 1, none⟩ = some (.slice A1 rows.length c1) ∧ w0.cell? ⟨b11, 0, none⟩ = some (.int .i64 V) ∧ w0.cell? ⟨b11, 1, none⟩ = some (.slice AG ch.length cG) from ⟨cbl hm0 HB1.out, cbl hm1 HB1.out, cbl ht0 HB1.out, cbl ht1 HB1.out⟩)
 have HCH := ak (Kd.C_below HS4.out HB1.out)
 have HBW := ak (bsp HBX.out HB1.out)
 clear hb5 hz hz0 hz1 hz2 hm0 hm1 ht0 ht1 HI HB2 HS4 HBX HB1
 generalize w5.alloc (Obj.cells #[Value.pointer (some ⟨g, 0, none⟩)] 83) = w6 at hp0 HI6 HB6 ⊢
 generalize w5.heap.size = b13 at hp0 HNE ⊢
 have HP0 := ak hp0
 clear hp0
 have hm0 := cbl HZ0.out.1 HB6.out
 have HCF := ak (ContainsFunc_Int 62 eg62 #[.pointer (some ⟨b13, 0, none⟩)] (fun W => IsS109 w0 W g P M md q ex lg ∧ Below w0.heap.size w0 W ∧ W.cell? ⟨b13, 0, none⟩ = some (.pointer (some ⟨g, 0, none⟩))) A2 c2 wd (fun y => !isB q y) w6 w0 (Kd.C_below HR2.out HBW.out) ⟨HI6.out, HB6.out, HP0.out⟩ (fun W h => h.2.1) (fun x W hx h => closure62 x g b13 P M md q ex lg w0 W (fun e => HNE.out e.symm) h.1 h.2.1 h.2.2))
 rw [HANY.out] at HCF
 go_upto_region 11 with (first | (go_at_call 61; (with_reducible refine HCF.out.mono ?_); rintro e w7 ⟨rfl, hI, hB, hc⟩; have HI7 := ak hI; have HB7 := ak hB; have HP7 := ak hc; clear hI hB hc))
 clear hm0 HI6 HB6 HP0 HCF
 have hm0 := cbl HZ0.out.1 HB7.out
 go_upto_region 13 with (first | (go_at_call 48; (with_reducible refine (peel_set.calls 4096 A3 c3 er cols true w7 (Kd.C_below (Kd.C_below HR3.out HBW.out) HB7.out) HC3.out HSET.out).mono ?_); rintro e w8 ⟨rfl, hd⟩; have HD := ak (drawn0_below' hd); clear hd))
 clear hm0
 have HI8 := ak (HI7.out.below HD.out)
 have HB8 := ak (bsp HB7.out HD.out)
 have HP8 := ak (cbl HP7.out HD.out)
 clear HI7 HB7 HP7 HD
 go_upto_region 14 with (first | (go_at_call 64; (with_reducible refine (Clone_calls A2 c2 wd w8 (Kd.C_below (Kd.C_below HR2.out HBW.out) HB8.out) HC2.out HWL.out).mono ?_); rintro e w9 ⟨v14, rfl, hR, hB⟩; have HO9 := ak hR; have HBc := ak hB; clear hR hB))
 obtain ⟨go, co, e14, hgo1, hgo2, -⟩ := Kd.R_form HO9.out HSZ.out.2.2.2.1
 subst e14
 have HI9 := ak (HI8.out.below HBc.out)
 have HB9 := ak (bsp HB8.out HBc.out)
 have HP9 := ak (cbl HP8.out HBc.out)
 have HG1 := ak (show g < w8.heap.size from HI8.out.lt)
 have HG2 := ak (show b13 < w8.heap.size from World.block_lt_of_cell? _ _ HP8.out)
 have HGO := ak (And.intro hgo1 hgo2)
 have HS8 := ak HB8.out.size
 clear hgo1 hgo2 HI8 HB8 HP8
 have ht0 := cbl HZ0.out.2.2.1 HB9.out
 have ht1 := cbl HZ0.out.2.2.2 HB9.out
 go_upto_region 15 with (first | (go_at_call 50; (with_reducible refine (peel_mask.calls 4096 V AG cG ch A3 c3 er inn w9 (Kd.C_below HCH.out HB9.out) HSC.out (Kd.C_below (Kd.C_below HR3.out HBW.out) HB9.out) HC3.out HMASK.out).mono ?_); rintro e w10 ⟨v63, rfl, hR, hB⟩; obtain ⟨gi, ci, e63, hgi1, hgi2, -⟩ := Kd.R_form hR (by rw [HINN.out]; exact HSZ.out.2.2.2.1); rw [HINN.out] at e63; subst e63; have HM10 := ak hR; have HBd := ak hB; have HGI := ak (And.intro hgi1 hgi2); clear hR hB hgi1 hgi2))
 have hb := bal (Below.refl w10.heap.size w10) (Obj.cells #[Value.slice (some ⟨gi, 0, none⟩) wd.length ci] 73)
 have hc15 : (w10.alloc (Obj.cells #[Value.slice (some ⟨gi, 0, none⟩) wd.length ci] 73)).cell? ⟨w10.heap.size, 0, none⟩ = some (.slice (some ⟨gi, 0, none⟩) wd.length ci) := (kce (heap_alloc_new w10 _) 0).trans rfl
 have hj : PJ ⟨P, M, md, q, ex, lg⟩ w0 g b13 w10.heap.size go co gi ci wd.length (w10.alloc (Obj.cells #[Value.slice (some ⟨gi, 0, none⟩) wd.length ci] 73)) wd inn := by
  have hgo := HGO.out
  have hgi := HGI.out
  have h1 := HG1.out
  have h2 := HG2.out
  have hs9 := HBc.out.size
  have hs10 := HBd.out.size
  have hs8 := HB9.out.size
  exact ⟨(HI9.out.below HBd.out).below hb, bsp (bsp HB9.out HBd.out) hb, cbl (cbl HP9.out HBd.out) hb, hc15, Kd.R_below (Kd.R_below (Kd.R_lower HO9.out HS8.out) HBd.out) hb, Kd.R_below (Kd.R_lower HM10.out hs8) hb, rfl, HINN.out, by omega, by omega, HNE.out, by omega, by omega, by omega, by omega, by omega, by omega⟩
 have HJ := ak hj
 generalize w10.alloc (Obj.cells #[Value.slice (some ⟨gi, 0, none⟩) wd.length ci] 73) = wA at HJ ⊢
 generalize w10.heap.size = b15 at HJ ⊢
 clear hj hc15 hb ht0 ht1 HI9 HB9 HP9 HG1 HG2 HGO HGI HS8 HM10 HBd HBc HO9 HNE
 obtain ⟨n, hn⟩ : ∃ n, wd.length = n := ⟨_, rfl⟩
 rw [hn] at HJ HCHI HER HINN HSZ ⊢
 have HLN := ak hn
 clear hn t7
 go_wp2
 go_loopg [66] er.length (fun gk v66 w' => ∃ (m : Nat) (out : List Int), v66 = .int .i64 m ∧ Aside0 (m ≤ er.length ∧ gk = er.length - m ∧ clearAt (er.drop m) out = clearAt er wd) ∧ Aside0 (PJ ⟨P, M, md, q, ex, lg⟩ w0 g b13 b15 go co gi ci n w' out inn))
 case atStart => exact ⟨0, wd, rfl, ⟨by simp, by simp, by simp⟩, HJ⟩
 case round =>
  clear HJ
  obtain ⟨m, out, rfl, HM, HJ⟩ := hrel
  by_cases hlt : (m : Int) < (er.length : Int)
  ·have t1 := eq_true hlt
   have t2 : (0 ≤ (m : Int)) = True := eq_true (Int.natCast_nonneg m)
   obtain ⟨ae, eae, hxe⟩ := Kd.at_int (Kd.C_below (Kd.C_below HR3.out HBW.out) HJ.out.B) m (of_eq_true t2) hlt
   subst eae
   obtain ⟨x, hx⟩ : ∃ x, rd er (m : Int) = x := ⟨_, rfl⟩
   rw [hx, Int.toNat_natCast] at hxe
   have HXI := ak (HER.out x (by rw [← hx]; exact rd_memInt (by omega) hlt))
   have HX := ak hx
   have HLT := ak hlt
   clear hx hlt
   have i0 := eq_true HXI.out.1
   have i1 := eq_true HXI.out.2
   obtain ⟨hcm, hfm⟩ := Kd.R_cell 0 (show Kd.R (Kd.int .i64) 3 wr w0.heap.size (fun _ => True) (.slice (some ⟨go, 0, none⟩) out.length co) out by rw [HJ.out.l1]; exact HJ.out.o1) x HXI.out.1 (by rw [HJ.out.l1]; exact HXI.out.2)
   go_wp2
   have HJ2 := ak (HJ.out.putOut x 0)
   go_roundg (er.length - (m + 1))
   case measure => have := HM.out.2.1; have := HLT.out; omega
   case rel =>
    have h := HM.out
    have h2 := HLT.out
    have h3 := HSZ.out
    refine ⟨m + 1, out.set x.toNat 0, ?_, ⟨by omega, rfl, ?_⟩, HJ2⟩
    ·rw [wrap64_succ' (n := 257) (by omega) (by omega) (by omega)]; rfl
    ·have hd := drop_cons (d := (0 : Int)) (i := (m : Int)) (l := er) (by omega) h2
     rw [Int.toNat_natCast, show ((m : Int) + 1).toNat = m + 1 from by omega, show er.getD m 0 = x from by rw [← HX.out]; rfl] at hd
     rw [← h.2.2, hd, clearAt]
  ·have t1 := eq_false hlt
   have HLT := ak hlt
   have HOUT := ak (show out = clearAt er wd by
    have h := HM.out
    rw [← h.2.2, show m = er.length by omega, List.drop_length, clearAt])
   clear hlt
   have ht0 := cbl HZ0.out.2.2.1 HJ.out.B
   have ht1 := cbl HZ0.out.2.2.2 HJ.out.B
   have hc15 := HJ.out.c15
   have hal := alone_calls V AG cG ch (some ⟨gi, 0, none⟩) ci inn wr (Kd.C_below HCH.out HJ.out.B) HSC.out (Kd.R_reads' (show Kd.R Kd.bool 4 wr w0.heap.size (fun _ => True) (.slice (some ⟨gi, 0, none⟩) inn.length ci) inn by rw [HJ.out.l2]; exact HJ.out.o2)).2.2 (by have h := (Kd.R_reads' HJ.out.o2).2.1; rw [HJ.out.l2]; exact h) (by rw [HJ.out.l2]; exact HCHI.out) (Nat.le_trans HSZ.out.1 (by decide))
   rw [HJ.out.l2] at hal
   have HAL := ak hal
   clear hal
   rw [← HOUT.out] at HMAIN
   clear HOUT HM HLT
   go_upto_block 1 with (first | (go_at_call 49; (with_reducible refine HAL.out.mono ?_); rintro e w11 ⟨rfl, hB⟩; have HJ11 := ak (HJ.out.step hB); clear hB))
   obtain ⟨⟨o2, i2⟩, hgo, hm⟩ := Option.bind_eq_some_iff.1 HMAIN.out
   obtain ⟨bf, hfail, hm⟩ := Option.bind_eq_some_iff.1 hm
   have HGO := ak hgo
   have HFAIL := ak hfail
   have HEND := ak hm
   clear hgo hfail hm HMAIN
   have hbk : (w11.alloc (Obj.cells #[Value.int IntKind.i64 (alone inn ch)] 3)).heap[w11.heap.size]? = some (.cells #[.int .i64 (alone inn ch)] 3 (0, 0)) := heap_alloc_new w11 _
   have HBK := ak hbk
   have HJ12 := ak (HJ11.out.step (bal (Below.refl w11.heap.size w11) (Obj.cells #[Value.int IntKind.i64 (alone inn ch)] 3)))
   have hd1 : g < w11.heap.size := HJ11.out.I.lt
   have hd2 : go < w11.heap.size := Kd.R_lt HJ11.out.o1 go rfl
   have hd3 : gi < w11.heap.size := Kd.R_lt HJ11.out.o2 gi rfl
   have HDD := ak (show w0.heap.size ≤ w11.heap.size ∧ w11.heap.size ≠ g ∧ w11.heap.size ≠ go ∧ w11.heap.size ≠ gi from ⟨HJ11.out.B.size, by omega, by omega, by omega⟩)
   generalize w11.alloc (Obj.cells #[Value.int IntKind.i64 (alone inn ch)] 3) = w12 at HBK HJ12 ⊢
   generalize w11.heap.size = b18 at HBK HDD ⊢
   clear hbk hd1 hd2 hd3 HJ11 HAL HJ ht0 ht1 hc15 t1
   go_loopg [18] (wd.length + 1) (fun gk v18 w' => ∃ (b18 : Nat) (out : List Int) (inn : List Bool), v18 = .pointer (some ⟨b18, 0, none⟩) ∧ Aside0 (peelGo ⟨P, M, md, q, ex, lg⟩ ch rows gk out inn = some (o2, i2)) ∧ Aside0 (PJ ⟨P, M, md, q, ex, lg⟩ w0 g b13 b15 go co gi ci n w' out inn) ∧ Aside0 (w'.heap[b18]? = some (.cells #[.int .i64 (alone inn ch)] 3 (0, 0))) ∧ Aside0 (w0.heap.size ≤ b18 ∧ b18 ≠ g ∧ b18 ≠ go ∧ b18 ≠ gi))
   case atStart => exact ⟨b18, out, inn, rfl, HGO, HJ12, HBK, HDD⟩
   case round =>
    clear HGO HJ12 HBK HDD
    obtain ⟨b, out1, inn1, rfl, HGO, HJ, HBK, HDD⟩ := hrel
    cases gk with
    | zero => exact absurd HGO.out (by simp [peelGo])
    | succ gk =>
     have hgo := HGO.out
     rw [peelGo] at hgo
     obtain ⟨al, hal⟩ : ∃ x, alone inn1 ch = x := ⟨_, rfl⟩
     rw [hal] at hgo HBK
     have HAL := ak hal
     clear hal
     have hc18 : wr.cell? ⟨b, 0, none⟩ = some (.int .i64 al) := (kce HBK.out 0).trans rfl
     by_cases hneg : al < 0
     ·rw [if_pos hneg] at hgo
      have hgo := osi hgo
      injection hgo with e1 e2
      subst e1 e2
      have t1 : decide (al ≥ 0) = false := dff (by omega)
      have t2 := eq_false (show ¬ 0 ≤ al by omega)
      have t3 : decide (0 ≤ al) = false := dff (by omega)
      clear hneg
      have ht1 := cbl HZ0.out.2.2.2 HJ.out.B
      go_wp2_with (fail)
      clear hc18 ht1 HBK HDD
      go_loopg [134] ch.length (fun gk v134 w' => ∃ j : Nat, v134 = .int .i64 j ∧ Aside0 (j ≤ ch.length ∧ gk = ch.length - j ∧ failsAt ⟨P, M, md, q, ex, lg⟩ inn1 out1 (ch.drop j) (rows.drop j) = some bf) ∧ Aside0 (PJ ⟨P, M, md, q, ex, lg⟩ w0 g b13 b15 go co gi ci n w' out1 inn1))
      case atStart => exact ⟨0, rfl, ⟨by simp, by simp, by rw [List.drop_zero, List.drop_zero]; exact HFAIL.out⟩, HJ⟩
      case round =>
       clear HJ
       obtain ⟨j, rfl, HN3, HJ3⟩ := hrel
       by_cases hlt : (j : Int) < (ch.length : Int)
       ·have t4 := eq_true hlt
        have t5 : (0 ≤ (j : Int)) = True := eq_true (Int.natCast_nonneg j)
        obtain ⟨ad, Al, cl, eA, hx, hc0, hr0⟩ := at_L1 HCH.out j (of_eq_true t5) hlt
        replace hx := pcb HJ3.out.B hx
        subst eA
        obtain ⟨l, hl⟩ : ∃ x, rd_L1 ch (j : Int) = x := ⟨_, rfl⟩
        rw [hl] at hx hc0 hr0
        rw [Int.toNat_natCast] at hx
        have HL := ak hl
        have HLT := ak hlt
        have HCl := ak hc0
        have HRl0 := ak hr0
        have HMEM := ak (show l ∈ ch by rw [← hl]; exact rd_memRow (by omega) hlt)
        have hfl := HN3.out.2.2
        rw [rows_drop (by omega : j < ch.length), hl] at hfl
        have HFL := ak hfl
        clear hl hlt hc0 hr0 hfl
        cases hany : l.any (fun k => inAt inn1 k) with
        | true =>
         have HANY2 := ak hany
         clear hany
         go_upto_region 36 with (fail)
         have HJ3 := ak (HJ3.out.step (bd1 (Below.refl _ _)))
         refine start_ (n := 15) (S := fun w' => True) (ds := []) #[false, false, false, false, false, false, false, false, false, false, false, false, false, false, false] (by kernel_rfl) rfl rfl trivial (fun hHeld => ?_)
         refine pure_ (i := 0) (N := some 139) (v := ?_) (a' := ?_) #[true, false, false, false, false, false, false, false, false, false, false, false, false, false, false] rfl rfl (by kernel_rfl) (fun _ _ _ h => h) (Or.inl ⟨by rfl, ?_⟩) ?_ ?_
         rotate_left
         ·intro w'
          go_simp
          with_reducible rfl
         rotate_left
         ·simp only [Act.put, sia, scz, scs, i64_w, i32_w]
          rfl
         refine pure_ (i := 1) (N := some 140) (v := ?_) (a' := ?_) #[true, true, false, false, false, false, false, false, false, false, false, false, false, false, false] rfl rfl (by kernel_rfl) (fun _ _ _ h => h) (Or.inl ⟨by rfl, ?_⟩) ?_ ?_
         rotate_left
         ·intro w'
          go_simp
          with_reducible rfl
         rotate_left
         ·simp only [Act.put, sia, scz, scs, i64_w, i32_w]
          rfl
         refine one_ (i := 2) (N := some 141) #[true, true, true, false, false, false, false, false, false, false, false, false, false, false, false] rfl rfl (by kernel_rfl) (by decide) (fun K hK => ?_)
         refine goes_ Try.func61 (by kernel_rfl) rfl #[.slice Al l.length cl, .func (.func 70) #[] #[.pointer (some ⟨b15, 0, none⟩)]] (by rfl) rfl rfl (by simp only [List.map_toArray, List.map_cons, List.map_nil]; rfl) ?_
         with_reducible refine (ContainsFunc_Int 70 eg70 #[.pointer (some ⟨b15, 0, none⟩)] (fun W => PJ ⟨P, M, md, q, ex, lg⟩ w0 g b13 b15 go co gi ci n W out1 inn1) Al cl l (fun k => inAt inn1 k) _ w0 HRl0.out HJ3.out (fun W h => h.B) (by unfold PredInt; intro x W hx h; exact closure70' x h (HCHI.out l HMEM.out x hx))).mono ?_
         rintro e w40 ⟨rfl, hI⟩
         refine ⟨_, rfl, ?_⟩
         rw [HANY2.out]
         have HJ4 := ak hI
         clear hI
         refine hK.out _ _ trivial (fun hHeld => ?_)
         clear hK K
         refine norm_ (a' := ?_) ?_ ?_
         rotate_left
         ·show Act.put _ (some 141) _ = _
          simp only [Act.put, sia, scz, scs, i64_w, i32_w]
          rfl
         refine pure_ (i := 3) (N := some 142) (v := ?_) (a' := ?_) #[true, true, true, true, false, false, false, false, false, false, false, false, false, false, false] rfl rfl (by kernel_rfl) (fun _ _ _ h => h) (Or.inl ⟨by rfl, ?_⟩) ?_ ?_
         rotate_left
         ·intro w'
          go_simp
          with_reducible rfl
         rotate_left
         ·simp only [Act.put, sia, scz, scs, i64_w, i32_w]
          rfl
         refine pure_ (i := 4) (N := some 143) (v := ?_) (a' := ?_) #[true, true, true, true, true, false, false, false, false, false, false, false, false, false, false] rfl rfl (by kernel_rfl) (fun _ _ _ h => h) (Or.inl ⟨by rfl, ?_⟩) ?_ ?_
         rotate_left
         ·intro w'
          go_simp
          with_reducible rfl
         rotate_left
         ·simp only [Act.put, sia, scz, scs, i64_w, i32_w]
          rfl
         refine pure_ (i := 5) (N := some 144) (v := undef) (a' := ?_) #[true, true, true, true, true, true, false, false, false, false, false, false, false, false, false] rfl rfl (by kernel_rfl) (fun _ _ _ h => h) (Or.inr ⟨by rfl, rfl⟩) ?_ ?_
         rotate_left
         ·simp only [Act.put, sia, scz, scs, i64_w, i32_w]
          rfl
         refine pure_ (i := 6) (N := some 145) (v := undef) (a' := ?_) #[true, true, true, true, true, true, true, false, false, false, false, false, false, false, false] rfl rfl (by kernel_rfl) (fun _ _ _ h => h) (Or.inr ⟨by rfl, rfl⟩) ?_ ?_
         rotate_left
         ·simp only [Act.put, sia, scz, scs, i64_w, i32_w]
          rfl
         refine pure_ (i := 7) (N := some 146) (v := undef) (a' := ?_) #[true, true, true, true, true, true, true, true, false, false, false, false, false, false, false] rfl rfl (by kernel_rfl) (fun _ _ _ h => h) (Or.inr ⟨by rfl, rfl⟩) ?_ ?_
         rotate_left
         ·simp only [Act.put, sia, scz, scs, i64_w, i32_w]
          rfl
         refine pure_ (i := 8) (N := some 147) (v := undef) (a' := ?_) #[true, true, true, true, true, true, true, true, true, false, false, false, false, false, false] rfl rfl (by kernel_rfl) (fun _ _ _ h => h) (Or.inr ⟨by rfl, rfl⟩) ?_ ?_
         rotate_left
         ·simp only [Act.put, sia, scz, scs, i64_w, i32_w]
          rfl
         refine pure_ (i := 9) (N := some 148) (v := undef) (a' := ?_) #[true, true, true, true, true, true, true, true, true, true, false, false, false, false, false] rfl rfl (by kernel_rfl) (fun _ _ _ h => h) (Or.inr ⟨by rfl, rfl⟩) ?_ ?_
         rotate_left
         ·simp only [Act.put, sia, scz, scs, i64_w, i32_w]
          rfl
         refine pure_ (i := 10) (N := some 149) (v := undef) (a' := ?_) #[true, true, true, true, true, true, true, true, true, true, true, false, false, false, false] rfl rfl (by kernel_rfl) (fun _ _ _ h => h) (Or.inr ⟨by rfl, rfl⟩) ?_ ?_
         rotate_left
         ·simp only [Act.put, sia, scz, scs, i64_w, i32_w]
          rfl
         refine pure_ (i := 11) (N := some 150) (v := undef) (a' := ?_) #[true, true, true, true, true, true, true, true, true, true, true, true, false, false, false] rfl rfl (by kernel_rfl) (fun _ _ _ h => h) (Or.inr ⟨by rfl, rfl⟩) ?_ ?_
         rotate_left
         ·simp only [Act.put, sia, scz, scs, i64_w, i32_w]
          rfl
         refine pure_ (i := 12) (N := some 151) (v := undef) (a' := ?_) #[true, true, true, true, true, true, true, true, true, true, true, true, true, false, false] rfl rfl (by kernel_rfl) (fun _ _ _ h => h) (Or.inr ⟨by rfl, rfl⟩) ?_ ?_
         rotate_left
         ·simp only [Act.put, sia, scz, scs, i64_w, i32_w]
          rfl
         refine pure_ (i := 13) (N := some 152) (v := undef) (a' := ?_) #[true, true, true, true, true, true, true, true, true, true, true, true, true, true, false] rfl rfl (by kernel_rfl) (fun _ _ _ h => h) (Or.inr ⟨by rfl, rfl⟩) ?_ ?_
         rotate_left
         ·simp only [Act.put, sia, scz, scs, i64_w, i32_w]
          rfl
         refine pure_ (i := 14) (N := some 153) (v := ?_) (a' := ?_) #[true, true, true, true, true, true, true, true, true, true, true, true, true, true, true] rfl rfl (by kernel_rfl) (fun _ _ _ h => h) (Or.inl ⟨by rfl, ?_⟩) ?_ ?_
         rotate_left
         ·intro w'
          go_simp
          with_reducible rfl
         rotate_left
         ·simp only [Act.put, sia, scz, scs, i64_w, i32_w]
          rfl
         refine done_ (by kernel_rfl) ?_
         go_wp2_with (fail)
         go_roundg (ch.length - (j + 1))
         case measure => have := HN3.out.2.1; have := HLT.out; omega
         case rel =>
          have h := HN3.out
          have h2 := HLT.out
          have h3 := HSZ.out.1
          refine ⟨j + 1, ?_, ⟨by omega, rfl, fails_skip HFL.out HANY2.out⟩, HJ4⟩
          first | (rw [wrap64_succ' (n := 257) (by omega) (by omega) (by omega)]; rfl) | exact congrArg _ (by omega)
        | false =>
         have HANY2 := ak hany
         obtain ⟨hj, dv, hdv, hbf⟩ := fails_take HFL.out hany
         clear hany
         have hjlt : (j : Int) < (rows.length : Int) := by exact_mod_cast hj
         obtain ⟨ar, Ad, cr, eR, hxr, hcr, hrr⟩ := at_L1 (Kd.C_below HR1.out HBW.out) j (of_eq_true t5) hjlt
         subst eR
         obtain ⟨r, hr⟩ : ∃ x, rd_L1 rows (j : Int) = x := ⟨_, rfl⟩
         rw [hr] at hxr hcr hrr hdv
         rw [Int.toNat_natCast] at hxr
         have HRW0 := ak hxr
         have HRR := ak hrr
         have HCR := ak hcr
         have HDT := ak hdv
         have HBF := ak hbf
         have t6 := eq_true hjlt
         have t6' : decide ((j : Int) < (rows.length : Int)) = true := det hjlt
         have t9 : decide (0 ≤ (j : Int)) = true := det (Int.natCast_nonneg j)
         have hs0 := HJ3.out.c13
         have hs1 := cbl HZ0.out.2.1 HJ3.out.B
         have hs2 := cbl HRW0.out HJ3.out.B
         clear hj hdv hbf hjlt hxr hcr hrr hr
         by_cases hd : dv = 0
         ·have HD0 := ak hd
          have t10 : (dv != 0) = false := by simp [hd]
          clear hd
          go_upto_region 36 with (fail)
          have HJ3 := ak (HJ3.out.step (bd1 (Below.refl _ _)))
          refine start_ (n := 15) (S := fun w' => w'.cell? ⟨b13, 0, none⟩ = some (.pointer (some ⟨g, 0, none⟩)) ∧ w'.cell? ⟨b5, 1, none⟩ = some (.slice (some ar) rows.length c1) ∧ w'.cell? (ar.add j) = some (.slice Ad r.length cr)) (ds := []) #[false, false, false, false, false, false, false, false, false, false, false, false, false, false, false] (by kernel_rfl) rfl rfl ⟨hs0, hs1, hs2⟩ (fun hHeld => ?_)
          refine pure_ (i := 0) (N := some 139) (v := ?_) (a' := ?_) #[true, false, false, false, false, false, false, false, false, false, false, false, false, false, false] rfl rfl (by kernel_rfl) (fun _ _ _ h => h) (Or.inl ⟨by rfl, ?_⟩) ?_ ?_
          rotate_left
          ·intro w'
           go_simp
           with_reducible rfl
          rotate_left
          ·simp only [Act.put, sia, scz, scs, i64_w, i32_w]
           rfl
          refine pure_ (i := 1) (N := some 140) (v := ?_) (a' := ?_) #[true, true, false, false, false, false, false, false, false, false, false, false, false, false, false] rfl rfl (by kernel_rfl) (fun _ _ _ h => h) (Or.inl ⟨by rfl, ?_⟩) ?_ ?_
          rotate_left
          ·intro w'
           go_simp
           with_reducible rfl
          rotate_left
          ·simp only [Act.put, sia, scz, scs, i64_w, i32_w]
           rfl
          refine one_ (i := 2) (N := some 141) #[true, true, true, false, false, false, false, false, false, false, false, false, false, false, false] rfl rfl (by kernel_rfl) (by decide) (fun K hK => ?_)
          refine goes_ Try.func61 (by kernel_rfl) rfl #[.slice Al l.length cl, .func (.func 70) #[] #[.pointer (some ⟨b15, 0, none⟩)]] (by rfl) rfl rfl (by simp only [List.map_toArray, List.map_cons, List.map_nil]; rfl) ?_
          with_reducible refine (ContainsFunc_Int 70 eg70 #[.pointer (some ⟨b15, 0, none⟩)] (fun W => PJ ⟨P, M, md, q, ex, lg⟩ w0 g b13 b15 go co gi ci n W out1 inn1) Al cl l (fun k => inAt inn1 k) _ w0 HRl0.out HJ3.out (fun W h => h.B) (by unfold PredInt; intro x W hx h; exact closure70' x h (HCHI.out l HMEM.out x hx))).mono ?_
          rintro e w40 ⟨rfl, hI⟩
          refine ⟨_, rfl, ?_⟩
          rw [HANY2.out]
          have HJ4 := ak hI
          clear hI
          refine hK.out _ _ ⟨HJ4.out.c13, cbl HZ0.out.2.1 HJ4.out.B, cbl HRW0.out HJ4.out.B⟩ (fun hHeld => ?_)
          clear hK K
          refine norm_ (a' := ?_) ?_ ?_
          rotate_left
          ·show Act.put _ (some 141) _ = _
           simp only [Act.put, sia, scz, scs, i64_w, i32_w]
           rfl
          refine pure_ (i := 3) (N := some 142) (v := ?_) (a' := ?_) #[true, true, true, true, false, false, false, false, false, false, false, false, false, false, false] rfl rfl (by kernel_rfl) (fun _ _ _ h => h) (Or.inl ⟨by rfl, ?_⟩) ?_ ?_
          rotate_left
          ·intro w'
           go_simp
           with_reducible rfl
          rotate_left
          ·simp only [Act.put, sia, scz, scs, i64_w, i32_w]
           rfl
          refine pure_ (i := 4) (N := some 143) (v := ?_) (a' := ?_) #[true, true, true, true, true, false, false, false, false, false, false, false, false, false, false] rfl rfl (by kernel_rfl) (fun _ _ _ h => h) (Or.inl ⟨by rfl, ?_⟩) ?_ ?_
          rotate_left
          ·intro w'
           go_simp
           with_reducible rfl
          rotate_left
          ·simp only [Act.put, sia, scz, scs, i64_w, i32_w]
           rfl
          refine pure_ (i := 6) (N := some 145) (v := ?_) (a' := ?_) #[true, true, true, true, true, false, true, false, false, false, false, false, false, false, false] rfl rfl (by kernel_rfl) (fun _ _ _ h => h) (Or.inl ⟨by rfl, ?_⟩) ?_ ?_
          rotate_left
          ·intro w'
           go_simp
           with_reducible rfl
          rotate_left
          ·simp only [Act.put, sia, scz, scs, i64_w, i32_w]
           rfl
          refine pure_ (i := 8) (N := some 147) (v := ?_) (a' := ?_) #[true, true, true, true, true, false, true, false, true, false, false, false, false, false, false] rfl rfl (by kernel_rfl) (fun _ _ _ h => h) (Or.inl ⟨by rfl, ?_⟩) ?_ ?_
          rotate_left
          ·intro w'
           go_simp
           with_reducible rfl
          rotate_left
          ·simp only [Act.put, sia, scz, scs, i64_w, i32_w]
           rfl
          refine pure_ (i := 11) (N := some 150) (v := ?_) (a' := ?_) #[true, true, true, true, true, false, true, false, true, false, false, true, false, false, false] rfl rfl (by kernel_rfl) (fun _ _ _ h => h) (Or.inl ⟨by rfl, ?_⟩) ?_ ?_
          rotate_left
          ·intro w'
           go_simp
           with_reducible rfl
          rotate_left
          ·simp only [Act.put, sia, scz, scs, i64_w, i32_w]
           rfl
          refine take_ (i := 5) (N := some 144) (v := ?_) (a' := ?_) #[true, true, true, true, true, true, true, false, true, false, false, true, false, false, false] rfl rfl (by kernel_rfl) (fun _ _ _ h => h) (Or.inl ⟨by rfl, ?_⟩) hHeld ?_ ?_
          rotate_left
          ·rintro w' ⟨s0, s1, s2⟩
           go_simp
           with_reducible rfl
          rotate_left
          ·simp only [Act.put, sia, scz, scs, i64_w, i32_w]
           rfl
          refine take_ (i := 7) (N := some 146) (v := ?_) (a' := ?_) #[true, true, true, true, true, true, true, true, true, false, false, true, false, false, false] rfl rfl (by kernel_rfl) (fun _ _ _ h => h) (Or.inl ⟨by rfl, ?_⟩) hHeld ?_ ?_
          rotate_left
          ·rintro w' ⟨s0, s1, s2⟩
           go_simp
           with_reducible rfl
          rotate_left
          ·simp only [Act.put, sia, scz, scs, i64_w, i32_w]
           rfl
          refine pure_ (i := 9) (N := some 148) (v := ?_) (a' := ?_) #[true, true, true, true, true, true, true, true, true, true, false, true, false, false, false] rfl rfl (by kernel_rfl) (fun _ _ _ h => h) (Or.inl ⟨by rfl, ?_⟩) ?_ ?_
          rotate_left
          ·intro w'
           go_simp
           with_reducible rfl
          rotate_left
          ·simp only [Act.put, sia, scz, scs, i64_w, i32_w]
           rfl
          refine take_ (i := 10) (N := some 149) (v := ?_) (a' := ?_) #[true, true, true, true, true, true, true, true, true, true, true, true, false, false, false] rfl rfl (by kernel_rfl) (fun _ _ _ h => h) (Or.inl ⟨by rfl, ?_⟩) hHeld ?_ ?_
          rotate_left
          ·rintro w' ⟨s0, s1, s2⟩
           go_simp
           with_reducible rfl
          rotate_left
          ·simp only [Act.put, sia, scz, scs, i64_w, i32_w]
           rfl
          refine one_ (i := 12) (N := some 151) #[true, true, true, true, true, true, true, true, true, true, true, true, true, false, false] rfl rfl (by kernel_rfl) (by decide) (fun K hK => ?_)
          refine goes_ Try.func68 (by kernel_rfl) rfl #[.pointer (some ⟨g, 0, none⟩), .slice Ad r.length cr, .slice (some ⟨go, 0, none⟩) n co] (by rfl) rfl rfl (by simp only [List.map_toArray, List.map_cons, List.map_nil]; rfl) ?_
          with_reducible refine (HJ4.out.dot HRR.out HCR.out HDT.out).mono ?_
          rintro e w41 ⟨rfl, hI, hB, hk⟩
          refine ⟨_, rfl, ?_⟩
          have HJ5 := ak (HJ4.out.keep hI hB hk)
          clear hI hB hk
          refine hK.out _ _ ⟨HJ5.out.c13, cbl HZ0.out.2.1 HJ5.out.B, cbl HRW0.out HJ5.out.B⟩ (fun hHeld => ?_)
          clear hK K
          refine norm_ (a' := ?_) ?_ ?_
          rotate_left
          ·show Act.put _ (some 151) _ = _
           simp only [Act.put, sia, scz, scs, i64_w, i32_w]
           rfl
          refine pure_ (i := 13) (N := some 152) (v := ?_) (a' := ?_) #[true, true, true, true, true, true, true, true, true, true, true, true, true, true, false] rfl rfl (by kernel_rfl) (fun _ _ _ h => h) (Or.inl ⟨by rfl, ?_⟩) ?_ ?_
          rotate_left
          ·intro w'
           go_simp
           with_reducible rfl
          rotate_left
          ·simp only [Act.put, sia, scz, scs, i64_w, i32_w]
           rfl
          refine pure_ (i := 14) (N := some 153) (v := ?_) (a' := ?_) #[true, true, true, true, true, true, true, true, true, true, true, true, true, true, true] rfl rfl (by kernel_rfl) (fun _ _ _ h => h) (Or.inl ⟨by rfl, ?_⟩) ?_ ?_
          rotate_left
          ·intro w'
           go_simp
           with_reducible rfl
          rotate_left
          ·simp only [Act.put, sia, scz, scs, i64_w, i32_w]
           rfl
          refine done_ (by kernel_rfl) ?_
          go_wp2_with (fail)
          go_roundg (ch.length - (j + 1))
          case measure => have := HN3.out.2.1; have := HLT.out; omega
          case rel =>
           have h := HN3.out
           have h2 := HLT.out
           have h3 := HSZ.out.1
           refine ⟨j + 1, ?_, ⟨by omega, rfl, by have h4 := HBF.out; rw [if_pos HD0.out] at h4; exact h4⟩, HJ5⟩
           first | (rw [wrap64_succ' (n := 257) (by omega) (by omega) (by omega)]; rfl) | exact congrArg _ (by omega)
         ·have HD0 := ak hd
          have t10 : (dv != 0) = true := by simp [hd]
          clear hd
          go_upto_region 36 with (fail)
          have HJ3 := ak (HJ3.out.step (bd1 (Below.refl _ _)))
          refine start_ (n := 15) (S := fun w' => w'.cell? ⟨b13, 0, none⟩ = some (.pointer (some ⟨g, 0, none⟩)) ∧ w'.cell? ⟨b5, 1, none⟩ = some (.slice (some ar) rows.length c1) ∧ w'.cell? (ar.add j) = some (.slice Ad r.length cr)) (ds := []) #[false, false, false, false, false, false, false, false, false, false, false, false, false, false, false] (by kernel_rfl) rfl rfl ⟨hs0, hs1, hs2⟩ (fun hHeld => ?_)
          refine pure_ (i := 0) (N := some 139) (v := ?_) (a' := ?_) #[true, false, false, false, false, false, false, false, false, false, false, false, false, false, false] rfl rfl (by kernel_rfl) (fun _ _ _ h => h) (Or.inl ⟨by rfl, ?_⟩) ?_ ?_
          rotate_left
          ·intro w'
           go_simp
           with_reducible rfl
          rotate_left
          ·simp only [Act.put, sia, scz, scs, i64_w, i32_w]
           rfl
          refine pure_ (i := 1) (N := some 140) (v := ?_) (a' := ?_) #[true, true, false, false, false, false, false, false, false, false, false, false, false, false, false] rfl rfl (by kernel_rfl) (fun _ _ _ h => h) (Or.inl ⟨by rfl, ?_⟩) ?_ ?_
          rotate_left
          ·intro w'
           go_simp
           with_reducible rfl
          rotate_left
          ·simp only [Act.put, sia, scz, scs, i64_w, i32_w]
           rfl
          refine one_ (i := 2) (N := some 141) #[true, true, true, false, false, false, false, false, false, false, false, false, false, false, false] rfl rfl (by kernel_rfl) (by decide) (fun K hK => ?_)
          refine goes_ Try.func61 (by kernel_rfl) rfl #[.slice Al l.length cl, .func (.func 70) #[] #[.pointer (some ⟨b15, 0, none⟩)]] (by rfl) rfl rfl (by simp only [List.map_toArray, List.map_cons, List.map_nil]; rfl) ?_
          with_reducible refine (ContainsFunc_Int 70 eg70 #[.pointer (some ⟨b15, 0, none⟩)] (fun W => PJ ⟨P, M, md, q, ex, lg⟩ w0 g b13 b15 go co gi ci n W out1 inn1) Al cl l (fun k => inAt inn1 k) _ w0 HRl0.out HJ3.out (fun W h => h.B) (by unfold PredInt; intro x W hx h; exact closure70' x h (HCHI.out l HMEM.out x hx))).mono ?_
          rintro e w40 ⟨rfl, hI⟩
          refine ⟨_, rfl, ?_⟩
          rw [HANY2.out]
          have HJ4 := ak hI
          clear hI
          refine hK.out _ _ ⟨HJ4.out.c13, cbl HZ0.out.2.1 HJ4.out.B, cbl HRW0.out HJ4.out.B⟩ (fun hHeld => ?_)
          clear hK K
          refine norm_ (a' := ?_) ?_ ?_
          rotate_left
          ·show Act.put _ (some 141) _ = _
           simp only [Act.put, sia, scz, scs, i64_w, i32_w]
           rfl
          refine pure_ (i := 3) (N := some 142) (v := ?_) (a' := ?_) #[true, true, true, true, false, false, false, false, false, false, false, false, false, false, false] rfl rfl (by kernel_rfl) (fun _ _ _ h => h) (Or.inl ⟨by rfl, ?_⟩) ?_ ?_
          rotate_left
          ·intro w'
           go_simp
           with_reducible rfl
          rotate_left
          ·simp only [Act.put, sia, scz, scs, i64_w, i32_w]
           rfl
          refine pure_ (i := 4) (N := some 143) (v := ?_) (a' := ?_) #[true, true, true, true, true, false, false, false, false, false, false, false, false, false, false] rfl rfl (by kernel_rfl) (fun _ _ _ h => h) (Or.inl ⟨by rfl, ?_⟩) ?_ ?_
          rotate_left
          ·intro w'
           go_simp
           with_reducible rfl
          rotate_left
          ·simp only [Act.put, sia, scz, scs, i64_w, i32_w]
           rfl
          refine pure_ (i := 6) (N := some 145) (v := ?_) (a' := ?_) #[true, true, true, true, true, false, true, false, false, false, false, false, false, false, false] rfl rfl (by kernel_rfl) (fun _ _ _ h => h) (Or.inl ⟨by rfl, ?_⟩) ?_ ?_
          rotate_left
          ·intro w'
           go_simp
           with_reducible rfl
          rotate_left
          ·simp only [Act.put, sia, scz, scs, i64_w, i32_w]
           rfl
          refine pure_ (i := 8) (N := some 147) (v := ?_) (a' := ?_) #[true, true, true, true, true, false, true, false, true, false, false, false, false, false, false] rfl rfl (by kernel_rfl) (fun _ _ _ h => h) (Or.inl ⟨by rfl, ?_⟩) ?_ ?_
          rotate_left
          ·intro w'
           go_simp
           with_reducible rfl
          rotate_left
          ·simp only [Act.put, sia, scz, scs, i64_w, i32_w]
           rfl
          refine pure_ (i := 11) (N := some 150) (v := ?_) (a' := ?_) #[true, true, true, true, true, false, true, false, true, false, false, true, false, false, false] rfl rfl (by kernel_rfl) (fun _ _ _ h => h) (Or.inl ⟨by rfl, ?_⟩) ?_ ?_
          rotate_left
          ·intro w'
           go_simp
           with_reducible rfl
          rotate_left
          ·simp only [Act.put, sia, scz, scs, i64_w, i32_w]
           rfl
          refine take_ (i := 5) (N := some 144) (v := ?_) (a' := ?_) #[true, true, true, true, true, true, true, false, true, false, false, true, false, false, false] rfl rfl (by kernel_rfl) (fun _ _ _ h => h) (Or.inl ⟨by rfl, ?_⟩) hHeld ?_ ?_
          rotate_left
          ·rintro w' ⟨s0, s1, s2⟩
           go_simp
           with_reducible rfl
          rotate_left
          ·simp only [Act.put, sia, scz, scs, i64_w, i32_w]
           rfl
          refine take_ (i := 7) (N := some 146) (v := ?_) (a' := ?_) #[true, true, true, true, true, true, true, true, true, false, false, true, false, false, false] rfl rfl (by kernel_rfl) (fun _ _ _ h => h) (Or.inl ⟨by rfl, ?_⟩) hHeld ?_ ?_
          rotate_left
          ·rintro w' ⟨s0, s1, s2⟩
           go_simp
           with_reducible rfl
          rotate_left
          ·simp only [Act.put, sia, scz, scs, i64_w, i32_w]
           rfl
          refine pure_ (i := 9) (N := some 148) (v := ?_) (a' := ?_) #[true, true, true, true, true, true, true, true, true, true, false, true, false, false, false] rfl rfl (by kernel_rfl) (fun _ _ _ h => h) (Or.inl ⟨by rfl, ?_⟩) ?_ ?_
          rotate_left
          ·intro w'
           go_simp
           with_reducible rfl
          rotate_left
          ·simp only [Act.put, sia, scz, scs, i64_w, i32_w]
           rfl
          refine take_ (i := 10) (N := some 149) (v := ?_) (a' := ?_) #[true, true, true, true, true, true, true, true, true, true, true, true, false, false, false] rfl rfl (by kernel_rfl) (fun _ _ _ h => h) (Or.inl ⟨by rfl, ?_⟩) hHeld ?_ ?_
          rotate_left
          ·rintro w' ⟨s0, s1, s2⟩
           go_simp
           with_reducible rfl
          rotate_left
          ·simp only [Act.put, sia, scz, scs, i64_w, i32_w]
           rfl
          refine one_ (i := 12) (N := some 151) #[true, true, true, true, true, true, true, true, true, true, true, true, true, false, false] rfl rfl (by kernel_rfl) (by decide) (fun K hK => ?_)
          refine goes_ Try.func68 (by kernel_rfl) rfl #[.pointer (some ⟨g, 0, none⟩), .slice Ad r.length cr, .slice (some ⟨go, 0, none⟩) n co] (by rfl) rfl rfl (by simp only [List.map_toArray, List.map_cons, List.map_nil]; rfl) ?_
          with_reducible refine (HJ4.out.dot HRR.out HCR.out HDT.out).mono ?_
          rintro e w41 ⟨rfl, hI, hB, hk⟩
          refine ⟨_, rfl, ?_⟩
          have HJ5 := ak (HJ4.out.keep hI hB hk)
          clear hI hB hk
          refine hK.out _ _ ⟨HJ5.out.c13, cbl HZ0.out.2.1 HJ5.out.B, cbl HRW0.out HJ5.out.B⟩ (fun hHeld => ?_)
          clear hK K
          refine norm_ (a' := ?_) ?_ ?_
          rotate_left
          ·show Act.put _ (some 151) _ = _
           simp only [Act.put, sia, scz, scs, i64_w, i32_w]
           rfl
          refine pure_ (i := 13) (N := some 152) (v := ?_) (a' := ?_) #[true, true, true, true, true, true, true, true, true, true, true, true, true, true, false] rfl rfl (by kernel_rfl) (fun _ _ _ h => h) (Or.inl ⟨by rfl, ?_⟩) ?_ ?_
          rotate_left
          ·intro w'
           go_simp
           with_reducible rfl
          rotate_left
          ·simp only [Act.put, sia, scz, scs, i64_w, i32_w]
           rfl
          refine pure_ (i := 14) (N := some 153) (v := ?_) (a' := ?_) #[true, true, true, true, true, true, true, true, true, true, true, true, true, true, true] rfl rfl (by kernel_rfl) (fun _ _ _ h => h) (Or.inl ⟨by rfl, ?_⟩) ?_ ?_
          rotate_left
          ·intro w'
           go_simp
           with_reducible rfl
          rotate_left
          ·simp only [Act.put, sia, scz, scs, i64_w, i32_w]
           rfl
          refine done_ (by kernel_rfl) ?_
          go_wp2_with (fail)
          go_ret3
          have hb : bf = true := by have h4 := HBF.out; rw [if_neg HD0.out] at h4; exact h4
          have hend := HEND.out
          rw [if_pos hb] at hend
          have hend := osi hend
          injection hend with e1 e2
          injection e2 with e2 e3
          subst e1 e2 e3
          exact ⟨_, _, rfl, Kd.R_nil _ _ _ _ _, Kd.R_nil _ _ _ _ _, bsp HBW.out HJ5.out.B⟩
       ·have t4 := eq_false hlt
        have t5 : decide ((j : Int) < (ch.length : Int)) = false := dff hlt
        have hb : bf = false := by
         have h := HN3.out
         have h2 := h.2.2
         rw [show j = ch.length by omega, List.drop_length, failsAt] at h2
         exact (osi h2).symm
        have hend := HEND.out
        rw [if_neg (by simp [hb])] at hend
        obtain ⟨lf, hlf, e⟩ := Option.map_eq_some_iff.1 hend
        injection e with e1 e2
        injection e2 with e2 e3
        subst e1 e2 e3
        have HLF := ak hlf
        have hc15 := HJ3.out.c15
        clear hlt hb hend hlf
        have HLC := ak (peel_left.calls 4096 (some ⟨gi, 0, none⟩) ci inn1 lf wr (Kd.R_reads' (show Kd.R Kd.bool 4 wr w0.heap.size (fun _ => True) (.slice (some ⟨gi, 0, none⟩) inn1.length ci) inn1 by rw [HJ3.out.l2]; exact HJ3.out.o2)).2.2 (by have h := (Kd.R_reads' HJ3.out.o2).2.1; rw [HJ3.out.l2]; exact h) HLF.out)
        rw [HJ3.out.l2] at HLC
        go_wp2_with (first | (go_at_call 55; (with_reducible refine HLC.out.mono ?_); rintro e wE ⟨vl, rfl, hR, hB⟩; have HLR := ak hR; have HLB := ak hB; clear hR hB))
        go_ret3
        exact ⟨_, _, rfl, Kd.R_lower (Kd.R_below HJ3.out.o1 HLB.out) HBW.out.size, Kd.R_lower HLR.out (bsz (bsp HBW.out HJ3.out.B)), bsp HBW.out (bsp HJ3.out.B HLB.out)⟩
     ·rw [if_neg hneg] at hgo
      obtain ⟨o3, hfill, hgo⟩ := Option.bind_eq_some_iff.1 hgo
      have HFILL := ak hfill
      have HGO2 := ak hgo
      clear hfill hgo
      have t2 := eq_true (show 0 ≤ al by omega)
      have t3 : decide (0 ≤ al) = true := det (by omega)
      have ht1 := cbl HZ0.out.2.2.2 HJ.out.B
      go_upto_region 23 with (fail)
      clear hneg
      go_upto_block 5 with (fail)
      go_cut [19, 20, 21, 22] from 85 to 126 (fun s19 s20 s21 s22 wc => Aside0 (PJ ⟨P, M, md, q, ex, lg⟩ w0 g b13 b15 go co gi ci n wc o3 inn1) ∧ Aside0 (wc.heap[b]? = some (.cells #[.int .i64 al] 3 (0, 0))))
      case first =>
       clear hc18 ht1
       go_wp2_with (fail)
       go_loopg [85] ch.length (fun gk v85 w' => ∃ j : Nat, v85 = .int .i64 j ∧ Aside0 (j ≤ ch.length ∧ gk = ch.length - j ∧ fillIn ⟨P, M, md, q, ex, lg⟩ inn1 al out1 (ch.drop j) (rows.drop j) = some o3) ∧ Aside0 (PJ ⟨P, M, md, q, ex, lg⟩ w0 g b13 b15 go co gi ci n w' out1 inn1) ∧ Aside0 (w'.heap[b]? = some (.cells #[.int .i64 al] 3 (0, 0))))
       case atStart => exact ⟨0, rfl, ⟨by simp, by simp, by rw [List.drop_zero, List.drop_zero]; exact HFILL.out⟩, HJ, HBK⟩
       case round =>
        obtain ⟨j, rfl, HN3, HJ3, HBK3⟩ := hrel
        by_cases hlt : (j : Int) < (ch.length : Int)
        ·have t4 := eq_true hlt
         have t5 : (0 ≤ (j : Int)) = True := eq_true (Int.natCast_nonneg j)
         obtain ⟨ad, Al, cl, eA, hx, hc0, hr0⟩ := at_L1 HCH.out j (of_eq_true t5) hlt
         replace hx := pcb HJ3.out.B hx
         subst eA
         obtain ⟨l, hl⟩ : ∃ x, rd_L1 ch (j : Int) = x := ⟨_, rfl⟩
         rw [hl] at hx hc0 hr0
         rw [Int.toNat_natCast] at hx
         have HL := ak hl
         have HLT := ak hlt
         have HCl := ak hc0
         have HRl0 := ak hr0
         have HRl := ak (Kd.C_below hr0 HJ3.out.B)
         have HMEM := ak (show l ∈ ch by rw [← hl]; exact rd_memRow (by omega) hlt)
         have hfl := HN3.out.2.2
         rw [rows_drop (by omega : j < ch.length), hl] at hfl
         have HFL := ak hfl
         clear hl hlt hc0 hr0 hfl
         have hc18 := (kce HBK3.out 0).trans (show _ = some (Value.int .i64 al) from rfl)
         have HCON := ak (contains_f l al (Nat.le_trans (HLL.out l HMEM.out) (by decide)))
         by_cases hmem : al ∈ l
         ·rw [det hmem] at HCON
          have HIM := ak hmem
          clear hmem
          cases hany : l.any (fun k => !decide (k = al) && inAt inn1 k) with
          | false =>
           have HANY2 := ak hany
           clear hany
           go_upto_region 27 with (first | (go_at_call 65; (with_reducible refine (slices_Contains_int_int.calls _ Al cl l al true _ HRl.out HCl.out HCON.out).mono ?_); rintro e w20 ⟨rfl, hd⟩; have HJ4 := ak (HJ3.out.step (drawn0_below' hd)); have HB4 := ak (blk_grown HBK3.out (grown_of_below (drawn0_below' hd) none) (by simp)); clear hd) | (go_at_call 61; (with_reducible refine (ContainsFunc_Int 66 eg66 #[.pointer (some ⟨b, 0, none⟩), .pointer (some ⟨b15, 0, none⟩)] (fun W => PJ ⟨P, M, md, q, ex, lg⟩ w0 g b13 b15 go co gi ci n W out1 inn1 ∧ W.heap[b]? = some (.cells #[.int .i64 al] 3 (0, 0))) Al cl l (fun k => !decide (k = al) && inAt inn1 k) _ w0 HRl0.out ⟨HJ4.out, HB4.out⟩ (fun W h => h.1.B) (by unfold PredInt; intro x W hx h; exact closure66' x al b b15 h.1 h.2 (HCHI.out l HMEM.out x hx))).mono ?_); rintro e w21 ⟨rfl, hI, hb⟩; rw [HANY2.out]; have HJ5 := ak hI; have HBk5 := ak hb; clear hI hb))
           have hl1 : lone inn1 al l = true := by simp [lone, HIM.out, HANY2.out]
           obtain ⟨hj, hir, dv, xv, yv, hdv, hxv, hyv, ho3⟩ := fill_take HFL.out hl1
           have hjlt : (j : Int) < (rows.length : Int) := by exact_mod_cast hj
           obtain ⟨ar, Ad, cr, eR, hxr, hcr, hrr⟩ := at_L1 (Kd.C_below HR1.out HBW.out) j (of_eq_true t5) hjlt
           subst eR
           obtain ⟨r, hr⟩ : ∃ x, rd_L1 rows (j : Int) = x := ⟨_, rfl⟩
           rw [hr] at hxr hcr hrr hir hdv hxv
           rw [Int.toNat_natCast] at hxr
           obtain ⟨adr, eD, hxe⟩ := Kd.at_int hrr al (of_eq_true t2) hir
           subst eD
           have HRW0 := ak hxr
           have HRE0 := ak hxe
           have HRR := ak hrr
           have HCR := ak hcr
           have HDT := ak hdv
           have HDV := ak hxv
           have HNG := ak hyv
           have HO3 := ak ho3
           have t6 := eq_true hjlt
           have t6' : decide ((j : Int) < (rows.length : Int)) = true := det hjlt
           have t8 := eq_true hir
           have t8' : decide (al < (r.length : Int)) = true := det hir
           have t9 : decide (0 ≤ (j : Int)) = true := det (Int.natCast_nonneg j)
           have i1 := eq_true (show al < (n : Int) by rw [← HAL.out]; exact alone_lt inn1 n (by omega) ch HCHI.out)
           have HJ5 := ak (HJ5.out.step (bd1 (Below.refl _ _)))
           have HBk5 := ak (show w21.drew.heap[b]? = _ from HBk5.out)
           have hs0 := HJ5.out.c13
           have hs1 := cbl HZ0.out.2.1 HJ5.out.B
           have hs2 := cbl HRW0.out HJ5.out.B
           have hs3 := (kce HBk5.out 0).trans (show _ = some (Value.int .i64 al) from rfl)
           have hs4 := cbl HRE0.out HJ5.out.B
           clear hl1 hj hir hdv hxv hyv ho3 hjlt hxr hcr hrr hxe hr
           refine start_ (n := 23) (S := fun w' => w'.cell? ⟨b13, 0, none⟩ = some (.pointer (some ⟨g, 0, none⟩)) ∧ w'.cell? ⟨b5, 1, none⟩ = some (.slice (some ar) rows.length c1) ∧ w'.cell? (ar.add j) = some (.slice (some adr) r.length cr) ∧ w'.cell? ⟨b, 0, none⟩ = some (.int .i64 al) ∧ w'.cell? (adr.add al.toNat) = some (.int .i64 (rd r al))) (ds := []) #[false, false, false, false, false, false, false, false, false, false, false, false, false, false, false, false, false, false, false, false, false, false, false] (by kernel_rfl) rfl rfl ⟨hs0, hs1, hs2, hs3, hs4⟩ (fun hHeld => ?_)
           refine pure_ (i := 2) (N := some 102) (v := ?_) (a' := ?_) #[false, false, true, false, false, false, false, false, false, false, false, false, false, false, false, false, false, false, false, false, false, false, false] rfl rfl (by kernel_rfl) (fun _ _ _ h => h) (Or.inl ⟨by rfl, ?_⟩) ?_ ?_
           rotate_left
           ·intro w'
            go_simp
            with_reducible rfl
           rotate_left
           ·simp only [Act.put, sia, scz, scs, i64_w, i32_w]
            rfl
           refine pure_ (i := 4) (N := some 104) (v := ?_) (a' := ?_) #[false, false, true, false, true, false, false, false, false, false, false, false, false, false, false, false, false, false, false, false, false, false, false] rfl rfl (by kernel_rfl) (fun _ _ _ h => h) (Or.inl ⟨by rfl, ?_⟩) ?_ ?_
           rotate_left
           ·intro w'
            go_simp
            with_reducible rfl
           rotate_left
           ·simp only [Act.put, sia, scz, scs, i64_w, i32_w]
            rfl
           refine pure_ (i := 7) (N := some 107) (v := ?_) (a' := ?_) #[false, false, true, false, true, false, false, true, false, false, false, false, false, false, false, false, false, false, false, false, false, false, false] rfl rfl (by kernel_rfl) (fun _ _ _ h => h) (Or.inl ⟨by rfl, ?_⟩) ?_ ?_
           rotate_left
           ·intro w'
            go_simp
            with_reducible rfl
           rotate_left
           ·simp only [Act.put, sia, scz, scs, i64_w, i32_w]
            rfl
           refine pure_ (i := 9) (N := some 109) (v := ?_) (a' := ?_) #[false, false, true, false, true, false, false, true, false, true, false, false, false, false, false, false, false, false, false, false, false, false, false] rfl rfl (by kernel_rfl) (fun _ _ _ h => h) (Or.inl ⟨by rfl, ?_⟩) ?_ ?_
           rotate_left
           ·intro w'
            go_simp
            with_reducible rfl
           rotate_left
           ·simp only [Act.put, sia, scz, scs, i64_w, i32_w]
            rfl
           refine pure_ (i := 11) (N := some 111) (v := ?_) (a' := ?_) #[false, false, true, false, true, false, false, true, false, true, false, true, false, false, false, false, false, false, false, false, false, false, false] rfl rfl (by kernel_rfl) (fun _ _ _ h => h) (Or.inl ⟨by rfl, ?_⟩) ?_ ?_
           rotate_left
           ·intro w'
            go_simp
            with_reducible rfl
           rotate_left
           ·simp only [Act.put, sia, scz, scs, i64_w, i32_w]
            rfl
           refine take_ (i := 0) (N := some 100) (v := ?_) (a' := ?_) #[true, false, true, false, true, false, false, true, false, true, false, true, false, false, false, false, false, false, false, false, false, false, false] rfl rfl (by kernel_rfl) (fun _ _ _ h => h) (Or.inl ⟨by rfl, ?_⟩) hHeld ?_ ?_
           rotate_left
           ·rintro w' ⟨s0, s1, s2, s3, s4⟩
            go_simp
            with_reducible rfl
           rotate_left
           ·simp only [Act.put, sia, scz, scs, i64_w, i32_w]
            rfl
           refine take_ (i := 1) (N := some 101) (v := ?_) (a' := ?_) #[true, true, true, false, true, false, false, true, false, true, false, true, false, false, false, false, false, false, false, false, false, false, false] rfl rfl (by kernel_rfl) (fun _ _ _ h => h) (Or.inl ⟨by rfl, ?_⟩) hHeld ?_ ?_
           rotate_left
           ·rintro w' ⟨s0, s1, s2, s3, s4⟩
            go_simp
            with_reducible rfl
           rotate_left
           ·simp only [Act.put, sia, scz, scs, i64_w, i32_w]
            rfl
           refine take_ (i := 3) (N := some 103) (v := ?_) (a' := ?_) #[true, true, true, true, true, false, false, true, false, true, false, true, false, false, false, false, false, false, false, false, false, false, false] rfl rfl (by kernel_rfl) (fun _ _ _ h => h) (Or.inl ⟨by rfl, ?_⟩) hHeld ?_ ?_
           rotate_left
           ·rintro w' ⟨s0, s1, s2, s3, s4⟩
            go_simp
            with_reducible rfl
           rotate_left
           ·simp only [Act.put, sia, scz, scs, i64_w, i32_w]
            rfl
           refine pure_ (i := 5) (N := some 105) (v := ?_) (a' := ?_) #[true, true, true, true, true, true, false, true, false, true, false, true, false, false, false, false, false, false, false, false, false, false, false] rfl rfl (by kernel_rfl) (fun _ _ _ h => h) (Or.inl ⟨by rfl, ?_⟩) ?_ ?_
           rotate_left
           ·intro w'
            go_simp
            with_reducible rfl
           rotate_left
           ·simp only [Act.put, sia, scz, scs, i64_w, i32_w]
            rfl
           refine take_ (i := 6) (N := some 106) (v := ?_) (a' := ?_) #[true, true, true, true, true, true, true, true, false, true, false, true, false, false, false, false, false, false, false, false, false, false, false] rfl rfl (by kernel_rfl) (fun _ _ _ h => h) (Or.inl ⟨by rfl, ?_⟩) hHeld ?_ ?_
           rotate_left
           ·rintro w' ⟨s0, s1, s2, s3, s4⟩
            go_simp
            with_reducible rfl
           rotate_left
           ·simp only [Act.put, sia, scz, scs, i64_w, i32_w]
            rfl
           refine take_ (i := 10) (N := some 110) (v := ?_) (a' := ?_) #[true, true, true, true, true, true, true, true, false, true, true, true, false, false, false, false, false, false, false, false, false, false, false] rfl rfl (by kernel_rfl) (fun _ _ _ h => h) (Or.inl ⟨by rfl, ?_⟩) hHeld ?_ ?_
           rotate_left
           ·rintro w' ⟨s0, s1, s2, s3, s4⟩
            go_simp
            with_reducible rfl
           rotate_left
           ·simp only [Act.put, sia, scz, scs, i64_w, i32_w]
            rfl
           refine pure_ (i := 12) (N := some 112) (v := ?_) (a' := ?_) #[true, true, true, true, true, true, true, true, false, true, true, true, true, false, false, false, false, false, false, false, false, false, false] rfl rfl (by kernel_rfl) (fun _ _ _ h => h) (Or.inl ⟨by rfl, ?_⟩) ?_ ?_
           rotate_left
           ·intro w'
            go_simp
            with_reducible rfl
           rotate_left
           ·simp only [Act.put, sia, scz, scs, i64_w, i32_w]
            rfl
           refine take_ (i := 13) (N := some 113) (v := ?_) (a' := ?_) #[true, true, true, true, true, true, true, true, false, true, true, true, true, true, false, false, false, false, false, false, false, false, false] rfl rfl (by kernel_rfl) (fun _ _ _ h => h) (Or.inl ⟨by rfl, ?_⟩) hHeld ?_ ?_
           rotate_left
           ·rintro w' ⟨s0, s1, s2, s3, s4⟩
            go_simp
            with_reducible rfl
           rotate_left
           ·simp only [Act.put, sia, scz, scs, i64_w, i32_w]
            rfl
           refine take_ (i := 14) (N := some 114) (v := ?_) (a' := ?_) #[true, true, true, true, true, true, true, true, false, true, true, true, true, true, true, false, false, false, false, false, false, false, false] rfl rfl (by kernel_rfl) (fun _ _ _ h => h) (Or.inl ⟨by rfl, ?_⟩) hHeld ?_ ?_
           rotate_left
           ·rintro w' ⟨s0, s1, s2, s3, s4⟩
            go_simp
            with_reducible rfl
           rotate_left
           ·simp only [Act.put, sia, scz, scs, i64_w, i32_w]
            rfl
           refine pure_ (i := 15) (N := some 115) (v := ?_) (a' := ?_) #[true, true, true, true, true, true, true, true, false, true, true, true, true, true, true, true, false, false, false, false, false, false, false] rfl rfl (by kernel_rfl) (fun _ _ _ h => h) (Or.inl ⟨by rfl, ?_⟩) ?_ ?_
           rotate_left
           ·intro w'
            go_simp
            with_reducible rfl
           rotate_left
           ·simp only [Act.put, sia, scz, scs, i64_w, i32_w]
            rfl
           refine take_ (i := 16) (N := some 116) (v := ?_) (a' := ?_) #[true, true, true, true, true, true, true, true, false, true, true, true, true, true, true, true, true, false, false, false, false, false, false] rfl rfl (by kernel_rfl) (fun _ _ _ h => h) (Or.inl ⟨by rfl, ?_⟩) hHeld ?_ ?_
           rotate_left
           ·rintro w' ⟨s0, s1, s2, s3, s4⟩
            go_simp
            with_reducible rfl
           rotate_left
           ·simp only [Act.put, sia, scz, scs, i64_w, i32_w]
            rfl
           refine one_ (i := 8) (N := some 108) #[true, true, true, true, true, true, true, true, true, true, true, true, true, true, true, true, true, false, false, false, false, false, false] rfl rfl (by kernel_rfl) (by decide) (fun K hK => ?_)
           refine goes_ Try.func68 (by kernel_rfl) rfl #[.pointer (some ⟨g, 0, none⟩), .slice (some adr) r.length cr, .slice (some ⟨go, 0, none⟩) n co] (by rfl) rfl rfl (by simp only [List.map_toArray, List.map_cons, List.map_nil]; rfl) ?_
           with_reducible refine (HJ5.out.dot HRR.out HCR.out HDT.out).mono ?_
           rintro e w30 ⟨rfl, hI, hB, hk⟩
           refine ⟨_, rfl, ?_⟩
           have HJ6 := ak (HJ5.out.keep hI hB hk)
           have HBk6 := ak (hk.blk HBk5.out HDD.out.2.1 (by simp))
           clear hI hB hk
           refine hK.out _ _ ⟨HJ6.out.c13, cbl HZ0.out.2.1 HJ6.out.B, cbl HRW0.out HJ6.out.B, (kce HBk6.out 0).trans rfl, cbl HRE0.out HJ6.out.B⟩ (fun hHeld => ?_)
           clear hK K
           refine norm_ (a' := ?_) ?_ ?_
           rotate_left
           ·show Act.put _ (some 108) _ = _
            simp only [Act.put, sia, scz, scs, i64_w, i32_w]
            rfl
           refine one_ (i := 17) (N := some 117) #[true, true, true, true, true, true, true, true, true, true, true, true, true, true, true, true, true, true, false, false, false, false, false] rfl rfl (by kernel_rfl) (by decide) (fun K hK => ?_)
           refine goes_ Try.func67 (by kernel_rfl) rfl #[.pointer (some ⟨g, 0, none⟩), .int .i64 dv, .int .i64 (rd r al)] (by rfl) rfl rfl (by simp only [List.map_toArray, List.map_cons, List.map_nil]; rfl) ?_
           with_reducible refine (HJ6.out.div HDV.out).mono ?_
           rintro e w31 ⟨xq, rfl, hI, hB, hk⟩
           refine ⟨_, rfl, ?_⟩
           have HJ7 := ak (HJ6.out.keep hI hB hk)
           have HBk7 := ak (hk.blk HBk6.out HDD.out.2.1 (by simp))
           clear hI hB hk
           refine hK.out _ _ ⟨HJ7.out.c13, cbl HZ0.out.2.1 HJ7.out.B, cbl HRW0.out HJ7.out.B, (kce HBk7.out 0).trans rfl, cbl HRE0.out HJ7.out.B⟩ (fun hHeld => ?_)
           clear hK K
           refine norm_ (a' := ?_) ?_ ?_
           rotate_left
           ·show Act.put _ (some 117) _ = _
            simp only [Act.put, sia, scz, scs, i64_w, i32_w]
            rfl
           refine pure_ (i := 18) (N := some 99) (v := ?_) (a' := ?_) #[true, true, true, true, true, true, true, true, true, true, true, true, true, true, true, true, true, true, true, false, false, false, false] rfl rfl (by kernel_rfl) (fun _ _ _ h => h) (Or.inl ⟨by rfl, ?_⟩) ?_ ?_
           rotate_left
           ·intro w'
            go_simp
            with_reducible rfl
           rotate_left
           ·simp only [Act.put, sia, scz, scs, i64_w, i32_w]
            rfl
           refine pure_ (i := 19) (N := some 118) (v := ?_) (a' := ?_) #[true, true, true, true, true, true, true, true, true, true, true, true, true, true, true, true, true, true, true, true, false, false, false] rfl rfl (by kernel_rfl) (fun _ _ _ h => h) (Or.inl ⟨by rfl, ?_⟩) ?_ ?_
           rotate_left
           ·intro w'
            go_simp
            with_reducible rfl
           rotate_left
           ·simp only [Act.put, sia, scz, scs, i64_w, i32_w]
            rfl
           refine pure_ (i := 20) (N := some 119) (v := ?_) (a' := ?_) #[true, true, true, true, true, true, true, true, true, true, true, true, true, true, true, true, true, true, true, true, true, false, false] rfl rfl (by kernel_rfl) (fun _ _ _ h => h) (Or.inl ⟨by rfl, ?_⟩) ?_ ?_
           rotate_left
           ·intro w'
            go_simp
            with_reducible rfl
           rotate_left
           ·simp only [Act.put, sia, scz, scs, i64_w, i32_w]
            rfl
           refine pure_ (i := 21) (N := some 21) (v := ?_) (a' := ?_) #[true, true, true, true, true, true, true, true, true, true, true, true, true, true, true, true, true, true, true, true, true, true, false] rfl rfl (by kernel_rfl) (fun _ _ _ h => h) (Or.inl ⟨by rfl, ?_⟩) ?_ ?_
           rotate_left
           ·intro w'
            go_simp
            with_reducible rfl
           rotate_left
           ·simp only [Act.put, sia, scz, scs, i64_w, i32_w]
            rfl
           refine pure_ (i := 22) (N := some 22) (v := ?_) (a' := ?_) #[true, true, true, true, true, true, true, true, true, true, true, true, true, true, true, true, true, true, true, true, true, true, true] rfl rfl (by kernel_rfl) (fun _ _ _ h => h) (Or.inl ⟨by rfl, ?_⟩) ?_ ?_
           rotate_left
           ·intro w'
            go_simp
            with_reducible rfl
           rotate_left
           ·simp only [Act.put, sia, scz, scs, i64_w, i32_w]
            rfl
           refine done_ (by kernel_rfl) ?_
           go_upto_region 28 with (fail)
           have HJ7 := ak (HJ7.out.step (bd1 (Below.refl _ _)))
           have HBk7 := ak (show w31.drew.heap[b]? = _ from HBk7.out)
           have hn0 := HJ7.out.c13
           have hn1 := (kce HBk7.out 0).trans (show _ = some (Value.int .i64 al) from rfl)
           refine start_ (n := 7) (S := fun w' => w'.cell? ⟨b13, 0, none⟩ = some (.pointer (some ⟨g, 0, none⟩)) ∧ w'.cell? ⟨b, 0, none⟩ = some (.int .i64 al)) (ds := [6]) #[false, false, false, false, false, false, false] (by kernel_rfl) rfl rfl ⟨hn0, hn1⟩ (fun hHeld => ?_)
           refine pure_ (i := 0) (N := some 120) (v := ?_) (a' := ?_) #[true, false, false, false, false, false, false] rfl rfl (by kernel_rfl) (fun _ _ _ h => h) (Or.inl ⟨by rfl, ?_⟩) ?_ ?_
           rotate_left
           ·intro w'
            go_simp
            with_reducible rfl
           rotate_left
           ·simp only [Act.put, sia, scz, scs, i64_w, i32_w]
            rfl
           refine pure_ (i := 3) (N := some 123) (v := ?_) (a' := ?_) #[true, false, false, true, false, false, false] rfl rfl (by kernel_rfl) (fun _ _ _ h => h) (Or.inl ⟨by rfl, ?_⟩) ?_ ?_
           rotate_left
           ·intro w'
            go_simp
            with_reducible rfl
           rotate_left
           ·simp only [Act.put, sia, scz, scs, i64_w, i32_w]
            rfl
           refine take_ (i := 1) (N := some 121) (v := ?_) (a' := ?_) #[true, true, false, true, false, false, false] rfl rfl (by kernel_rfl) (fun _ _ _ h => h) (Or.inl ⟨by rfl, ?_⟩) hHeld ?_ ?_
           rotate_left
           ·rintro w' ⟨s0, s1⟩
            go_simp
            with_reducible rfl
           rotate_left
           ·simp only [Act.put, sia, scz, scs, i64_w, i32_w]
            rfl
           refine take_ (i := 2) (N := some 122) (v := ?_) (a' := ?_) #[true, true, true, true, false, false, false] rfl rfl (by kernel_rfl) (fun _ _ _ h => h) (Or.inl ⟨by rfl, ?_⟩) hHeld ?_ ?_
           rotate_left
           ·rintro w' ⟨s0, s1⟩
            go_simp
            with_reducible rfl
           rotate_left
           ·simp only [Act.put, sia, scz, scs, i64_w, i32_w]
            rfl
           refine one_ (i := 4) (N := some 124) #[true, true, true, true, true, false, false] rfl rfl (by kernel_rfl) (by decide) (fun K hK => ?_)
           refine goes_ Try.func69 (by kernel_rfl) rfl #[.pointer (some ⟨g, 0, none⟩), .int .i64 xv] (by rfl) rfl rfl (by simp only [List.map_toArray, List.map_cons, List.map_nil]; rfl) ?_
           with_reducible refine (HJ7.out.neg HNG.out).mono ?_
           rintro e w32 ⟨rfl, hI, hB, hk⟩
           refine ⟨_, rfl, ?_⟩
           have HJ8 := ak (HJ7.out.keep hI hB hk)
           have HBk8 := ak (hk.blk HBk7.out HDD.out.2.1 (by simp))
           clear hI hB hk
           obtain ⟨hcm, hfm⟩ := Kd.R_cell 0 (show Kd.R (Kd.int .i64) 3 w32 w0.heap.size (fun _ => True) (.slice (some ⟨go, 0, none⟩) out1.length co) out1 by rw [HJ8.out.l1]; exact HJ8.out.o1) al (of_eq_true t2) (by rw [HJ8.out.l1]; exact of_eq_true i1)
           refine hK.out _ _ ⟨HJ8.out.c13, (kce HBk8.out 0).trans rfl⟩ (fun hHeld => ?_)
           clear hK K
           refine norm_ (a' := ?_) ?_ ?_
           rotate_left
           ·show Act.put _ (some 124) _ = _
            simp only [Act.put, sia, scz, scs, i64_w, i32_w]
            rfl
           refine pure_ (i := 5) (N := some 125) (v := ?_) (a' := ?_) #[true, true, true, true, true, true, false] rfl rfl (by kernel_rfl) (fun _ _ _ h => h) (Or.inl ⟨by rfl, ?_⟩) ?_ ?_
           rotate_left
           ·intro w'
            go_simp
            with_reducible rfl
           rotate_left
           ·simp only [Act.put, sia, scz, scs, i64_w, i32_w]
            rfl
           refine last_ (i := 6) (N := none) #[true, true, true, true, true, true, true] rfl rfl (by kernel_rfl) (by decide) (fun K hK => ?_)
           refine skip_ (w1 := ?_) (by rfl) rfl ?_ ?_
           rotate_left
           ·go_simp
            rfl
           refine hK.out _ _ ?_
           clear hK K
           refine done_ (by kernel_rfl) ?_
           have HJ9 := ak (HJ8.out.putOut al yv)
           have HB9 := ak (blk_grown HBk8.out (Kd.R_put (show Kd.R (Kd.int .i64) 3 w32 w0.heap.size (fun _ => True) (.slice (some ⟨go, 0, none⟩) out1.length co) out1 by rw [HJ8.out.l1]; exact HJ8.out.o1) al yv).2 (fun e => HDD.out.2.2.1 (osi e)))
           go_wp2_with (fail)
           go_meet
           case rel => exact ⟨by rw [HO3.out]; exact HJ9, HB9⟩
          | true =>
           have HANY2 := ak hany
           clear hany
           go_wp2_with (first | (go_at_call 65; (with_reducible refine (slices_Contains_int_int.calls _ Al cl l al true _ HRl.out HCl.out HCON.out).mono ?_); rintro e w20 ⟨rfl, hd⟩; have HJ4 := ak (HJ3.out.step (drawn0_below' hd)); have HB4 := ak (blk_grown HBK3.out (grown_of_below (drawn0_below' hd) none) (by simp)); clear hd) | (go_at_call 61; (with_reducible refine (ContainsFunc_Int 66 eg66 #[.pointer (some ⟨b, 0, none⟩), .pointer (some ⟨b15, 0, none⟩)] (fun W => PJ ⟨P, M, md, q, ex, lg⟩ w0 g b13 b15 go co gi ci n W out1 inn1 ∧ W.heap[b]? = some (.cells #[.int .i64 al] 3 (0, 0))) Al cl l (fun k => !decide (k = al) && inAt inn1 k) _ w0 HRl0.out ⟨HJ4.out, HB4.out⟩ (fun W h => h.1.B) (by unfold PredInt; intro x W hx h; exact closure66' x al b b15 h.1 h.2 (HCHI.out l HMEM.out x hx))).mono ?_); rintro e w21 ⟨rfl, hI, hb⟩; rw [HANY2.out]; have HJ5 := ak hI; have HB5 := ak hb; clear hI hb))
           go_roundg (ch.length - (j + 1))
           case measure => have := HN3.out.2.1; have := HLT.out; omega
           case rel =>
            have h := HN3.out
            have h2 := HLT.out
            have h3 := HSZ.out.1
            refine ⟨j + 1, ?_, ⟨by omega, rfl, fill_skip HFL.out (by simp only [lone, HANY2.out, Bool.not_true, Bool.and_false])⟩, HJ5, HB5⟩
            first | (rw [wrap64_succ' (n := 257) (by omega) (by omega) (by omega)]; rfl) | exact congrArg _ (by omega)
         ·rw [dff hmem] at HCON
          have HNM := ak hmem
          clear hmem
          go_wp2_with (first | (go_at_call 65; (with_reducible refine (slices_Contains_int_int.calls _ Al cl l al false _ HRl.out HCl.out HCON.out).mono ?_); rintro e w20 ⟨rfl, hd⟩; have HJ4 := ak (HJ3.out.step (drawn0_below' hd)); have HB4 := ak (blk_grown HBK3.out (grown_of_below (drawn0_below' hd) none) (by simp)); clear hd))
          go_roundg (ch.length - (j + 1))
          case measure => have := HN3.out.2.1; have := HLT.out; omega
          case rel =>
           have h := HN3.out
           have h2 := HLT.out
           have h3 := HSZ.out.1
           refine ⟨j + 1, ?_, ⟨by omega, rfl, fill_skip HFL.out (by simp [lone, HNM.out])⟩, HJ4, HB4⟩
           first | (rw [wrap64_succ' (n := 257) (by omega) (by omega) (by omega)]; rfl) | exact congrArg _ (by omega)
        ·have t4 := eq_false hlt
         have t5 : decide ((j : Int) < (ch.length : Int)) = false := dff hlt
         have HLT := ak hlt
         have HO3 := ak (show out1 = o3 by
          have h := HN3.out
          have h2 := h.2.2
          rw [show j = ch.length by omega, List.drop_length, fillIn] at h2
          exact osi h2)
         clear hlt
         go_wp2_with (fail)
         go_meet
         case rel => exact ⟨by rw [← HO3.out]; exact HJ3, HBK3⟩
      case rest =>
       obtain ⟨HJc, HBc⟩ := hcut
       clear hc18 ht1
       have hc18 : wc.cell? ⟨b, 0, none⟩ = some (.int .i64 al) := (kce HBc.out 0).trans rfl
       have hc15 := HJc.out.c15
       have HLA := ak (show al < (n : Int) by rw [← HAL.out]; exact alone_lt inn1 n (by omega) ch HCHI.out)
       have HL0 := ak (show 0 ≤ al from of_eq_true t2)
       have i1 := eq_true HLA.out
       obtain ⟨hcm, hfm⟩ := Kd.R_cell false (show Kd.R Kd.bool 4 wc w0.heap.size (fun _ => True) (.slice (some ⟨gi, 0, none⟩) inn1.length ci) inn1 by rw [HJc.out.l2]; exact HJc.out.o2) al HL0.out (by rw [HJc.out.l2]; exact HLA.out)
       have HJd := ak (HJc.out.putIn al false)
       have hd15 := HJd.out.c15
       have hd18 : (wc.setCell ⟨gi, al.toNat, none⟩ (.bool false)).cell? ⟨b, 0, none⟩ = some (.int .i64 al) := by
        have ho := (Kd.R_put (show Kd.R Kd.bool 4 wc w0.heap.size (fun _ => True) (.slice (some ⟨gi, 0, none⟩) inn1.length ci) inn1 by rw [HJc.out.l2]; exact HJc.out.o2) al false).2
        exact cell_grown ho hc18 (fun e => HDD.out.2.2.2 (osi e))
       go_upto_region 22 with (fail)
       have hsz : (wc.setCell ⟨gi, al.toNat, none⟩ (.bool false)).heap.size = wc.heap.size := by simp
       have hbk : ((wc.setCell ⟨gi, al.toNat, none⟩ (.bool false)).alloc (Obj.cells #[Value.int IntKind.i64 al] 3)).heap[wc.heap.size]? = some (.cells #[.int .i64 al] 3 (0, 0)) := by rw [← hsz]; exact heap_alloc_new _ _
       have HBK2 := ak hbk
       have HJe := ak (HJd.out.step (bal (Below.refl _ (wc.setCell ⟨gi, al.toNat, none⟩ (.bool false))) (Obj.cells #[Value.int IntKind.i64 al] 3)))
       have hd1 : g < (wc.setCell ⟨gi, al.toNat, none⟩ (.bool false)).heap.size := HJd.out.I.lt
       have hd2 : go < (wc.setCell ⟨gi, al.toNat, none⟩ (.bool false)).heap.size := Kd.R_lt HJd.out.o1 go rfl
       have hd3 : gi < (wc.setCell ⟨gi, al.toNat, none⟩ (.bool false)).heap.size := Kd.R_lt HJd.out.o2 gi rfl
       have hd4 : b13 < (wc.setCell ⟨gi, al.toNat, none⟩ (.bool false)).heap.size := World.block_lt_of_cell? _ _ HJd.out.c13
       have hd5 : b15 < (wc.setCell ⟨gi, al.toNat, none⟩ (.bool false)).heap.size := World.block_lt_of_cell? _ _ HJd.out.c15
       have HD2 := ak (show w0.heap.size ≤ wc.heap.size ∧ wc.heap.size ≠ g ∧ wc.heap.size ≠ go ∧ wc.heap.size ≠ gi ∧ wc.heap.size ≠ b13 ∧ wc.heap.size ≠ b15 from ⟨by have := HJd.out.B.size; omega, by omega, by omega, by omega, by omega, by omega⟩)
       clear hd15 hd18 hd1 hd2 hd3 hd4 hd5 hcm hfm hc15 hc18 hbk
       generalize (wc.setCell ⟨gi, al.toNat, none⟩ (.bool false)).alloc (Obj.cells #[Value.int IntKind.i64 al] 3) = wD at HBK2 HJe ⊢
       clear hsz
       generalize wc.heap.size = b' at HBK2 HD2 ⊢
       have ht0 := cbl HZ0.out.2.2.1 HJe.out.B
       have ht1 := cbl HZ0.out.2.2.2 HJe.out.B
       have hc15 := HJe.out.c15
       have hal := alone_calls V AG cG ch (some ⟨gi, 0, none⟩) ci (inn1.set al.toNat false) wD (Kd.C_below HCH.out HJe.out.B) HSC.out (Kd.R_reads' (show Kd.R Kd.bool 4 wD w0.heap.size (fun _ => True) (.slice (some ⟨gi, 0, none⟩) (inn1.set al.toNat false).length ci) (inn1.set al.toNat false) by rw [HJe.out.l2]; exact HJe.out.o2)).2.2 (by have h := (Kd.R_reads' HJe.out.o2).2.1; rw [HJe.out.l2]; exact h) (by rw [HJe.out.l2]; exact HCHI.out) (Nat.le_trans HSZ.out.1 (by decide))
       rw [HJe.out.l2] at hal
       have HAL2 := ak hal
       clear hal
       go_wp2_with (first | (go_at_call 49; (with_reducible refine HAL2.out.mono ?_); rintro e wE ⟨rfl, hB⟩; have HJf := ak (HJe.out.step hB); have hbf : wE.heap[b']? = some (.cells #[.int .i64 al] 3 (0, 0)) := blk_grown HBK2.out (grown_of_below hB none) (by simp); have HBF := ak hbf; have hbc : wE.cell? ⟨b', 0, none⟩ = some (.int .i64 al) := (kce hbf 0).trans rfl; have hbz := kfz hbf 0; clear hB hbf))
       have HJg := ak (HJf.out.far b' (.int .i64 (alone (inn1.set al.toNat false) ch)) HD2.out)
       have HBg := ak (show (wE.setCell ⟨b', 0, none⟩ (.int .i64 (alone (inn1.set al.toNat false) ch))).heap[b']? = some (.cells #[.int .i64 (alone (inn1.set al.toNat false) ch)] 3 (0, 0)) by simpa using blk_set HBF.out 0 (.int .i64 (alone (inn1.set al.toNat false) ch)))
       go_roundg gk
       case measure => exact Nat.lt_succ_self _
       case rel =>
        exact ⟨b', o3, inn1.set al.toNat false, rfl, HGO2, HJg, HBg, ⟨HD2.out.1, HD2.out.2.1, HD2.out.2.2.1, HD2.out.2.2.2.1⟩⟩
end Go.Proofs.Ytkifipakikbhcaa.Hand
namespace Go.Proofs.Ytkifipakikbhcaa.Hand
open Ytkifipakikbhcaa.Ref
open Ytkifipakikbhcaa.Pg (peel_set.f)
open Ytkifipakikbhcaa.Pm (peel_Graph.f)
open Go.RowKit YtkifipakikbhcaaW.PrintWords YtkifipakikbhcaaW.PrintLast YtkifipakikbhcaaW.PrintMore
theorem peelMain_small {F : Fd} {V : Int} {ch rows : List (List Int)} {wd er : List Int} {r : List Int × List Int × Int} (h : peelMain F V ch rows wd er = some r) : wd.length ≤ 256 := by
 unfold peelMain at h
 obtain ⟨inn, hmask, h⟩ := Option.bind_eq_some_iff.1 h
 split at h
 ·rename_i hc; exact hc.2.2.2.2.1
 ·exact absurd h (by simp)
def peel_Ok.f (P M : Int) (md : List Int) (cols : Int) (rows : List (List Int)) (wd er : List Int) : Option (List Int × List Int × Int) :=
 (peel_Graph.f 4096 P M md cols rows).bind fun t => if t.2.2 = 0 then (newO P M md).bind fun o => o.bind fun x => if (wd.length : Int) = cols then (if (wd.any fun y => !isB x.1 y) = true then none else (peel_set.f 4096 er cols).bind fun b => if b = true then peelMain ⟨P, M, md, x.1, x.2.1, x.2.2⟩ t.1 t.2.1 rows wd er else none) else none else none
theorem peel_Ok.calls (P M : Int) (A0 : Option Addr) (c0 : Nat) (md : List Int) (cols : Int) (A1 : Option Addr) (c1 : Nat) (rows : List (List Int)) (A2 : Option Addr) (c2 : Nat) (wd : List Int) (A3 : Option Addr) (c3 : Nat) (er : List Int) (r1 r2 : List Int) (r3 : Int) (w : World)
  (hr0 : Kd.C (Kd.int .i64) w A0 md.length md) (hc0 : md.length ≤ c0) (hr1 : Kd.C (Kd.slice 3 (Kd.int .i64)) w A1 rows.length rows) (hc1 : rows.length ≤ c1) (hr2 : Kd.C (Kd.int .i64) w A2 wd.length wd) (hc2 : wd.length ≤ c2) (hr3 : Kd.C (Kd.int .i64) w A3 er.length er) (hc3 : er.length ≤ c3) (h : peel_Ok.f P M md cols rows wd er = some (r1, r2, r3)) :
  Calls Try.prog 30 #[.agg #[.int .i64 P, .int .i64 M, .slice A0 md.length c0], .agg #[.int .i64 cols, .slice A1 rows.length c1], .slice A2 wd.length c2, .slice A3 er.length c3] w fun e w' => ∃ v1 v2 : Value, e = .returned (.tuple #[v1, v2, .int .i64 r3]) ∧ Kd.R (Kd.int .i64) 3 w' w.heap.size (fun _ => True) v1 r1 ∧ Kd.R (Kd.int .i64) 3 w' w.heap.size (fun _ => True) v2 r2 ∧ Below w.heap.size w w' := by
 unfold peel_Ok.f at h
 obtain ⟨⟨V, ch, ge⟩, hg, h⟩ := Option.bind_eq_some_iff.1 h
 simp only at h
 split at h
 ·rename_i hge
  subst hge
  obtain ⟨o, hn, h⟩ := Option.bind_eq_some_iff.1 h
  obtain ⟨⟨q, ex, lg⟩, ho, h⟩ := Option.bind_eq_some_iff.1 h
  subst ho
  have h : (if (wd.length : Int) = cols then (if (wd.any fun y => !isB q y) = true then none else (peel_set.f 4096 er cols).bind fun b => if b = true then peelMain ⟨P, M, md, q, ex, lg⟩ V ch rows wd er else none) else none) = some (r1, r2, r3) := h
  by_cases hw : (wd.length : Int) = cols
  ·rw [if_pos hw] at h
   cases hany : wd.any (fun y => !isB q y) with
   | true => rw [if_pos hany] at h; exact absurd h (by simp)
   | false =>
    rw [if_neg (by simp [hany])] at h
    obtain ⟨b, hset, h⟩ := Option.bind_eq_some_iff.1 h
    cases b with
    | true =>
     rw [if_pos rfl] at h
     exact peel_ok P M A0 c0 md cols A1 c1 rows A2 c2 wd A3 c3 er w hr0 hc0 hr1 hc1 hr2 hc2 hr3 hc3 V ch hg q ex lg hn hw (Nat.le_trans (peelMain_small h) (by decide)) hany hset r1 r2 r3 h
    | false => rw [if_neg (by simp)] at h; exact absurd h (by simp)
  ·rw [if_neg hw] at h; exact absurd h (by simp)
 ·exact absurd h (by simp)
end Go.Proofs.Ytkifipakikbhcaa.Hand
namespace Go.Proofs.Ytkifipakikbhcaa.La
open Ytkifipakikbhcaa.Ref Ytkifipakikbhcaa.Pg Ytkifipakikbhcaa.Pk Ytkifipakikbhcaa.Pm Ytkifipakikbhcaa.Hand
open Go.RowKit YtkifipakikbhcaaW.PrintWords YtkifipakikbhcaaW.PrintLast YtkifipakikbhcaaW.PrintMore
def Fs (W : World) (bs : List (Nat × Array Value × Nat)) (is : List (Option Addr × List Int)) (rs : List (Option Addr × List (List Int))) : Prop :=
 (∀ p ∈ bs, W.heap[p.1]? = some (.cells p.2.1 p.2.2 (0, 0))) ∧ (∀ p ∈ is, Kd.C (Kd.int .i64) W p.1 p.2.length p.2) ∧ ∀ p ∈ rs, Kd.C (Kd.slice 3 (Kd.int .i64)) W p.1 p.2.length p.2
theorem Fs.below {W W' : World} {bs : List (Nat × Array Value × Nat)} {is : List (Option Addr × List Int)} {rs : List (Option Addr × List (List Int))} (h : Fs W bs is rs) (hb : Below W.heap.size W W') : Fs W' bs is rs :=
 ⟨fun p hp => blk_grown (h.1 p hp) (grown_of_below hb none) (by simp), fun p hp => Kd.C_below (h.2.1 p hp) hb, fun p hp => Kd.C_below (h.2.2 p hp) hb⟩
theorem Fs.start (W : World) : Fs W [] [] [] := ⟨fun _ h => by simp at h, fun _ h => by simp at h, fun _ h => by simp at h⟩
theorem Fs.addB {W : World} {bs : List (Nat × Array Value × Nat)} {is : List (Option Addr × List Int)} {rs : List (Option Addr × List (List Int))} (h : Fs W bs is rs) {g : Nat} {cs : Array Value} {t : Nat} (hx : W.heap[g]? = some (.cells cs t (0, 0))) : Fs W ((g, cs, t) :: bs) is rs :=
 ⟨fun p hp => (List.mem_cons.1 hp).elim (fun e => by subst e; exact hx) (fun hp => h.1 p hp), h.2⟩
theorem Fs.addI {W : World} {bs : List (Nat × Array Value × Nat)} {is : List (Option Addr × List Int)} {rs : List (Option Addr × List (List Int))} (h : Fs W bs is rs) {A : Option Addr} {l : List Int} (hx : Kd.C (Kd.int .i64) W A l.length l) : Fs W bs ((A, l) :: is) rs :=
 ⟨h.1, fun p hp => (List.mem_cons.1 hp).elim (fun e => by subst e; exact hx) (fun hp => h.2.1 p hp), h.2.2⟩
theorem Fs.addR {W : World} {bs : List (Nat × Array Value × Nat)} {is : List (Option Addr × List Int)} {rs : List (Option Addr × List (List Int))} (h : Fs W bs is rs) {A : Option Addr} {l : List (List Int)} (hx : Kd.C (Kd.slice 3 (Kd.int .i64)) W A l.length l) : Fs W bs is ((A, l) :: rs) :=
 ⟨h.1, h.2.1, fun p hp => (List.mem_cons.1 hp).elim (fun e => by subst e; exact hx) (fun hp => h.2.2 p hp)⟩
theorem Fs.b {W : World} {bs : List (Nat × Array Value × Nat)} {is : List (Option Addr × List Int)} {rs : List (Option Addr × List (List Int))} (h : Fs W bs is rs) {g : Nat} {cs : Array Value} {t : Nat} (i : Nat) (e : bs[i]? = some (g, cs, t)) : W.heap[g]? = some (.cells cs t (0, 0)) := h.1 _ (List.mem_of_getElem? e)
theorem Fs.i {W : World} {bs : List (Nat × Array Value × Nat)} {is : List (Option Addr × List Int)} {rs : List (Option Addr × List (List Int))} (h : Fs W bs is rs) {A : Option Addr} {l : List Int} (i : Nat) (e : is[i]? = some (A, l)) : Kd.C (Kd.int .i64) W A l.length l := h.2.1 _ (List.mem_of_getElem? e)
theorem Fs.r {W : World} {bs : List (Nat × Array Value × Nat)} {is : List (Option Addr × List Int)} {rs : List (Option Addr × List (List Int))} (h : Fs W bs is rs) {A : Option Addr} {l : List (List Int)} (i : Nat) (e : rs[i]? = some (A, l)) : Kd.C (Kd.slice 3 (Kd.int .i64)) W A l.length l := h.2.2 _ (List.mem_of_getElem? e)
theorem awake_walk (k kj8 : Nat) (y102 : List Int) (hy102 : y102 = (([1, 1, 0, 1, 0, 0, 0] : List Int))) (y105 : List Int) (hy105 : y105 = (([0, 1, 1, 0, 1, 0, 0] : List Int))) (y108 : List Int) (hy108 : y108 = (([0, 0, 1, 1, 0, 1, 0] : List Int))) (y111 : List Int) (hy111 : y111 = (([0, 0, 0, 1, 1, 0, 1] : List Int))) (y114 : List (List Int)) (hy114 : y114 = (([y102, y105, y108, y111] : List (List Int)))) (y118 : List Int) (hy118 : y118 = (([1, 1, 0, 0, 1, 0, 1] : List Int))) (t121 : Int) (t122 : List (List Int)) (t125 : Int) (A10 : peel_Graph.f k 2 1 ([] : List Int) 7 y114 = some (t121, t122, t125)) (t127 : Int) (t128 : Int) (A20 : peel_Girth.f k t121 t122 = some (t127, t128)) (t129 : List Int) (t132 : Int) (A30 : peel_Smallest.f t121 t122 = some (t129, t132)) (y133 : List Int) (hy133 : y133 = (([5, 6] : List Int))) (t137 : Int) (A40 : peel_Stopping.f k t121 t122 y133 = some (false, t137)) (y138 : List Int) (hy138 : y138 = (([0, 1, 0, 1, 1, 0, 1] : List Int))) (y141 : List Int) (hy141 : y141 = (([0, 3] : List Int))) (t144 : List Int) (t147 : List Int) (t150 : Int) (A50 : peel_Ok.f 2 1 ([] : List Int) 7 y114 y138 y141 = some (t144, t147, t150)) (y151 : List Int) (hy151 : y151 = (([0, 1, 4, 6] : List Int))) (t154 : List Int) (t157 : List Int) (t160 : Int) (A60 : peel_Ok.f 2 1 ([] : List Int) 7 y114 y118 y151 = some (t154, t157, t160)) (y161 : List Int) (hy161 : y161 = (([1, 0, 0, 0, 0, 0, 0] : List Int))) (t164 : List Int) (t167 : List Int) (t170 : Int) (A70 : peel_Ok.f 2 1 ([] : List Int) 7 y114 y161 ([] : List Int) = some (t164, t167, t170)) (y171 : List Int) (hy171 : y171 = (([0, 1, 2, 4] : List Int))) (t174 : List Int) (t177 : Int) (A80 : peel_Greatest.f k t121 t122 y171 = some (t174, t177)) (c75 : t125 = 0) (c76 : t128 = 0) (c77 : t132 = 0) (c78 : t137 = 0) (c79 : t150 = 0) (c80 : t160 = 0) (c81 : t170 = 12) (y178 : List Int) (hy178 : y178 = (([0, 1, 3] : List Int))) (y181 : List Int) (hy181 : y181 = (([1, 2, 4] : List Int))) (y184 : List Int) (hy184 : y184 = (([2, 3, 5] : List Int))) (y187 : List Int) (hy187 : y187 = (([3, 4, 6] : List Int))) (y190 : List (List Int)) (hy190 : y190 = (([y178, y181, y184, y187] : List (List Int)))) (A830 : r44_Same.f kj8 t121 t122 7 y190 = some true) (c85 : t127 = 6) (y194 : List Int) (hy194 : y194 = (([0, 1, 2, 5] : List Int))) (A860 : r9_SameInts.f kj8 t129 y194 = some true) (c112 : (t174.length : Int) = 0) (t198 : Int) (A1130 : peel_Check.f t121 t122 = some (t198)) (c114 : t198 = 0) (A1150 : r9_SameInts.f kj8 t144 y118 = some true) (c117 : (t147.length : Int) = 0) (y200 : List Int) (hy200 : y200 = (List.replicate 7 0)) (A1190 : r9_SameInts.f kj8 t154 y200 = some true) (y204 : List Int) (hy204 : y204 = (([0, 1, 4, 6] : List Int))) (A1210 : r9_SameInts.f kj8 t157 y204 = some true) (c82 : t177 = 0) (w : World) :
  Calls Try.prog 12 #[] w fun e w' => e = .returned (.bool true) ∧ Below w.heap.size w w' := by
 have hu24 := Try.underlying24
 have hu27 := Try.underlying27
 have hu31 := Try.underlying31
 have HB := ak (Below.refl w.heap.size w)
 have Ny102 := ak hy102
 clear hy102
 have Ny105 := ak hy105
 clear hy105
 have Ny108 := ak hy108
 clear hy108
 have Ny111 := ak hy111
 clear hy111
 have Ny114 := ak hy114
 clear hy114
 have Ny118 := ak hy118
 clear hy118
 have A1 := ak A10
 clear A10
 have A2 := ak A20
 clear A20
 have A3 := ak A30
 clear A30
 have Ny133 := ak hy133
 clear hy133
 have A4 := ak A40
 clear A40
 have Ny138 := ak hy138
 clear hy138
 have Ny141 := ak hy141
 clear hy141
 have A5 := ak A50
 clear A50
 have Ny151 := ak hy151
 clear hy151
 have A6 := ak A60
 clear A60
 have Ny161 := ak hy161
 clear hy161
 have A7 := ak A70
 clear A70
 have Ny171 := ak hy171
 clear hy171
 have A8 := ak A80
 clear A80
 have Ny178 := ak hy178
 clear hy178
 have Ny181 := ak hy181
 clear hy181
 have Ny184 := ak hy184
 clear hy184
 have Ny187 := ak hy187
 clear hy187
 have Ny190 := ak hy190
 clear hy190
 have A83 := ak A830
 clear A830
 have Ny194 := ak hy194
 clear hy194
 have A86 := ak A860
 clear A860
 have A113 := ak A1130
 clear A1130
 have A115 := ak A1150
 clear A1150
 have c118b0 := eq_true (show 7 ≤ 35184372088832 by decide)
 have c118b1 : decide (7 ≤ 35184372088832) = true := by decide
 have Ny200 := ak hy200
 clear hy200
 have A119 := ak A1190
 clear A1190
 have Ny204 := ak hy204
 clear hy204
 have A121 := ak A1210
 clear A1210
 go_enter Try.func12, Try.ntmps12
 have HF := ak (Fs.start w)
 go_upto_region 2 with (first | ((with_reducible refine gate_dst (N := 1) rfl ?_); (try (refine gate_guard (by rfl) ?_; dsimp only)); refine box_event ?hg (N := 1) ?hd (cs := #[.int .i64 0, .int .i64 0, .slice none 0 0]) (t := 24) ?hr ?_; (case hd => rfl); (case hg => rfl); (case hr => first | (go_simp; done) | (go_simp; rfl)); intro gb101 hg w11 hbox hb; have GWf := ak (Nat.le_of_eq hg.symm); have HW := ak hb; have BK := ak hbox; clear hb hbox hg; have hzf0 : w11.cell? ⟨gb101, 0, none⟩ = some (.int .i64 0) := (kce BK.out 0).trans rfl; have hff0 := kfz BK.out 0; have hzf1 : w11.cell? ⟨gb101, 1, none⟩ = some (.int .i64 0) := (kce BK.out 1).trans rfl; have hff1 := kfz BK.out 1; have hzf2 : w11.cell? ⟨gb101, 2, none⟩ = some (.slice none 0 0) := (kce BK.out 2).trans rfl; have hff2 := kfz BK.out 2))
 have hk : ((((w11).setCell ⟨gb101, 0, none⟩ (.int .i64 2)).setCell ⟨gb101, 1, none⟩ (.int .i64 1)).setCell ⟨gb101, 2, none⟩ (.slice none 0 0)).heap[gb101]? = some (.cells #[.int .i64 2, .int .i64 1, .slice none 0 0] 24 (0, 0)) := blk_put (cs' := #[.int .i64 2, .int .i64 1, .slice none 0 0]) (blk_put (cs' := #[.int .i64 2, .int .i64 1, .slice none 0 0]) (blk_put (cs' := #[.int .i64 2, .int .i64 0, .slice none 0 0]) (BK.out) 0 _ rfl) 1 _ rfl) 2 _ rfl
 have hq : Below _ _ ((((w11).setCell ⟨gb101, 0, none⟩ (.int .i64 2)).setCell ⟨gb101, 1, none⟩ (.int .i64 1)).setCell ⟨gb101, 2, none⟩ (.slice none 0 0)) := bst (bst (bst (HW.out) GWf.out) GWf.out) GWf.out
 clear hzf0 hff0 hzf1 hff1 hzf2 hff2
 replace HF := ak ((HF.out.below hq).addB hk)
 replace HB := ak (bsp HB.out hq)
 clear hk hq BK HW GWf
 generalize (((w11).setCell ⟨gb101, 0, none⟩ (.int .i64 2)).setCell ⟨gb101, 1, none⟩ (.int .i64 1)).setCell ⟨gb101, 2, none⟩ (.slice none 0 0) = w12 at HF HB ⊢
 go_upto_region 3 with (first | ((with_reducible refine gate_dst (N := 25) rfl ?_); (try (refine gate_guard (by rfl) ?_; dsimp only)); refine Kd.R_lit (Kd.int .i64) _ 3 ?hg (N := 25) ?hd (xs := ([1, 1, 0, 1, 0, 0, 0] : List Int)) (inner := [.int .i64 1, .int .i64 1, .int .i64 0, .int .i64 1, .int .i64 0, .int .i64 0, .int .i64 0]) (ok := fun _ => True) (okp := fun _ => True) ?hr ?hp (fun _ hk => hk) trivial (Below.refl _ _) (Nat.le_refl _) (by simp) ?_; (case hd => rfl); (case hg => rfl); (case hr => first | (go_simp; done) | (go_simp; rfl)); (case hp => exact (Reps.one (show Kd.M (Kd.int .i64) _ _ _ 1 [.int .i64 1] from rfl) (Reps.one (show Kd.M (Kd.int .i64) _ _ _ 1 [.int .i64 1] from rfl) (Reps.one (show Kd.M (Kd.int .i64) _ _ _ 0 [.int .i64 0] from rfl) (Reps.one (show Kd.M (Kd.int .i64) _ _ _ 1 [.int .i64 1] from rfl) (Reps.one (show Kd.M (Kd.int .i64) _ _ _ 0 [.int .i64 0] from rfl) (Reps.one (show Kd.M (Kd.int .i64) _ _ _ 0 [.int .i64 0] from rfl) (Reps.one (show Kd.M (Kd.int .i64) _ _ _ 0 [.int .i64 0] from rfl) (Reps.none _ _))))))))); intro v_ w13 ho hb hg_ hnew_; clear hg_ hnew_; (first | rw [← Ny102.out] at ho | (simp only [Int.reduceToNat] at ho; rw [← Ny102.out] at ho)); obtain ⟨Ay102, Cy102, e_⟩ := Kd.R_slice ho; subst e_; have HLy102 := ak (Kd.R_reads' ho).2.1; replace HF := ak ((HF.out.below hb).addI (Kd.R_reads' ho).2.2); replace HB := ak (bsp HB.out hb); have HRy102 := ak ho; clear hb ho) | ((with_reducible refine gate_dst (N := 26) rfl ?_); (try (refine gate_guard (by rfl) ?_; dsimp only)); refine Kd.R_lit (Kd.int .i64) _ 3 ?hg (N := 26) ?hd (xs := ([0, 1, 1, 0, 1, 0, 0] : List Int)) (inner := [.int .i64 0, .int .i64 1, .int .i64 1, .int .i64 0, .int .i64 1, .int .i64 0, .int .i64 0]) (ok := fun _ => True) (okp := fun _ => True) ?hr ?hp (fun _ hk => hk) trivial (Below.refl _ _) (Nat.le_refl _) (by simp) ?_; (case hd => rfl); (case hg => rfl); (case hr => first | (go_simp; done) | (go_simp; rfl)); (case hp => exact (Reps.one (show Kd.M (Kd.int .i64) _ _ _ 0 [.int .i64 0] from rfl) (Reps.one (show Kd.M (Kd.int .i64) _ _ _ 1 [.int .i64 1] from rfl) (Reps.one (show Kd.M (Kd.int .i64) _ _ _ 1 [.int .i64 1] from rfl) (Reps.one (show Kd.M (Kd.int .i64) _ _ _ 0 [.int .i64 0] from rfl) (Reps.one (show Kd.M (Kd.int .i64) _ _ _ 1 [.int .i64 1] from rfl) (Reps.one (show Kd.M (Kd.int .i64) _ _ _ 0 [.int .i64 0] from rfl) (Reps.one (show Kd.M (Kd.int .i64) _ _ _ 0 [.int .i64 0] from rfl) (Reps.none _ _))))))))); intro v_ w14 ho hb hg_ hnew_; clear hg_ hnew_; (first | rw [← Ny105.out] at ho | (simp only [Int.reduceToNat] at ho; rw [← Ny105.out] at ho)); obtain ⟨Ay105, Cy105, e_⟩ := Kd.R_slice ho; subst e_; have HLy105 := ak (Kd.R_reads' ho).2.1; replace HF := ak ((HF.out.below hb).addI (Kd.R_reads' ho).2.2); replace HB := ak (bsp HB.out hb); replace HRy102 := ak (Kd.R_below HRy102.out hb); have HRy105 := ak ho; clear hb ho) | ((with_reducible refine gate_dst (N := 27) rfl ?_); (try (refine gate_guard (by rfl) ?_; dsimp only)); refine Kd.R_lit (Kd.int .i64) _ 3 ?hg (N := 27) ?hd (xs := ([0, 0, 1, 1, 0, 1, 0] : List Int)) (inner := [.int .i64 0, .int .i64 0, .int .i64 1, .int .i64 1, .int .i64 0, .int .i64 1, .int .i64 0]) (ok := fun _ => True) (okp := fun _ => True) ?hr ?hp (fun _ hk => hk) trivial (Below.refl _ _) (Nat.le_refl _) (by simp) ?_; (case hd => rfl); (case hg => rfl); (case hr => first | (go_simp; done) | (go_simp; rfl)); (case hp => exact (Reps.one (show Kd.M (Kd.int .i64) _ _ _ 0 [.int .i64 0] from rfl) (Reps.one (show Kd.M (Kd.int .i64) _ _ _ 0 [.int .i64 0] from rfl) (Reps.one (show Kd.M (Kd.int .i64) _ _ _ 1 [.int .i64 1] from rfl) (Reps.one (show Kd.M (Kd.int .i64) _ _ _ 1 [.int .i64 1] from rfl) (Reps.one (show Kd.M (Kd.int .i64) _ _ _ 0 [.int .i64 0] from rfl) (Reps.one (show Kd.M (Kd.int .i64) _ _ _ 1 [.int .i64 1] from rfl) (Reps.one (show Kd.M (Kd.int .i64) _ _ _ 0 [.int .i64 0] from rfl) (Reps.none _ _))))))))); intro v_ w15 ho hb hg_ hnew_; clear hg_ hnew_; (first | rw [← Ny108.out] at ho | (simp only [Int.reduceToNat] at ho; rw [← Ny108.out] at ho)); obtain ⟨Ay108, Cy108, e_⟩ := Kd.R_slice ho; subst e_; have HLy108 := ak (Kd.R_reads' ho).2.1; replace HF := ak ((HF.out.below hb).addI (Kd.R_reads' ho).2.2); replace HB := ak (bsp HB.out hb); replace HRy102 := ak (Kd.R_below HRy102.out hb); replace HRy105 := ak (Kd.R_below HRy105.out hb); have HRy108 := ak ho; clear hb ho) | ((with_reducible refine gate_dst (N := 28) rfl ?_); (try (refine gate_guard (by rfl) ?_; dsimp only)); refine Kd.R_lit (Kd.int .i64) _ 3 ?hg (N := 28) ?hd (xs := ([0, 0, 0, 1, 1, 0, 1] : List Int)) (inner := [.int .i64 0, .int .i64 0, .int .i64 0, .int .i64 1, .int .i64 1, .int .i64 0, .int .i64 1]) (ok := fun _ => True) (okp := fun _ => True) ?hr ?hp (fun _ hk => hk) trivial (Below.refl _ _) (Nat.le_refl _) (by simp) ?_; (case hd => rfl); (case hg => rfl); (case hr => first | (go_simp; done) | (go_simp; rfl)); (case hp => exact (Reps.one (show Kd.M (Kd.int .i64) _ _ _ 0 [.int .i64 0] from rfl) (Reps.one (show Kd.M (Kd.int .i64) _ _ _ 0 [.int .i64 0] from rfl) (Reps.one (show Kd.M (Kd.int .i64) _ _ _ 0 [.int .i64 0] from rfl) (Reps.one (show Kd.M (Kd.int .i64) _ _ _ 1 [.int .i64 1] from rfl) (Reps.one (show Kd.M (Kd.int .i64) _ _ _ 1 [.int .i64 1] from rfl) (Reps.one (show Kd.M (Kd.int .i64) _ _ _ 0 [.int .i64 0] from rfl) (Reps.one (show Kd.M (Kd.int .i64) _ _ _ 1 [.int .i64 1] from rfl) (Reps.none _ _))))))))); intro v_ w16 ho hb hg_ hnew_; clear hg_ hnew_; (first | rw [← Ny111.out] at ho | (simp only [Int.reduceToNat] at ho; rw [← Ny111.out] at ho)); obtain ⟨Ay111, Cy111, e_⟩ := Kd.R_slice ho; subst e_; have HLy111 := ak (Kd.R_reads' ho).2.1; replace HF := ak ((HF.out.below hb).addI (Kd.R_reads' ho).2.2); replace HB := ak (bsp HB.out hb); replace HRy102 := ak (Kd.R_below HRy102.out hb); replace HRy105 := ak (Kd.R_below HRy105.out hb); replace HRy108 := ak (Kd.R_below HRy108.out hb); have HRy111 := ak ho; clear hb ho) | ((with_reducible refine gate_dst (N := 29) rfl ?_); (try (refine gate_guard (by rfl) ?_; dsimp only)); refine Kd.N_lit (Kd.slice 3 (Kd.int .i64)) _ 22 ?hg (N' := 29) ?hd (xs := ([y102, y105, y108, y111] : List (List Int))) (inner := [.slice Ay102 y102.length Cy102, .slice Ay105 y105.length Cy105, .slice Ay108 y108.length Cy108, .slice Ay111 y111.length Cy111]) (ok := fun _ => True) (okp := fun _ => True) ?hr ?hp (fun _ hk => hk) trivial (Below.refl _ _) (Nat.le_refl _) (by simp) ?_; (case hd => rfl); (case hg => rfl); (case hr => first | (go_simp; done) | (go_simp; rfl)); (case hp => exact (Reps.one (show Kd.FK (Kd.slice 3 (Kd.int .i64)) _ _ y102 [.slice Ay102 y102.length Cy102] from Kd.FK_slice_mk HLy102.out (Kd.R_F HRy102.out)) (Reps.one (show Kd.FK (Kd.slice 3 (Kd.int .i64)) _ _ y105 [.slice Ay105 y105.length Cy105] from Kd.FK_slice_mk HLy105.out (Kd.R_F HRy105.out)) (Reps.one (show Kd.FK (Kd.slice 3 (Kd.int .i64)) _ _ y108 [.slice Ay108 y108.length Cy108] from Kd.FK_slice_mk HLy108.out (Kd.R_F HRy108.out)) (Reps.one (show Kd.FK (Kd.slice 3 (Kd.int .i64)) _ _ y111 [.slice Ay111 y111.length Cy111] from Kd.FK_slice_mk HLy111.out (Kd.R_F HRy111.out)) (Reps.none _ _)))))); intro v_ w17 ho hb hg_ hnew_; clear hg_ hnew_; rw [← Ny114.out] at ho; obtain ⟨Ay114, Cy114, e_⟩ := Kd.N_slice ho; subst e_; have HLy114 := ak (Kd.N_reads' ho).2.1; replace HF := ak ((HF.out.below hb).addR (Kd.N_reads' ho).2.2); replace HB := ak (bsp HB.out hb); clear HRy102 HRy105 HRy108 HRy111; clear hb ho) | ((with_reducible refine gate_dst (N := 2) rfl ?_); (try (refine gate_guard (by rfl) ?_; dsimp only)); refine box_event ?hg (N := 2) ?hd (cs := #[.int .i64 0, .slice none 0 0]) (t := 27) ?hr ?_; (case hd => rfl); (case hg => rfl); (case hr => first | (go_simp; done) | (go_simp; rfl)); intro gb117 hg w18 hbox hb; have GWh := ak (Nat.le_of_eq hg.symm); have HW := ak hb; have BK := ak hbox; clear hb hbox hg; have hzh0 : w18.cell? ⟨gb117, 0, none⟩ = some (.int .i64 0) := (kce BK.out 0).trans rfl; have hfh0 := kfz BK.out 0; have hzh1 : w18.cell? ⟨gb117, 1, none⟩ = some (.slice none 0 0) := (kce BK.out 1).trans rfl; have hfh1 := kfz BK.out 1))
 have hk : (((w18).setCell ⟨gb117, 0, none⟩ (.int .i64 7)).setCell ⟨gb117, 1, none⟩ (.slice Ay114 y114.length Cy114)).heap[gb117]? = some (.cells #[.int .i64 7, .slice Ay114 y114.length Cy114] 27 (0, 0)) := blk_put (cs' := #[.int .i64 7, .slice Ay114 y114.length Cy114]) (blk_put (cs' := #[.int .i64 7, .slice none 0 0]) (BK.out) 0 _ rfl) 1 _ rfl
 have hq : Below _ _ (((w18).setCell ⟨gb117, 0, none⟩ (.int .i64 7)).setCell ⟨gb117, 1, none⟩ (.slice Ay114 y114.length Cy114)) := bst (bst (HW.out) GWh.out) GWh.out
 clear hzh0 hfh0 hzh1 hfh1
 replace HF := ak ((HF.out.below hq).addB hk)
 replace HB := ak (bsp HB.out hq)
 clear hk hq BK HW GWh
 generalize ((w18).setCell ⟨gb117, 0, none⟩ (.int .i64 7)).setCell ⟨gb117, 1, none⟩ (.slice Ay114 y114.length Cy114) = w19 at HF HB ⊢
 go_upto_region 4 with (first | ((with_reducible refine gate_dst (N := 31) rfl ?_); (try (refine gate_guard (by rfl) ?_; dsimp only)); refine Kd.R_lit (Kd.int .i64) _ 3 ?hg (N := 31) ?hd (xs := ([1, 1, 0, 0, 1, 0, 1] : List Int)) (inner := [.int .i64 1, .int .i64 1, .int .i64 0, .int .i64 0, .int .i64 1, .int .i64 0, .int .i64 1]) (ok := fun _ => True) (okp := fun _ => True) ?hr ?hp (fun _ hk => hk) trivial (Below.refl _ _) (Nat.le_refl _) (by simp) ?_; (case hd => rfl); (case hg => rfl); (case hr => first | (go_simp; done) | (go_simp; rfl)); (case hp => exact (Reps.one (show Kd.M (Kd.int .i64) _ _ _ 1 [.int .i64 1] from rfl) (Reps.one (show Kd.M (Kd.int .i64) _ _ _ 1 [.int .i64 1] from rfl) (Reps.one (show Kd.M (Kd.int .i64) _ _ _ 0 [.int .i64 0] from rfl) (Reps.one (show Kd.M (Kd.int .i64) _ _ _ 0 [.int .i64 0] from rfl) (Reps.one (show Kd.M (Kd.int .i64) _ _ _ 1 [.int .i64 1] from rfl) (Reps.one (show Kd.M (Kd.int .i64) _ _ _ 0 [.int .i64 0] from rfl) (Reps.one (show Kd.M (Kd.int .i64) _ _ _ 1 [.int .i64 1] from rfl) (Reps.none _ _))))))))); intro v_ w20 ho hb hg_ hnew_; clear hg_ hnew_; (first | rw [← Ny118.out] at ho | (simp only [Int.reduceToNat] at ho; rw [← Ny118.out] at ho)); obtain ⟨Ay118, Cy118, e_⟩ := Kd.R_slice ho; subst e_; have HLy118 := ak (Kd.R_reads' ho).2.1; replace HF := ak ((HF.out.below hb).addI (Kd.R_reads' ho).2.2); replace HB := ak (bsp HB.out hb); clear hb ho))
 have hzf0 : w20.cell? ⟨gb101, 0, none⟩ = some (.int .i64 2) := (kce (HF.out.b (g := gb101) (cs := #[.int .i64 2, .int .i64 1, .slice none 0 0]) (t := 24) 1 rfl) 0).trans rfl
 have hzf1 : w20.cell? ⟨gb101, 1, none⟩ = some (.int .i64 1) := (kce (HF.out.b (g := gb101) (cs := #[.int .i64 2, .int .i64 1, .slice none 0 0]) (t := 24) 1 rfl) 1).trans rfl
 have hzf2 : w20.cell? ⟨gb101, 2, none⟩ = some (.slice none 0 0) := (kce (HF.out.b (g := gb101) (cs := #[.int .i64 2, .int .i64 1, .slice none 0 0]) (t := 24) 1 rfl) 2).trans rfl
 have hzh0 : w20.cell? ⟨gb117, 0, none⟩ = some (.int .i64 7) := (kce (HF.out.b (g := gb117) (cs := #[.int .i64 7, .slice Ay114 y114.length Cy114]) (t := 27) 0 rfl) 0).trans rfl
 have hzh1 : w20.cell? ⟨gb117, 1, none⟩ = some (.slice Ay114 y114.length Cy114) := (kce (HF.out.b (g := gb117) (cs := #[.int .i64 7, .slice Ay114 y114.length Cy114]) (t := 27) 0 rfl) 1).trans rfl
 go_upto_region 5 with (first | (go_at_call 14; have hx1 := HF.out.r (A := Ay114) (l := y114) 0 rfl; (refine (peel_Graph.calls k 2 1 none 0 ([] : List Int) 7 Ay114 Cy114 y114 t121 t122 t125 _ (Kd.C_nil _ _) (Nat.le_refl _) hx1 HLy114.out A1.out).mono ?_); clear hx1; rintro e w21 ⟨va0, rfl, ho0, hb⟩; obtain ⟨At122, Ct122, e_⟩ := Kd.S_slice ho0; subst e_; have HLt122 := ak (Kd.S_reads' ho0).2.1; replace HF := ak ((HF.out.below hb).addR (Kd.S_reads' ho0).2.2); replace HB := ak (bsp HB.out hb); clear hb ho0) | ((with_reducible refine gate_dst (N := 4) rfl ?_); (try (refine gate_guard (by rfl) ?_; dsimp only)); refine box_event ?hg (N := 4) ?hd (cs := #[.int .i64 0, .slice none 0 0]) (t := 31) ?hr ?_; (case hd => rfl); (case hg => rfl); (case hr => first | (go_simp; done) | (go_simp; rfl)); intro gb126 hg w22 hbox hb; have GWt := ak (Nat.le_of_eq hg.symm); have HW := ak hb; have BK := ak hbox; clear hb hbox hg; have hzt0 : w22.cell? ⟨gb126, 0, none⟩ = some (.int .i64 0) := (kce BK.out 0).trans rfl; have hft0 := kfz BK.out 0; have hzt1 : w22.cell? ⟨gb126, 1, none⟩ = some (.slice none 0 0) := (kce BK.out 1).trans rfl; have hft1 := kfz BK.out 1))
 have hk : (((w22).setCell ⟨gb126, 0, none⟩ (.int .i64 t121)).setCell ⟨gb126, 1, none⟩ (.slice At122 t122.length Ct122)).heap[gb126]? = some (.cells #[.int .i64 t121, .slice At122 t122.length Ct122] 31 (0, 0)) := blk_put (cs' := #[.int .i64 t121, .slice At122 t122.length Ct122]) (blk_put (cs' := #[.int .i64 t121, .slice none 0 0]) (BK.out) 0 _ rfl) 1 _ rfl
 have hq : Below _ _ (((w22).setCell ⟨gb126, 0, none⟩ (.int .i64 t121)).setCell ⟨gb126, 1, none⟩ (.slice At122 t122.length Ct122)) := bst (bst (HW.out) GWt.out) GWt.out
 clear hzt0 hft0 hzt1 hft1
 replace HF := ak ((HF.out.below hq).addB hk)
 replace HB := ak (bsp HB.out hq)
 clear hk hq BK HW GWt
 generalize ((w22).setCell ⟨gb126, 0, none⟩ (.int .i64 t121)).setCell ⟨gb126, 1, none⟩ (.slice At122 t122.length Ct122) = w23 at HF HB ⊢
 (try clear hzf0 hzf1 hzf2 hzh0 hzh1)
 have hzt0 : w23.cell? ⟨gb126, 0, none⟩ = some (.int .i64 t121) := (kce (HF.out.b (g := gb126) (cs := #[.int .i64 t121, .slice At122 t122.length Ct122]) (t := 31) 0 rfl) 0).trans rfl
 have hzt1 : w23.cell? ⟨gb126, 1, none⟩ = some (.slice At122 t122.length Ct122) := (kce (HF.out.b (g := gb126) (cs := #[.int .i64 t121, .slice At122 t122.length Ct122]) (t := 31) 0 rfl) 1).trans rfl
 go_upto_region 6 with (first | (go_at_call 18; have hx1 := HF.out.r (A := At122) (l := t122) 0 rfl; (with_reducible refine (peel_Girth.calls k t121 _ _ t122 t127 t128 _ hx1 HLt122.out A2.out).mono ?_); clear hx1; rintro e w24 ⟨rfl, hb⟩; replace HF := ak (HF.out.below hb); replace HB := ak (bsp HB.out hb); clear hb; have hzt0 : w24.cell? ⟨gb126, 0, none⟩ = some (.int .i64 t121) := (kce (HF.out.b (g := gb126) (cs := #[.int .i64 t121, .slice At122 t122.length Ct122]) (t := 31) 0 rfl) 0).trans rfl; have hzt1 : w24.cell? ⟨gb126, 1, none⟩ = some (.slice At122 t122.length Ct122) := (kce (HF.out.b (g := gb126) (cs := #[.int .i64 t121, .slice At122 t122.length Ct122]) (t := 31) 0 rfl) 1).trans rfl))
 go_upto_region 7 with (first | (go_at_call 26; have hx1 := HF.out.r (A := At122) (l := t122) 0 rfl; (with_reducible refine (peel_Smallest.calls t121 _ _ t122 t129 t132 _ hx1 HLt122.out A3.out).mono ?_); clear hx1; rintro e w25 ⟨va0, rfl, ho0, hb⟩; obtain ⟨At129, Ct129, e_⟩ := Kd.R_slice ho0; subst e_; have HLt129 := ak (Kd.R_reads' ho0).2.1; replace HF := ak ((HF.out.below hb).addI (Kd.R_reads' ho0).2.2); replace HB := ak (bsp HB.out hb); clear hb ho0; have hzt0 : w25.cell? ⟨gb126, 0, none⟩ = some (.int .i64 t121) := (kce (HF.out.b (g := gb126) (cs := #[.int .i64 t121, .slice At122 t122.length Ct122]) (t := 31) 0 rfl) 0).trans rfl; have hzt1 : w25.cell? ⟨gb126, 1, none⟩ = some (.slice At122 t122.length Ct122) := (kce (HF.out.b (g := gb126) (cs := #[.int .i64 t121, .slice At122 t122.length Ct122]) (t := 31) 0 rfl) 1).trans rfl))
 go_upto_region 8 with (first | ((with_reducible refine gate_dst (N := 50) rfl ?_); (try (refine gate_guard (by rfl) ?_; dsimp only)); refine Kd.R_lit (Kd.int .i64) _ 3 ?hg (N := 50) ?hd (xs := ([5, 6] : List Int)) (inner := [.int .i64 5, .int .i64 6]) (ok := fun _ => True) (okp := fun _ => True) ?hr ?hp (fun _ hk => hk) trivial (Below.refl _ _) (Nat.le_refl _) (by simp) ?_; (case hd => rfl); (case hg => rfl); (case hr => first | (go_simp; done) | (go_simp; rfl)); (case hp => exact (Reps.one (show Kd.M (Kd.int .i64) _ _ _ 5 [.int .i64 5] from rfl) (Reps.one (show Kd.M (Kd.int .i64) _ _ _ 6 [.int .i64 6] from rfl) (Reps.none _ _)))); intro v_ w26 ho hb hg_ hnew_; clear hg_ hnew_; (first | rw [← Ny133.out] at ho | (simp only [Int.reduceToNat] at ho; rw [← Ny133.out] at ho)); obtain ⟨Ay133, Cy133, e_⟩ := Kd.R_slice ho; subst e_; have HLy133 := ak (Kd.R_reads' ho).2.1; replace HF := ak ((HF.out.below hb).addI (Kd.R_reads' ho).2.2); replace HB := ak (bsp HB.out hb); clear hb ho) | (go_at_call 20; have hx1 := HF.out.r (A := At122) (l := t122) 0 rfl; have hx2 := HF.out.i (A := Ay133) (l := y133) 0 rfl; (with_reducible refine (peel_Stopping.calls k t121 _ _ t122 _ _ y133 false t137 _ hx1 HLt122.out hx2 HLy133.out A4.out).mono ?_); clear hx1 hx2; rintro e w27 ⟨rfl, hb⟩; replace HF := ak (HF.out.below hb); replace HB := ak (bsp HB.out hb); clear hb; have hzf0 : w27.cell? ⟨gb101, 0, none⟩ = some (.int .i64 2) := (kce (HF.out.b (g := gb101) (cs := #[.int .i64 2, .int .i64 1, .slice none 0 0]) (t := 24) 2 rfl) 0).trans rfl; have hzf1 : w27.cell? ⟨gb101, 1, none⟩ = some (.int .i64 1) := (kce (HF.out.b (g := gb101) (cs := #[.int .i64 2, .int .i64 1, .slice none 0 0]) (t := 24) 2 rfl) 1).trans rfl; have hzf2 : w27.cell? ⟨gb101, 2, none⟩ = some (.slice none 0 0) := (kce (HF.out.b (g := gb101) (cs := #[.int .i64 2, .int .i64 1, .slice none 0 0]) (t := 24) 2 rfl) 2).trans rfl; have hzh0 : w27.cell? ⟨gb117, 0, none⟩ = some (.int .i64 7) := (kce (HF.out.b (g := gb117) (cs := #[.int .i64 7, .slice Ay114 y114.length Cy114]) (t := 27) 1 rfl) 0).trans rfl; have hzh1 : w27.cell? ⟨gb117, 1, none⟩ = some (.slice Ay114 y114.length Cy114) := (kce (HF.out.b (g := gb117) (cs := #[.int .i64 7, .slice Ay114 y114.length Cy114]) (t := 27) 1 rfl) 1).trans rfl))
 go_upto_region 9 with (first | ((with_reducible refine gate_dst (N := 57) rfl ?_); (try (refine gate_guard (by rfl) ?_; dsimp only)); refine Kd.R_lit (Kd.int .i64) _ 3 ?hg (N := 57) ?hd (xs := ([0, 1, 0, 1, 1, 0, 1] : List Int)) (inner := [.int .i64 0, .int .i64 1, .int .i64 0, .int .i64 1, .int .i64 1, .int .i64 0, .int .i64 1]) (ok := fun _ => True) (okp := fun _ => True) ?hr ?hp (fun _ hk => hk) trivial (Below.refl _ _) (Nat.le_refl _) (by simp) ?_; (case hd => rfl); (case hg => rfl); (case hr => first | (go_simp; done) | (go_simp; rfl)); (case hp => exact (Reps.one (show Kd.M (Kd.int .i64) _ _ _ 0 [.int .i64 0] from rfl) (Reps.one (show Kd.M (Kd.int .i64) _ _ _ 1 [.int .i64 1] from rfl) (Reps.one (show Kd.M (Kd.int .i64) _ _ _ 0 [.int .i64 0] from rfl) (Reps.one (show Kd.M (Kd.int .i64) _ _ _ 1 [.int .i64 1] from rfl) (Reps.one (show Kd.M (Kd.int .i64) _ _ _ 1 [.int .i64 1] from rfl) (Reps.one (show Kd.M (Kd.int .i64) _ _ _ 0 [.int .i64 0] from rfl) (Reps.one (show Kd.M (Kd.int .i64) _ _ _ 1 [.int .i64 1] from rfl) (Reps.none _ _))))))))); intro v_ w28 ho hb hg_ hnew_; clear hg_ hnew_; (first | rw [← Ny138.out] at ho | (simp only [Int.reduceToNat] at ho; rw [← Ny138.out] at ho)); obtain ⟨Ay138, Cy138, e_⟩ := Kd.R_slice ho; subst e_; have HLy138 := ak (Kd.R_reads' ho).2.1; replace HF := ak ((HF.out.below hb).addI (Kd.R_reads' ho).2.2); replace HB := ak (bsp HB.out hb); clear hb ho) | ((with_reducible refine gate_dst (N := 58) rfl ?_); (try (refine gate_guard (by rfl) ?_; dsimp only)); refine Kd.R_lit (Kd.int .i64) _ 3 ?hg (N := 58) ?hd (xs := ([0, 3] : List Int)) (inner := [.int .i64 0, .int .i64 3]) (ok := fun _ => True) (okp := fun _ => True) ?hr ?hp (fun _ hk => hk) trivial (Below.refl _ _) (Nat.le_refl _) (by simp) ?_; (case hd => rfl); (case hg => rfl); (case hr => first | (go_simp; done) | (go_simp; rfl)); (case hp => exact (Reps.one (show Kd.M (Kd.int .i64) _ _ _ 0 [.int .i64 0] from rfl) (Reps.one (show Kd.M (Kd.int .i64) _ _ _ 3 [.int .i64 3] from rfl) (Reps.none _ _)))); intro v_ w29 ho hb hg_ hnew_; clear hg_ hnew_; (first | rw [← Ny141.out] at ho | (simp only [Int.reduceToNat] at ho; rw [← Ny141.out] at ho)); obtain ⟨Ay141, Cy141, e_⟩ := Kd.R_slice ho; subst e_; have HLy141 := ak (Kd.R_reads' ho).2.1; replace HF := ak ((HF.out.below hb).addI (Kd.R_reads' ho).2.2); replace HB := ak (bsp HB.out hb); clear hb ho) | (go_at_call 30; have hx1 := HF.out.r (A := Ay114) (l := y114) 1 rfl; have hx2 := HF.out.i (A := Ay138) (l := y138) 1 rfl; have hx3 := HF.out.i (A := Ay141) (l := y141) 0 rfl; (refine (peel_Ok.calls 2 1 none 0 ([] : List Int) 7 _ _ y114 _ _ y138 _ _ y141 t144 t147 t150 _ (Kd.C_nil _ _) (Nat.le_refl _) hx1 HLy114.out hx2 HLy138.out hx3 HLy141.out A5.out).mono ?_); clear hx1 hx2 hx3; rintro e w30 ⟨va0, va1, rfl, ho0, ho1, hb⟩; obtain ⟨At144, Ct144, e_⟩ := Kd.R_slice ho0; subst e_; have HLt144 := ak (Kd.R_reads' ho0).2.1; obtain ⟨At147, Ct147, e_⟩ := Kd.R_slice ho1; subst e_; have HLt147 := ak (Kd.R_reads' ho1).2.1; replace HF := ak (((HF.out.below hb).addI (Kd.R_reads' ho0).2.2).addI (Kd.R_reads' ho1).2.2); replace HB := ak (bsp HB.out hb); clear hb ho0 ho1; have hzf0 : w30.cell? ⟨gb101, 0, none⟩ = some (.int .i64 2) := (kce (HF.out.b (g := gb101) (cs := #[.int .i64 2, .int .i64 1, .slice none 0 0]) (t := 24) 2 rfl) 0).trans rfl; have hzf1 : w30.cell? ⟨gb101, 1, none⟩ = some (.int .i64 1) := (kce (HF.out.b (g := gb101) (cs := #[.int .i64 2, .int .i64 1, .slice none 0 0]) (t := 24) 2 rfl) 1).trans rfl; have hzf2 : w30.cell? ⟨gb101, 2, none⟩ = some (.slice none 0 0) := (kce (HF.out.b (g := gb101) (cs := #[.int .i64 2, .int .i64 1, .slice none 0 0]) (t := 24) 2 rfl) 2).trans rfl; have hzh0 : w30.cell? ⟨gb117, 0, none⟩ = some (.int .i64 7) := (kce (HF.out.b (g := gb117) (cs := #[.int .i64 7, .slice Ay114 y114.length Cy114]) (t := 27) 1 rfl) 0).trans rfl; have hzh1 : w30.cell? ⟨gb117, 1, none⟩ = some (.slice Ay114 y114.length Cy114) := (kce (HF.out.b (g := gb117) (cs := #[.int .i64 7, .slice Ay114 y114.length Cy114]) (t := 27) 1 rfl) 1).trans rfl))
 go_upto_region 10 with (first | ((with_reducible refine gate_dst (N := 67) rfl ?_); (try (refine gate_guard (by rfl) ?_; dsimp only)); refine Kd.R_lit (Kd.int .i64) _ 3 ?hg (N := 67) ?hd (xs := ([0, 1, 4, 6] : List Int)) (inner := [.int .i64 0, .int .i64 1, .int .i64 4, .int .i64 6]) (ok := fun _ => True) (okp := fun _ => True) ?hr ?hp (fun _ hk => hk) trivial (Below.refl _ _) (Nat.le_refl _) (by simp) ?_; (case hd => rfl); (case hg => rfl); (case hr => first | (go_simp; done) | (go_simp; rfl)); (case hp => exact (Reps.one (show Kd.M (Kd.int .i64) _ _ _ 0 [.int .i64 0] from rfl) (Reps.one (show Kd.M (Kd.int .i64) _ _ _ 1 [.int .i64 1] from rfl) (Reps.one (show Kd.M (Kd.int .i64) _ _ _ 4 [.int .i64 4] from rfl) (Reps.one (show Kd.M (Kd.int .i64) _ _ _ 6 [.int .i64 6] from rfl) (Reps.none _ _)))))); intro v_ w31 ho hb hg_ hnew_; clear hg_ hnew_; (first | rw [← Ny151.out] at ho | (simp only [Int.reduceToNat] at ho; rw [← Ny151.out] at ho)); obtain ⟨Ay151, Cy151, e_⟩ := Kd.R_slice ho; subst e_; have HLy151 := ak (Kd.R_reads' ho).2.1; replace HF := ak ((HF.out.below hb).addI (Kd.R_reads' ho).2.2); replace HB := ak (bsp HB.out hb); clear hb ho) | (go_at_call 30; have hx1 := HF.out.r (A := Ay114) (l := y114) 1 rfl; have hx2 := HF.out.i (A := Ay118) (l := y118) 7 rfl; have hx3 := HF.out.i (A := Ay151) (l := y151) 0 rfl; (refine (peel_Ok.calls 2 1 none 0 ([] : List Int) 7 _ _ y114 _ _ y118 _ _ y151 t154 t157 t160 _ (Kd.C_nil _ _) (Nat.le_refl _) hx1 HLy114.out hx2 HLy118.out hx3 HLy151.out A6.out).mono ?_); clear hx1 hx2 hx3; rintro e w32 ⟨va0, va1, rfl, ho0, ho1, hb⟩; obtain ⟨At154, Ct154, e_⟩ := Kd.R_slice ho0; subst e_; have HLt154 := ak (Kd.R_reads' ho0).2.1; obtain ⟨At157, Ct157, e_⟩ := Kd.R_slice ho1; subst e_; have HLt157 := ak (Kd.R_reads' ho1).2.1; replace HF := ak (((HF.out.below hb).addI (Kd.R_reads' ho0).2.2).addI (Kd.R_reads' ho1).2.2); replace HB := ak (bsp HB.out hb); clear hb ho0 ho1; have hzf0 : w32.cell? ⟨gb101, 0, none⟩ = some (.int .i64 2) := (kce (HF.out.b (g := gb101) (cs := #[.int .i64 2, .int .i64 1, .slice none 0 0]) (t := 24) 2 rfl) 0).trans rfl; have hzf1 : w32.cell? ⟨gb101, 1, none⟩ = some (.int .i64 1) := (kce (HF.out.b (g := gb101) (cs := #[.int .i64 2, .int .i64 1, .slice none 0 0]) (t := 24) 2 rfl) 1).trans rfl; have hzf2 : w32.cell? ⟨gb101, 2, none⟩ = some (.slice none 0 0) := (kce (HF.out.b (g := gb101) (cs := #[.int .i64 2, .int .i64 1, .slice none 0 0]) (t := 24) 2 rfl) 2).trans rfl; have hzh0 : w32.cell? ⟨gb117, 0, none⟩ = some (.int .i64 7) := (kce (HF.out.b (g := gb117) (cs := #[.int .i64 7, .slice Ay114 y114.length Cy114]) (t := 27) 1 rfl) 0).trans rfl; have hzh1 : w32.cell? ⟨gb117, 1, none⟩ = some (.slice Ay114 y114.length Cy114) := (kce (HF.out.b (g := gb117) (cs := #[.int .i64 7, .slice Ay114 y114.length Cy114]) (t := 27) 1 rfl) 1).trans rfl))
 go_upto_region 11 with (first | ((with_reducible refine gate_dst (N := 75) rfl ?_); (try (refine gate_guard (by rfl) ?_; dsimp only)); refine Kd.R_lit (Kd.int .i64) _ 3 ?hg (N := 75) ?hd (xs := ([1, 0, 0, 0, 0, 0, 0] : List Int)) (inner := [.int .i64 1, .int .i64 0, .int .i64 0, .int .i64 0, .int .i64 0, .int .i64 0, .int .i64 0]) (ok := fun _ => True) (okp := fun _ => True) ?hr ?hp (fun _ hk => hk) trivial (Below.refl _ _) (Nat.le_refl _) (by simp) ?_; (case hd => rfl); (case hg => rfl); (case hr => first | (go_simp; done) | (go_simp; rfl)); (case hp => exact (Reps.one (show Kd.M (Kd.int .i64) _ _ _ 1 [.int .i64 1] from rfl) (Reps.one (show Kd.M (Kd.int .i64) _ _ _ 0 [.int .i64 0] from rfl) (Reps.one (show Kd.M (Kd.int .i64) _ _ _ 0 [.int .i64 0] from rfl) (Reps.one (show Kd.M (Kd.int .i64) _ _ _ 0 [.int .i64 0] from rfl) (Reps.one (show Kd.M (Kd.int .i64) _ _ _ 0 [.int .i64 0] from rfl) (Reps.one (show Kd.M (Kd.int .i64) _ _ _ 0 [.int .i64 0] from rfl) (Reps.one (show Kd.M (Kd.int .i64) _ _ _ 0 [.int .i64 0] from rfl) (Reps.none _ _))))))))); intro v_ w33 ho hb hg_ hnew_; clear hg_ hnew_; (first | rw [← Ny161.out] at ho | (simp only [Int.reduceToNat] at ho; rw [← Ny161.out] at ho)); obtain ⟨Ay161, Cy161, e_⟩ := Kd.R_slice ho; subst e_; have HLy161 := ak (Kd.R_reads' ho).2.1; replace HF := ak ((HF.out.below hb).addI (Kd.R_reads' ho).2.2); replace HB := ak (bsp HB.out hb); clear hb ho) | (go_at_call 30; have hx1 := HF.out.r (A := Ay114) (l := y114) 1 rfl; have hx2 := HF.out.i (A := Ay161) (l := y161) 0 rfl; (refine (peel_Ok.calls 2 1 none 0 ([] : List Int) 7 _ _ y114 _ _ y161 none 0 ([] : List Int) t164 t167 t170 _ (Kd.C_nil _ _) (Nat.le_refl _) hx1 HLy114.out hx2 HLy161.out (Kd.C_nil _ _) (Nat.le_refl _) A7.out).mono ?_); clear hx1 hx2; rintro e w34 ⟨va0, va1, rfl, ho0, ho1, hb⟩; obtain ⟨At164, Ct164, e_⟩ := Kd.R_slice ho0; subst e_; have HLt164 := ak (Kd.R_reads' ho0).2.1; obtain ⟨At167, Ct167, e_⟩ := Kd.R_slice ho1; subst e_; have HLt167 := ak (Kd.R_reads' ho1).2.1; replace HF := ak (((HF.out.below hb).addI (Kd.R_reads' ho0).2.2).addI (Kd.R_reads' ho1).2.2); replace HB := ak (bsp HB.out hb); clear hb ho0 ho1; have hzt0 : w34.cell? ⟨gb126, 0, none⟩ = some (.int .i64 t121) := (kce (HF.out.b (g := gb126) (cs := #[.int .i64 t121, .slice At122 t122.length Ct122]) (t := 31) 0 rfl) 0).trans rfl; have hzt1 : w34.cell? ⟨gb126, 1, none⟩ = some (.slice At122 t122.length Ct122) := (kce (HF.out.b (g := gb126) (cs := #[.int .i64 t121, .slice At122 t122.length Ct122]) (t := 31) 0 rfl) 1).trans rfl))
 go_upto_region 12 with (first | ((with_reducible refine gate_dst (N := 82) rfl ?_); (try (refine gate_guard (by rfl) ?_; dsimp only)); refine Kd.R_lit (Kd.int .i64) _ 3 ?hg (N := 82) ?hd (xs := ([0, 1, 2, 4] : List Int)) (inner := [.int .i64 0, .int .i64 1, .int .i64 2, .int .i64 4]) (ok := fun _ => True) (okp := fun _ => True) ?hr ?hp (fun _ hk => hk) trivial (Below.refl _ _) (Nat.le_refl _) (by simp) ?_; (case hd => rfl); (case hg => rfl); (case hr => first | (go_simp; done) | (go_simp; rfl)); (case hp => exact (Reps.one (show Kd.M (Kd.int .i64) _ _ _ 0 [.int .i64 0] from rfl) (Reps.one (show Kd.M (Kd.int .i64) _ _ _ 1 [.int .i64 1] from rfl) (Reps.one (show Kd.M (Kd.int .i64) _ _ _ 2 [.int .i64 2] from rfl) (Reps.one (show Kd.M (Kd.int .i64) _ _ _ 4 [.int .i64 4] from rfl) (Reps.none _ _)))))); intro v_ w35 ho hb hg_ hnew_; clear hg_ hnew_; (first | rw [← Ny171.out] at ho | (simp only [Int.reduceToNat] at ho; rw [← Ny171.out] at ho)); obtain ⟨Ay171, Cy171, e_⟩ := Kd.R_slice ho; subst e_; have HLy171 := ak (Kd.R_reads' ho).2.1; replace HF := ak ((HF.out.below hb).addI (Kd.R_reads' ho).2.2); replace HB := ak (bsp HB.out hb); clear hb ho) | (go_at_call 24; have hx1 := HF.out.r (A := At122) (l := t122) 0 rfl; have hx2 := HF.out.i (A := Ay171) (l := y171) 0 rfl; (with_reducible refine (peel_Greatest.calls k t121 _ _ t122 _ _ y171 t174 t177 _ hx1 HLt122.out hx2 HLy171.out A8.out).mono ?_); clear hx1 hx2; rintro e w36 ⟨va0, rfl, ho0, hb⟩; obtain ⟨At174, Ct174, e_⟩ := Kd.R_slice ho0; subst e_; have HLt174 := ak (Kd.R_reads' ho0).2.1; replace HF := ak ((HF.out.below hb).addI (Kd.R_reads' ho0).2.2); replace HB := ak (bsp HB.out hb); clear hb ho0; have hzt0 : w36.cell? ⟨gb126, 0, none⟩ = some (.int .i64 t121) := (kce (HF.out.b (g := gb126) (cs := #[.int .i64 t121, .slice At122 t122.length Ct122]) (t := 31) 0 rfl) 0).trans rfl; have hzt1 : w36.cell? ⟨gb126, 1, none⟩ = some (.slice At122 t122.length Ct122) := (kce (HF.out.b (g := gb126) (cs := #[.int .i64 t121, .slice At122 t122.length Ct122]) (t := 31) 0 rfl) 1).trans rfl))
 have c75b0 : (t125 == 0) = true := beq_iff_eq.mpr c75
 have c75b1 : (t125 != 0) = false := bnm c75
 clear c75
 have c76b0 : (t128 == 0) = true := beq_iff_eq.mpr c76
 have c76b1 : (t128 != 0) = false := bnm c76
 clear c76
 have c77b0 : (t132 == 0) = true := beq_iff_eq.mpr c77
 have c77b1 : (t132 != 0) = false := bnm c77
 clear c77
 have c78b0 : (t137 == 0) = true := beq_iff_eq.mpr c78
 have c78b1 : (t137 != 0) = false := bnm c78
 clear c78
 have c79b0 : (t150 == 0) = true := beq_iff_eq.mpr c79
 have c79b1 : (t150 != 0) = false := bnm c79
 clear c79
 have c80b0 : (t160 == 0) = true := beq_iff_eq.mpr c80
 have c80b1 : (t160 != 0) = false := bnm c80
 clear c80
 have c81b0 : (t170 == 12) = true := beq_iff_eq.mpr c81
 have c81b1 : (t170 != 12) = false := bnm c81
 clear c81
 have c82b1 : (t177 != 0) = false := bnm c82
 clear c82
 (first | rw [c75b0] | (simp only [i64_w, i32_w]; rw [c75b0]) | skip)
 have c85b0 : (t127 == 6) = true := beq_iff_eq.mpr c85
 have c85b1 : (t127 != 6) = false := bnm c85
 clear c85
 have c112b0 : ((t174.length : Int) == 0) = true := beq_iff_eq.mpr c112
 have c112b1 : ((t174.length : Int) != 0) = false := bnm c112
 clear c112
 have c114b0 : (t198 == 0) = true := beq_iff_eq.mpr c114
 have c114b1 : (t198 != 0) = false := bnm c114
 clear c114
 have c117b0 : ((t147.length : Int) == 0) = true := beq_iff_eq.mpr c117
 have c117b1 : ((t147.length : Int) != 0) = false := bnm c117
 clear c117
 go_upto_region 14 with ((fail))
 go_upto_region 15 with (first | ((with_reducible refine gate_dst (N := 117) rfl ?_); (try (refine gate_guard (by rfl) ?_; dsimp only)); refine Kd.R_lit (Kd.int .i64) _ 3 ?hg (N := 117) ?hd (xs := ([0, 1, 3] : List Int)) (inner := [.int .i64 0, .int .i64 1, .int .i64 3]) (ok := fun _ => True) (okp := fun _ => True) ?hr ?hp (fun _ hk => hk) trivial (Below.refl _ _) (Nat.le_refl _) (by simp) ?_; (case hd => rfl); (case hg => rfl); (case hr => first | (go_simp; done) | (go_simp; rfl)); (case hp => exact (Reps.one (show Kd.M (Kd.int .i64) _ _ _ 0 [.int .i64 0] from rfl) (Reps.one (show Kd.M (Kd.int .i64) _ _ _ 1 [.int .i64 1] from rfl) (Reps.one (show Kd.M (Kd.int .i64) _ _ _ 3 [.int .i64 3] from rfl) (Reps.none _ _))))); intro v_ w37 ho hb hg_ hnew_; clear hg_ hnew_; (first | rw [← Ny178.out] at ho | (simp only [Int.reduceToNat] at ho; rw [← Ny178.out] at ho)); obtain ⟨Ay178, Cy178, e_⟩ := Kd.R_slice ho; subst e_; have HLy178 := ak (Kd.R_reads' ho).2.1; replace HF := ak ((HF.out.below hb).addI (Kd.R_reads' ho).2.2); replace HB := ak (bsp HB.out hb); have HRy178 := ak ho; clear hb ho) | ((with_reducible refine gate_dst (N := 118) rfl ?_); (try (refine gate_guard (by rfl) ?_; dsimp only)); refine Kd.R_lit (Kd.int .i64) _ 3 ?hg (N := 118) ?hd (xs := ([1, 2, 4] : List Int)) (inner := [.int .i64 1, .int .i64 2, .int .i64 4]) (ok := fun _ => True) (okp := fun _ => True) ?hr ?hp (fun _ hk => hk) trivial (Below.refl _ _) (Nat.le_refl _) (by simp) ?_; (case hd => rfl); (case hg => rfl); (case hr => first | (go_simp; done) | (go_simp; rfl)); (case hp => exact (Reps.one (show Kd.M (Kd.int .i64) _ _ _ 1 [.int .i64 1] from rfl) (Reps.one (show Kd.M (Kd.int .i64) _ _ _ 2 [.int .i64 2] from rfl) (Reps.one (show Kd.M (Kd.int .i64) _ _ _ 4 [.int .i64 4] from rfl) (Reps.none _ _))))); intro v_ w38 ho hb hg_ hnew_; clear hg_ hnew_; (first | rw [← Ny181.out] at ho | (simp only [Int.reduceToNat] at ho; rw [← Ny181.out] at ho)); obtain ⟨Ay181, Cy181, e_⟩ := Kd.R_slice ho; subst e_; have HLy181 := ak (Kd.R_reads' ho).2.1; replace HF := ak ((HF.out.below hb).addI (Kd.R_reads' ho).2.2); replace HB := ak (bsp HB.out hb); replace HRy178 := ak (Kd.R_below HRy178.out hb); have HRy181 := ak ho; clear hb ho) | ((with_reducible refine gate_dst (N := 119) rfl ?_); (try (refine gate_guard (by rfl) ?_; dsimp only)); refine Kd.R_lit (Kd.int .i64) _ 3 ?hg (N := 119) ?hd (xs := ([2, 3, 5] : List Int)) (inner := [.int .i64 2, .int .i64 3, .int .i64 5]) (ok := fun _ => True) (okp := fun _ => True) ?hr ?hp (fun _ hk => hk) trivial (Below.refl _ _) (Nat.le_refl _) (by simp) ?_; (case hd => rfl); (case hg => rfl); (case hr => first | (go_simp; done) | (go_simp; rfl)); (case hp => exact (Reps.one (show Kd.M (Kd.int .i64) _ _ _ 2 [.int .i64 2] from rfl) (Reps.one (show Kd.M (Kd.int .i64) _ _ _ 3 [.int .i64 3] from rfl) (Reps.one (show Kd.M (Kd.int .i64) _ _ _ 5 [.int .i64 5] from rfl) (Reps.none _ _))))); intro v_ w39 ho hb hg_ hnew_; clear hg_ hnew_; (first | rw [← Ny184.out] at ho | (simp only [Int.reduceToNat] at ho; rw [← Ny184.out] at ho)); obtain ⟨Ay184, Cy184, e_⟩ := Kd.R_slice ho; subst e_; have HLy184 := ak (Kd.R_reads' ho).2.1; replace HF := ak ((HF.out.below hb).addI (Kd.R_reads' ho).2.2); replace HB := ak (bsp HB.out hb); replace HRy178 := ak (Kd.R_below HRy178.out hb); replace HRy181 := ak (Kd.R_below HRy181.out hb); have HRy184 := ak ho; clear hb ho) | ((with_reducible refine gate_dst (N := 120) rfl ?_); (try (refine gate_guard (by rfl) ?_; dsimp only)); refine Kd.R_lit (Kd.int .i64) _ 3 ?hg (N := 120) ?hd (xs := ([3, 4, 6] : List Int)) (inner := [.int .i64 3, .int .i64 4, .int .i64 6]) (ok := fun _ => True) (okp := fun _ => True) ?hr ?hp (fun _ hk => hk) trivial (Below.refl _ _) (Nat.le_refl _) (by simp) ?_; (case hd => rfl); (case hg => rfl); (case hr => first | (go_simp; done) | (go_simp; rfl)); (case hp => exact (Reps.one (show Kd.M (Kd.int .i64) _ _ _ 3 [.int .i64 3] from rfl) (Reps.one (show Kd.M (Kd.int .i64) _ _ _ 4 [.int .i64 4] from rfl) (Reps.one (show Kd.M (Kd.int .i64) _ _ _ 6 [.int .i64 6] from rfl) (Reps.none _ _))))); intro v_ w40 ho hb hg_ hnew_; clear hg_ hnew_; (first | rw [← Ny187.out] at ho | (simp only [Int.reduceToNat] at ho; rw [← Ny187.out] at ho)); obtain ⟨Ay187, Cy187, e_⟩ := Kd.R_slice ho; subst e_; have HLy187 := ak (Kd.R_reads' ho).2.1; replace HF := ak ((HF.out.below hb).addI (Kd.R_reads' ho).2.2); replace HB := ak (bsp HB.out hb); replace HRy178 := ak (Kd.R_below HRy178.out hb); replace HRy181 := ak (Kd.R_below HRy181.out hb); replace HRy184 := ak (Kd.R_below HRy184.out hb); have HRy187 := ak ho; clear hb ho) | ((with_reducible refine gate_dst (N := 121) rfl ?_); (try (refine gate_guard (by rfl) ?_; dsimp only)); refine Kd.N_lit (Kd.slice 3 (Kd.int .i64)) _ 22 ?hg (N' := 121) ?hd (xs := ([y178, y181, y184, y187] : List (List Int))) (inner := [.slice Ay178 y178.length Cy178, .slice Ay181 y181.length Cy181, .slice Ay184 y184.length Cy184, .slice Ay187 y187.length Cy187]) (ok := fun _ => True) (okp := fun _ => True) ?hr ?hp (fun _ hk => hk) trivial (Below.refl _ _) (Nat.le_refl _) (by simp) ?_; (case hd => rfl); (case hg => rfl); (case hr => first | (go_simp; done) | (go_simp; rfl)); (case hp => exact (Reps.one (show Kd.FK (Kd.slice 3 (Kd.int .i64)) _ _ y178 [.slice Ay178 y178.length Cy178] from Kd.FK_slice_mk HLy178.out (Kd.R_F HRy178.out)) (Reps.one (show Kd.FK (Kd.slice 3 (Kd.int .i64)) _ _ y181 [.slice Ay181 y181.length Cy181] from Kd.FK_slice_mk HLy181.out (Kd.R_F HRy181.out)) (Reps.one (show Kd.FK (Kd.slice 3 (Kd.int .i64)) _ _ y184 [.slice Ay184 y184.length Cy184] from Kd.FK_slice_mk HLy184.out (Kd.R_F HRy184.out)) (Reps.one (show Kd.FK (Kd.slice 3 (Kd.int .i64)) _ _ y187 [.slice Ay187 y187.length Cy187] from Kd.FK_slice_mk HLy187.out (Kd.R_F HRy187.out)) (Reps.none _ _)))))); intro v_ w41 ho hb hg_ hnew_; clear hg_ hnew_; rw [← Ny190.out] at ho; obtain ⟨Ay190, Cy190, e_⟩ := Kd.N_slice ho; subst e_; have HLy190 := ak (Kd.N_reads' ho).2.1; replace HF := ak ((HF.out.below hb).addR (Kd.N_reads' ho).2.2); replace HB := ak (bsp HB.out hb); clear HRy178 HRy181 HRy184 HRy187; clear hb ho) | (go_at_call 16; have hx1 := HF.out.r (A := At122) (l := t122) 1 rfl; have hx2 := HF.out.r (A := Ay190) (l := y190) 0 rfl; (with_reducible refine (r44_Same.calls kj8 t121 _ _ t122 7 _ _ y190 true _ hx1 HLt122.out hx2 HLy190.out A83.out).mono ?_); clear hx1 hx2; rintro e w42 ⟨rfl, hb⟩; replace HF := ak (HF.out.below hb); replace HB := ak (bsp HB.out hb); clear hb) | ((with_reducible refine gate_dst (N := 130) rfl ?_); (try (refine gate_guard (by rfl) ?_; dsimp only)); refine Kd.R_lit (Kd.int .i64) _ 3 ?hg (N := 130) ?hd (xs := ([0, 1, 2, 5] : List Int)) (inner := [.int .i64 0, .int .i64 1, .int .i64 2, .int .i64 5]) (ok := fun _ => True) (okp := fun _ => True) ?hr ?hp (fun _ hk => hk) trivial (Below.refl _ _) (Nat.le_refl _) (by simp) ?_; (case hd => rfl); (case hg => rfl); (case hr => first | (go_simp; done) | (go_simp; rfl)); (case hp => exact (Reps.one (show Kd.M (Kd.int .i64) _ _ _ 0 [.int .i64 0] from rfl) (Reps.one (show Kd.M (Kd.int .i64) _ _ _ 1 [.int .i64 1] from rfl) (Reps.one (show Kd.M (Kd.int .i64) _ _ _ 2 [.int .i64 2] from rfl) (Reps.one (show Kd.M (Kd.int .i64) _ _ _ 5 [.int .i64 5] from rfl) (Reps.none _ _)))))); intro v_ w43 ho hb hg_ hnew_; clear hg_ hnew_; (first | rw [← Ny194.out] at ho | (simp only [Int.reduceToNat] at ho; rw [← Ny194.out] at ho)); obtain ⟨Ay194, Cy194, e_⟩ := Kd.R_slice ho; subst e_; have HLy194 := ak (Kd.R_reads' ho).2.1; replace HF := ak ((HF.out.below hb).addI (Kd.R_reads' ho).2.2); replace HB := ak (bsp HB.out hb); clear hb ho) | (go_at_call 28; have hx1 := HF.out.i (A := At129) (l := t129) 18 rfl; have hx2 := HF.out.i (A := Ay194) (l := y194) 0 rfl; (with_reducible refine (r9_SameInts.calls kj8 _ _ t129 _ _ y194 true _ hx1 HLt129.out hx2 HLy194.out A86.out).mono ?_); clear hx1 hx2; rintro e w' ⟨rfl, ⟨nd, rfl⟩⟩; replace HF := ak (HF.out.below (pbn (Below.refl _ _) nd)); replace HB := ak (pbn HB.out nd); generalize w43.drewN nd = w44 at HF HB ⊢; clear nd; have hzt0 : w44.cell? ⟨gb126, 0, none⟩ = some (.int .i64 t121) := (kce (HF.out.b (g := gb126) (cs := #[.int .i64 t121, .slice At122 t122.length Ct122]) (t := 31) 0 rfl) 0).trans rfl; have hzt1 : w44.cell? ⟨gb126, 1, none⟩ = some (.slice At122 t122.length Ct122) := (kce (HF.out.b (g := gb126) (cs := #[.int .i64 t121, .slice At122 t122.length Ct122]) (t := 31) 0 rfl) 1).trans rfl) | (go_at_call 22; have hx1 := HF.out.r (A := At122) (l := t122) 1 rfl; (with_reducible refine (peel_Check.calls t121 _ _ t122 t198 _ hx1 HLt122.out A113.out).mono ?_); clear hx1; rintro e w45 ⟨rfl, hb⟩; replace HF := ak (HF.out.below hb); replace HB := ak (bsp HB.out hb); clear hb))
 go_wp2_with (first | (go_at_call 28; have hx1 := HF.out.i (A := At144) (l := t144) 14 rfl; have hx2 := HF.out.i (A := Ay118) (l := y118) 19 rfl; (with_reducible refine (r9_SameInts.calls kj8 _ _ t144 _ _ y118 true _ hx1 HLt144.out hx2 HLy118.out A115.out).mono ?_); clear hx1 hx2; rintro e w' ⟨rfl, ⟨nd, rfl⟩⟩; replace HF := ak (HF.out.below (pbn (Below.refl _ _) nd)); replace HB := ak (pbn HB.out nd); generalize w45.drewN nd = w46 at HF HB ⊢; clear nd) | ((with_reducible refine gate_dst (N := 160) rfl ?_); (try (refine gate_guard (by rfl) ?_; dsimp only)); refine Kd.R_make (Kd.int .i64) _ 3 rfl (N := 160) rfl 22 _ _ rfl 7 rfl rfl Try.underlying22 (.int .i64 0) 8 info3 rfl (by decide) (by omega) 0 (ok := fun _ => True) (okp := fun _ => True) rfl (fun _ hk => hk) trivial (by omega) (by omega) (Below.refl _ _) (Nat.le_refl _) ?_; intro v_ w47 ho hb hg_ hnew_; clear hg_ hnew_; (first | rw [← Ny200.out] at ho | (simp only [Int.reduceToNat] at ho; rw [← Ny200.out] at ho)); obtain ⟨Ay200, Cy200, e_⟩ := Kd.R_slice ho; subst e_; have HLy200 := ak (Kd.R_reads' ho).2.1; replace HF := ak ((HF.out.below hb).addI (Kd.R_reads' ho).2.2); replace HB := ak (bsp HB.out hb); clear hb ho) | (go_at_call 28; have hx1 := HF.out.i (A := At154) (l := t154) 12 rfl; have hx2 := HF.out.i (A := Ay200) (l := y200) 0 rfl; (with_reducible refine (r9_SameInts.calls kj8 _ _ t154 _ _ y200 true _ hx1 HLt154.out hx2 HLy200.out A119.out).mono ?_); clear hx1 hx2; rintro e w' ⟨rfl, ⟨nd, rfl⟩⟩; replace HF := ak (HF.out.below (pbn (Below.refl _ _) nd)); replace HB := ak (pbn HB.out nd); generalize w47.drewN nd = w48 at HF HB ⊢; clear nd) | ((with_reducible refine gate_dst (N := 165) rfl ?_); (try (refine gate_guard (by rfl) ?_; dsimp only)); refine Kd.R_lit (Kd.int .i64) _ 3 ?hg (N := 165) ?hd (xs := ([0, 1, 4, 6] : List Int)) (inner := [.int .i64 0, .int .i64 1, .int .i64 4, .int .i64 6]) (ok := fun _ => True) (okp := fun _ => True) ?hr ?hp (fun _ hk => hk) trivial (Below.refl _ _) (Nat.le_refl _) (by simp) ?_; (case hd => rfl); (case hg => rfl); (case hr => first | (go_simp; done) | (go_simp; rfl)); (case hp => exact (Reps.one (show Kd.M (Kd.int .i64) _ _ _ 0 [.int .i64 0] from rfl) (Reps.one (show Kd.M (Kd.int .i64) _ _ _ 1 [.int .i64 1] from rfl) (Reps.one (show Kd.M (Kd.int .i64) _ _ _ 4 [.int .i64 4] from rfl) (Reps.one (show Kd.M (Kd.int .i64) _ _ _ 6 [.int .i64 6] from rfl) (Reps.none _ _)))))); intro v_ w49 ho hb hg_ hnew_; clear hg_ hnew_; (first | rw [← Ny204.out] at ho | (simp only [Int.reduceToNat] at ho; rw [← Ny204.out] at ho)); obtain ⟨Ay204, Cy204, e_⟩ := Kd.R_slice ho; subst e_; have HLy204 := ak (Kd.R_reads' ho).2.1; replace HF := ak ((HF.out.below hb).addI (Kd.R_reads' ho).2.2); replace HB := ak (bsp HB.out hb); clear hb ho) | (go_at_call 28; have hx1 := HF.out.i (A := At157) (l := t157) 12 rfl; have hx2 := HF.out.i (A := Ay204) (l := y204) 0 rfl; (with_reducible refine (r9_SameInts.calls kj8 _ _ t157 _ _ y204 true _ hx1 HLt157.out hx2 HLy204.out A121.out).mono ?_); clear hx1 hx2; rintro e w' ⟨rfl, ⟨nd, rfl⟩⟩; replace HF := ak (HF.out.below (pbn (Below.refl _ _) nd)); replace HB := ak (pbn HB.out nd); generalize w49.drewN nd = w50 at HF HB ⊢; clear nd))
 go_ret
 exact ⟨by first | rfl | (simp [*]; done), HB.out⟩
end Go.Proofs.Ytkifipakikbhcaa.La
namespace Go.Proofs.Ytkifipakikbhcaa.Hand
open Go.RowKit YtkifipakikbhcaaW.PrintWords YtkifipakikbhcaaW.PrintLast YtkifipakikbhcaaW.PrintMore
def l44_awake.f : Option Bool := some true
theorem l44_awake.calls (r : Bool) (w : World) (h : l44_awake.f = some r) :
  Calls Try.prog 12 #[] w fun e w' => e = .returned (.bool r) ∧ Below w.heap.size w w' := by
 have e : true = r := osi h
 subst e
 exact La.awake_walk 4096 4096 ((([1, 1, 0, 1, 0, 0, 0] : List Int))) rfl ((([0, 1, 1, 0, 1, 0, 0] : List Int))) rfl ((([0, 0, 1, 1, 0, 1, 0] : List Int))) rfl ((([0, 0, 0, 1, 1, 0, 1] : List Int))) rfl ((([(([1, 1, 0, 1, 0, 0, 0] : List Int)), (([0, 1, 1, 0, 1, 0, 0] : List Int)), (([0, 0, 1, 1, 0, 1, 0] : List Int)), (([0, 0, 0, 1, 1, 0, 1] : List Int))] : List (List Int)))) rfl ((([1, 1, 0, 0, 1, 0, 1] : List Int))) rfl 7 [[0, 1, 3], [1, 2, 4], [2, 3, 5], [3, 4, 6]] 0 (by decide +kernel) 6 0 (by decide +kernel) [0, 1, 2, 5] 0 (by decide +kernel) ((([5, 6] : List Int))) rfl 0 (by decide +kernel) ((([0, 1, 0, 1, 1, 0, 1] : List Int))) rfl ((([0, 3] : List Int))) rfl [1, 1, 0, 0, 1, 0, 1] [] 0 (by decide +kernel) ((([0, 1, 4, 6] : List Int))) rfl [0, 0, 0, 0, 0, 0, 0] [0, 1, 4, 6] 0 (by decide +kernel) ((([1, 0, 0, 0, 0, 0, 0] : List Int))) rfl [] [] 12 (by decide +kernel) ((([0, 1, 2, 4] : List Int))) rfl [] 0 (by decide +kernel) rfl rfl rfl rfl rfl rfl rfl ((([0, 1, 3] : List Int))) rfl ((([1, 2, 4] : List Int))) rfl ((([2, 3, 5] : List Int))) rfl ((([3, 4, 6] : List Int))) rfl ((([(([0, 1, 3] : List Int)), (([1, 2, 4] : List Int)), (([2, 3, 5] : List Int)), (([3, 4, 6] : List Int))] : List (List Int)))) rfl (by decide +kernel) rfl ((([0, 1, 2, 5] : List Int))) rfl (by decide +kernel) rfl 0 (by decide +kernel) rfl (by decide +kernel) rfl ((List.replicate 7 0)) rfl (by decide +kernel) ((([0, 1, 4, 6] : List Int))) rfl (by decide +kernel) rfl w
end Go.Proofs.Ytkifipakikbhcaa.Hand
namespace Go.Proofs.Ytkifipakikbhcaa.Lb
open Ytkifipakikbhcaa.Ref Ytkifipakikbhcaa.Pg Ytkifipakikbhcaa.Pk Ytkifipakikbhcaa.Pm Ytkifipakikbhcaa.Hand
open Go.RowKit YtkifipakikbhcaaW.PrintWords YtkifipakikbhcaaW.PrintLast YtkifipakikbhcaaW.PrintMore
def rd_L1 (xs : List (List Int)) (i : Int) : (List Int) := xs.getD i.toNat ([] : List Int)
end Go.Proofs.Ytkifipakikbhcaa.Lb
