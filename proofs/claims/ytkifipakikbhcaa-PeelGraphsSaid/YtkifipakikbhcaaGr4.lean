/- Part 4 of the claim: what the law reaches, walked (merged by slim.py out of the texts in wip). -/
import Derived.Test.YtkifipakikbhcaaGr3
import Derived.ArgAppend
import Derived.Below
import Derived.BigQuiet
import Derived.Deep.AppendLies
import Derived.Deep.CutBlock
import Derived.Deep.DeepCutAuto
import Derived.Deep.DrawnRows
import Derived.Deep.Draws
import Derived.Deep.LoopGhost
import Derived.Deep.OwnRows
import Derived.Deep.QuietTactic
import Derived.Deep.RegionHeld3
import Derived.KernelRfl
import Derived.Laws.BitsLemmas
import Derived.Laws.BytesArg
import Derived.Laws.IdiomCopy
import Derived.Laws.MakeOwn
import Derived.Laws.OwnMore
import Derived.Laws.Rows
import Derived.Laws.Slices
import Derived.Lib.AppendStr
import Derived.Lib.ConvBytes
import Derived.Maps.AppendAt
import Derived.OrdersHeld
import Derived.OwnWalk
import Derived.RowKit
import Derived.RowKit3
import Derived.StillTailTactics
import Derived.Tactics
import Derived.Test.YtkifipakikbhcaaProg
import Derived.WalkKit
import Derived.WalkSpells
import Derived.WideLaws
set_option maxHeartbeats 8000000
set_option maxRecDepth 100000
set_option linter.unusedSimpArgs false
set_option linter.unusedVariables false
namespace Go.Proofs.Ytkifipakikbhcaa.Pk
open Ytkifipakikbhcaa.Ref Ytkifipakikbhcaa.Pg Ytkifipakikbhcaa.Hand
open Go.RowKit YtkifipakikbhcaaW.PrintWords YtkifipakikbhcaaW.PrintLast YtkifipakikbhcaaW.PrintMore
def peel_Stopping.f (k : Nat) (a0_0 : Int) (l0_1 : List (List Int)) (l1 : List Int) : Option (Bool × Int) := (peel_Check.f a0_0 l0_1).bind fun t108 => (if t108 = 0 then ((peel_set.f k l1 a0_0).bind fun t109 => (if t109 = true then ((peel_mask.f k a0_0 l0_1 l1).bind fun t110 => ((peel_alone.f a0_0 l0_1 t110).bind fun t113 => (some (decide (t113 < 0), 0)))) else (some (false, 6)))) else (some (false, t108)))
def peel_Stopping.T6 : Bool × List (List Nat × List Nat) := (true, [([], []), ([], []), ([], []), ([1, 2], [1, 2]), ([0, 3, 3], [0, 3]), ([4], [4]), ([5, 4, 0, 1, 2, 3, 4, 5], [5]), ([6, 0, 1, 2, 3, 4, 5, 6], [])])
def peel_Stopping.B6 : List Nat := [0, 0, 0, 6, 15, 31, 63, 127]
theorem peel_Stopping.tab6 : rtab .any (opsOf Try.f20 6) = peel_Stopping.T6 := by kernel_rfl
theorem peel_Stopping.bits6 : waitsOk peel_Stopping.T6.2 peel_Stopping.B6 = true := by kernel_rfl
theorem peel_Stopping.calls (k : Nat) (a0_0 : Int) (A0_1 : Option Addr) (c0_1 : Nat) (l0_1 : List (List Int)) (A1 : Option Addr) (c1 : Nat) (l1 : List Int) (r1 : Bool) (r2 : Int) (w : World) (hr0_1 : Kd.C (Kd.slice 3 (Kd.int .i64)) w A0_1 l0_1.length l0_1) (hc0_1 : l0_1.length ≤ c0_1) (hr1 : Kd.C (Kd.int .i64) w A1 l1.length l1) (hc1 : l1.length ≤ c1) (h : peel_Stopping.f k a0_0 l0_1 l1 = some (r1, r2)) :
  Calls Try.prog 20 #[.agg #[.int .i64 a0_0, .slice A0_1 l0_1.length c0_1], .slice A1 l1.length c1] w fun e w' => e = .returned (.tuple #[.bool r1, .int .i64 r2]) ∧ Below w.heap.size w w' := by
 have hu31 := Try.underlying31
 have HR0_1 := ak hr0_1
 have HC0_1 := ak hc0_1
 clear hr0_1 hc0_1
 have HR1 := ak hr1
 have HC1 := ak hc1
 clear hr1 hc1
 have HB := ak (Below.refl w.heap.size w)
 have H : ((peel_Check.f a0_0 l0_1).bind fun t108 => (if t108 = 0 then ((peel_set.f k l1 a0_0).bind fun t109 => (if t109 = true then ((peel_mask.f k a0_0 l0_1 l1).bind fun t110 => ((peel_alone.f a0_0 l0_1 t110).bind fun t113 => (some (decide (t113 < 0), 0)))) else (some (false, 6)))) else (some (false, t108)))) = some (r1, r2) := h
 clear h
 replace H := obm H
 obtain ⟨t108, A30, H⟩ := H
 replace H : (if t108 = 0 then ((peel_set.f k l1 a0_0).bind fun t109 => (if t109 = true then ((peel_mask.f k a0_0 l0_1 l1).bind fun t110 => ((peel_alone.f a0_0 l0_1 t110).bind fun t113 => (some (decide (t113 < 0), 0)))) else (some (false, 6)))) else (some (false, t108))) = some (r1, r2) := H
 have A3 := ak A30
 clear A30
 by_cases c4 : t108 = 0
 ·rw [if_pos c4] at H
  have c4b0 : (t108 == 0) = true := beq_iff_eq.mpr c4
  have c4b1 : (t108 != 0) = false := bnm c4
  clear c4
  replace H := obm H
  obtain ⟨t109, A50, H⟩ := H
  replace H : (if t109 = true then ((peel_mask.f k a0_0 l0_1 l1).bind fun t110 => ((peel_alone.f a0_0 l0_1 t110).bind fun t113 => (some (decide (t113 < 0), 0)))) else (some (false, 6))) = some (r1, r2) := H
  have A5 := ak A50
  clear A50
  by_cases c6 : t109 = true
  ·subst c6
   have H1 : ((peel_mask.f k a0_0 l0_1 l1).bind fun t110 => ((peel_alone.f a0_0 l0_1 t110).bind fun t113 => (some (decide (t113 < 0), 0)))) = some (r1, r2) := by rw [if_pos rfl] at H; exact H
   clear H
   have H := H1
   clear H1
   replace H := obm H
   obtain ⟨t110, A70, H⟩ := H
   replace H : ((peel_alone.f a0_0 l0_1 t110).bind fun t113 => (some (decide (t113 < 0), 0))) = some (r1, r2) := H
   have A7 := ak A70
   clear A70
   replace H := obm H
   obtain ⟨t113, A80, H⟩ := H
   replace H : (some (decide (t113 < 0), 0)) = some (r1, r2) := H
   have A8 := ak A80
   clear A80
   simp only [Option.some.injEq, Prod.mk.injEq] at H
   obtain ⟨rfl, rfl⟩ := H
   go_enter Try.func20, Try.ntmps20
   try go_wp2_with (first | ((with_reducible refine gate_dst (N := 2) rfl ?_); refine box_event ?hg (N := 2) ?hd (cs := #[.int .i64 a0_0, .slice A0_1 l0_1.length c0_1]) (t := 31) ?hr ?_; (case hd => rfl); (case hg => rfl); (case hr => first | (go_simp; done) | (go_simp; rfl)); intro gb107 hg w9 hbox hb; have n0_ := ak (bsp (by repeat (first | (with_reducible first | exact HB.out | apply bal | apply pbn | apply bd1) | exact HB.out)) hb); have n1_ := ak (hbox); have n2_ := ak ((by rw [hg]; exact (bsz (by repeat (first | (with_reducible first | exact HB.out | apply bal | apply pbn | apply bd1) | exact HB.out))) : w.heap.size ≤ gb107)); have n3_ := ak ((by rw [hg]; exact (bsz (by repeat (first | (with_reducible first | exact HB.out | apply bal | apply pbn | apply bd1) | exact HB.out))) : w.heap.size ≤ gb107)); clear HB; have HB := n0_; have BK107 := n1_; have GW107 := n2_; have GE107 := n3_; clear n0_ n1_ n2_ n3_; clear hb hbox hg; have hcz10_0 : w9.cell? ⟨gb107, 0, none⟩ = some (.int .i64 a0_0) := (kce BK107.out 0).trans rfl; have hcz10_1 : w9.cell? ⟨gb107, 1, none⟩ = some (.slice A0_1 l0_1.length c0_1) := (kce BK107.out 1).trans rfl; have hfz10_0 := kfz BK107.out 0; have hfz10_1 := kfz BK107.out 1) | ((with_reducible refine gate_callee (f := 22) rfl ?_); refine goesL_ (some 8) rfl rfl Try.func22 (by kernel_rfl) rfl #[.agg #[.int .i64 a0_0, .slice A0_1 l0_1.length c0_1]] rfl (by (try simp only [List.map_toArray, List.map_cons, List.map_nil]); first | done | rfl | (simp only [List.length_drop, List.length_take]; rfl)) ?_; (with_reducible refine (peel_Check.calls a0_0 _ _ l0_1 t108 _ ?side1 ?side2 A3.out).mono ?_); (case side1 => repeat (first | exact (Kd.C_below HR0_1.out HB.out) | (with_reducible refine Kd.C_alloc ?_ _) | (with_reducible refine Kd.C_drewN ?_ _) | (with_reducible refine Kd.C_drew ?_))); (case side2 => exact HC0_1.out); rintro e w11 ⟨rfl, hb⟩; refine ⟨_, rfl, ?_⟩; have n0_ := ak (kbe (g := gb107) (o := .cells #[.int .i64 a0_0, .slice A0_1 l0_1.length c0_1] 31 (0, 0)) (by (with_reducible repeat (first | refine kdn ?_ _ | refine kdr ?_ | refine kal ?_ _)); exact BK107.out) hb); have n1_ := ak (bsp (by repeat (first | (with_reducible first | exact HB.out | apply bal | apply pbn | apply bd1 | refine bst ?_ GE107.out) | exact HB.out)) hb); clear BK107 HB; have BK107 := n0_; have HB := n1_; clear n0_ n1_; (try clear hb); (try clear hb2); (try clear hk); (try clear hi); have hcz12_0 : w11.cell? ⟨gb107, 0, none⟩ = some (.int .i64 a0_0) := (kce BK107.out 0).trans rfl; have hcz12_1 : w11.cell? ⟨gb107, 1, none⟩ = some (.slice A0_1 l0_1.length c0_1) := (kce BK107.out 1).trans rfl; have hfz12_0 := kfz BK107.out 0; have hfz12_1 := kfz BK107.out 1) | ((with_reducible refine gate_callee (f := 48) rfl ?_); refine goesL_ (some 15) rfl rfl Try.func48 (by kernel_rfl) rfl #[.slice A1 l1.length c1, .int .i64 a0_0] rfl (by (try simp only [List.map_toArray, List.map_cons, List.map_nil]); first | done | rfl | (simp only [List.length_drop, List.length_take]; rfl)) ?_; (with_reducible refine (peel_set.calls k _ _ l1 a0_0 true _ ?side1 ?side2 A5.out).mono ?_); (case side1 => repeat (first | exact (Kd.C_below HR1.out HB.out) | (with_reducible refine Kd.C_alloc ?_ _) | (with_reducible refine Kd.C_drewN ?_ _) | (with_reducible refine Kd.C_drew ?_))); (case side2 => exact HC1.out); rintro e w' ⟨rfl, ⟨nd, rfl⟩⟩; refine ⟨_, rfl, ?_⟩))
   (try (rw [drewN_self w11]; generalize hq_ : World.drewN w11 _ = w11; have n0_ : Aside0 (w11.heap[gb107]? = some (.cells #[.int .i64 a0_0, .slice A0_1 l0_1.length c0_1] 31 (0, 0))) := ⟨by rw [← hq_]; exact (by (with_reducible repeat (first | refine kdn ?_ _ | refine kdr ?_ | refine kal ?_ _)); exact BK107.out)⟩; have n1_ : Aside0 (Below w.heap.size w w11) := ⟨by rw [← hq_]; exact (by repeat (first | (with_reducible first | exact HB.out | apply bal | apply pbn | apply bd1 | refine bst ?_ GE107.out) | exact HB.out))⟩; clear BK107 HB hq_; have BK107 := n0_; have HB := n1_; clear n0_ n1_))
   have n0_ := ak (kdr BK107.out)
   have n1_ := ak (bd1 HB.out)
   clear BK107
   clear HB
   have BK107 := n0_
   have HB := n1_
   clear n0_ n1_
   refine start_ (n := 8) (S := fun w' => w'.cell? ⟨gb107, 0, none⟩ = some (.int .i64 a0_0) ∧ w'.cell? ⟨gb107, 1, none⟩ = some (.slice A0_1 l0_1.length c0_1)) (ds := []) #[false, false, false, false, false, false, false, false] (by kernel_rfl) rfl rfl ⟨(kce BK107.out 0).trans rfl, (kce BK107.out 1).trans rfl⟩ (fun hHeld => ?_); refine with_tabW peel_Stopping.tab6 peel_Stopping.bits6 (fun HT_ HW_ => ?_)
   generalize w11.drew = w13 at BK107 HB hHeld ⊢
   refine pure_ (i := 2) (N := some 19) (v := ?_) (a' := ?_) #[false, false, true, false, false, false, false, false] rfl rfl (any_of HT_.out (by kernel_rfl)) (fun _ _ _ h => h) (Or.inl ⟨by rfl, ?_⟩) ?_ ?_
   rotate_left
   ·intro w'
    go_simp
    with_reducible rfl
   rotate_left
   ·simp only [Act.put, sia, scz, scs, i64_w, i32_w]
    rfl
   refine take_ (i := 0) (N := some 17) (v := ?_) (a' := ?_) #[true, false, true, false, false, false, false, false] rfl rfl (take_ofW HT_.out HW_.out (by kernel_rfl)) (fun _ _ _ h => h) (Or.inl ⟨by rfl, ?_⟩) hHeld ?_ ?_
   rotate_left
   ·rintro w' ⟨s0, s1⟩
    go_simp
    with_reducible rfl
   rotate_left
   ·simp only [Act.put, sia, scz, scs, i64_w, i32_w]
    rfl
   refine take_ (i := 1) (N := some 18) (v := ?_) (a' := ?_) #[true, true, true, false, false, false, false, false] rfl rfl (take_ofW HT_.out HW_.out (by kernel_rfl)) (fun _ _ _ h => h) (Or.inl ⟨by rfl, ?_⟩) hHeld ?_ ?_
   rotate_left
   ·rintro w' ⟨s0, s1⟩
    go_simp
    with_reducible rfl
   rotate_left
   ·simp only [Act.put, sia, scz, scs, i64_w, i32_w]
    rfl
   refine one_ (i := 3) (N := some 20) #[true, true, true, true, false, false, false, false] rfl rfl (one_of HT_.out (by kernel_rfl)) (by decide) (fun K hK => ?_)
   refine goes_ Try.func50 (by kernel_rfl) rfl #[.agg #[.int .i64 a0_0, .slice A0_1 l0_1.length c0_1], .slice A1 l1.length c1] (by rfl) rfl rfl (by (try simp only [List.map_toArray, List.map_cons, List.map_nil]); first | done | rfl | (simp only [List.length_drop, List.length_take]; rfl)) ?_
   with_reducible refine (peel_mask.calls k a0_0 _ _ l0_1 _ _ l1 t110 _ ?side1 ?side2 ?side3 ?side4 A7.out).mono ?_
   (case side1 => repeat (first | exact (Kd.C_below HR0_1.out HB.out) | (with_reducible refine Kd.C_alloc ?_ _) | (with_reducible refine Kd.C_drewN ?_ _) | (with_reducible refine Kd.C_drew ?_)))
   (case side2 => exact HC0_1.out)
   (case side3 => repeat (first | exact (Kd.C_below HR1.out HB.out) | (with_reducible refine Kd.C_alloc ?_ _) | (with_reducible refine Kd.C_drewN ?_ _) | (with_reducible refine Kd.C_drew ?_)))
   (case side4 => exact HC1.out)
   rintro e w14 ⟨v111, rfl, ho0, hb⟩
   refine ⟨_, rfl, ?_⟩
   have n0_ := ak (Kd.R_lower ho0 (bsz (by repeat (first | (with_reducible first | exact HB.out | apply bal | apply pbn | apply bd1 | refine bst ?_ GE107.out) | exact HB.out))))
   have n1_ := ak (kbe (g := gb107) (o := .cells #[.int .i64 a0_0, .slice A0_1 l0_1.length c0_1] 31 (0, 0)) (by (with_reducible repeat (first | refine kdn ?_ _ | refine kdr ?_ | refine kal ?_ _)); exact BK107.out) hb)
   have n2_ := ak (bsp (by repeat (first | (with_reducible first | exact HB.out | apply bal | apply pbn | apply bd1 | refine bst ?_ GE107.out) | exact HB.out)) hb)
   clear BK107
   clear HB
   have HO112 := n0_
   have BK107 := n1_
   have HB := n2_
   clear n0_ n1_ n2_
   (try clear hb)
   (try clear hb2)
   (try clear hk)
   (try clear hi)
   (try clear ho0)
   obtain ⟨Ao15, co15, eo15⟩ := Kd.R_slice HO112.out
   (first | subst eo15 | (injection eo15 with f1_ f2_ f3_; have f4_ := f1_.symm; have f5_ := f3_.symm; clear f1_ f2_ f3_; subst f4_; subst f5_))
   refine hK.out _ _ ⟨(kce BK107.out 0).trans rfl, (kce BK107.out 1).trans rfl⟩ (fun hHeld => ?_)
   clear hK K
   refine norm_ (a' := ?_) ?_ ?_
   rotate_left
   ·show Act.put _ (some 20) _ = _
    simp only [Act.put, sia, scz, scs, i64_w, i32_w]
    rfl
   refine one_ (i := 4) (N := some 21) #[true, true, true, true, true, false, false, false] rfl rfl (one_of HT_.out (by kernel_rfl)) (by decide) (fun K hK => ?_)
   refine goes_ Try.func49 (by kernel_rfl) rfl #[.agg #[.int .i64 a0_0, .slice A0_1 l0_1.length c0_1], .slice Ao15 t110.length co15] (by rfl) rfl rfl (by (try simp only [List.map_toArray, List.map_cons, List.map_nil]); first | done | rfl | (simp only [List.length_drop, List.length_take]; rfl)) ?_
   with_reducible refine (peel_alone.calls a0_0 _ _ l0_1 _ _ t110 t113 _ ?side1 ?side2 ?side3 ?side4 A8.out).mono ?_
   (case side1 => repeat (first | exact (Kd.C_below HR0_1.out HB.out) | (with_reducible refine Kd.C_alloc ?_ _) | (with_reducible refine Kd.C_drewN ?_ _) | (with_reducible refine Kd.C_drew ?_)))
   (case side2 => exact HC0_1.out)
   (case side3 => repeat (first | exact (Kd.R_reads' HO112.out).2.2 | (with_reducible refine Kd.C_alloc ?_ _) | (with_reducible refine Kd.C_drewN ?_ _) | (with_reducible refine Kd.C_drew ?_)))
   (case side4 => exact (Kd.R_reads' HO112.out).2.1)
   rintro e w16 ⟨rfl, hb⟩
   refine ⟨_, rfl, ?_⟩
   have n0_ := ak (Kd.R_below (by (with_reducible repeat (first | apply Kd.R_alloc | apply Kd.R_drewN | apply Kd.R_drew)); exact HO112.out) hb)
   have n1_ := ak (kbe (g := gb107) (o := .cells #[.int .i64 a0_0, .slice A0_1 l0_1.length c0_1] 31 (0, 0)) (by (with_reducible repeat (first | refine kdn ?_ _ | refine kdr ?_ | refine kal ?_ _)); exact BK107.out) hb)
   have n2_ := ak (bsp (by repeat (first | (with_reducible first | exact HB.out | apply bal | apply pbn | apply bd1 | refine bst ?_ GE107.out) | exact HB.out)) hb)
   clear HO112
   clear BK107
   clear HB
   have HO112 := n0_
   have BK107 := n1_
   have HB := n2_
   clear n0_ n1_ n2_
   (try clear hb)
   (try clear hb2)
   (try clear hk)
   (try clear hi)
   refine hK.out _ _ ⟨(kce BK107.out 0).trans rfl, (kce BK107.out 1).trans rfl⟩ (fun hHeld => ?_)
   clear hK K
   refine norm_ (a' := ?_) ?_ ?_
   rotate_left
   ·show Act.put _ (some 21) _ = _
    simp only [Act.put, sia, scz, scs, i64_w, i32_w]
    rfl
   refine pure_ (i := 5) (N := some 22) (v := ?_) (a' := ?_) #[true, true, true, true, true, true, false, false] rfl rfl (any_of HT_.out (by kernel_rfl)) (fun _ _ _ h => h) (Or.inl ⟨by rfl, ?_⟩) ?_ ?_
   rotate_left
   ·intro w'
    go_simp
    with_reducible rfl
   rotate_left
   ·simp only [Act.put, sia, scz, scs, i64_w, i32_w]
    rfl
   refine pure_ (i := 6) (N := some 4) (v := ?_) (a' := ?_) #[true, true, true, true, true, true, true, false] rfl rfl (any_of HT_.out (by kernel_rfl)) (fun _ _ _ h => h) (Or.inl ⟨by rfl, ?_⟩) ?_ ?_
   rotate_left
   ·intro w'
    go_simp
    with_reducible rfl
   rotate_left
   ·simp only [Act.put, sia, scz, scs, i64_w, i32_w]
    rfl
   refine pure_ (i := 7) (N := some 5) (v := ?_) (a' := ?_) #[true, true, true, true, true, true, true, true] rfl rfl (any_of HT_.out (by kernel_rfl)) (fun _ _ _ h => h) (Or.inl ⟨by rfl, ?_⟩) ?_ ?_
   rotate_left
   ·intro w'
    go_simp
    with_reducible rfl
   rotate_left
   ·simp only [Act.put, sia, scz, scs, i64_w, i32_w]
    rfl
   refine done_ (done_of HT_.out (by kernel_rfl)) ?_
   try go_wp2
   go_ret2
   exact ⟨by first | rfl | (simp <;> rfl) | (simp [*] <;> rfl), by repeat (first | (with_reducible first | exact HB.out | apply bal | apply pbn | apply bd1 | refine bst ?_ GE107.out) | exact HB.out)⟩
  ·replace c6 := Bool.eq_false_iff.mpr c6
   subst c6
   have H1 : (some (false, 6)) = some (r1, r2) := by rw [if_neg (show ¬ (false = true) by decide)] at H; exact H
   clear H
   have H := H1
   clear H1
   simp only [Option.some.injEq, Prod.mk.injEq] at H
   obtain ⟨rfl, rfl⟩ := H
   go_enter Try.func20, Try.ntmps20
   go_wp2_with (first | ((with_reducible refine gate_dst (N := 2) rfl ?_); refine box_event ?hg (N := 2) ?hd (cs := #[.int .i64 a0_0, .slice A0_1 l0_1.length c0_1]) (t := 31) ?hr ?_; (case hd => rfl); (case hg => rfl); (case hr => first | (go_simp; done) | (go_simp; rfl)); intro gb107 hg w17 hbox hb; have n0_ := ak (bsp (by repeat (first | (with_reducible first | exact HB.out | apply bal | apply pbn | apply bd1) | exact HB.out)) hb); have n1_ := ak (hbox); have n2_ := ak ((by rw [hg]; exact (bsz (by repeat (first | (with_reducible first | exact HB.out | apply bal | apply pbn | apply bd1) | exact HB.out))) : w.heap.size ≤ gb107)); have n3_ := ak ((by rw [hg]; exact (bsz (by repeat (first | (with_reducible first | exact HB.out | apply bal | apply pbn | apply bd1) | exact HB.out))) : w.heap.size ≤ gb107)); clear HB; have HB := n0_; have BK107 := n1_; have GW107 := n2_; have GE107 := n3_; clear n0_ n1_ n2_ n3_; clear hb hbox hg; have hcz18_0 : w17.cell? ⟨gb107, 0, none⟩ = some (.int .i64 a0_0) := (kce BK107.out 0).trans rfl; have hcz18_1 : w17.cell? ⟨gb107, 1, none⟩ = some (.slice A0_1 l0_1.length c0_1) := (kce BK107.out 1).trans rfl; have hfz18_0 := kfz BK107.out 0; have hfz18_1 := kfz BK107.out 1) | ((with_reducible refine gate_callee (f := 22) rfl ?_); refine goesL_ (some 8) rfl rfl Try.func22 (by kernel_rfl) rfl #[.agg #[.int .i64 a0_0, .slice A0_1 l0_1.length c0_1]] rfl (by (try simp only [List.map_toArray, List.map_cons, List.map_nil]); first | done | rfl | (simp only [List.length_drop, List.length_take]; rfl)) ?_; (with_reducible refine (peel_Check.calls a0_0 _ _ l0_1 t108 _ ?side1 ?side2 A3.out).mono ?_); (case side1 => repeat (first | exact (Kd.C_below HR0_1.out HB.out) | (with_reducible refine Kd.C_alloc ?_ _) | (with_reducible refine Kd.C_drewN ?_ _) | (with_reducible refine Kd.C_drew ?_))); (case side2 => exact HC0_1.out); rintro e w19 ⟨rfl, hb⟩; refine ⟨_, rfl, ?_⟩; have n0_ := ak (kbe (g := gb107) (o := .cells #[.int .i64 a0_0, .slice A0_1 l0_1.length c0_1] 31 (0, 0)) (by (with_reducible repeat (first | refine kdn ?_ _ | refine kdr ?_ | refine kal ?_ _)); exact BK107.out) hb); have n1_ := ak (bsp (by repeat (first | (with_reducible first | exact HB.out | apply bal | apply pbn | apply bd1 | refine bst ?_ GE107.out) | exact HB.out)) hb); clear BK107 HB; have BK107 := n0_; have HB := n1_; clear n0_ n1_; (try clear hb); (try clear hb2); (try clear hk); (try clear hi); have hcz20_0 : w19.cell? ⟨gb107, 0, none⟩ = some (.int .i64 a0_0) := (kce BK107.out 0).trans rfl; have hcz20_1 : w19.cell? ⟨gb107, 1, none⟩ = some (.slice A0_1 l0_1.length c0_1) := (kce BK107.out 1).trans rfl; have hfz20_0 := kfz BK107.out 0; have hfz20_1 := kfz BK107.out 1) | ((with_reducible refine gate_callee (f := 48) rfl ?_); refine goesL_ (some 15) rfl rfl Try.func48 (by kernel_rfl) rfl #[.slice A1 l1.length c1, .int .i64 a0_0] rfl (by (try simp only [List.map_toArray, List.map_cons, List.map_nil]); first | done | rfl | (simp only [List.length_drop, List.length_take]; rfl)) ?_; (with_reducible refine (peel_set.calls k _ _ l1 a0_0 false _ ?side1 ?side2 A5.out).mono ?_); (case side1 => repeat (first | exact (Kd.C_below HR1.out HB.out) | (with_reducible refine Kd.C_alloc ?_ _) | (with_reducible refine Kd.C_drewN ?_ _) | (with_reducible refine Kd.C_drew ?_))); (case side2 => exact HC1.out); rintro e w' ⟨rfl, ⟨nd, rfl⟩⟩; refine ⟨_, rfl, ?_⟩))
   go_ret2
   exact ⟨by first | rfl | (simp <;> rfl) | (simp [*] <;> rfl), by repeat (first | (with_reducible first | exact HB.out | apply bal | apply pbn | apply bd1 | refine bst ?_ GE107.out) | exact HB.out)⟩
 ·rw [if_neg c4] at H
  have c4b0 : (t108 == 0) = false := bqm c4
  have c4b1 : (t108 != 0) = true := bne_iff_ne.mpr c4
  simp only [Option.some.injEq, Prod.mk.injEq] at H
  obtain ⟨rfl, rfl⟩ := H
  go_enter Try.func20, Try.ntmps20
  go_wp2_with (first | ((with_reducible refine gate_dst (N := 2) rfl ?_); refine box_event ?hg (N := 2) ?hd (cs := #[.int .i64 a0_0, .slice A0_1 l0_1.length c0_1]) (t := 31) ?hr ?_; (case hd => rfl); (case hg => rfl); (case hr => first | (go_simp; done) | (go_simp; rfl)); intro gb107 hg w21 hbox hb; have n0_ := ak (bsp (by repeat (first | (with_reducible first | exact HB.out | apply bal | apply pbn | apply bd1) | exact HB.out)) hb); have n1_ := ak (hbox); have n2_ := ak ((by rw [hg]; exact (bsz (by repeat (first | (with_reducible first | exact HB.out | apply bal | apply pbn | apply bd1) | exact HB.out))) : w.heap.size ≤ gb107)); have n3_ := ak ((by rw [hg]; exact (bsz (by repeat (first | (with_reducible first | exact HB.out | apply bal | apply pbn | apply bd1) | exact HB.out))) : w.heap.size ≤ gb107)); clear HB; have HB := n0_; have BK107 := n1_; have GW107 := n2_; have GE107 := n3_; clear n0_ n1_ n2_ n3_; clear hb hbox hg; have hcz22_0 : w21.cell? ⟨gb107, 0, none⟩ = some (.int .i64 a0_0) := (kce BK107.out 0).trans rfl; have hcz22_1 : w21.cell? ⟨gb107, 1, none⟩ = some (.slice A0_1 l0_1.length c0_1) := (kce BK107.out 1).trans rfl; have hfz22_0 := kfz BK107.out 0; have hfz22_1 := kfz BK107.out 1) | ((with_reducible refine gate_callee (f := 22) rfl ?_); refine goesL_ (some 8) rfl rfl Try.func22 (by kernel_rfl) rfl #[.agg #[.int .i64 a0_0, .slice A0_1 l0_1.length c0_1]] rfl (by (try simp only [List.map_toArray, List.map_cons, List.map_nil]); first | done | rfl | (simp only [List.length_drop, List.length_take]; rfl)) ?_; (with_reducible refine (peel_Check.calls a0_0 _ _ l0_1 t108 _ ?side1 ?side2 A3.out).mono ?_); (case side1 => repeat (first | exact (Kd.C_below HR0_1.out HB.out) | (with_reducible refine Kd.C_alloc ?_ _) | (with_reducible refine Kd.C_drewN ?_ _) | (with_reducible refine Kd.C_drew ?_))); (case side2 => exact HC0_1.out); rintro e w23 ⟨rfl, hb⟩; refine ⟨_, rfl, ?_⟩; have n0_ := ak (kbe (g := gb107) (o := .cells #[.int .i64 a0_0, .slice A0_1 l0_1.length c0_1] 31 (0, 0)) (by (with_reducible repeat (first | refine kdn ?_ _ | refine kdr ?_ | refine kal ?_ _)); exact BK107.out) hb); have n1_ := ak (bsp (by repeat (first | (with_reducible first | exact HB.out | apply bal | apply pbn | apply bd1 | refine bst ?_ GE107.out) | exact HB.out)) hb); clear BK107 HB; have BK107 := n0_; have HB := n1_; clear n0_ n1_; (try clear hb); (try clear hb2); (try clear hk); (try clear hi)))
  go_ret2
  exact ⟨by first | rfl | (simp <;> rfl) | (simp [*] <;> rfl), by repeat (first | (with_reducible first | exact HB.out | apply bal | apply pbn | apply bd1 | refine bst ?_ GE107.out) | exact HB.out)⟩
def peel_Greatest.l0 : Nat → List Bool → Int → Int → List (List Int) → Option (List Int × Int)
 | 0, _, _, _, _ => none
 | k + 1, x7, x8, x115000, x115001 => if x8 ≥ 0 then (if 0 ≤ x8 then (if x8 < (x7.length : Int) then ((some (x7.set (x8 : Int).toNat false : List Bool)).bind fun y121 => ((peel_alone.f x115000 x115001 y121).bind fun t122 => (peel_Greatest.l0 k y121 t122 x115000 x115001))) else (none)) else (none)) else ((peel_left.f k x7).bind fun t123 => (some (t123, 0)))
def peel_Greatest.f (k : Nat) (a0_0 : Int) (l0_1 : List (List Int)) (l1 : List Int) : Option (List Int × Int) := (peel_Check.f a0_0 l0_1).bind fun t115 => (if t115 = 0 then ((peel_set.f k l1 a0_0).bind fun t116 => (if t116 = true then ((peel_mask.f k a0_0 l0_1 l1).bind fun t117 => ((peel_alone.f a0_0 l0_1 t117).bind fun t120 => (peel_Greatest.l0 k t117 t120 a0_0 l0_1))) else (some (([] : List Int), 6)))) else (some (([] : List Int), t115)))
theorem peel_Greatest.calls (k : Nat) (a0_0 : Int) (A0_1 : Option Addr) (c0_1 : Nat) (l0_1 : List (List Int)) (A1 : Option Addr) (c1 : Nat) (l1 : List Int) (r1 : List Int) (r2 : Int) (w : World) (hr0_1 : Kd.C (Kd.slice 3 (Kd.int .i64)) w A0_1 l0_1.length l0_1) (hc0_1 : l0_1.length ≤ c0_1) (hr1 : Kd.C (Kd.int .i64) w A1 l1.length l1) (hc1 : l1.length ≤ c1) (h : peel_Greatest.f k a0_0 l0_1 l1 = some (r1, r2)) :
  Calls Try.prog 24 #[.agg #[.int .i64 a0_0, .slice A0_1 l0_1.length c0_1], .slice A1 l1.length c1] w fun e w' => ∃ v0_ : Value, e = .returned (.tuple #[v0_, .int .i64 r2]) ∧ Kd.R (Kd.int .i64) 3 w' w.heap.size (fun _ => True) v0_ r1 ∧ Below w.heap.size w w' := by
 have hu31 := Try.underlying31
 have HR0_1 := ak hr0_1
 have HC0_1 := ak hc0_1
 clear hr0_1 hc0_1
 have HR1 := ak hr1
 have HC1 := ak hc1
 clear hr1 hc1
 have HB := ak (Below.refl w.heap.size w)
 have H : ((peel_Check.f a0_0 l0_1).bind fun t115 => (if t115 = 0 then ((peel_set.f k l1 a0_0).bind fun t116 => (if t116 = true then ((peel_mask.f k a0_0 l0_1 l1).bind fun t117 => ((peel_alone.f a0_0 l0_1 t117).bind fun t120 => (peel_Greatest.l0 k t117 t120 a0_0 l0_1))) else (some (([] : List Int), 6)))) else (some (([] : List Int), t115)))) = some (r1, r2) := h
 clear h
 replace H := obm H
 obtain ⟨t115, A30, H⟩ := H
 replace H : (if t115 = 0 then ((peel_set.f k l1 a0_0).bind fun t116 => (if t116 = true then ((peel_mask.f k a0_0 l0_1 l1).bind fun t117 => ((peel_alone.f a0_0 l0_1 t117).bind fun t120 => (peel_Greatest.l0 k t117 t120 a0_0 l0_1))) else (some (([] : List Int), 6)))) else (some (([] : List Int), t115))) = some (r1, r2) := H
 have A3 := ak A30
 clear A30
 by_cases c4 : t115 = 0
 ·rw [if_pos c4] at H
  have c4b0 : (t115 == 0) = true := beq_iff_eq.mpr c4
  have c4b1 : (t115 != 0) = false := bnm c4
  clear c4
  replace H := obm H
  obtain ⟨t116, A50, H⟩ := H
  replace H : (if t116 = true then ((peel_mask.f k a0_0 l0_1 l1).bind fun t117 => ((peel_alone.f a0_0 l0_1 t117).bind fun t120 => (peel_Greatest.l0 k t117 t120 a0_0 l0_1))) else (some (([] : List Int), 6))) = some (r1, r2) := H
  have A5 := ak A50
  clear A50
  by_cases c6 : t116 = true
  ·subst c6
   have H1 : ((peel_mask.f k a0_0 l0_1 l1).bind fun t117 => ((peel_alone.f a0_0 l0_1 t117).bind fun t120 => (peel_Greatest.l0 k t117 t120 a0_0 l0_1))) = some (r1, r2) := by rw [if_pos rfl] at H; exact H
   clear H
   have H := H1
   clear H1
   replace H := obm H
   obtain ⟨t117, A70, H⟩ := H
   replace H : ((peel_alone.f a0_0 l0_1 t117).bind fun t120 => (peel_Greatest.l0 k t117 t120 a0_0 l0_1)) = some (r1, r2) := H
   have A7 := ak A70
   clear A70
   replace H := obm H
   obtain ⟨t120, A80, H⟩ := H
   replace H : (peel_Greatest.l0 k t117 t120 a0_0 l0_1) = some (r1, r2) := H
   have A8 := ak A80
   clear A80
   have H' := ak H
   clear H
   go_enter Try.func24, Try.ntmps24
   go_wp2_with (first | ((with_reducible refine gate_dst (N := 2) rfl ?_); refine box_event ?hg (N := 2) ?hd (cs := #[.int .i64 a0_0, .slice A0_1 l0_1.length c0_1]) (t := 31) ?hr ?_; (case hd => rfl); (case hg => rfl); (case hr => first | (go_simp; done) | (go_simp; rfl)); intro gb114 hg w9 hbox hb; have n0_ := ak (bsp (by repeat (first | (with_reducible first | exact HB.out | apply bal | apply pbn | apply bd1) | exact HB.out)) hb); have n1_ := ak (hbox); have n2_ := ak ((by rw [hg]; exact (bsz (by repeat (first | (with_reducible first | exact HB.out | apply bal | apply pbn | apply bd1) | exact HB.out))) : w.heap.size ≤ gb114)); have n3_ := ak ((by rw [hg]; exact (bsz (by repeat (first | (with_reducible first | exact HB.out | apply bal | apply pbn | apply bd1) | exact HB.out))) : w.heap.size ≤ gb114)); clear HB; have HB := n0_; have BK114 := n1_; have GW114 := n2_; have GE114 := n3_; clear n0_ n1_ n2_ n3_; clear hb hbox hg; have hcz10_0 : w9.cell? ⟨gb114, 0, none⟩ = some (.int .i64 a0_0) := (kce BK114.out 0).trans rfl; have hcz10_1 : w9.cell? ⟨gb114, 1, none⟩ = some (.slice A0_1 l0_1.length c0_1) := (kce BK114.out 1).trans rfl; have hfz10_0 := kfz BK114.out 0; have hfz10_1 := kfz BK114.out 1) | ((with_reducible refine gate_callee (f := 22) rfl ?_); refine goesL_ (some 10) rfl rfl Try.func22 (by kernel_rfl) rfl #[.agg #[.int .i64 a0_0, .slice A0_1 l0_1.length c0_1]] rfl (by (try simp only [List.map_toArray, List.map_cons, List.map_nil]); first | done | rfl | (simp only [List.length_drop, List.length_take]; rfl)) ?_; (with_reducible refine (peel_Check.calls a0_0 _ _ l0_1 t115 _ ?side1 ?side2 A3.out).mono ?_); (case side1 => repeat (first | exact (Kd.C_below HR0_1.out HB.out) | (with_reducible refine Kd.C_alloc ?_ _) | (with_reducible refine Kd.C_drewN ?_ _) | (with_reducible refine Kd.C_drew ?_))); (case side2 => exact HC0_1.out); rintro e w11 ⟨rfl, hb⟩; refine ⟨_, rfl, ?_⟩; have n0_ := ak (kbe (g := gb114) (o := .cells #[.int .i64 a0_0, .slice A0_1 l0_1.length c0_1] 31 (0, 0)) (by (with_reducible repeat (first | refine kdn ?_ _ | refine kdr ?_ | refine kal ?_ _)); exact BK114.out) hb); have n1_ := ak (bsp (by repeat (first | (with_reducible first | exact HB.out | apply bal | apply pbn | apply bd1 | refine bst ?_ GE114.out) | exact HB.out)) hb); clear BK114 HB; have BK114 := n0_; have HB := n1_; clear n0_ n1_; (try clear hb); (try clear hb2); (try clear hk); (try clear hi); have hcz12_0 : w11.cell? ⟨gb114, 0, none⟩ = some (.int .i64 a0_0) := (kce BK114.out 0).trans rfl; have hcz12_1 : w11.cell? ⟨gb114, 1, none⟩ = some (.slice A0_1 l0_1.length c0_1) := (kce BK114.out 1).trans rfl; have hfz12_0 := kfz BK114.out 0; have hfz12_1 := kfz BK114.out 1) | ((with_reducible refine gate_callee (f := 48) rfl ?_); refine goesL_ (some 17) rfl rfl Try.func48 (by kernel_rfl) rfl #[.slice A1 l1.length c1, .int .i64 a0_0] rfl (by (try simp only [List.map_toArray, List.map_cons, List.map_nil]); first | done | rfl | (simp only [List.length_drop, List.length_take]; rfl)) ?_; (with_reducible refine (peel_set.calls k _ _ l1 a0_0 true _ ?side1 ?side2 A5.out).mono ?_); (case side1 => repeat (first | exact (Kd.C_below HR1.out HB.out) | (with_reducible refine Kd.C_alloc ?_ _) | (with_reducible refine Kd.C_drewN ?_ _) | (with_reducible refine Kd.C_drew ?_))); (case side2 => exact HC1.out); rintro e w' ⟨rfl, ⟨nd, rfl⟩⟩; refine ⟨_, rfl, ?_⟩) | ((with_reducible refine gate_callee (f := 50) rfl ?_); refine goesL_ (some 21) rfl rfl Try.func50 (by kernel_rfl) rfl #[.agg #[.int .i64 a0_0, .slice A0_1 l0_1.length c0_1], .slice A1 l1.length c1] rfl (by (try simp only [List.map_toArray, List.map_cons, List.map_nil]); first | done | rfl | (simp only [List.length_drop, List.length_take]; rfl)) ?_; (with_reducible refine (peel_mask.calls k a0_0 _ _ l0_1 _ _ l1 t117 _ ?side1 ?side2 ?side3 ?side4 A7.out).mono ?_); (case side1 => repeat (first | exact (Kd.C_below HR0_1.out (by repeat (first | (with_reducible first | exact HB.out | apply bal | apply pbn | apply bd1 | refine bst ?_ GE114.out) | exact HB.out))) | (with_reducible refine Kd.C_alloc ?_ _) | (with_reducible refine Kd.C_drewN ?_ _) | (with_reducible refine Kd.C_drew ?_))); (case side2 => exact HC0_1.out); (case side3 => repeat (first | exact (Kd.C_below HR1.out (by repeat (first | (with_reducible first | exact HB.out | apply bal | apply pbn | apply bd1 | refine bst ?_ GE114.out) | exact HB.out))) | (with_reducible refine Kd.C_alloc ?_ _) | (with_reducible refine Kd.C_drewN ?_ _) | (with_reducible refine Kd.C_drew ?_))); (case side4 => exact HC1.out); rintro e w13 ⟨v118, rfl, ho0, hb⟩; refine ⟨_, rfl, ?_⟩; have n0_ := ak (Kd.R_lower ho0 (bsz (by repeat (first | (with_reducible first | exact HB.out | apply bal | apply pbn | apply bd1 | refine bst ?_ GE114.out) | exact HB.out)))); have n1_ := ak (kbe (g := gb114) (o := .cells #[.int .i64 a0_0, .slice A0_1 l0_1.length c0_1] 31 (0, 0)) (by (with_reducible repeat (first | refine kdn ?_ _ | refine kdr ?_ | refine kal ?_ _)); exact BK114.out) hb); have n2_ := ak (bsp (by repeat (first | (with_reducible first | exact HB.out | apply bal | apply pbn | apply bd1 | refine bst ?_ GE114.out) | exact HB.out)) hb); clear BK114 HB; have HO119 := n0_; have BK114 := n1_; have HB := n2_; clear n0_ n1_ n2_; (try clear hb); (try clear hb2); (try clear hk); (try clear hi); (try clear ho0); have hcz14_0 : w13.cell? ⟨gb114, 0, none⟩ = some (.int .i64 a0_0) := (kce BK114.out 0).trans rfl; have hcz14_1 : w13.cell? ⟨gb114, 1, none⟩ = some (.slice A0_1 l0_1.length c0_1) := (kce BK114.out 1).trans rfl; have hfz14_0 := kfz BK114.out 0; have hfz14_1 := kfz BK114.out 1; obtain ⟨Ao15, co15, eo15⟩ := Kd.R_slice HO119.out; subst eo15) | ((with_reducible refine gate_callee (f := 49) rfl ?_); refine goesL_ (some 24) rfl rfl Try.func49 (by kernel_rfl) rfl #[.agg #[.int .i64 a0_0, .slice A0_1 l0_1.length c0_1], .slice Ao15 t117.length co15] rfl (by (try simp only [List.map_toArray, List.map_cons, List.map_nil]); first | done | rfl | (simp only [List.length_drop, List.length_take]; rfl)) ?_; (with_reducible refine (peel_alone.calls a0_0 _ _ l0_1 _ _ t117 t120 _ ?side1 ?side2 ?side3 ?side4 A8.out).mono ?_); (case side1 => repeat (first | exact (Kd.C_below HR0_1.out HB.out) | (with_reducible refine Kd.C_alloc ?_ _) | (with_reducible refine Kd.C_drewN ?_ _) | (with_reducible refine Kd.C_drew ?_))); (case side2 => exact HC0_1.out); (case side3 => repeat (first | exact (Kd.R_reads' HO119.out).2.2 | (with_reducible refine Kd.C_alloc ?_ _) | (with_reducible refine Kd.C_drewN ?_ _) | (with_reducible refine Kd.C_drew ?_))); (case side4 => exact (Kd.R_reads' HO119.out).2.1); rintro e w16 ⟨rfl, hb⟩; refine ⟨_, rfl, ?_⟩; have n0_ := ak (Kd.R_below (by (with_reducible repeat (first | apply Kd.R_alloc | apply Kd.R_drewN | apply Kd.R_drew)); exact HO119.out) hb); have n1_ := ak (kbe (g := gb114) (o := .cells #[.int .i64 a0_0, .slice A0_1 l0_1.length c0_1] 31 (0, 0)) (by (with_reducible repeat (first | refine kdn ?_ _ | refine kdr ?_ | refine kal ?_ _)); exact BK114.out) hb); have n2_ := ak (bsp (by repeat (first | (with_reducible first | exact HB.out | apply bal | apply pbn | apply bd1 | refine bst ?_ GE114.out) | exact HB.out)) hb); clear HO119 BK114 HB; have HO119 := n0_; have BK114 := n1_; have HB := n2_; clear n0_ n1_ n2_; (try clear hb); (try clear hb2); (try clear hk); (try clear hi)))
   go_loopg [8] k (fun kq v8 w' => ∃ (x7_1 : List Bool) (x8_1 : Int), v8 = .int .i64 x8_1 ∧ Aside0 (peel_Greatest.l0 kq x7_1 x8_1 a0_0 l0_1 = some (r1, r2)) ∧ Aside0 (kq ≤ k) ∧ Aside0 (Kd.R Kd.bool 4 w' w.heap.size (fun _ => True) (.slice Ao15 t117.length co15) x7_1) ∧ Aside0 (w'.heap[gb114]? = some (.cells #[.int .i64 a0_0, (.slice A0_1 l0_1.length c0_1)] 31 (0, 0))) ∧ Aside0 (Below w.heap.size w w'))
   case atStart => exact ⟨(t117), (t120), (by first | rfl | (simp; done) | (simp [*]; done)), H', ⟨Nat.le_refl _⟩, ⟨by (with_reducible repeat (first | apply Kd.R_alloc | apply Kd.R_drewN | apply Kd.R_drew)); exact HO119.out⟩, ⟨by (with_reducible repeat (first | refine kdn ?_ _ | refine kdr ?_ | refine kal ?_ _)); exact BK114.out⟩, ⟨by repeat (first | (with_reducible first | exact HB.out | apply bal | apply pbn | apply bd1 | refine bst ?_ GE114.out) | exact HB.out)⟩⟩
   case round =>
    clear H'
    obtain ⟨x7_1, x8_1, rfl, HA, HK1, HO_7, BK114, HB⟩ := hrel
    have hl7_1 := (Kd.R_reads' HO_7.out).1
    rw [hl7_1] at HO_7
    (try simp only [hl7_1])
    (try simp only [hl7_1] at BK114)
    cases gk with
    | zero => exact absurd HA.out (by simp [peel_Greatest.l0])
    | succ k1 =>
     have H := HA.out
     clear HA
     simp only [peel_Greatest.l0] at H
     by_cases c17 : x8_1 ≥ 0
     ·rw [if_pos c17] at H
      have c17b0 : decide (0 ≤ x8_1) = true := det c17
      clear c17
      by_cases c18 : 0 ≤ x8_1
      ·rw [if_pos c18] at H
       have c18b0 : decide (0 ≤ x8_1) = true := det c18
       clear c18
       by_cases c19 : x8_1 < (x7_1.length : Int)
       ·rw [if_pos c19] at H
        have c19b0 : decide (x8_1 < (x7_1.length : Int)) = true := det c19
        clear c19
        obtain ⟨y121, hy121⟩ : ∃ y_ : List Bool, y_ = (x7_1.set (x8_1 : Int).toNat false) := ⟨_, rfl⟩
        replace H : ((peel_alone.f a0_0 l0_1 y121).bind fun t122 => (peel_Greatest.l0 k1 y121 t122 a0_0 l0_1)) = some (r1, r2) := by first | (rw [hy121]; with_reducible exact H) | (have H2_ := (Option.bind_some _ _).symm.trans H; rw [hy121]; with_reducible exact H2_) | (have H2_ := (Option.bind_some _ _).symm.trans H; with_reducible exact H2_) | with_reducible exact H | (rw [hy121]; exact H) | exact H
        have Ny121 := ak hy121
        clear hy121
        replace H := obm H
        obtain ⟨t122, A210, H⟩ := H
        replace H : (peel_Greatest.l0 k1 y121 t122 a0_0 l0_1) = some (r1, r2) := H
        have A21 := ak A210
        clear A210
        have H' := ak H
        clear H
        have p20 : 0 ≤ (x8_1 : Int) := odt (by first | (with_reducible assumption) | assumption)
        have q20 : (x8_1 : Int) < ((x7_1.length : Int) : Int) := odt (by first | (with_reducible assumption) | assumption)
        obtain ⟨go20, co20, eo20, gb20, gl20, cl20, HG20⟩ := Kd.R_form HO_7.out (by omega)
        (first | cases eo20 | (injection eo20 with ea_ en_ ec_; (first | subst ea_ | (injection ea_ with ea_; subst ea_)); subst ec_; clear en_))
        have GB20 := ak gb20
        have GG20 := ak HG20
        clear gb20 gl20 HG20
        obtain ⟨hx20_0, hf20_0⟩ := Kd.R_celln false HO_7.out (x8_1 : Int) p20 q20
        replace p20 := eq_true p20
        replace q20 := eq_true q20
        have HP22 := Kd.R_putg HO_7.out (x8_1 : Int) false
        go_wp2_with (first | ((with_reducible refine gate_store (t := 4) (p := 32) rfl ?_); refine store_event (t := 4) (p := 32) (v := ?vo_w23) (w1 := (wr.setCell ⟨go20, (x8_1 : Int).toNat, none⟩ (.bool false))) ?hg ?ho ?hn ?hr ?_; (case ho => rfl); (case hg => rfl); (case hn => rfl); (case hr => first | (go_simp; done) | (go_simp; rfl)); intro w23 hw; have hg : wr.grownBy w23 (some go20) := (by rw [hw]; exact HP22.2); have hp_ : Kd.R Kd.bool 4 w23 w.heap.size (fun _ => True) (.slice (some ⟨go20, 0, none⟩) x7_1.length co15) y121 := (by rw [hw, Ny121.out]; exact HP22.1); clear HP22; have n0_ := ak (hp_); have n1_ := ak (blk_grown (g := gb114) (o := .cells #[.int .i64 a0_0, .slice A0_1 l0_1.length c0_1] 31 (0, 0)) BK114.out hg (Kd.R_ne HO_7.out BK114.out (by decide))); have n2_ := ak ((by rw [hw]; exact bst (HB.out) GB20.out : Below w.heap.size w w23)); clear HO_7 BK114 HB; have HO_7 := n0_; have BK114 := n1_; have HB := n2_; clear n0_ n1_ n2_; clear hg hw hp_; have hcz24_0 : w23.cell? ⟨gb114, 0, none⟩ = some (.int .i64 a0_0) := (kce BK114.out 0).trans rfl; have hcz24_1 : w23.cell? ⟨gb114, 1, none⟩ = some (.slice A0_1 l0_1.length c0_1) := (kce BK114.out 1).trans rfl) | ((with_reducible refine gate_callee (f := 49) rfl ?_); refine goesL_ (some 29) rfl rfl Try.func49 (by kernel_rfl) rfl #[.agg #[.int .i64 a0_0, .slice A0_1 l0_1.length c0_1], .slice (some ⟨go20, 0, none⟩) y121.length co15] rfl (by (try simp only [List.map_toArray, List.map_cons, List.map_nil]); first | done | (rw [show y121.length = x7_1.length from (Kd.R_reads' HO_7.out).1.symm] <;> rfl) | rfl | (simp only [List.length_drop, List.length_take]; rfl)) ?_; (with_reducible refine (peel_alone.calls a0_0 _ _ l0_1 _ _ y121 t122 _ ?side1 ?side2 ?side3 ?side4 A21.out).mono ?_); (case side1 => repeat (first | exact (Kd.C_below HR0_1.out HB.out) | (with_reducible refine Kd.C_alloc ?_ _) | (with_reducible refine Kd.C_drewN ?_ _) | (with_reducible refine Kd.C_drew ?_))); (case side2 => exact HC0_1.out); (case side3 => exact (Kd.R_reads' HO_7.out).2.2); (case side4 => rw [show y121.length = x7_1.length from (Kd.R_reads' HO_7.out).1.symm]; exact (Kd.R_reads' HO_7.out).2.1); rintro e w25 ⟨rfl, hb⟩; refine ⟨_, rfl, ?_⟩; have n0_ := ak (Kd.R_below HO_7.out hb); have n1_ := ak (kbe BK114.out hb); have n2_ := ak (bsp HB.out hb); clear HO_7 BK114 HB; have HO_7 := n0_; have BK114 := n1_; have HB := n2_; clear n0_ n1_ n2_; (try clear hb); (try clear hb2); (try clear hk); (try clear hi)))
        (try simp only [← hl7_1])
        go_roundg k1
        case measure => have := HK1.out; omega
        case rel => exact ⟨(y121), (t122), (by first | rfl | (simp; done) | (simp [*]; done)), H', ⟨by have := HK1.out; omega⟩, ⟨by (try simp only [hl7_1]); (with_reducible repeat (first | apply Kd.R_alloc | apply Kd.R_drewN | apply Kd.R_drew)); exact HO_7.out⟩, ⟨by (try simp only [hl7_1]); (with_reducible repeat (first | refine kdn ?_ _ | refine kdr ?_ | refine kal ?_ _)); exact BK114.out⟩, ⟨by repeat (first | (with_reducible first | exact HB.out | apply bal | apply pbn | apply bd1 | refine bst ?_ GE114.out) | exact HB.out)⟩⟩
       ·rw [if_neg c19] at H
        exact absurd H (by simp)
      ·rw [if_neg c18] at H
       exact absurd H (by simp)
     ·rw [if_neg c17] at H
      have c17b0 : decide (0 ≤ x8_1) = false := dff c17
      clear c17
      replace H := obm H
      obtain ⟨t123, A260, H⟩ := H
      replace H : (some (t123, 0)) = some (r1, r2) := H
      have A26 := ak A260
      clear A260
      simp only [Option.some.injEq, Prod.mk.injEq] at H
      obtain ⟨rfl, rfl⟩ := H
      go_wp2_with (first | ((with_reducible refine gate_callee (f := 55) rfl ?_); refine goesL_ (some 34) rfl rfl Try.func55 (by kernel_rfl) rfl #[.slice Ao15 x7_1.length co15] rfl (by (try simp only [List.map_toArray, List.map_cons, List.map_nil]); first | done | rfl) ?_; (with_reducible refine (peel_left.calls k1 _ _ x7_1 t123 _ ?side1 ?side2 A26.out).mono ?_); (case side1 => exact (Kd.R_reads' HO_7.out).2.2); (case side2 => exact (Kd.R_reads' HO_7.out).2.1); rintro e w27 ⟨v124, rfl, ho0, hb⟩; refine ⟨_, rfl, ?_⟩; have n0_ := ak (Kd.R_below HO_7.out hb); have n1_ := ak (Kd.R_lower ho0 (bsz HB.out)); have n2_ := ak (kbe BK114.out hb); have n3_ := ak (bsp HB.out hb); clear HO_7 BK114 HB; have HO_7 := n0_; have HO125 := n1_; have BK114 := n2_; have HB := n3_; clear n0_ n1_ n2_ n3_; (try clear ho0)))
      go_ret2
      exact ⟨_, by first | rfl | (simp <;> rfl) | (simp [*] <;> rfl), by (with_reducible repeat (first | apply Kd.R_alloc | apply Kd.R_drewN | apply Kd.R_drew)); exact HO125.out, by repeat (first | (with_reducible first | exact HB.out | apply bal | apply pbn | apply bd1 | refine bst ?_ GE114.out) | exact HB.out)⟩
  ·replace c6 := Bool.eq_false_iff.mpr c6
   subst c6
   have H1 : (some (([] : List Int), 6)) = some (r1, r2) := by rw [if_neg (show ¬ (false = true) by decide)] at H; exact H
   clear H
   have H := H1
   clear H1
   simp only [Option.some.injEq, Prod.mk.injEq] at H
   obtain ⟨rfl, rfl⟩ := H
   go_enter Try.func24, Try.ntmps24
   go_wp2_with (first | ((with_reducible refine gate_dst (N := 2) rfl ?_); refine box_event ?hg (N := 2) ?hd (cs := #[.int .i64 a0_0, .slice A0_1 l0_1.length c0_1]) (t := 31) ?hr ?_; (case hd => rfl); (case hg => rfl); (case hr => first | (go_simp; done) | (go_simp; rfl)); intro gb114 hg w28 hbox hb; have n0_ := ak (bsp HB.out hb); have n1_ := ak (hbox); have n2_ := ak ((by rw [hg]; exact (bsz HB.out) : w.heap.size ≤ gb114)); have n3_ := ak ((by rw [hg]; exact (bsz HB.out) : w.heap.size ≤ gb114)); clear HB; have HB := n0_; have BK114 := n1_; have GW114 := n2_; have GE114 := n3_; clear n0_ n1_ n2_ n3_; clear hb hbox hg; have hcz29_0 : w28.cell? ⟨gb114, 0, none⟩ = some (.int .i64 a0_0) := (kce BK114.out 0).trans rfl; have hcz29_1 : w28.cell? ⟨gb114, 1, none⟩ = some (.slice A0_1 l0_1.length c0_1) := (kce BK114.out 1).trans rfl) | ((with_reducible refine gate_callee (f := 22) rfl ?_); refine goesL_ (some 10) rfl rfl Try.func22 (by kernel_rfl) rfl #[.agg #[.int .i64 a0_0, .slice A0_1 l0_1.length c0_1]] rfl (by (try simp only [List.map_toArray, List.map_cons, List.map_nil]); first | done | rfl) ?_; (with_reducible refine (peel_Check.calls a0_0 _ _ l0_1 t115 _ ?side1 ?side2 A3.out).mono ?_); (case side1 => repeat (first | exact (Kd.C_below HR0_1.out HB.out) | (with_reducible refine Kd.C_alloc ?_ _) | (with_reducible refine Kd.C_drewN ?_ _) | (with_reducible refine Kd.C_drew ?_))); (case side2 => exact HC0_1.out); rintro e w30 ⟨rfl, hb⟩; refine ⟨_, rfl, ?_⟩; have n0_ := ak (kbe BK114.out hb); have n1_ := ak (bsp HB.out hb); clear BK114 HB; have BK114 := n0_; have HB := n1_; clear n0_ n1_; have hcz31_0 : w30.cell? ⟨gb114, 0, none⟩ = some (.int .i64 a0_0) := (kce BK114.out 0).trans rfl; have hcz31_1 : w30.cell? ⟨gb114, 1, none⟩ = some (.slice A0_1 l0_1.length c0_1) := (kce BK114.out 1).trans rfl) | ((with_reducible refine gate_callee (f := 48) rfl ?_); refine goesL_ (some 17) rfl rfl Try.func48 (by kernel_rfl) rfl #[.slice A1 l1.length c1, .int .i64 a0_0] rfl (by (try simp only [List.map_toArray, List.map_cons, List.map_nil]); first | done | rfl) ?_; (with_reducible refine (peel_set.calls k _ _ l1 a0_0 false _ ?side1 ?side2 A5.out).mono ?_); (case side1 => repeat (first | exact (Kd.C_below HR1.out HB.out) | (with_reducible refine Kd.C_alloc ?_ _) | (with_reducible refine Kd.C_drewN ?_ _) | (with_reducible refine Kd.C_drew ?_))); (case side2 => exact HC1.out); rintro e w' ⟨rfl, ⟨nd, rfl⟩⟩; refine ⟨_, rfl, ?_⟩))
   go_ret2
   exact ⟨_, by first | rfl | (simp <;> rfl) | (simp [*] <;> rfl), by first | exact Kd.R_nil _ _ _ _ _ | exact Kd.N_nil _ _ _ _ _ | exact Kd.V_nil _ _ _ _ _ | exact Kd.Q_nil _ _ _ _ _ | exact Kd.S_nil _ _ _ _ _, by repeat (first | (with_reducible first | exact HB.out | apply bal | apply pbn | apply bd1 | refine bst ?_ GE114.out) | exact HB.out)⟩
 ·rw [if_neg c4] at H
  have c4b0 : (t115 == 0) = false := bqm c4
  have c4b1 : (t115 != 0) = true := bne_iff_ne.mpr c4
  simp only [Option.some.injEq, Prod.mk.injEq] at H
  obtain ⟨rfl, rfl⟩ := H
  go_enter Try.func24, Try.ntmps24
  go_wp2_with (first | ((with_reducible refine gate_dst (N := 2) rfl ?_); refine box_event ?hg (N := 2) ?hd (cs := #[.int .i64 a0_0, .slice A0_1 l0_1.length c0_1]) (t := 31) ?hr ?_; (case hd => rfl); (case hg => rfl); (case hr => first | (go_simp; done) | (go_simp; rfl)); intro gb114 hg w32 hbox hb; have n0_ := ak (bsp HB.out hb); have n1_ := ak (hbox); have n2_ := ak ((by rw [hg]; exact (bsz HB.out) : w.heap.size ≤ gb114)); have n3_ := ak ((by rw [hg]; exact (bsz HB.out) : w.heap.size ≤ gb114)); clear HB; have HB := n0_; have BK114 := n1_; have GW114 := n2_; have GE114 := n3_; clear n0_ n1_ n2_ n3_; clear hb hbox hg; have hcz33_0 : w32.cell? ⟨gb114, 0, none⟩ = some (.int .i64 a0_0) := (kce BK114.out 0).trans rfl; have hcz33_1 : w32.cell? ⟨gb114, 1, none⟩ = some (.slice A0_1 l0_1.length c0_1) := (kce BK114.out 1).trans rfl) | ((with_reducible refine gate_callee (f := 22) rfl ?_); refine goesL_ (some 10) rfl rfl Try.func22 (by kernel_rfl) rfl #[.agg #[.int .i64 a0_0, .slice A0_1 l0_1.length c0_1]] rfl (by (try simp only [List.map_toArray, List.map_cons, List.map_nil]); first | done | rfl) ?_; (with_reducible refine (peel_Check.calls a0_0 _ _ l0_1 t115 _ ?side1 ?side2 A3.out).mono ?_); (case side1 => repeat (first | exact (Kd.C_below HR0_1.out HB.out) | (with_reducible refine Kd.C_alloc ?_ _) | (with_reducible refine Kd.C_drewN ?_ _) | (with_reducible refine Kd.C_drew ?_))); (case side2 => exact HC0_1.out); rintro e w34 ⟨rfl, hb⟩; refine ⟨_, rfl, ?_⟩; have n0_ := ak (kbe BK114.out hb); have n1_ := ak (bsp HB.out hb); clear BK114 HB; have BK114 := n0_; have HB := n1_; clear n0_ n1_; (try clear hb); (try clear hb2); (try clear hk); (try clear hi)))
  go_ret2
  exact ⟨_, by first | rfl | (simp <;> rfl) | (simp [*] <;> rfl), by first | exact Kd.R_nil _ _ _ _ _ | exact Kd.N_nil _ _ _ _ _ | exact Kd.V_nil _ _ _ _ _ | exact Kd.Q_nil _ _ _ _ _ | exact Kd.S_nil _ _ _ _ _, by repeat (first | (with_reducible first | exact HB.out | apply bal | apply pbn | apply bd1 | refine bst ?_ GE114.out) | exact HB.out)⟩
end Go.Proofs.Ytkifipakikbhcaa.Pk
namespace Go.Proofs.Ytkifipakikbhcaa.Ref
open Ytkifipakikbhcaa.Hand
open Go.RowKit YtkifipakikbhcaaW.PrintWords YtkifipakikbhcaaW.PrintLast YtkifipakikbhcaaW.PrintMore
def field_multiply.f (k : Nat) (P M : Int) (md : List Int) (x y : Int) : Option Int :=
 if 1 ≤ M ∧ M ≤ 8 ∧ (1 < M → (md.length : Int) = M) ∧ P ≠ 0 then
  (field_digitsOf.f k x P M).bind fun a => (field_digitsOf.f k y P M).bind fun b =>
   if (a.length : Int) = M ∧ (b.length : Int) = M then field_valueOf.f k (mulL P M.toNat md a b M.toNat (List.replicate M.toNat 0)) P else none
 else none
theorem field_multiply.calls (k : Nat) (a0_0 : Int) (a0_1 : Int) (A0_2 : Option Addr) (c0_2 : Nat) (l0_2 : List Int) (a1 : Int) (a2 : Int) (r : Int) (w : World) (hr0_2 : Kd.C (Kd.int .i64) w A0_2 l0_2.length l0_2) (hc0_2 : l0_2.length ≤ c0_2) (h : field_multiply.f k a0_0 a0_1 l0_2 a1 a2 = some r) :
  Calls Try.prog 104 #[.agg #[.int .i64 a0_0, .int .i64 a0_1, .slice A0_2 l0_2.length c0_2], .int .i64 a1, .int .i64 a2] w fun e w' => e = .returned (.int .i64 r) ∧ Below w.heap.size w w' := by
 unfold field_multiply.f at h
 by_cases hc : 1 ≤ a0_1 ∧ a0_1 ≤ 8 ∧ (1 < a0_1 → (l0_2.length : Int) = a0_1) ∧ a0_0 ≠ 0
 ·rw [if_pos hc] at h
  obtain ⟨a, ha, h⟩ := Option.bind_eq_some_iff.1 h
  obtain ⟨b, hb, h⟩ := Option.bind_eq_some_iff.1 h
  by_cases hd : (a.length : Int) = a0_1 ∧ (b.length : Int) = a0_1
  ·rw [if_pos hd] at h
   obtain ⟨N, rfl⟩ := Int.eq_ofNat_of_zero_le (show 0 ≤ a0_1 by omega)
   rw [Int.toNat_natCast] at h
   exact multiply_calls k a0_0 N A0_2 c0_2 l0_2 a1 a2 w hr0_2 hc0_2 (by omega) (by omega) (fun h1 => by have := hc.2.2.1 (by omega); omega) a b (by omega) (by omega) ha hb r h hc.2.2.2
  ·rw [if_neg hd] at h; cases h
 ·rw [if_neg hc] at h; cases h
end Go.Proofs.Ytkifipakikbhcaa.Ref
namespace Go.Proofs.Ytkifipakikbhcaa.Pg
open Ytkifipakikbhcaa.Ref
open Go.RowKit YtkifipakikbhcaaW.PrintWords YtkifipakikbhcaaW.PrintLast YtkifipakikbhcaaW.PrintMore
def field_powers.l0 : Nat → Int → List Int → List Bool → Int → Int → Int → List Int → Option (List Int)
 | 0, _, _, _, _, _, _, _ => none
 | k + 1, x2, x7, x8, x9, x102000, x102001, x102002 => if x9 = 0 then (some x7) else (if 0 ≤ x9 then (if x9 < (x8.length : Int) then (if rdOf false x8 x9 = true then (some x7) else (if x7.length < 17592186044416 then ((field_multiply.f k x102000 x102001 x102002 x9 x2).bind fun t114 => (field_powers.l0 k x2 (x7 ++ [x9]) (x8.set (x9 : Int).toNat true) t114 x102000 x102001 x102002)) else (none))) else (none)) else (none))
def field_powers.f (k : Nat) (a0_0 : Int) (a0_1 : Int) (l0_2 : List Int) (a1 : Int) (a2 : Int) : Option (List Int) := if 0 ≤ a1 then (if (a1 : Int).toNat ≤ 281474976710656 then ((some (List.replicate (a1 : Int).toNat false : List Bool)).bind fun y105 => (if 1 < (y105.length : Int) then (field_powers.l0 k a2 (([1] : List Int)) (y105.set (1 : Int).toNat true) a2 a0_0 a0_1 l0_2) else (none))) else (none)) else (none)
theorem field_powers.calls (k : Nat) (a0_0 : Int) (a0_1 : Int) (A0_2 : Option Addr) (c0_2 : Nat) (l0_2 : List Int) (a1 : Int) (a2 : Int) (r : List Int) (w : World) (hr0_2 : Kd.C (Kd.int .i64) w A0_2 l0_2.length l0_2) (hc0_2 : l0_2.length ≤ c0_2) (h : field_powers.f k a0_0 a0_1 l0_2 a1 a2 = some r) :
  Calls Try.prog 103 #[.agg #[.int .i64 a0_0, .int .i64 a0_1, .slice A0_2 l0_2.length c0_2], .int .i64 a1, .int .i64 a2] w fun e w' => ∃ v0_ : Value, e = .returned (v0_) ∧ Kd.R (Kd.int .i64) 3 w' w.heap.size (fun _ => True) v0_ r ∧ Below w.heap.size w w' := by
 have hu24 := Try.underlying24
 have HR0_2 := ak hr0_2
 have HC0_2 := ak hc0_2
 clear hr0_2 hc0_2
 have HB := ak (Below.refl w.heap.size w)
 have H : (if 0 ≤ a1 then (if (a1 : Int).toNat ≤ 281474976710656 then ((some (List.replicate (a1 : Int).toNat false : List Bool)).bind fun y105 => (if 1 < (y105.length : Int) then (field_powers.l0 k a2 (([1] : List Int)) (y105.set (1 : Int).toNat true) a2 a0_0 a0_1 l0_2) else (none))) else (none)) else (none)) = some r := h
 clear h
 obtain ⟨y102, hy102⟩ : ∃ y_ : List Int, y_ = (([1] : List Int)) := ⟨_, rfl⟩
 replace H : (if 0 ≤ a1 then (if (a1 : Int).toNat ≤ 281474976710656 then ((some (List.replicate (a1 : Int).toNat false : List Bool)).bind fun y105 => (if 1 < (y105.length : Int) then (field_powers.l0 k a2 y102 (y105.set (1 : Int).toNat true) a2 a0_0 a0_1 l0_2) else (none))) else (none)) else (none)) = some r := by first | (rw [hy102]; with_reducible exact H) | (have H2_ := (Option.bind_some _ _).symm.trans H; rw [hy102]; with_reducible exact H2_) | (have H2_ := (Option.bind_some _ _).symm.trans H; with_reducible exact H2_) | with_reducible exact H | (rw [hy102]; exact H) | exact H
 have Ny102 := ak hy102
 clear hy102
 by_cases c4 : 0 ≤ a1
 ·rw [if_pos c4] at H
  have c4b0 := eq_true c4
  have c4b1 : decide (0 ≤ a1) = true := det c4
  clear c4
  by_cases c5 : (a1 : Int).toNat ≤ 281474976710656
  ·rw [if_pos c5] at H
   have c5b0 := eq_true c5
   have c5b1 : decide ((a1 : Int).toNat ≤ 281474976710656) = true := det c5
   clear c5
   obtain ⟨y105, hy105⟩ : ∃ y_ : List Bool, y_ = (List.replicate (a1 : Int).toNat false) := ⟨_, rfl⟩
   replace H : (if 1 < (y105.length : Int) then (field_powers.l0 k a2 y102 (y105.set (1 : Int).toNat true) a2 a0_0 a0_1 l0_2) else (none)) = some r := by first | (rw [hy105]; with_reducible exact H) | (have H2_ := (Option.bind_some _ _).symm.trans H; rw [hy105]; with_reducible exact H2_) | (have H2_ := (Option.bind_some _ _).symm.trans H; with_reducible exact H2_) | with_reducible exact H | (rw [hy105]; exact H) | exact H
   have Ny105 := ak hy105
   clear hy105
   by_cases c6 : 1 < (y105.length : Int)
   ·rw [if_pos c6] at H
    have c6b0 : decide (1 < (y105.length : Int)) = true := det c6
    have c6b1 : decide (1 < y105.length) = true := det (by omega)
    clear c6
    obtain ⟨y108, hy108⟩ : ∃ y_ : List Bool, y_ = (y105.set (1 : Int).toNat true) := ⟨_, rfl⟩
    replace H : (field_powers.l0 k a2 y102 y108 a2 a0_0 a0_1 l0_2) = some r := by first | (rw [hy108]; with_reducible exact H) | (have H2_ := (Option.bind_some _ _).symm.trans H; rw [hy108]; with_reducible exact H2_) | (have H2_ := (Option.bind_some _ _).symm.trans H; with_reducible exact H2_) | with_reducible exact H | (rw [hy108]; exact H) | exact H
    have Ny108 := ak hy108
    clear hy108
    have H' := ak H
    clear H
    go_enter Try.func103, Try.ntmps103
    go_wp2_with (first | ((with_reducible refine gate_dst (N := 3) rfl ?_); refine box_event ?hg (N := 3) ?hd (cs := #[.int .i64 a0_0, .int .i64 a0_1, .slice A0_2 l0_2.length c0_2]) (t := 24) ?hr ?_; (case hd => rfl); (case hg => rfl); (case hr => first | (go_simp; done) | (go_simp; rfl)); intro gb101 hg w8 hbox hb; have n0_ := ak (bsp HB.out hb); have n1_ := ak (hbox); have n2_ := ak ((by rw [hg]; exact (bsz HB.out) : w.heap.size ≤ gb101)); have n3_ := ak ((by rw [hg]; exact (bsz HB.out) : w.heap.size ≤ gb101)); clear HB; have HB := n0_; have BK101 := n1_; have GW101 := n2_; have GE101 := n3_; clear n0_ n1_ n2_ n3_; clear hb hbox hg) | ((with_reducible refine gate_dst (N := 10) rfl ?_); refine Kd.R_lit (Kd.int .i64) _ 3 ?hg (N := 10) ?hd (xs := ([1] : List Int)) (inner := [.int .i64 1]) (ok := fun _ => True) (okp := fun _ => True) ?hr ?hp (fun _ hk => hk) trivial (Below.refl _ _) (Nat.le_refl _) (by simp) ?_; (case hd => rfl); (case hg => rfl); (case hr => first | (go_simp; done) | (go_simp; rfl)); (case hp => exact (Reps.one (show Kd.M (Kd.int .i64) _ _ _ 1 [.int .i64 1] from rfl) (Reps.none _ _))); intro v103 w9 ho10 hb hg_ hnew_; clear hg_ hnew_; (first | rw [← Ny102.out] at ho10 | (simp only [Int.reduceToNat] at ho10; rw [← Ny102.out] at ho10)); have n0_ := ak (Kd.R_lower ho10 (bsz HB.out)); have n1_ := ak (kbe BK101.out hb); have n2_ := ak (bsp HB.out hb); clear BK101 HB; have HO104 := n0_; have BK101 := n1_; have HB := n2_; clear n0_ n1_ n2_; clear hb ho10) | ((with_reducible refine gate_dst (N := 12) rfl ?_); refine Kd.R_make Kd.bool _ 4 rfl (N := 12) rfl 73 _ _ rfl a1 rfl rfl Try.underlying73 (.bool false) 1 info4 rfl (by decide) (by omega) false (ok := fun _ => True) (okp := fun _ => True) rfl (fun _ hk => hk) trivial (odt (by first | (with_reducible assumption) | assumption)) (Nat.le_trans (Nat.mul_le_mul_right _ (odt (by first | (with_reducible assumption) | assumption) : a1.toNat ≤ 281474976710656)) (by omega)) (Below.refl _ _) (Nat.le_refl _) ?_; intro v106 w11 ho12 hb hg_ hnew_; clear hg_ hnew_; (first | rw [← Ny105.out] at ho12 | (simp only [Int.reduceToNat] at ho12; rw [← Ny105.out] at ho12)); have n0_ := ak (Kd.R_below HO104.out hb); have n1_ := ak (Kd.R_lower ho12 (bsz HB.out)); have n2_ := ak (kbe BK101.out hb); have n3_ := ak (bsp HB.out hb); clear HO104 BK101 HB; have HO104 := n0_; have HO107 := n1_; have BK101 := n2_; have HB := n3_; clear n0_ n1_ n2_ n3_; clear hb ho12; have p7 : 0 ≤ (1 : Int) := (by omega); have q7 : (1 : Int) < ((y105.length : Int) : Int) := odt (by first | (with_reducible assumption) | assumption); have qi7 : (1 < y105.length) = True := eq_true (by omega); obtain ⟨go7, co7, eo7, gb7, gl7, cl7, HG7⟩ := Kd.R_form HO107.out (by omega); (first | cases eo7 | (injection eo7 with ea_ en_ ec_; (first | subst ea_ | (injection ea_ with ea_; subst ea_)); subst ec_; clear en_)); have GB7 := ak gb7; have GG7 := ak HG7; clear gb7 gl7 HG7; obtain ⟨hx7_0, hf7_0⟩ := Kd.R_celln false HO107.out (1 : Int) p7 q7; (try rw [show ((1 : Int)).toNat = 1 from rfl] at hx7_0); (try simp only [Nat.reduceMul, Nat.zero_mul, Nat.zero_add, Nat.reduceAdd] at hx7_0); (try rw [show ((1 : Int)).toNat = 1 from rfl] at hf7_0); (try simp only [Nat.reduceMul, Nat.zero_mul, Nat.zero_add, Nat.reduceAdd] at hf7_0); replace p7 := eq_true p7; replace q7 := eq_true q7; obtain ⟨hy13_, hz13_⟩ := Kd.R_celln false HO107.out (1 : Int) (by omega) (odt (by first | (with_reducible assumption) | assumption)); (try simp only [Int.reduceToNat, Int.toNat_zero, Int.toNat_ofNat, Nat.reduceMul, Nat.zero_mul, Nat.zero_add] at hy13_ hz13_); (try rw [show ((1 : Int)).toNat = 1 from rfl] at hy13_); (try rw [show ((1 : Int)).toNat = 1 from rfl] at hz13_); have HP13 := Kd.R_putg HO107.out (1 : Int) true) | ((with_reducible refine gate_store (t := 4) (p := 14) rfl ?_); refine store_event (t := 4) (p := 14) (v := ?vo_w14) (w1 := (w11.setCell ⟨go7, (1 : Int).toNat, none⟩ (.bool true))) ?hg ?ho ?hn ?hr ?_; (case ho => rfl); (case hg => rfl); (case hn => rfl); (case hr => first | (go_simp; done) | (go_simp; rfl)); intro w14 hw; have hg : w11.grownBy w14 (some go7) := (by rw [hw]; exact HP13.2); have hp_ : Kd.R Kd.bool 4 w14 w.heap.size (fun _ => True) (.slice (some ⟨go7, 0, none⟩) y105.length co7) y108 := (by rw [hw, Ny108.out]; exact HP13.1); clear HP13; have n0_ := ak (blk_grown (g := gb101) (o := .cells #[.int .i64 a0_0, .int .i64 a0_1, .slice A0_2 l0_2.length c0_2] 24 (0, 0)) BK101.out hg (Kd.R_ne HO107.out BK101.out (by decide))); have n1_ := ak (Kd.R_over' (v := (.slice (some ⟨go7, 0, none⟩) y105.length co7)) HO104.out (Kd.R_typed HO107.out) (by decide) hg); have n2_ := ak (hp_); have n3_ := ak ((by rw [hw]; exact bst (HB.out) GB7.out : Below w.heap.size w w14)); clear BK101 HO104 HO107 HB; have BK101 := n0_; have HO104 := n1_; have HO107 := n2_; have HB := n3_; clear n0_ n1_ n2_ n3_; clear hg hw hp_))
    go_loopg [7, 9] k (fun kq v7 v9 w' => ∃ (x7_1 : List Int) (x8_1 : List Bool) (x9_1 : Int), v9 = .int .i64 x9_1 ∧ Aside0 (field_powers.l0 kq a2 x7_1 x8_1 x9_1 a0_0 a0_1 l0_2 = some r) ∧ Aside0 (kq ≤ k) ∧ Aside0 (Kd.R (Kd.int .i64) 3 w' w.heap.size (fun _ => True) v7 x7_1) ∧ Aside0 (Kd.R Kd.bool 4 w' w.heap.size (fun _ => True) (.slice (some ⟨go7, 0, none⟩) y105.length co7) x8_1) ∧ Aside0 (w'.heap[gb101]? = some (.cells #[.int .i64 a0_0, .int .i64 a0_1, (.slice A0_2 l0_2.length c0_2)] 24 (0, 0))) ∧ Aside0 (Below w.heap.size w w'))
    case atStart => exact ⟨(y102), (y108), (a2), (by first | rfl | (simp; done) | (simp [*]; done)), H', ⟨Nat.le_refl _⟩, ⟨by (with_reducible repeat (first | apply Kd.R_alloc | apply Kd.R_drewN | apply Kd.R_drew)); exact HO104.out⟩, ⟨by (with_reducible repeat (first | apply Kd.R_alloc | apply Kd.R_drewN | apply Kd.R_drew)); exact HO107.out⟩, ⟨by (with_reducible repeat (first | refine kdn ?_ _ | refine kdr ?_ | refine kal ?_ _)); exact BK101.out⟩, ⟨by repeat (first | (with_reducible first | exact HB.out | apply bal | apply pbn | apply bd1 | refine bst ?_ GE101.out) | exact HB.out)⟩⟩
    case round =>
     clear H'
     obtain ⟨x7_1, x8_1, x9_1, rfl, HA, HK1, HO_7, HO_8, BK101, HB⟩ := hrel
     have hl8_1 := (Kd.R_reads' HO_8.out).1
     rw [hl8_1] at HO_8
     (try simp only [hl8_1])
     (try simp only [hl8_1] at BK101)
     (try simp only [hl8_1] at HO_7)
     cases gk with
     | zero => exact absurd HA.out (by simp [field_powers.l0])
     | succ k1 =>
      have H := HA.out
      clear HA
      simp only [field_powers.l0] at H
      by_cases c15 : x9_1 = 0
      ·rw [if_pos c15] at H
       have c15b0 : (x9_1 == 0) = true := beq_iff_eq.mpr c15
       have c15b1 : (x9_1 != 0) = false := bnm c15
       clear c15
       obtain rfl := osi H
       go_wp2
       go_ret
       exact ⟨_, by first | rfl | (simp <;> rfl) | (simp [*] <;> rfl), by (with_reducible repeat (first | apply Kd.R_alloc | apply Kd.R_drewN | apply Kd.R_drew)); exact HO_7.out, by repeat (first | (with_reducible first | exact HB.out | apply bal | apply pbn | apply bd1 | refine bst ?_ GE101.out) | exact HB.out)⟩
      ·rw [if_neg c15] at H
       have c15b0 : (x9_1 == 0) = false := bqm c15
       have c15b1 : (x9_1 != 0) = true := bne_iff_ne.mpr c15
       by_cases c16 : 0 ≤ x9_1
       ·rw [if_pos c16] at H
        have c16b0 : decide (0 ≤ x9_1) = true := det c16
        clear c16
        by_cases c17 : x9_1 < (x8_1.length : Int)
        ·rw [if_pos c17] at H
         have c17b0 : decide (x9_1 < (x8_1.length : Int)) = true := det c17
         clear c17
         obtain ⟨bq18, hbq18⟩ : ∃ b_ : Bool, b_ = (rdOf false x8_1 x9_1) := ⟨_, rfl⟩
         replace H : (if bq18 = true then (some x7_1) else (if x7_1.length < 17592186044416 then ((field_multiply.f k1 a0_0 a0_1 l0_2 x9_1 a2).bind fun t114 => (field_powers.l0 k1 a2 (x7_1 ++ [x9_1]) (x8_1.set (x9_1 : Int).toNat true) t114 a0_0 a0_1 l0_2)) else (none))) = some r := by rw [← hbq18] at H; exact H
         have Nbq18 := ak hbq18
         clear hbq18
         by_cases c19 : bq18 = true
         ·subst c19
          have H1 : (some x7_1) = some r := by rw [if_pos rfl] at H; exact H
          clear H
          have H := H1
          clear H1
          obtain rfl := osi H
          have p109 : 0 ≤ (x9_1 : Int) := odt (by first | (with_reducible assumption) | assumption)
          have q109 : x9_1 < (x8_1.length : Int) := odt (by first | (with_reducible assumption) | assumption)
          obtain ⟨ad109, e109, hx109_0⟩ := Kd.at_bool (Kd.R_reads' HO_8.out).2.2 x9_1 p109 q109
          (try rw [← Nbq18.out] at hx109_0)
          obtain rfl : (⟨go7, 0, none⟩ : Addr) = ad109 := (by injection e109)
          (first | simp only [add_plain] at hx109_0 | simp only [add_at] at hx109_0 | simp only [Addr.add, Nat.zero_add] at hx109_0 | skip)
          replace p109 := eq_true p109
          replace q109 := eq_true q109
          go_wp2
          go_ret
          exact ⟨_, by first | rfl | (simp <;> rfl) | (simp [*] <;> rfl), by (with_reducible repeat (first | apply Kd.R_alloc | apply Kd.R_drewN | apply Kd.R_drew)); exact HO_7.out, by repeat (first | (with_reducible first | exact HB.out | apply bal | apply pbn | apply bd1 | refine bst ?_ GE101.out) | exact HB.out)⟩
         ·replace c19 := Bool.eq_false_iff.mpr c19
          subst c19
          have H1 : (if x7_1.length < 17592186044416 then ((field_multiply.f k1 a0_0 a0_1 l0_2 x9_1 a2).bind fun t114 => (field_powers.l0 k1 a2 (x7_1 ++ [x9_1]) (x8_1.set (x9_1 : Int).toNat true) t114 a0_0 a0_1 l0_2)) else (none)) = some r := by rw [if_neg (show ¬ (false = true) by decide)] at H; exact H
          clear H
          have H := H1
          clear H1
          obtain ⟨y110, hy110⟩ : ∃ y_ : List Bool, y_ = (x8_1.set (x9_1 : Int).toNat true) := ⟨_, rfl⟩
          replace H : (if x7_1.length < 17592186044416 then ((field_multiply.f k1 a0_0 a0_1 l0_2 x9_1 a2).bind fun t114 => (field_powers.l0 k1 a2 (x7_1 ++ [x9_1]) y110 t114 a0_0 a0_1 l0_2)) else (none)) = some r := by first | (rw [hy110]; with_reducible exact H) | (have H2_ := (Option.bind_some _ _).symm.trans H; rw [hy110]; with_reducible exact H2_) | (have H2_ := (Option.bind_some _ _).symm.trans H; with_reducible exact H2_) | with_reducible exact H | (rw [hy110]; exact H) | exact H
          have Ny110 := ak hy110
          clear hy110
          by_cases c21 : x7_1.length < 17592186044416
          ·rw [if_pos c21] at H
           have LMc21 := ak c21
           clear c21
           obtain ⟨y111, hy111⟩ : ∃ y_ : List Int, y_ = (x7_1 ++ [x9_1]) := ⟨_, rfl⟩
           replace H : ((field_multiply.f k1 a0_0 a0_1 l0_2 x9_1 a2).bind fun t114 => (field_powers.l0 k1 a2 y111 y110 t114 a0_0 a0_1 l0_2)) = some r := by first | (rw [hy111]; with_reducible exact H) | (have H2_ := (Option.bind_some _ _).symm.trans H; rw [hy111]; with_reducible exact H2_) | (have H2_ := (Option.bind_some _ _).symm.trans H; with_reducible exact H2_) | with_reducible exact H | (rw [hy111]; exact H) | exact H
           have Ny111 := ak hy111
           clear hy111
           replace H := obm H
           obtain ⟨t114, A220, H⟩ := H
           replace H : (field_powers.l0 k1 a2 y111 y110 t114 a0_0 a0_1 l0_2) = some r := H
           have A22 := ak A220
           clear A220
           have H' := ak H
           clear H
           have p109 : 0 ≤ (x9_1 : Int) := odt (by first | (with_reducible assumption) | assumption)
           have q109 : x9_1 < (x8_1.length : Int) := odt (by first | (with_reducible assumption) | assumption)
           obtain ⟨ad109, e109, hx109_0⟩ := Kd.at_bool (Kd.R_reads' HO_8.out).2.2 x9_1 p109 q109
           (try rw [← Nbq18.out] at hx109_0)
           obtain rfl : (⟨go7, 0, none⟩ : Addr) = ad109 := (by injection e109)
           (first | simp only [add_plain] at hx109_0 | simp only [add_at] at hx109_0 | simp only [Addr.add, Nat.zero_add] at hx109_0 | skip)
           replace p109 := eq_true p109
           replace q109 := eq_true q109
           have p20 : 0 ≤ (x9_1 : Int) := odt (by first | (with_reducible assumption) | assumption)
           have q20 : (x9_1 : Int) < ((x8_1.length : Int) : Int) := odt (by first | (with_reducible assumption) | assumption)
           obtain ⟨hx20_0, hf20_0⟩ := Kd.R_celln false HO_8.out (x9_1 : Int) p20 q20
           replace p20 := eq_true p20
           replace q20 := eq_true q20
           have HP23 := Kd.R_putg HO_8.out (x9_1 : Int) true
           go_wp2_with (first | ((with_reducible refine gate_store (t := 4) (p := 31) rfl ?_); refine store_event (t := 4) (p := 31) (v := ?vo_w24) (w1 := (wr.setCell ⟨go7, (x9_1 : Int).toNat, none⟩ (.bool true))) ?hg ?ho ?hn ?hr ?_; (case ho => rfl); (case hg => rfl); (case hn => rfl); (case hr => first | (go_simp; done) | (go_simp; rfl)); intro w24 hw; have hg : wr.grownBy w24 (some go7) := (by rw [hw]; exact HP23.2); have hp_ : Kd.R Kd.bool 4 w24 w.heap.size (fun _ => True) (.slice (some ⟨go7, 0, none⟩) x8_1.length co7) y110 := (by rw [hw, Ny110.out]; exact HP23.1); clear HP23; have n0_ := ak (Kd.R_over' (v := (.slice (some ⟨go7, 0, none⟩) x8_1.length co7)) HO_7.out (Kd.R_typed HO_8.out) (by decide) hg); have n1_ := ak (hp_); have n2_ := ak (blk_grown (g := gb101) (o := .cells #[.int .i64 a0_0, .int .i64 a0_1, .slice A0_2 l0_2.length c0_2] 24 (0, 0)) BK101.out hg (Kd.R_ne HO_8.out BK101.out (by decide))); have n3_ := ak ((by rw [hw]; exact bst (HB.out) GB7.out : Below w.heap.size w w24)); clear HO_7 HO_8 BK101 HB; have HO_7 := n0_; have HO_8 := n1_; have BK101 := n2_; have HB := n3_; clear n0_ n1_ n2_ n3_; clear hg hw hp_) | ((with_reducible refine gate_builtin (b := .append) (xs := #[.tmp 32, .tmp 34]) rfl ?_); at_builtin; refine Kd.R_append (Kd.int .i64) (w0 := w) w.heap.size rfl (.tmp 32) (.tmp 34) 22 3 (.int .i64 0) 8 rfl Try.underlying22 info3 rfl (by decide) (by omega) u7 x7_1 x9_1 [.int .i64 x9_1] (fun _ => True) (fun _ => False) rfl rfl ?aP (fun _ hk => hk.elim) ?aF ?aO ?aB ?aS ?aL ?_; (case aP => exact rfl); (case aB => exact HB.out); (case aF => exact (fun _ _ => trivial)); (case aO => exact HO_7.out); (case aS => exact (bsz HB.out)); (case aL => have := LMc21.out; omega); intro v112 w25 ho hb hg hat; rw [← Ny111.out] at ho; have n0_ := ak (Kd.R_over' HO_8.out (Kd.R_typed HO_7.out) (by decide) hg); have n1_ := ak (blk_grown (g := gb101) (o := .cells #[.int .i64 a0_0, .int .i64 a0_1, .slice A0_2 l0_2.length c0_2] 24 (0, 0)) BK101.out hg (Kd.R_ne HO_7.out BK101.out (by decide))); have n2_ := ak (hb); have n3_ := ak (ho); clear HO_8 BK101 HB HO_7; have HO_8 := n0_; have BK101 := n1_; have HB := n2_; have HO113 := n3_; clear n0_ n1_ n2_ n3_; clear ho hb hg hat; have hcz26_0 : w25.cell? ⟨gb101, 0, none⟩ = some (.int .i64 a0_0) := (kce BK101.out 0).trans rfl; have hcz26_1 : w25.cell? ⟨gb101, 1, none⟩ = some (.int .i64 a0_1) := (kce BK101.out 1).trans rfl; have hcz26_2 : w25.cell? ⟨gb101, 2, none⟩ = some (.slice A0_2 l0_2.length c0_2) := (kce BK101.out 2).trans rfl) | ((with_reducible refine gate_callee (f := 104) rfl ?_); refine goesL_ (some 28) rfl rfl Try.func104 (by kernel_rfl) rfl #[.agg #[.int .i64 a0_0, .int .i64 a0_1, .slice A0_2 l0_2.length c0_2], .int .i64 x9_1, .int .i64 a2] rfl (by (try simp only [List.map_toArray, List.map_cons, List.map_nil]); first | done | rfl) ?_; (with_reducible refine (field_multiply.calls k1 a0_0 a0_1 _ _ l0_2 x9_1 a2 t114 _ ?side1 ?side2 A22.out).mono ?_); (case side1 => repeat (first | exact (Kd.C_below HR0_2.out HB.out) | (with_reducible refine Kd.C_alloc ?_ _) | (with_reducible refine Kd.C_drewN ?_ _) | (with_reducible refine Kd.C_drew ?_))); (case side2 => exact HC0_2.out); rintro e w27 ⟨rfl, hb⟩; refine ⟨_, rfl, ?_⟩; have n0_ := ak (Kd.R_below HO_8.out hb); have n1_ := ak (Kd.R_below HO113.out hb); have n2_ := ak (kbe BK101.out hb); have n3_ := ak (bsp HB.out hb); clear HO_8 HO113 BK101 HB; have HO_8 := n0_; have HO113 := n1_; have BK101 := n2_; have HB := n3_; clear n0_ n1_ n2_ n3_; (try clear hb); (try clear hb2); (try clear hk); (try clear hi)))
           (try simp only [← hl8_1])
           go_roundg k1
           case measure => have := HK1.out; omega
           case rel => exact ⟨(y111), (y110), (t114), (by first | rfl | (simp; done) | (simp [*]; done)), H', ⟨by have := HK1.out; omega⟩, ⟨by (try simp only [hl8_1]); (with_reducible repeat (first | apply Kd.R_alloc | apply Kd.R_drewN | apply Kd.R_drew)); exact HO113.out⟩, ⟨by (try simp only [hl8_1]); (with_reducible repeat (first | apply Kd.R_alloc | apply Kd.R_drewN | apply Kd.R_drew)); exact HO_8.out⟩, ⟨by (try simp only [hl8_1]); (with_reducible repeat (first | refine kdn ?_ _ | refine kdr ?_ | refine kal ?_ _)); exact BK101.out⟩, ⟨by repeat (first | (with_reducible first | exact HB.out | apply bal | apply pbn | apply bd1 | refine bst ?_ GE101.out) | exact HB.out)⟩⟩
          ·rw [if_neg c21] at H
           exact absurd H (by simp)
        ·rw [if_neg c17] at H
         exact absurd H (by simp)
       ·rw [if_neg c16] at H
        exact absurd H (by simp)
   ·rw [if_neg c6] at H
    exact absurd H (by simp)
  ·rw [if_neg c5] at H
   exact absurd H (by simp)
 ·rw [if_neg c4] at H
  exact absurd H (by simp)
end Go.Proofs.Ytkifipakikbhcaa.Pg
namespace Go.Proofs.Ytkifipakikbhcaa.Hand
open Ytkifipakikbhcaa.Ref Ytkifipakikbhcaa.Pg
open Go.RowKit YtkifipakikbhcaaW.PrintWords YtkifipakikbhcaaW.PrintLast YtkifipakikbhcaaW.PrintMore
def genL (pw : Int → List Int) (one : Int → Int) (q : Int) : Nat → Int → List Int
 | 0, _ => []
 | d + 1, x => if ((pw x).length : Int) = q - 1 ∧ one x = 1 then pw x else genL pw one q d (x + 1)
theorem cells4_below {W W' : World} {a b c d : Addr} {s t u v : Value} (h : W.cell? a = some s ∧ W.cell? b = some t ∧ W.cell? c = some u ∧ W.cell? d = some v) (hb : Below W.heap.size W W') :
  W'.cell? a = some s ∧ W'.cell? b = some t ∧ W'.cell? c = some u ∧ W'.cell? d = some v :=
 ⟨cbl h.1 hb, cbl h.2.1 hb, cbl h.2.2.1 hb, cbl h.2.2.2 hb⟩
theorem generator_calls (k : Nat) (P M : Int) (A : Option Addr) (c : Nat) (md : List Int) (q : Int) (w : World) (hr : Kd.C (Kd.int .i64) w A md.length md) (hc : md.length ≤ c)
  (hq : 2 ≤ q) (hq2 : q ≤ 256) (pw : Int → List Int) (one : Int → Int) (hpw : ∀ x, 1 ≤ x → x < q → field_powers.f k P M md q x = some (pw x))
  (hone : ∀ x, 1 ≤ x → x < q → ((pw x).length : Int) = q - 1 → field_multiply.f k P M md (rd (pw x) (q - 2)) x = some (one x)) :
  Calls Try.prog 87 #[.agg #[.int .i64 P, .int .i64 M, .slice A md.length c], .int .i64 q] w fun e w' => ∃ v, e = .returned v ∧ Kd.R (Kd.int .i64) 3 w' w.heap.size (fun _ => True) v (genL pw one q (q - 1).toNat 1) ∧ (genL pw one q (q - 1).toNat 1 = [] → v = .slice none 0 0) ∧ Below w.heap.size w w' := by
 have hu24 := Try.underlying24
 have HR := ak hr
 have HC := ak hc
 have HQ := ak (And.intro hq hq2)
 have HPW := ak hpw
 have HONE := ak hone
 obtain ⟨q1, hq1⟩ : ∃ q1 : Int, wrap64 (q - 1) = q1 := ⟨_, rfl⟩
 have hq1' : IntKind.i64.wrap (q - 1) = q1 := (i64_w _).trans hq1
 have HQ1 := ak (show q1 = q - 1 from by rw [← hq1]; unfold wrap64; omega)
 obtain ⟨q2, hq2'⟩ : ∃ q2 : Int, wrap64 (q - 2) = q2 := ⟨_, rfl⟩
 have hq2'' : IntKind.i64.wrap (q - 2) = q2 := (i64_w _).trans hq2'
 have HQ2 := ak (show q2 = q - 2 from by rw [← hq2']; unfold wrap64; omega)
 clear hr hc hq hq2 hpw hone
 go_enter Try.func87, Try.ntmps87
 go_wp2
 obtain ⟨w1, hw1⟩ : ∃ w1 : World, w1 = w.alloc (Obj.cells #[.int .i64 P, .int .i64 M, .slice A md.length c] 24) := ⟨_, rfl⟩
 have HB := ak (show Below w.heap.size w w1 by rw [hw1]; exact bal (Below.refl _ _) _)
 have HBK := ak (show w1.heap[w.heap.size]? = some (.cells #[.int .i64 P, .int .i64 M, .slice A md.length c] 24 (0, 0)) by rw [hw1]; exact heap_alloc_new w _)
 rw [← hw1]
 clear hw1
 go_loopg [5] (q - 1).toNat (fun gk v5 w' => ∃ x : Int, v5 = .int .i64 x ∧ Aside0 (1 ≤ x ∧ x ≤ q ∧ gk = (q - x).toNat ∧ genL pw one q (q - x).toNat x = genL pw one q (q - 1).toNat 1) ∧ Aside0 (Below w1.heap.size w1 w'))
 case atStart => exact ⟨1, rfl, ⟨by omega, by have := HQ.out; omega, rfl, rfl⟩, ⟨Below.refl _ _⟩⟩
 case round =>
  obtain ⟨x, rfl, HX, HB2⟩ := hrel
  have BK2 := ak ((HB2.out.block _ (klt HBK.out)).trans HBK.out)
  have hcz0 : wr.cell? ⟨w.heap.size, 0, none⟩ = some (.int .i64 P) := (kce BK2.out 0).trans rfl
  have hcz1 : wr.cell? ⟨w.heap.size, 1, none⟩ = some (.int .i64 M) := (kce BK2.out 1).trans rfl
  have hcz2 : wr.cell? ⟨w.heap.size, 2, none⟩ = some (.slice A md.length c) := (kce BK2.out 2).trans rfl
  by_cases hx : x < q
  ·have c1 : decide (x < q) = true := det hx
   have HX0 := ak hx
   clear hx
   have HP := ak (HPW.out x HX.out.1 HX0.out)
   have HCW := ak (Kd.C_below (Kd.C_below HR.out HB.out) HB2.out)
   go_wp2_with (first | (go_at_call 103; (with_reducible refine (field_powers.calls k P M A c md q x (pw x) wr ?side1 ?side2 ?side3).mono ?_); (case side1 => exact HCW.out); (case side2 => exact HC.out); (case side3 => exact HP.out); rintro e w2 ⟨vp, rfl, hR, hB⟩; have HRP := ak hR; have HB3 := ak hB; clear hR hB))
   obtain ⟨Ap, cp, ep⟩ := Kd.R_slice HRP.out
   subst ep
   replace hcz0 := cbl hcz0 HB3.out
   replace hcz1 := cbl hcz1 HB3.out
   replace hcz2 := cbl hcz2 HB3.out
   by_cases hg : ((pw x).length : Int) = q1
   ·have g1 : (((pw x).length : Int) == q1) = true := beq_iff_eq.2 hg
    have HG := ak hg
    clear hg
    have r1 : (0 ≤ q2) = True := eq_true (by have := HQ.out; have := HQ2.out; omega)
    have r2 : (q2 < ((pw x).length : Int)) = True := eq_true (by have := HG.out; have := HQ1.out; have := HQ2.out; omega)
    obtain ⟨ap, eap, hxp⟩ := Kd.at_int (Kd.R_reads' HRP.out).2.2 q2 (of_eq_true r1) (of_eq_true r2)
    cases eap
    have HM := ak (show field_multiply.f k P M md (rd (pw x) q2) x = some (one x) from by rw [HQ2.out]; exact HONE.out x HX.out.1 HX0.out (by rw [HG.out, HQ1.out]))
    have HCM := ak (Kd.C_below HCW.out HB3.out)
    go_region_held3 (fun w' => w'.cell? ⟨w.heap.size, 0, none⟩ = some (.int .i64 P) ∧ w'.cell? ⟨w.heap.size, 1, none⟩ = some (.int .i64 M) ∧ w'.cell? ⟨w.heap.size, 2, none⟩ = some (.slice A md.length c) ∧ w'.cell? (ap.add q2.toNat) = some (.int .i64 (rd (pw x) q2))) (first | go_keep | exact HS4.out)
     (first | (go_at_call 104; (with_reducible refine (field_multiply.calls k P M A c md (rd (pw x) q2) x (one x) _ ?side1 ?side2 ?side3).mono ?_); (case side1 => exact Kd.C_drew HCM.out); (case side2 => exact HC.out); (case side3 => exact HM.out); rintro e w3 ⟨rfl, hB⟩; have HB4 := ak hB; have HS4 := ak (cells4_below (by assumption) hB); clear hB))
    go_wp2
    ·go_ret
     have hone : one x = 1 := by rename_i h; exact beq_iff_eq.1 h
     have hG : genL pw one q (q - 1).toNat 1 = pw x := by
      have h := HX.out; have h2 := HX0.out
      rw [← h.2.2.2, show (q - x).toNat = (q - x).toNat - 1 + 1 from by omega, genL, if_pos ⟨by rw [HG.out, HQ1.out], hone⟩]
     refine ⟨_, rfl, by rw [hG]; exact Kd.R_lower (Kd.R_below (Kd.R_drew HRP.out) HB4.out) (bsz (bsp HB.out HB2.out)), ?_, bsp HB.out (bsp (bd1 (bsp HB2.out HB3.out)) HB4.out)⟩
     intro h0
     rw [hG] at h0
     have h1 := HG.out; have h2 := HQ1.out; have h3 := HQ.out
     rw [h0] at h1
     simp at h1; omega
    ·go_roundg (q - (x + 1)).toNat
     case measure => have := HX.out; have := HX0.out; omega
     case rel =>
      have h := HX.out; have h2 := HX0.out
      refine ⟨x + 1, by rw [wrap64_succ' (n := 256) (by omega) (by have := HQ.out; omega) (by omega)], ⟨by omega, by omega, rfl, ?_⟩, ⟨bsp (bd1 (bsp HB2.out HB3.out)) HB4.out⟩⟩
      rw [← h.2.2.2, show (q - x).toNat = (q - (x + 1)).toNat + 1 from by omega, genL, if_neg]
      intro hh; rename_i h0; rw [hh.2] at h0; simp at h0
   ·have g1 : (((pw x).length : Int) == q1) = false := beq_eq_false_iff_ne.2 hg
    have HG := ak hg
    clear hg
    go_quiet (fail)
    go_wp2
    go_roundg (q - (x + 1)).toNat
    case measure => have := HX.out; have := HX0.out; omega
    case rel =>
     have h := HX.out; have h2 := HX0.out
     refine ⟨x + 1, by rw [wrap64_succ' (n := 256) (by omega) (by have := HQ.out; omega) (by omega)], ⟨by omega, by omega, rfl, ?_⟩, ⟨pbn (bsp HB2.out HB3.out) _⟩⟩
     rw [← h.2.2.2, show (q - x).toNat = (q - (x + 1)).toNat + 1 from by omega, genL, if_neg]
     intro hh; exact HG.out (by rw [hh.1, HQ1.out])
  ·have c1 : decide (x < q) = false := dff hx
   go_wp2
   go_ret
   have hG : genL pw one q (q - 1).toNat 1 = [] := by
    have h := HX.out
    rw [← h.2.2.2, show (q - x).toNat = 0 from by omega, genL]
   exact ⟨_, rfl, by (first | rw [hG] | rw [show q.toNat - 1 = (q - 1).toNat from by omega, hG]); exact Kd.R_nil _ _ _ _ _, fun _ => rfl, bsp HB.out HB2.out⟩
end Go.Proofs.Ytkifipakikbhcaa.Hand
namespace Go.Proofs.Ytkifipakikbhcaa.Gf
open Ytkifipakikbhcaa.Ref
open Go.RowKit YtkifipakikbhcaaW.PrintWords YtkifipakikbhcaaW.PrintLast YtkifipakikbhcaaW.PrintMore
def rd_L1 (xs : List (List Int)) (i : Int) : (List Int) := xs.getD i.toNat ([] : List Int)
def IsS109 (w0 W : World) (g : Nat) (f0 : Int) (f1 : Int) (f2 : List Int) (f3 : Int) (f4 : List Int) (f5 : List Int) : Prop := ∃ A2 c2, ∃ A4 c4, ∃ A5 c5, W.heap[g]? = some (.cells #[.int .i64 f0, .int .i64 f1, .slice A2 f2.length c2, .int .i64 f3, .slice A4 f4.length c4, .slice A5 f5.length c5] 109 (0, 0)) ∧ w0.heap.size ≤ g ∧ Kd.C (Kd.int .i64) w0 A2 f2.length f2 ∧ Kd.C (Kd.int .i64) w0 A4 f4.length f4 ∧ Kd.C (Kd.int .i64) w0 A5 f5.length f5
theorem IsS109.grown {w0 W : World} {g : Nat} {f0 : Int} {f1 : Int} {f2 : List Int} {f3 : Int} {f4 : List Int} {f5 : List Int} {W1 : World} {row : Option Nat} (h : IsS109 w0 W g f0 f1 f2 f3 f4 f5) (hw : W.grownBy W1 row) (hne : some g ≠ row) : IsS109 w0 W1 g f0 f1 f2 f3 f4 f5 := by
 obtain ⟨A2, c2, A4, c4, A5, c5, hb, hg, hr2, hr4, hr5⟩ := h
 exact ⟨A2, c2, A4, c4, A5, c5, blk_grown hb hw hne, hg, hr2, hr4, hr5⟩
theorem IsS109.below {w0 W : World} {g : Nat} {f0 : Int} {f1 : Int} {f2 : List Int} {f3 : Int} {f4 : List Int} {f5 : List Int} {W1 : World} (h : IsS109 w0 W g f0 f1 f2 f3 f4 f5) (hw : Below W.heap.size W W1) : IsS109 w0 W1 g f0 f1 f2 f3 f4 f5 := h.grown (grown_of_below hw none) (by simp)
theorem IsS109.alloc {w0 W : World} {g : Nat} {f0 : Int} {f1 : Int} {f2 : List Int} {f3 : Int} {f4 : List Int} {f5 : List Int} (h : IsS109 w0 W g f0 f1 f2 f3 f4 f5) (o : Obj) : IsS109 w0 (W.alloc o) g f0 f1 f2 f3 f4 f5 := h.below (bal (Below.refl _ _) o)
theorem IsS109.drewN {w0 W : World} {g : Nat} {f0 : Int} {f1 : Int} {f2 : List Int} {f3 : Int} {f4 : List Int} {f5 : List Int} (h : IsS109 w0 W g f0 f1 f2 f3 f4 f5) (m : Nat) : IsS109 w0 (W.drewN m) g f0 f1 f2 f3 f4 f5 := h
theorem IsS109.drew {w0 W : World} {g : Nat} {f0 : Int} {f1 : Int} {f2 : List Int} {f3 : Int} {f4 : List Int} {f5 : List Int} (h : IsS109 w0 W g f0 f1 f2 f3 f4 f5) : IsS109 w0 W.drew g f0 f1 f2 f3 f4 f5 := h
theorem IsS109.lt {w0 W : World} {g : Nat} {f0 : Int} {f1 : Int} {f2 : List Int} {f3 : Int} {f4 : List Int} {f5 : List Int} (h : IsS109 w0 W g f0 f1 f2 f3 f4 f5) : g < W.heap.size := by
 obtain ⟨A2, c2, A4, c4, A5, c5, hb, hg, hr2, hr4, hr5⟩ := h
 exact klt hb
theorem IsS109.ge {w0 W : World} {g : Nat} {f0 : Int} {f1 : Int} {f2 : List Int} {f3 : Int} {f4 : List Int} {f5 : List Int} (h : IsS109 w0 W g f0 f1 f2 f3 f4 f5) : w0.heap.size ≤ g := by
 obtain ⟨A2, c2, A4, c4, A5, c5, hb, hg, hr2, hr4, hr5⟩ := h
 exact hg
theorem IsS109.far {w0 W : World} {g : Nat} {f0 : Int} {f1 : Int} {f2 : List Int} {f3 : Int} {f4 : List Int} {f5 : List Int} {p : Addr} (h : IsS109 w0 W g f0 f1 f2 f3 f4 f5) (hne : g ≠ p.block) (u : Value) : IsS109 w0 (W.setCell p u) g f0 f1 f2 f3 f4 f5 := by
 obtain ⟨A2, c2, A4, c4, A5, c5, hb, hg, hr2, hr4, hr5⟩ := h
 exact ⟨A2, c2, A4, c4, A5, c5, blk_far hb hne u, hg, hr2, hr4, hr5⟩
theorem cellS109_0 {W : World} {g : Nat} {A2 : Option Addr} {c2 : Nat} {A4 : Option Addr} {c4 : Nat} {A5 : Option Addr} {c5 : Nat} {f0 : Int} {f1 : Int} {f2 : List Int} {f3 : Int} {f4 : List Int} {f5 : List Int} (h : W.heap[g]? = some (.cells #[.int .i64 f0, .int .i64 f1, .slice A2 f2.length c2, .int .i64 f3, .slice A4 f4.length c4, .slice A5 f5.length c5] 109 (0, 0))) : W.cell? ⟨g, 0, none⟩ = some (.int .i64 f0) := (kce h 0).trans rfl
theorem cellS109_1 {W : World} {g : Nat} {A2 : Option Addr} {c2 : Nat} {A4 : Option Addr} {c4 : Nat} {A5 : Option Addr} {c5 : Nat} {f0 : Int} {f1 : Int} {f2 : List Int} {f3 : Int} {f4 : List Int} {f5 : List Int} (h : W.heap[g]? = some (.cells #[.int .i64 f0, .int .i64 f1, .slice A2 f2.length c2, .int .i64 f3, .slice A4 f4.length c4, .slice A5 f5.length c5] 109 (0, 0))) : W.cell? ⟨g, 1, none⟩ = some (.int .i64 f1) := (kce h 1).trans rfl
theorem cellS109_2 {W : World} {g : Nat} {A2 : Option Addr} {c2 : Nat} {A4 : Option Addr} {c4 : Nat} {A5 : Option Addr} {c5 : Nat} {f0 : Int} {f1 : Int} {f2 : List Int} {f3 : Int} {f4 : List Int} {f5 : List Int} (h : W.heap[g]? = some (.cells #[.int .i64 f0, .int .i64 f1, .slice A2 f2.length c2, .int .i64 f3, .slice A4 f4.length c4, .slice A5 f5.length c5] 109 (0, 0))) : W.cell? ⟨g, 2, none⟩ = some (.slice A2 f2.length c2) := (kce h 2).trans rfl
theorem cellS109_3 {W : World} {g : Nat} {A2 : Option Addr} {c2 : Nat} {A4 : Option Addr} {c4 : Nat} {A5 : Option Addr} {c5 : Nat} {f0 : Int} {f1 : Int} {f2 : List Int} {f3 : Int} {f4 : List Int} {f5 : List Int} (h : W.heap[g]? = some (.cells #[.int .i64 f0, .int .i64 f1, .slice A2 f2.length c2, .int .i64 f3, .slice A4 f4.length c4, .slice A5 f5.length c5] 109 (0, 0))) : W.cell? ⟨g, 3, none⟩ = some (.int .i64 f3) := (kce h 3).trans rfl
theorem cellS109_4 {W : World} {g : Nat} {A2 : Option Addr} {c2 : Nat} {A4 : Option Addr} {c4 : Nat} {A5 : Option Addr} {c5 : Nat} {f0 : Int} {f1 : Int} {f2 : List Int} {f3 : Int} {f4 : List Int} {f5 : List Int} (h : W.heap[g]? = some (.cells #[.int .i64 f0, .int .i64 f1, .slice A2 f2.length c2, .int .i64 f3, .slice A4 f4.length c4, .slice A5 f5.length c5] 109 (0, 0))) : W.cell? ⟨g, 4, none⟩ = some (.slice A4 f4.length c4) := (kce h 4).trans rfl
theorem cellS109_5 {W : World} {g : Nat} {A2 : Option Addr} {c2 : Nat} {A4 : Option Addr} {c4 : Nat} {A5 : Option Addr} {c5 : Nat} {f0 : Int} {f1 : Int} {f2 : List Int} {f3 : Int} {f4 : List Int} {f5 : List Int} (h : W.heap[g]? = some (.cells #[.int .i64 f0, .int .i64 f1, .slice A2 f2.length c2, .int .i64 f3, .slice A4 f4.length c4, .slice A5 f5.length c5] 109 (0, 0))) : W.cell? ⟨g, 5, none⟩ = some (.slice A5 f5.length c5) := (kce h 5).trans rfl
def field_GF_Is.f (s0_0 : Int) (s0_1 : Int) (s0_2 : List Int) (s0_3 : Int) (s0_4 : List Int) (s0_5 : List Int) (a1 : Int) : Option (Bool × Int × Int × Int) := if a1 ≥ 0 then (some (decide (a1 < s0_3), s0_0, s0_1, s0_3)) else (some (false, s0_0, s0_1, s0_3))
theorem field_GF_Is.calls (g : Nat) (s0_0 : Int) (s0_1 : Int) (s0_2 : List Int) (s0_3 : Int) (s0_4 : List Int) (s0_5 : List Int) (a1 : Int) (r1 : Bool) (r2 : Int) (r3 : Int) (r4 : Int) (w0 w : World) (hI : IsS109 w0 w g s0_0 s0_1 s0_2 s0_3 s0_4 s0_5) (hB : Below w0.heap.size w0 w) (h : field_GF_Is.f s0_0 s0_1 s0_2 s0_3 s0_4 s0_5 a1 = some (r1, r2, r3, r4)) :
  Calls Try.prog 63 #[.pointer (some ⟨g, 0, none⟩), .int .i64 a1] w fun e w' => e = .returned (.bool r1) ∧ IsS109 w0 w' g r2 r3 s0_2 r4 s0_4 s0_5 ∧ Below w0.heap.size w0 w' ∧ KeepBut w w' g none := by
 have HI0 := ak hI
 have HK := ak (KeepBut.refl w g none)
 have HL := ak hB.size
 clear hI
 have HW0 := ak hB.size
 have HB := ak hB
 clear hB
 have H : (if a1 ≥ 0 then (some (decide (a1 < s0_3), s0_0, s0_1, s0_3)) else (some (false, s0_0, s0_1, s0_3))) = some (r1, r2, r3, r4) := h
 clear h
 by_cases c3 : a1 ≥ 0
 ·rw [if_pos c3] at H
  have c3b0 : decide (0 ≤ a1) = true := det c3
  clear c3
  simp only [Option.some.injEq, Prod.mk.injEq] at H
  obtain ⟨rfl, rfl, rfl, rfl⟩ := H
  obtain ⟨ASz4_2, cSz4_2, ASz4_4, cSz4_4, ASz4_5, cSz4_5, HGz4, hgz4, HSz4_2, HSz4_4, HSz4_5⟩ := HI0.out
  have hcz4_0 := cellS109_0 HGz4
  have hcz4_1 := cellS109_1 HGz4
  have hcz4_2 := cellS109_2 HGz4
  have hcz4_3 := cellS109_3 HGz4
  have hcz4_4 := cellS109_4 HGz4
  have hcz4_5 := cellS109_5 HGz4
  have hfz4_0 := kfz HGz4 0
  have hfz4_1 := kfz HGz4 1
  have hfz4_3 := kfz HGz4 3
  clear HGz4 hgz4
  go_enter Try.func63, Try.ntmps63
  go_wp2
  go_ret
  exact ⟨by first | rfl | (simp <;> rfl) | (simp [*] <;> rfl), by repeat (first | (with_reducible first | exact HI0.out | apply IsS109.alloc | apply IsS109.drewN | apply IsS109.drew | apply IsS109.set_0 | apply IsS109.set_1 | apply IsS109.set_3) | exact HI0.out), by repeat (first | (with_reducible first | exact HB.out | apply bal | apply pbn | apply bd1 | refine bst ?_ (IsS109.ge HI0.out)) | exact HB.out), by repeat (first | (with_reducible first | exact HK.out | apply KeepBut.set_ | apply keep_drewN | apply keep_drew | apply keep_alloc) | exact HK.out)⟩
 ·rw [if_neg c3] at H
  have c3b0 : decide (0 ≤ a1) = false := dff c3
  clear c3
  simp only [Option.some.injEq, Prod.mk.injEq] at H
  obtain ⟨rfl, rfl, rfl, rfl⟩ := H
  go_enter Try.func63, Try.ntmps63
  go_wp2
  go_ret
  exact ⟨by first | rfl | (simp <;> rfl) | (simp [*] <;> rfl), by repeat (first | (with_reducible first | exact HI0.out | apply IsS109.alloc | apply IsS109.drewN | apply IsS109.drew | apply IsS109.set_0 | apply IsS109.set_1 | apply IsS109.set_3) | exact HI0.out), by repeat (first | (with_reducible first | exact HB.out | apply bal | apply pbn | apply bd1 | refine bst ?_ (IsS109.ge HI0.out)) | exact HB.out), by repeat (first | (with_reducible first | exact HK.out | apply KeepBut.set_ | apply keep_drewN | apply keep_drew | apply keep_alloc) | exact HK.out)⟩
def matrix_entries.l0 : Nat → List Int → Int → Int → Int → Int → List Int → Int → List Int → List Int → Option (Int × Int × Int × Int)
 | 0, _, _, _, _, _, _, _, _, _ => none
 | k + 1, x7, x8, x9, x1000, x1001, x1002, x1003, x1004, x1005 => if x9 < x8 then (if 0 ≤ x9 then (if x9 < (x7.length : Int) then ((field_GF_Is.f x1000 x1001 x1002 x1003 x1004 x1005 (rd x7 x9)).bind fun bt154 => (if bt154.1 = true then (matrix_entries.l0 k x7 x8 (wrap64 (x9 + 1)) bt154.2.1 bt154.2.2.1 x1002 bt154.2.2.2 x1004 x1005) else (some (2, bt154.2.1, bt154.2.2.1, bt154.2.2.2)))) else (none)) else (none)) else (some (0, x1000, x1001, x1003))
def matrix_entries.f (k : Nat) (s0_0 : Int) (s0_1 : Int) (s0_2 : List Int) (s0_3 : Int) (s0_4 : List Int) (s0_5 : List Int) (l1 : List Int) : Option (Int × Int × Int × Int) := matrix_entries.l0 k l1 (l1.length : Int) 0 s0_0 s0_1 s0_2 s0_3 s0_4 s0_5
theorem matrix_entries.calls (k : Nat) (g : Nat) (s0_0 : Int) (s0_1 : Int) (s0_2 : List Int) (s0_3 : Int) (s0_4 : List Int) (s0_5 : List Int) (A1 : Option Addr) (c1 : Nat) (l1 : List Int) (r1 : Int) (r2 : Int) (r3 : Int) (r4 : Int) (w0 w : World) (hI : IsS109 w0 w g s0_0 s0_1 s0_2 s0_3 s0_4 s0_5) (hB : Below w0.heap.size w0 w) (hr1 : Kd.C (Kd.int .i64) w A1 l1.length l1) (hc1 : l1.length ≤ c1) (hf1 : ∀ ad, A1 = some ad → 0 < l1.length → ad.block ≠ g) (h : matrix_entries.f k s0_0 s0_1 s0_2 s0_3 s0_4 s0_5 l1 = some (r1, r2, r3, r4)) :
  Calls Try.prog 82 #[.pointer (some ⟨g, 0, none⟩), .slice A1 l1.length c1] w fun e w' => e = .returned (.int .i64 r1) ∧ IsS109 w0 w' g r2 r3 s0_2 r4 s0_4 s0_5 ∧ Below w0.heap.size w0 w' ∧ KeepBut w w' g none := by
 have HR1 := ak hr1
 have HC1 := ak hc1
 clear hr1 hc1
 have HI0 := ak hI
 have HK := ak (KeepBut.refl w g none)
 have HL := ak hB.size
 clear hI
 have HW0 := ak hB.size
 have HB := ak hB
 clear hB
 have H : (matrix_entries.l0 k l1 (l1.length : Int) 0 s0_0 s0_1 s0_2 s0_3 s0_4 s0_5) = some (r1, r2, r3, r4) := h
 clear h
 have H' := ak H
 clear H
 go_enter Try.func82, Try.ntmps82
 go_wp2
 go_loopg [9] k (fun kq v9 w' => ∃ (x9_1 : Int) (x1000_1 : Int) (x1001_1 : Int) (x1003_1 : Int), v9 = .int .i64 x9_1 ∧ Aside0 (matrix_entries.l0 kq l1 (l1.length : Int) x9_1 x1000_1 x1001_1 s0_2 x1003_1 s0_4 s0_5 = some (r1, r2, r3, r4)) ∧ Aside0 (kq ≤ k) ∧ Aside0 (IsS109 w0 w' g x1000_1 x1001_1 s0_2 x1003_1 s0_4 s0_5) ∧ Aside0 (KeepBut w w' g none) ∧ Aside0 (Below w0.heap.size w0 w'))
 case atStart => exact ⟨(0), (s0_0), (s0_1), (s0_3), (by first | rfl | (simp; done) | (simp [*]; done)), H', ⟨Nat.le_refl _⟩, ⟨by repeat (first | (with_reducible first | exact HI0.out | apply IsS109.alloc | apply IsS109.drewN | apply IsS109.drew | apply IsS109.set_0 | apply IsS109.set_1 | apply IsS109.set_3) | exact HI0.out)⟩, ⟨by repeat (first | (with_reducible first | exact HK.out | apply KeepBut.set_ | apply keep_drewN | apply keep_drew | apply keep_alloc) | exact HK.out)⟩, ⟨by repeat (first | (with_reducible first | exact HB.out | apply bal | apply pbn | apply bd1 | refine bst ?_ (IsS109.ge HI0.out)) | exact HB.out)⟩⟩
 case round =>
  clear H'
  obtain ⟨x9_1, x1000_1, x1001_1, x1003_1, rfl, HA, HK1, HI0, HK, HB⟩ := hrel
  cases gk with
  | zero => exact absurd HA.out (by simp [matrix_entries.l0])
  | succ k1 =>
   have H := HA.out
   clear HA
   simp only [matrix_entries.l0] at H
   by_cases c3 : x9_1 < (l1.length : Int)
   ·rw [if_pos c3] at H
    have c3b0 : decide (x9_1 < (l1.length : Int)) = true := det c3
    clear c3
    by_cases c4 : 0 ≤ x9_1
    ·rw [if_pos c4] at H
     have c4b0 : decide (0 ≤ x9_1) = true := det c4
     clear c4
     by_cases c5 : x9_1 < (l1.length : Int)
     ·rw [if_pos c5] at H
      have c5b0 : decide (x9_1 < (l1.length : Int)) = true := det c5
      clear c5
      replace H := obm H
      obtain ⟨⟨t154, t155, t156, t157⟩, A60, H⟩ := H
      replace H : (if t154 = true then (matrix_entries.l0 k1 l1 (l1.length : Int) (wrap64 (x9_1 + 1)) t155 t156 s0_2 t157 s0_4 s0_5) else (some (2, t155, t156, t157))) = some (r1, r2, r3, r4) := H
      have A6 := ak A60
      clear A60
      by_cases c7 : t154 = true
      ·subst c7
       have H1 : (matrix_entries.l0 k1 l1 (l1.length : Int) (wrap64 (x9_1 + 1)) t155 t156 s0_2 t157 s0_4 s0_5) = some (r1, r2, r3, r4) := by rw [if_pos rfl] at H; exact H
       clear H
       have H := H1
       clear H1
       have H' := ak H
       clear H
       have p153 : 0 ≤ (x9_1 : Int) := odt (by first | (with_reducible assumption) | assumption)
       have q153 : x9_1 < (l1.length : Int) := odt (by first | (with_reducible assumption) | assumption)
       obtain ⟨ad153, e153, hx153_0⟩ := Kd.at_int HR1.out x9_1 p153 q153
       cases e153
       replace hx153_0 := keep_cell HK.out hx153_0 (by first | (rw [add_block]; exact hf1 _ rfl (by omega)) | exact hf1 _ rfl (by omega) | exact hf1 ad153 rfl (by omega))
       replace p153 := eq_true p153
       replace q153 := eq_true q153
       go_wp2_with (first | ((with_reducible refine gate_callee (f := 63) rfl ?_); refine goesL_ (some 15) rfl rfl Try.func63 (by kernel_rfl) rfl #[.pointer (some ⟨g, 0, none⟩), .int .i64 (rd l1 x9_1)] rfl (by (try simp only [List.map_toArray, List.map_cons, List.map_nil]); first | done | rfl | (simp only [List.length_drop, List.length_take]; rfl)) ?_; (with_reducible refine (field_GF_Is.calls g x1000_1 x1001_1 s0_2 x1003_1 s0_4 s0_5 (rd l1 x9_1) true t155 t156 t157 w0 _ ?side1 ?side2 A6.out).mono ?_); (case side1 => repeat (first | (with_reducible first | exact HI0.out | apply IsS109.alloc | apply IsS109.drewN | apply IsS109.drew | apply IsS109.set_0 | apply IsS109.set_1 | apply IsS109.set_3) | exact HI0.out)); (case side2 => repeat (first | (with_reducible first | exact HB.out | apply bal | apply pbn | apply bd1 | refine bst ?_ (IsS109.ge HI0.out)) | exact HB.out)); rintro e w8 ⟨rfl, hi, hb, hk⟩; refine ⟨_, rfl, ?_⟩; have n0_ := ak (KeepBut.trans (by repeat (first | (with_reducible first | exact HK.out | apply KeepBut.set_ | apply keep_drewN | apply keep_drew | apply keep_alloc) | exact HK.out)) hk (.inl rfl)); have n1_ := ak (hb); have n2_ := ak (hi); clear HK HB HI0; have HK := n0_; have HB := n1_; have HI0 := n2_; clear n0_ n1_ n2_; (try clear hb); (try clear hb2); (try clear hk); (try clear hi)))
       go_roundg k1
       case measure => have := HK1.out; omega
       case rel => exact ⟨(wrap64 (x9_1 + 1)), (t155), (t156), (t157), (by first | rfl | (simp; done) | (simp [*]; done)), H', ⟨by have := HK1.out; omega⟩, ⟨by repeat (first | (with_reducible first | exact HI0.out | apply IsS109.alloc | apply IsS109.drewN | apply IsS109.drew | apply IsS109.set_0 | apply IsS109.set_1 | apply IsS109.set_3) | exact HI0.out)⟩, ⟨by repeat (first | (with_reducible first | exact HK.out | apply KeepBut.set_ | apply keep_drewN | apply keep_drew | apply keep_alloc) | exact HK.out)⟩, ⟨by repeat (first | (with_reducible first | exact HB.out | apply bal | apply pbn | apply bd1 | refine bst ?_ (IsS109.ge HI0.out)) | exact HB.out)⟩⟩
      ·replace c7 := Bool.eq_false_iff.mpr c7
       subst c7
       have H1 : (some (2, t155, t156, t157)) = some (r1, r2, r3, r4) := by rw [if_neg (show ¬ (false = true) by decide)] at H; exact H
       clear H
       have H := H1
       clear H1
       simp only [Option.some.injEq, Prod.mk.injEq] at H
       obtain ⟨rfl, rfl, rfl, rfl⟩ := H
       have p153 : 0 ≤ (x9_1 : Int) := odt (by first | (with_reducible assumption) | assumption)
       have q153 : x9_1 < (l1.length : Int) := odt (by first | (with_reducible assumption) | assumption)
       obtain ⟨ad153, e153, hx153_0⟩ := Kd.at_int HR1.out x9_1 p153 q153
       cases e153
       replace hx153_0 := keep_cell HK.out hx153_0 (by first | (rw [add_block]; exact hf1 _ rfl (by omega)) | exact hf1 _ rfl (by omega) | exact hf1 ad153 rfl (by omega))
       replace p153 := eq_true p153
       replace q153 := eq_true q153
       go_wp2_with (first | ((with_reducible refine gate_callee (f := 63) rfl ?_); refine goesL_ (some 15) rfl rfl Try.func63 (by kernel_rfl) rfl #[.pointer (some ⟨g, 0, none⟩), .int .i64 (rd l1 x9_1)] rfl (by (try simp only [List.map_toArray, List.map_cons, List.map_nil]); first | done | rfl | (simp only [List.length_drop, List.length_take]; rfl)) ?_; (with_reducible refine (field_GF_Is.calls g x1000_1 x1001_1 s0_2 x1003_1 s0_4 s0_5 (rd l1 x9_1) false t155 t156 t157 w0 _ ?side1 ?side2 A6.out).mono ?_); (case side1 => repeat (first | (with_reducible first | exact HI0.out | apply IsS109.alloc | apply IsS109.drewN | apply IsS109.drew | apply IsS109.set_0 | apply IsS109.set_1 | apply IsS109.set_3) | exact HI0.out)); (case side2 => repeat (first | (with_reducible first | exact HB.out | apply bal | apply pbn | apply bd1 | refine bst ?_ (IsS109.ge HI0.out)) | exact HB.out)); rintro e w9 ⟨rfl, hi, hb, hk⟩; refine ⟨_, rfl, ?_⟩; have n0_ := ak (KeepBut.trans (by repeat (first | (with_reducible first | exact HK.out | apply KeepBut.set_ | apply keep_drewN | apply keep_drew | apply keep_alloc) | exact HK.out)) hk (.inl rfl)); have n1_ := ak (hb); have n2_ := ak (hi); clear HK HB HI0; have HK := n0_; have HB := n1_; have HI0 := n2_; clear n0_ n1_ n2_; (try clear hb); (try clear hb2); (try clear hk); (try clear hi)))
       go_ret
       exact ⟨by first | rfl | (simp <;> rfl) | (simp [*] <;> rfl), by repeat (first | (with_reducible first | exact HI0.out | apply IsS109.alloc | apply IsS109.drewN | apply IsS109.drew | apply IsS109.set_0 | apply IsS109.set_1 | apply IsS109.set_3) | exact HI0.out), by repeat (first | (with_reducible first | exact HB.out | apply bal | apply pbn | apply bd1 | refine bst ?_ (IsS109.ge HI0.out)) | exact HB.out), by repeat (first | (with_reducible first | exact HK.out | apply KeepBut.set_ | apply keep_drewN | apply keep_drew | apply keep_alloc) | exact HK.out)⟩
     ·rw [if_neg c5] at H
      exact absurd H (by simp)
    ·rw [if_neg c4] at H
     exact absurd H (by simp)
   ·rw [if_neg c3] at H
    have c3b0 : decide (x9_1 < (l1.length : Int)) = false := dff c3
    clear c3
    simp only [Option.some.injEq, Prod.mk.injEq] at H
    obtain ⟨rfl, rfl, rfl, rfl⟩ := H
    go_wp2
    go_ret
    exact ⟨by first | rfl | (simp <;> rfl) | (simp [*] <;> rfl), by repeat (first | (with_reducible first | exact HI0.out | apply IsS109.alloc | apply IsS109.drewN | apply IsS109.drew | apply IsS109.set_0 | apply IsS109.set_1 | apply IsS109.set_3) | exact HI0.out), by repeat (first | (with_reducible first | exact HB.out | apply bal | apply pbn | apply bd1 | refine bst ?_ (IsS109.ge HI0.out)) | exact HB.out), by repeat (first | (with_reducible first | exact HK.out | apply KeepBut.set_ | apply keep_drewN | apply keep_drew | apply keep_alloc) | exact HK.out)⟩
def field_GF_in.f (s0_0 : Int) (s0_1 : Int) (s0_2 : List Int) (s0_3 : Int) (s0_4 : List Int) (s0_5 : List Int) (a1 : Int) : Option (Int × Int × Int × Int) := (field_GF_Is.f s0_0 s0_1 s0_2 s0_3 s0_4 s0_5 a1).bind fun bt101 => (if bt101.1 = true then (some (a1, bt101.2.1, bt101.2.2.1, bt101.2.2.2)) else (some (0, bt101.2.1, bt101.2.2.1, bt101.2.2.2)))
theorem field_GF_in.calls (g : Nat) (s0_0 : Int) (s0_1 : Int) (s0_2 : List Int) (s0_3 : Int) (s0_4 : List Int) (s0_5 : List Int) (a1 : Int) (r1 : Int) (r2 : Int) (r3 : Int) (r4 : Int) (w0 w : World) (hI : IsS109 w0 w g s0_0 s0_1 s0_2 s0_3 s0_4 s0_5) (hB : Below w0.heap.size w0 w) (h : field_GF_in.f s0_0 s0_1 s0_2 s0_3 s0_4 s0_5 a1 = some (r1, r2, r3, r4)) :
  Calls Try.prog 93 #[.pointer (some ⟨g, 0, none⟩), .int .i64 a1] w fun e w' => e = .returned (.int .i64 r1) ∧ IsS109 w0 w' g r2 r3 s0_2 r4 s0_4 s0_5 ∧ Below w0.heap.size w0 w' ∧ KeepBut w w' g none := by
 have HI0 := ak hI
 have HK := ak (KeepBut.refl w g none)
 have HL := ak hB.size
 clear hI
 have HW0 := ak hB.size
 have HB := ak hB
 clear hB
 have H : ((field_GF_Is.f s0_0 s0_1 s0_2 s0_3 s0_4 s0_5 a1).bind fun bt101 => (if bt101.1 = true then (some (a1, bt101.2.1, bt101.2.2.1, bt101.2.2.2)) else (some (0, bt101.2.1, bt101.2.2.1, bt101.2.2.2)))) = some (r1, r2, r3, r4) := h
 clear h
 replace H := obm H
 obtain ⟨⟨t101, t102, t103, t104⟩, A30, H⟩ := H
 replace H : (if t101 = true then (some (a1, t102, t103, t104)) else (some (0, t102, t103, t104))) = some (r1, r2, r3, r4) := H
 have A3 := ak A30
 clear A30
 by_cases c4 : t101 = true
 ·subst c4
  have H1 : (some (a1, t102, t103, t104)) = some (r1, r2, r3, r4) := by rw [if_pos rfl] at H; exact H
  clear H
  have H := H1
  clear H1
  simp only [Option.some.injEq, Prod.mk.injEq] at H
  obtain ⟨rfl, rfl, rfl, rfl⟩ := H
  go_enter Try.func93, Try.ntmps93
  go_wp2_with (first | ((with_reducible refine gate_callee (f := 63) rfl ?_); refine goesL_ (some 7) rfl rfl Try.func63 (by kernel_rfl) rfl #[.pointer (some ⟨g, 0, none⟩), .int .i64 a1] rfl (by (try simp only [List.map_toArray, List.map_cons, List.map_nil]); first | done | rfl | (simp only [List.length_drop, List.length_take]; rfl)) ?_; (with_reducible refine (field_GF_Is.calls g s0_0 s0_1 s0_2 s0_3 s0_4 s0_5 a1 true t102 t103 t104 w0 _ ?side1 ?side2 A3.out).mono ?_); (case side1 => repeat (first | (with_reducible first | exact HI0.out | apply IsS109.alloc | apply IsS109.drewN | apply IsS109.drew | apply IsS109.set_0 | apply IsS109.set_1 | apply IsS109.set_3) | exact HI0.out)); (case side2 => repeat (first | (with_reducible first | exact HB.out | apply bal | apply pbn | apply bd1 | refine bst ?_ (IsS109.ge HI0.out)) | exact HB.out)); rintro e w5 ⟨rfl, hi, hb, hk⟩; refine ⟨_, rfl, ?_⟩; have n0_ := ak (KeepBut.trans (by repeat (first | (with_reducible first | exact HK.out | apply KeepBut.set_ | apply keep_drewN | apply keep_drew | apply keep_alloc) | exact HK.out)) hk (.inl rfl)); have n1_ := ak (hb); have n2_ := ak (hi); clear HK HB HI0; have HK := n0_; have HB := n1_; have HI0 := n2_; clear n0_ n1_ n2_; (try clear hb); (try clear hb2); (try clear hk); (try clear hi)))
  go_ret
  exact ⟨by first | rfl | (simp <;> rfl) | (simp [*] <;> rfl), by repeat (first | (with_reducible first | exact HI0.out | apply IsS109.alloc | apply IsS109.drewN | apply IsS109.drew | apply IsS109.set_0 | apply IsS109.set_1 | apply IsS109.set_3) | exact HI0.out), by repeat (first | (with_reducible first | exact HB.out | apply bal | apply pbn | apply bd1 | refine bst ?_ (IsS109.ge HI0.out)) | exact HB.out), by repeat (first | (with_reducible first | exact HK.out | apply KeepBut.set_ | apply keep_drewN | apply keep_drew | apply keep_alloc) | exact HK.out)⟩
 ·replace c4 := Bool.eq_false_iff.mpr c4
  subst c4
  have H1 : (some (0, t102, t103, t104)) = some (r1, r2, r3, r4) := by rw [if_neg (show ¬ (false = true) by decide)] at H; exact H
  clear H
  have H := H1
  clear H1
  simp only [Option.some.injEq, Prod.mk.injEq] at H
  obtain ⟨rfl, rfl, rfl, rfl⟩ := H
  go_enter Try.func93, Try.ntmps93
  go_wp2_with (first | ((with_reducible refine gate_callee (f := 63) rfl ?_); refine goesL_ (some 7) rfl rfl Try.func63 (by kernel_rfl) rfl #[.pointer (some ⟨g, 0, none⟩), .int .i64 a1] rfl (by (try simp only [List.map_toArray, List.map_cons, List.map_nil]); first | done | rfl | (simp only [List.length_drop, List.length_take]; rfl)) ?_; (with_reducible refine (field_GF_Is.calls g s0_0 s0_1 s0_2 s0_3 s0_4 s0_5 a1 false t102 t103 t104 w0 _ ?side1 ?side2 A3.out).mono ?_); (case side1 => repeat (first | (with_reducible first | exact HI0.out | apply IsS109.alloc | apply IsS109.drewN | apply IsS109.drew | apply IsS109.set_0 | apply IsS109.set_1 | apply IsS109.set_3) | exact HI0.out)); (case side2 => repeat (first | (with_reducible first | exact HB.out | apply bal | apply pbn | apply bd1 | refine bst ?_ (IsS109.ge HI0.out)) | exact HB.out)); rintro e w6 ⟨rfl, hi, hb, hk⟩; refine ⟨_, rfl, ?_⟩; have n0_ := ak (KeepBut.trans (by repeat (first | (with_reducible first | exact HK.out | apply KeepBut.set_ | apply keep_drewN | apply keep_drew | apply keep_alloc) | exact HK.out)) hk (.inl rfl)); have n1_ := ak (hb); have n2_ := ak (hi); clear HK HB HI0; have HK := n0_; have HB := n1_; have HI0 := n2_; clear n0_ n1_ n2_; (try clear hb); (try clear hb2); (try clear hk); (try clear hi)))
  go_ret
  exact ⟨by first | rfl | (simp <;> rfl) | (simp [*] <;> rfl), by repeat (first | (with_reducible first | exact HI0.out | apply IsS109.alloc | apply IsS109.drewN | apply IsS109.drew | apply IsS109.set_0 | apply IsS109.set_1 | apply IsS109.set_3) | exact HI0.out), by repeat (first | (with_reducible first | exact HB.out | apply bal | apply pbn | apply bd1 | refine bst ?_ (IsS109.ge HI0.out)) | exact HB.out), by repeat (first | (with_reducible first | exact HK.out | apply KeepBut.set_ | apply keep_drewN | apply keep_drew | apply keep_alloc) | exact HK.out)⟩
def field_GF_Inv.f (s0_0 : Int) (s0_1 : Int) (s0_2 : List Int) (s0_3 : Int) (s0_4 : List Int) (s0_5 : List Int) (a1 : Int) : Option (Int × Int × Int × Int × Int) := (field_GF_in.f s0_0 s0_1 s0_2 s0_3 s0_4 s0_5 a1).bind fun bt105 => (if bt105.1 = 0 then (some (0, 7, bt105.2.1, bt105.2.2.1, bt105.2.2.2)) else (if 0 ≤ bt105.1 then (if bt105.1 < (s0_5.length : Int) then (if (wrap64 (bt105.2.2.2 - 1)) = 0 then (none) else (if 0 ≤ (Int.tmod (wrap64 ((wrap64 (bt105.2.2.2 - 1)) - (rd s0_5 bt105.1))) (wrap64 (bt105.2.2.2 - 1))) then (if (Int.tmod (wrap64 ((wrap64 (bt105.2.2.2 - 1)) - (rd s0_5 bt105.1))) (wrap64 (bt105.2.2.2 - 1))) < (s0_4.length : Int) then (some (rd s0_4 (Int.tmod (wrap64 ((wrap64 (bt105.2.2.2 - 1)) - (rd s0_5 bt105.1))) (wrap64 (bt105.2.2.2 - 1))), 0, bt105.2.1, bt105.2.2.1, bt105.2.2.2)) else (none)) else (none))) else (none)) else (none)))
theorem field_GF_Inv.calls (g : Nat) (s0_0 : Int) (s0_1 : Int) (s0_2 : List Int) (s0_3 : Int) (s0_4 : List Int) (s0_5 : List Int) (a1 : Int) (r1 : Int) (r2 : Int) (r3 : Int) (r4 : Int) (r5 : Int) (w0 w : World) (hI : IsS109 w0 w g s0_0 s0_1 s0_2 s0_3 s0_4 s0_5) (hB : Below w0.heap.size w0 w) (h : field_GF_Inv.f s0_0 s0_1 s0_2 s0_3 s0_4 s0_5 a1 = some (r1, r2, r3, r4, r5)) :
  Calls Try.prog 90 #[.pointer (some ⟨g, 0, none⟩), .int .i64 a1] w fun e w' => e = .returned (.tuple #[.int .i64 r1, .int .i64 r2]) ∧ IsS109 w0 w' g r3 r4 s0_2 r5 s0_4 s0_5 ∧ Below w0.heap.size w0 w' ∧ KeepBut w w' g none := by
 have HI0 := ak hI
 have HK := ak (KeepBut.refl w g none)
 have HL := ak hB.size
 clear hI
 have HW0 := ak hB.size
 have HB := ak hB
 clear hB
 have H : ((field_GF_in.f s0_0 s0_1 s0_2 s0_3 s0_4 s0_5 a1).bind fun bt105 => (if bt105.1 = 0 then (some (0, 7, bt105.2.1, bt105.2.2.1, bt105.2.2.2)) else (if 0 ≤ bt105.1 then (if bt105.1 < (s0_5.length : Int) then (if (wrap64 (bt105.2.2.2 - 1)) = 0 then (none) else (if 0 ≤ (Int.tmod (wrap64 ((wrap64 (bt105.2.2.2 - 1)) - (rd s0_5 bt105.1))) (wrap64 (bt105.2.2.2 - 1))) then (if (Int.tmod (wrap64 ((wrap64 (bt105.2.2.2 - 1)) - (rd s0_5 bt105.1))) (wrap64 (bt105.2.2.2 - 1))) < (s0_4.length : Int) then (some (rd s0_4 (Int.tmod (wrap64 ((wrap64 (bt105.2.2.2 - 1)) - (rd s0_5 bt105.1))) (wrap64 (bt105.2.2.2 - 1))), 0, bt105.2.1, bt105.2.2.1, bt105.2.2.2)) else (none)) else (none))) else (none)) else (none)))) = some (r1, r2, r3, r4, r5) := h
 clear h
 replace H := obm H
 obtain ⟨⟨t105, t106, t107, t108⟩, A30, H⟩ := H
 replace H : (if t105 = 0 then (some (0, 7, t106, t107, t108)) else (if 0 ≤ t105 then (if t105 < (s0_5.length : Int) then (if (wrap64 (t108 - 1)) = 0 then (none) else (if 0 ≤ (Int.tmod (wrap64 ((wrap64 (t108 - 1)) - (rd s0_5 t105))) (wrap64 (t108 - 1))) then (if (Int.tmod (wrap64 ((wrap64 (t108 - 1)) - (rd s0_5 t105))) (wrap64 (t108 - 1))) < (s0_4.length : Int) then (some (rd s0_4 (Int.tmod (wrap64 ((wrap64 (t108 - 1)) - (rd s0_5 t105))) (wrap64 (t108 - 1))), 0, t106, t107, t108)) else (none)) else (none))) else (none)) else (none))) = some (r1, r2, r3, r4, r5) := H
 have A3 := ak A30
 clear A30
 by_cases c4 : t105 = 0
 ·rw [if_pos c4] at H
  have c4b0 : (t105 == 0) = true := beq_iff_eq.mpr c4
  have c4b1 : (t105 != 0) = false := bnm c4
  clear c4
  simp only [Option.some.injEq, Prod.mk.injEq] at H
  obtain ⟨rfl, rfl, rfl, rfl, rfl⟩ := H
  go_enter Try.func90, Try.ntmps90
  go_wp2_with (first | (go_at_call 93; (with_reducible refine (field_GF_in.calls g s0_0 s0_1 s0_2 s0_3 s0_4 s0_5 a1 t105 t106 t107 t108 w0 _ ?side1 ?side2 A3.out).mono ?_); (case side1 => repeat (first | (with_reducible first | exact HI0.out | apply IsS109.alloc | apply IsS109.drewN | apply IsS109.drew | apply IsS109.set_0 | apply IsS109.set_1 | apply IsS109.set_3) | exact HI0.out)); (case side2 => repeat (first | (with_reducible first | exact HB.out | apply bal | apply pbn | apply bd1 | refine bst ?_ (IsS109.ge HI0.out)) | exact HB.out)); rintro e w5 ⟨rfl, hi, hb, hk⟩; have n0_ := ak (KeepBut.trans (by repeat (first | (with_reducible first | exact HK.out | apply KeepBut.set_ | apply keep_drewN | apply keep_drew | apply keep_alloc) | exact HK.out)) hk (.inl rfl)); have n1_ := ak (hb); have n2_ := ak (hi); clear HK HB HI0; have HK := n0_; have HB := n1_; have HI0 := n2_; clear n0_ n1_ n2_; (try clear hb); (try clear hb2); (try clear hk); (try clear hi)))
  repeat (go_quiet (first | (go_at_call 93; (with_reducible refine (field_GF_in.calls g s0_0 s0_1 s0_2 s0_3 s0_4 s0_5 a1 t105 t106 t107 t108 w0 _ ?side1 ?side2 A3.out).mono ?_); (case side1 => repeat (first | (with_reducible first | exact HI0.out | apply IsS109.alloc | apply IsS109.drewN | apply IsS109.drew | apply IsS109.set_0 | apply IsS109.set_1 | apply IsS109.set_3) | exact HI0.out)); (case side2 => repeat (first | (with_reducible first | exact HB.out | apply bal | apply pbn | apply bd1 | refine bst ?_ (IsS109.ge HI0.out)) | exact HB.out)); rintro e w5 ⟨rfl, hi, hb, hk⟩; have n0_ := ak (KeepBut.trans (by repeat (first | (with_reducible first | exact HK.out | apply KeepBut.set_ | apply keep_drewN | apply keep_drew | apply keep_alloc) | exact HK.out)) hk (.inl rfl)); have n1_ := ak (hb); have n2_ := ak (hi); clear HK HB HI0; have HK := n0_; have HB := n1_; have HI0 := n2_; clear n0_ n1_ n2_; (try clear hb); (try clear hb2); (try clear hk); (try clear hi))); try go_wp2_with (first | (go_at_call 93; (with_reducible refine (field_GF_in.calls g s0_0 s0_1 s0_2 s0_3 s0_4 s0_5 a1 t105 t106 t107 t108 w0 _ ?side1 ?side2 A3.out).mono ?_); (case side1 => repeat (first | (with_reducible first | exact HI0.out | apply IsS109.alloc | apply IsS109.drewN | apply IsS109.drew | apply IsS109.set_0 | apply IsS109.set_1 | apply IsS109.set_3) | exact HI0.out)); (case side2 => repeat (first | (with_reducible first | exact HB.out | apply bal | apply pbn | apply bd1 | refine bst ?_ (IsS109.ge HI0.out)) | exact HB.out)); rintro e w5 ⟨rfl, hi, hb, hk⟩; have n0_ := ak (KeepBut.trans (by repeat (first | (with_reducible first | exact HK.out | apply KeepBut.set_ | apply keep_drewN | apply keep_drew | apply keep_alloc) | exact HK.out)) hk (.inl rfl)); have n1_ := ak (hb); have n2_ := ak (hi); clear HK HB HI0; have HK := n0_; have HB := n1_; have HI0 := n2_; clear n0_ n1_ n2_; (try clear hb); (try clear hb2); (try clear hk); (try clear hi))))
  go_ret2
  exact ⟨by first | rfl | (simp <;> rfl) | (simp [*] <;> rfl), by repeat (first | (with_reducible first | exact HI0.out | apply IsS109.alloc | apply IsS109.drewN | apply IsS109.drew | apply IsS109.set_0 | apply IsS109.set_1 | apply IsS109.set_3) | exact HI0.out), by repeat (first | (with_reducible first | exact HB.out | apply bal | apply pbn | apply bd1 | refine bst ?_ (IsS109.ge HI0.out)) | exact HB.out), by repeat (first | (with_reducible first | exact HK.out | apply KeepBut.set_ | apply keep_drewN | apply keep_drew | apply keep_alloc) | exact HK.out)⟩
 ·rw [if_neg c4] at H
  have c4b0 : (t105 == 0) = false := bqm c4
  have c4b1 : (t105 != 0) = true := bne_iff_ne.mpr c4
  by_cases c6 : 0 ≤ t105
  ·rw [if_pos c6] at H
   have c6b0 : decide (0 ≤ t105) = true := det c6
   clear c6
   by_cases c7 : t105 < (s0_5.length : Int)
   ·rw [if_pos c7] at H
    have c7b0 : decide (t105 < (s0_5.length : Int)) = true := det c7
    clear c7
    by_cases c8 : (wrap64 (t108 - 1)) = 0
    ·rw [if_pos c8] at H
     exact absurd H (by simp)
    ·rw [if_neg c8] at H
     have c8b0 : ((wrap64 (t108 - 1)) == 0) = false := bqm c8
     have c8b1 : ((wrap64 (t108 - 1)) != 0) = true := bne_iff_ne.mpr c8
     obtain ⟨ji9, hji9⟩ : ∃ j_ : Int, (Int.tmod (wrap64 ((wrap64 (t108 - 1)) - (rd s0_5 t105))) (wrap64 (t108 - 1))) = j_ := ⟨_, rfl⟩
     replace H : (if 0 ≤ (ji9) then (if (ji9) < (s0_4.length : Int) then (some (rd s0_4 (ji9), 0, t106, t107, t108)) else (none)) else (none)) = some (r1, r2, r3, r4, r5) := by first | (rw [hji9] at H; exact H) | (simp only [hji9] at H ⊢; exact H)
     (try rw [hji9] at A3)
     by_cases c10 : 0 ≤ (ji9)
     ·rw [if_pos c10] at H
      have c10b0 : decide (0 ≤ (ji9)) = true := det c10
      clear c10
      by_cases c11 : (ji9) < (s0_4.length : Int)
      ·rw [if_pos c11] at H
       have c11b0 : decide ((ji9) < (s0_4.length : Int)) = true := det c11
       clear c11
       simp only [Option.some.injEq, Prod.mk.injEq] at H
       obtain ⟨rfl, rfl, rfl, rfl, rfl⟩ := H
       go_enter Try.func90, Try.ntmps90
       go_wp2_with (first | (go_at_call 93; (with_reducible refine (field_GF_in.calls g s0_0 s0_1 s0_2 s0_3 s0_4 s0_5 a1 t105 t106 t107 t108 w0 _ ?side1 ?side2 A3.out).mono ?_); (case side1 => repeat (first | (with_reducible first | exact HI0.out | apply IsS109.alloc | apply IsS109.drewN | apply IsS109.drew | apply IsS109.set_0 | apply IsS109.set_1 | apply IsS109.set_3) | exact HI0.out)); (case side2 => repeat (first | (with_reducible first | exact HB.out | apply bal | apply pbn | apply bd1 | refine bst ?_ (IsS109.ge HI0.out)) | exact HB.out)); rintro e w12 ⟨rfl, hi, hb, hk⟩; have n0_ := ak (KeepBut.trans (by repeat (first | (with_reducible first | exact HK.out | apply KeepBut.set_ | apply keep_drewN | apply keep_drew | apply keep_alloc) | exact HK.out)) hk (.inl rfl)); have n1_ := ak (hb); have n2_ := ak (hi); clear HK HB HI0; have HK := n0_; have HB := n1_; have HI0 := n2_; clear n0_ n1_ n2_; (try clear hb); (try clear hb2); (try clear hk); (try clear hi); obtain ⟨ASz13_2, cSz13_2, ASz13_4, cSz13_4, ASz13_5, cSz13_5, HGz13, hgz13, HSz13_2, HSz13_4, HSz13_5⟩ := HI0.out; have hcz13_0 := cellS109_0 HGz13; have hcz13_1 := cellS109_1 HGz13; have hcz13_2 := cellS109_2 HGz13; have hcz13_3 := cellS109_3 HGz13; have hcz13_4 := cellS109_4 HGz13; have hcz13_5 := cellS109_5 HGz13; have hfz13_0 := kfz HGz13 0; have hfz13_1 := kfz HGz13 1; have hfz13_3 := kfz HGz13 3; clear HGz13 hgz13; have p109 : 0 ≤ (t105 : Int) := odt (by first | (with_reducible assumption) | assumption); have q109 : t105 < (s0_5.length : Int) := odt (by first | (with_reducible assumption) | assumption); obtain ⟨ad109, e109, hx109_0⟩ := Kd.at_int HSz13_5 t105 p109 q109; cases e109; replace hx109_0 := pcb HB.out hx109_0; replace p109 := eq_true p109; replace q109 := eq_true q109; have p110 : 0 ≤ ((ji9) : Int) := odt (by first | (with_reducible assumption) | assumption); have q110 : (ji9) < (s0_4.length : Int) := odt (by first | (with_reducible assumption) | assumption); obtain ⟨ad110, e110, hx110_0⟩ := Kd.at_int HSz13_4 (ji9) p110 q110; cases e110; replace hx110_0 := pcb HB.out hx110_0; replace p110 := eq_true p110; replace q110 := eq_true q110))
       repeat (go_quiet (first | (go_at_call 93; (with_reducible refine (field_GF_in.calls g s0_0 s0_1 s0_2 s0_3 s0_4 s0_5 a1 t105 t106 t107 t108 w0 _ ?side1 ?side2 A3.out).mono ?_); (case side1 => repeat (first | (with_reducible first | exact HI0.out | apply IsS109.alloc | apply IsS109.drewN | apply IsS109.drew | apply IsS109.set_0 | apply IsS109.set_1 | apply IsS109.set_3) | exact HI0.out)); (case side2 => repeat (first | (with_reducible first | exact HB.out | apply bal | apply pbn | apply bd1 | refine bst ?_ (IsS109.ge HI0.out)) | exact HB.out)); rintro e w12 ⟨rfl, hi, hb, hk⟩; have n0_ := ak (KeepBut.trans (by repeat (first | (with_reducible first | exact HK.out | apply KeepBut.set_ | apply keep_drewN | apply keep_drew | apply keep_alloc) | exact HK.out)) hk (.inl rfl)); have n1_ := ak (hb); have n2_ := ak (hi); clear HK HB HI0; have HK := n0_; have HB := n1_; have HI0 := n2_; clear n0_ n1_ n2_; (try clear hb); (try clear hb2); (try clear hk); (try clear hi); obtain ⟨ASz13_2, cSz13_2, ASz13_4, cSz13_4, ASz13_5, cSz13_5, HGz13, hgz13, HSz13_2, HSz13_4, HSz13_5⟩ := HI0.out; have hcz13_0 := cellS109_0 HGz13; have hcz13_1 := cellS109_1 HGz13; have hcz13_2 := cellS109_2 HGz13; have hcz13_3 := cellS109_3 HGz13; have hcz13_4 := cellS109_4 HGz13; have hcz13_5 := cellS109_5 HGz13; have hfz13_0 := kfz HGz13 0; have hfz13_1 := kfz HGz13 1; have hfz13_3 := kfz HGz13 3; clear HGz13 hgz13; have p109 : 0 ≤ (t105 : Int) := odt (by first | (with_reducible assumption) | assumption); have q109 : t105 < (s0_5.length : Int) := odt (by first | (with_reducible assumption) | assumption); obtain ⟨ad109, e109, hx109_0⟩ := Kd.at_int HSz13_5 t105 p109 q109; cases e109; replace hx109_0 := pcb HB.out hx109_0; replace p109 := eq_true p109; replace q109 := eq_true q109; have p110 : 0 ≤ ((ji9) : Int) := odt (by first | (with_reducible assumption) | assumption); have q110 : (ji9) < (s0_4.length : Int) := odt (by first | (with_reducible assumption) | assumption); obtain ⟨ad110, e110, hx110_0⟩ := Kd.at_int HSz13_4 (ji9) p110 q110; cases e110; replace hx110_0 := pcb HB.out hx110_0; replace p110 := eq_true p110; replace q110 := eq_true q110)); try go_wp2_with (first | (go_at_call 93; (with_reducible refine (field_GF_in.calls g s0_0 s0_1 s0_2 s0_3 s0_4 s0_5 a1 t105 t106 t107 t108 w0 _ ?side1 ?side2 A3.out).mono ?_); (case side1 => repeat (first | (with_reducible first | exact HI0.out | apply IsS109.alloc | apply IsS109.drewN | apply IsS109.drew | apply IsS109.set_0 | apply IsS109.set_1 | apply IsS109.set_3) | exact HI0.out)); (case side2 => repeat (first | (with_reducible first | exact HB.out | apply bal | apply pbn | apply bd1 | refine bst ?_ (IsS109.ge HI0.out)) | exact HB.out)); rintro e w12 ⟨rfl, hi, hb, hk⟩; have n0_ := ak (KeepBut.trans (by repeat (first | (with_reducible first | exact HK.out | apply KeepBut.set_ | apply keep_drewN | apply keep_drew | apply keep_alloc) | exact HK.out)) hk (.inl rfl)); have n1_ := ak (hb); have n2_ := ak (hi); clear HK HB HI0; have HK := n0_; have HB := n1_; have HI0 := n2_; clear n0_ n1_ n2_; (try clear hb); (try clear hb2); (try clear hk); (try clear hi); obtain ⟨ASz13_2, cSz13_2, ASz13_4, cSz13_4, ASz13_5, cSz13_5, HGz13, hgz13, HSz13_2, HSz13_4, HSz13_5⟩ := HI0.out; have hcz13_0 := cellS109_0 HGz13; have hcz13_1 := cellS109_1 HGz13; have hcz13_2 := cellS109_2 HGz13; have hcz13_3 := cellS109_3 HGz13; have hcz13_4 := cellS109_4 HGz13; have hcz13_5 := cellS109_5 HGz13; have hfz13_0 := kfz HGz13 0; have hfz13_1 := kfz HGz13 1; have hfz13_3 := kfz HGz13 3; clear HGz13 hgz13; have p109 : 0 ≤ (t105 : Int) := odt (by first | (with_reducible assumption) | assumption); have q109 : t105 < (s0_5.length : Int) := odt (by first | (with_reducible assumption) | assumption); obtain ⟨ad109, e109, hx109_0⟩ := Kd.at_int HSz13_5 t105 p109 q109; cases e109; replace hx109_0 := pcb HB.out hx109_0; replace p109 := eq_true p109; replace q109 := eq_true q109; have p110 : 0 ≤ ((ji9) : Int) := odt (by first | (with_reducible assumption) | assumption); have q110 : (ji9) < (s0_4.length : Int) := odt (by first | (with_reducible assumption) | assumption); obtain ⟨ad110, e110, hx110_0⟩ := Kd.at_int HSz13_4 (ji9) p110 q110; cases e110; replace hx110_0 := pcb HB.out hx110_0; replace p110 := eq_true p110; replace q110 := eq_true q110)))
       go_ret2
       exact ⟨by first | rfl | (simp <;> rfl) | (simp only [← hji9]; first | rfl | (simp <;> rfl)) | (simp [*] <;> rfl), by repeat (first | (with_reducible first | exact HI0.out | apply IsS109.alloc | apply IsS109.drewN | apply IsS109.drew | apply IsS109.set_0 | apply IsS109.set_1 | apply IsS109.set_3) | exact HI0.out), by repeat (first | (with_reducible first | exact HB.out | apply bal | apply pbn | apply bd1 | refine bst ?_ (IsS109.ge HI0.out)) | exact HB.out), by repeat (first | (with_reducible first | exact HK.out | apply KeepBut.set_ | apply keep_drewN | apply keep_drew | apply keep_alloc) | exact HK.out)⟩
      ·rw [if_neg c11] at H
       exact absurd H (by simp)
     ·rw [if_neg c10] at H
      exact absurd H (by simp)
   ·rw [if_neg c7] at H
    exact absurd H (by simp)
  ·rw [if_neg c6] at H
   exact absurd H (by simp)
def field_GF_Mul.f (s0_0 : Int) (s0_1 : Int) (s0_2 : List Int) (s0_3 : Int) (s0_4 : List Int) (s0_5 : List Int) (a1 : Int) (a2 : Int) : Option (Int × Int × Int × Int) := (field_GF_in.f s0_0 s0_1 s0_2 s0_3 s0_4 s0_5 a1).bind fun bt111 => ((field_GF_in.f bt111.2.1 bt111.2.2.1 s0_2 bt111.2.2.2 s0_4 s0_5 a2).bind fun bt115 => (if bt111.1 = 0 then (some (0, bt115.2.1, bt115.2.2.1, bt115.2.2.2)) else (if bt115.1 = 0 then (some (0, bt115.2.1, bt115.2.2.1, bt115.2.2.2)) else (if 0 ≤ bt111.1 then (if bt111.1 < (s0_5.length : Int) then (if 0 ≤ bt115.1 then (if bt115.1 < (s0_5.length : Int) then (if (wrap64 (bt115.2.2.2 - 1)) = 0 then (none) else (if 0 ≤ (Int.tmod (wrap64 ((rd s0_5 bt111.1) + (rd s0_5 bt115.1))) (wrap64 (bt115.2.2.2 - 1))) then (if (Int.tmod (wrap64 ((rd s0_5 bt111.1) + (rd s0_5 bt115.1))) (wrap64 (bt115.2.2.2 - 1))) < (s0_4.length : Int) then (some (rd s0_4 (Int.tmod (wrap64 ((rd s0_5 bt111.1) + (rd s0_5 bt115.1))) (wrap64 (bt115.2.2.2 - 1))), bt115.2.1, bt115.2.2.1, bt115.2.2.2)) else (none)) else (none))) else (none)) else (none)) else (none)) else (none)))))
theorem field_GF_Mul.calls (g : Nat) (s0_0 : Int) (s0_1 : Int) (s0_2 : List Int) (s0_3 : Int) (s0_4 : List Int) (s0_5 : List Int) (a1 : Int) (a2 : Int) (r1 : Int) (r2 : Int) (r3 : Int) (r4 : Int) (w0 w : World) (hI : IsS109 w0 w g s0_0 s0_1 s0_2 s0_3 s0_4 s0_5) (hB : Below w0.heap.size w0 w) (h : field_GF_Mul.f s0_0 s0_1 s0_2 s0_3 s0_4 s0_5 a1 a2 = some (r1, r2, r3, r4)) :
  Calls Try.prog 91 #[.pointer (some ⟨g, 0, none⟩), .int .i64 a1, .int .i64 a2] w fun e w' => e = .returned (.int .i64 r1) ∧ IsS109 w0 w' g r2 r3 s0_2 r4 s0_4 s0_5 ∧ Below w0.heap.size w0 w' ∧ KeepBut w w' g none := by
 have HI0 := ak hI
 have HK := ak (KeepBut.refl w g none)
 have HL := ak hB.size
 clear hI
 have HW0 := ak hB.size
 have HB := ak hB
 clear hB
 have H : ((field_GF_in.f s0_0 s0_1 s0_2 s0_3 s0_4 s0_5 a1).bind fun bt111 => ((field_GF_in.f bt111.2.1 bt111.2.2.1 s0_2 bt111.2.2.2 s0_4 s0_5 a2).bind fun bt115 => (if bt111.1 = 0 then (some (0, bt115.2.1, bt115.2.2.1, bt115.2.2.2)) else (if bt115.1 = 0 then (some (0, bt115.2.1, bt115.2.2.1, bt115.2.2.2)) else (if 0 ≤ bt111.1 then (if bt111.1 < (s0_5.length : Int) then (if 0 ≤ bt115.1 then (if bt115.1 < (s0_5.length : Int) then (if (wrap64 (bt115.2.2.2 - 1)) = 0 then (none) else (if 0 ≤ (Int.tmod (wrap64 ((rd s0_5 bt111.1) + (rd s0_5 bt115.1))) (wrap64 (bt115.2.2.2 - 1))) then (if (Int.tmod (wrap64 ((rd s0_5 bt111.1) + (rd s0_5 bt115.1))) (wrap64 (bt115.2.2.2 - 1))) < (s0_4.length : Int) then (some (rd s0_4 (Int.tmod (wrap64 ((rd s0_5 bt111.1) + (rd s0_5 bt115.1))) (wrap64 (bt115.2.2.2 - 1))), bt115.2.1, bt115.2.2.1, bt115.2.2.2)) else (none)) else (none))) else (none)) else (none)) else (none)) else (none)))))) = some (r1, r2, r3, r4) := h
 clear h
 replace H := obm H
 obtain ⟨⟨t111, t112, t113, t114⟩, A40, H⟩ := H
 replace H : ((field_GF_in.f t112 t113 s0_2 t114 s0_4 s0_5 a2).bind fun bt115 => (if t111 = 0 then (some (0, bt115.2.1, bt115.2.2.1, bt115.2.2.2)) else (if bt115.1 = 0 then (some (0, bt115.2.1, bt115.2.2.1, bt115.2.2.2)) else (if 0 ≤ t111 then (if t111 < (s0_5.length : Int) then (if 0 ≤ bt115.1 then (if bt115.1 < (s0_5.length : Int) then (if (wrap64 (bt115.2.2.2 - 1)) = 0 then (none) else (if 0 ≤ (Int.tmod (wrap64 ((rd s0_5 t111) + (rd s0_5 bt115.1))) (wrap64 (bt115.2.2.2 - 1))) then (if (Int.tmod (wrap64 ((rd s0_5 t111) + (rd s0_5 bt115.1))) (wrap64 (bt115.2.2.2 - 1))) < (s0_4.length : Int) then (some (rd s0_4 (Int.tmod (wrap64 ((rd s0_5 t111) + (rd s0_5 bt115.1))) (wrap64 (bt115.2.2.2 - 1))), bt115.2.1, bt115.2.2.1, bt115.2.2.2)) else (none)) else (none))) else (none)) else (none)) else (none)) else (none))))) = some (r1, r2, r3, r4) := H
 have A4 := ak A40
 clear A40
 replace H := obm H
 obtain ⟨⟨t115, t116, t117, t118⟩, A50, H⟩ := H
 replace H : (if t111 = 0 then (some (0, t116, t117, t118)) else (if t115 = 0 then (some (0, t116, t117, t118)) else (if 0 ≤ t111 then (if t111 < (s0_5.length : Int) then (if 0 ≤ t115 then (if t115 < (s0_5.length : Int) then (if (wrap64 (t118 - 1)) = 0 then (none) else (if 0 ≤ (Int.tmod (wrap64 ((rd s0_5 t111) + (rd s0_5 t115))) (wrap64 (t118 - 1))) then (if (Int.tmod (wrap64 ((rd s0_5 t111) + (rd s0_5 t115))) (wrap64 (t118 - 1))) < (s0_4.length : Int) then (some (rd s0_4 (Int.tmod (wrap64 ((rd s0_5 t111) + (rd s0_5 t115))) (wrap64 (t118 - 1))), t116, t117, t118)) else (none)) else (none))) else (none)) else (none)) else (none)) else (none)))) = some (r1, r2, r3, r4) := H
 have A5 := ak A50
 clear A50
 by_cases c6 : t111 = 0
 ·rw [if_pos c6] at H
  have c6b0 : (t111 == 0) = true := beq_iff_eq.mpr c6
  have c6b1 : (t111 != 0) = false := bnm c6
  clear c6
  simp only [Option.some.injEq, Prod.mk.injEq] at H
  obtain ⟨rfl, rfl, rfl, rfl⟩ := H
  go_enter Try.func91, Try.ntmps91
  go_wp2_with (first | (go_at_call 93; (with_reducible refine (field_GF_in.calls g s0_0 s0_1 s0_2 s0_3 s0_4 s0_5 a1 t111 t112 t113 t114 w0 _ ?side1 ?side2 A4.out).mono ?_); (case side1 => repeat (first | (with_reducible first | exact HI0.out | apply IsS109.alloc | apply IsS109.drewN | apply IsS109.drew | apply IsS109.set_0 | apply IsS109.set_1 | apply IsS109.set_3) | exact HI0.out)); (case side2 => repeat (first | (with_reducible first | exact HB.out | apply bal | apply pbn | apply bd1 | refine bst ?_ (IsS109.ge HI0.out)) | exact HB.out)); rintro e w7 ⟨rfl, hi, hb, hk⟩; have n0_ := ak (KeepBut.trans (by repeat (first | (with_reducible first | exact HK.out | apply KeepBut.set_ | apply keep_drewN | apply keep_drew | apply keep_alloc) | exact HK.out)) hk (.inl rfl)); have n1_ := ak (hb); have n2_ := ak (hi); clear HK HB HI0; have HK := n0_; have HB := n1_; have HI0 := n2_; clear n0_ n1_ n2_; (try clear hb); (try clear hb2); (try clear hk); (try clear hi)) | (go_at_call 93; (with_reducible refine (field_GF_in.calls g t112 t113 s0_2 t114 s0_4 s0_5 a2 t115 t116 t117 t118 w0 _ ?side1 ?side2 A5.out).mono ?_); (case side1 => repeat (first | (with_reducible first | exact HI0.out | apply IsS109.alloc | apply IsS109.drewN | apply IsS109.drew | apply IsS109.set_0 | apply IsS109.set_1 | apply IsS109.set_3) | exact HI0.out)); (case side2 => repeat (first | (with_reducible first | exact HB.out | apply bal | apply pbn | apply bd1 | refine bst ?_ (IsS109.ge HI0.out)) | exact HB.out)); rintro e w8 ⟨rfl, hi, hb, hk⟩; have n0_ := ak (KeepBut.trans (by repeat (first | (with_reducible first | exact HK.out | apply KeepBut.set_ | apply keep_drewN | apply keep_drew | apply keep_alloc) | exact HK.out)) hk (.inl rfl)); have n1_ := ak (hb); have n2_ := ak (hi); clear HK HB HI0; have HK := n0_; have HB := n1_; have HI0 := n2_; clear n0_ n1_ n2_; (try clear hb); (try clear hb2); (try clear hk); (try clear hi)))
  repeat (go_quiet (first | (go_at_call 93; (with_reducible refine (field_GF_in.calls g s0_0 s0_1 s0_2 s0_3 s0_4 s0_5 a1 t111 t112 t113 t114 w0 _ ?side1 ?side2 A4.out).mono ?_); (case side1 => repeat (first | (with_reducible first | exact HI0.out | apply IsS109.alloc | apply IsS109.drewN | apply IsS109.drew | apply IsS109.set_0 | apply IsS109.set_1 | apply IsS109.set_3) | exact HI0.out)); (case side2 => repeat (first | (with_reducible first | exact HB.out | apply bal | apply pbn | apply bd1 | refine bst ?_ (IsS109.ge HI0.out)) | exact HB.out)); rintro e w7 ⟨rfl, hi, hb, hk⟩; have n0_ := ak (KeepBut.trans (by repeat (first | (with_reducible first | exact HK.out | apply KeepBut.set_ | apply keep_drewN | apply keep_drew | apply keep_alloc) | exact HK.out)) hk (.inl rfl)); have n1_ := ak (hb); have n2_ := ak (hi); clear HK HB HI0; have HK := n0_; have HB := n1_; have HI0 := n2_; clear n0_ n1_ n2_; (try clear hb); (try clear hb2); (try clear hk); (try clear hi)) | (go_at_call 93; (with_reducible refine (field_GF_in.calls g t112 t113 s0_2 t114 s0_4 s0_5 a2 t115 t116 t117 t118 w0 _ ?side1 ?side2 A5.out).mono ?_); (case side1 => repeat (first | (with_reducible first | exact HI0.out | apply IsS109.alloc | apply IsS109.drewN | apply IsS109.drew | apply IsS109.set_0 | apply IsS109.set_1 | apply IsS109.set_3) | exact HI0.out)); (case side2 => repeat (first | (with_reducible first | exact HB.out | apply bal | apply pbn | apply bd1 | refine bst ?_ (IsS109.ge HI0.out)) | exact HB.out)); rintro e w8 ⟨rfl, hi, hb, hk⟩; have n0_ := ak (KeepBut.trans (by repeat (first | (with_reducible first | exact HK.out | apply KeepBut.set_ | apply keep_drewN | apply keep_drew | apply keep_alloc) | exact HK.out)) hk (.inl rfl)); have n1_ := ak (hb); have n2_ := ak (hi); clear HK HB HI0; have HK := n0_; have HB := n1_; have HI0 := n2_; clear n0_ n1_ n2_; (try clear hb); (try clear hb2); (try clear hk); (try clear hi))); try go_wp2_with (first | (go_at_call 93; (with_reducible refine (field_GF_in.calls g s0_0 s0_1 s0_2 s0_3 s0_4 s0_5 a1 t111 t112 t113 t114 w0 _ ?side1 ?side2 A4.out).mono ?_); (case side1 => repeat (first | (with_reducible first | exact HI0.out | apply IsS109.alloc | apply IsS109.drewN | apply IsS109.drew | apply IsS109.set_0 | apply IsS109.set_1 | apply IsS109.set_3) | exact HI0.out)); (case side2 => repeat (first | (with_reducible first | exact HB.out | apply bal | apply pbn | apply bd1 | refine bst ?_ (IsS109.ge HI0.out)) | exact HB.out)); rintro e w7 ⟨rfl, hi, hb, hk⟩; have n0_ := ak (KeepBut.trans (by repeat (first | (with_reducible first | exact HK.out | apply KeepBut.set_ | apply keep_drewN | apply keep_drew | apply keep_alloc) | exact HK.out)) hk (.inl rfl)); have n1_ := ak (hb); have n2_ := ak (hi); clear HK HB HI0; have HK := n0_; have HB := n1_; have HI0 := n2_; clear n0_ n1_ n2_; (try clear hb); (try clear hb2); (try clear hk); (try clear hi)) | (go_at_call 93; (with_reducible refine (field_GF_in.calls g t112 t113 s0_2 t114 s0_4 s0_5 a2 t115 t116 t117 t118 w0 _ ?side1 ?side2 A5.out).mono ?_); (case side1 => repeat (first | (with_reducible first | exact HI0.out | apply IsS109.alloc | apply IsS109.drewN | apply IsS109.drew | apply IsS109.set_0 | apply IsS109.set_1 | apply IsS109.set_3) | exact HI0.out)); (case side2 => repeat (first | (with_reducible first | exact HB.out | apply bal | apply pbn | apply bd1 | refine bst ?_ (IsS109.ge HI0.out)) | exact HB.out)); rintro e w8 ⟨rfl, hi, hb, hk⟩; have n0_ := ak (KeepBut.trans (by repeat (first | (with_reducible first | exact HK.out | apply KeepBut.set_ | apply keep_drewN | apply keep_drew | apply keep_alloc) | exact HK.out)) hk (.inl rfl)); have n1_ := ak (hb); have n2_ := ak (hi); clear HK HB HI0; have HK := n0_; have HB := n1_; have HI0 := n2_; clear n0_ n1_ n2_; (try clear hb); (try clear hb2); (try clear hk); (try clear hi))))
  go_ret
  exact ⟨by first | rfl | (simp <;> rfl) | (simp [*] <;> rfl), by repeat (first | (with_reducible first | exact HI0.out | apply IsS109.alloc | apply IsS109.drewN | apply IsS109.drew | apply IsS109.set_0 | apply IsS109.set_1 | apply IsS109.set_3) | exact HI0.out), by repeat (first | (with_reducible first | exact HB.out | apply bal | apply pbn | apply bd1 | refine bst ?_ (IsS109.ge HI0.out)) | exact HB.out), by repeat (first | (with_reducible first | exact HK.out | apply KeepBut.set_ | apply keep_drewN | apply keep_drew | apply keep_alloc) | exact HK.out)⟩
 ·rw [if_neg c6] at H
  have c6b0 : (t111 == 0) = false := bqm c6
  have c6b1 : (t111 != 0) = true := bne_iff_ne.mpr c6
  by_cases c9 : t115 = 0
  ·rw [if_pos c9] at H
   have c9b0 : (t115 == 0) = true := beq_iff_eq.mpr c9
   have c9b1 : (t115 != 0) = false := bnm c9
   clear c9
   simp only [Option.some.injEq, Prod.mk.injEq] at H
   obtain ⟨rfl, rfl, rfl, rfl⟩ := H
   go_enter Try.func91, Try.ntmps91
   go_wp2_with (first | (go_at_call 93; (with_reducible refine (field_GF_in.calls g s0_0 s0_1 s0_2 s0_3 s0_4 s0_5 a1 t111 t112 t113 t114 w0 _ ?side1 ?side2 A4.out).mono ?_); (case side1 => repeat (first | (with_reducible first | exact HI0.out | apply IsS109.alloc | apply IsS109.drewN | apply IsS109.drew | apply IsS109.set_0 | apply IsS109.set_1 | apply IsS109.set_3) | exact HI0.out)); (case side2 => repeat (first | (with_reducible first | exact HB.out | apply bal | apply pbn | apply bd1 | refine bst ?_ (IsS109.ge HI0.out)) | exact HB.out)); rintro e w10 ⟨rfl, hi, hb, hk⟩; have n0_ := ak (KeepBut.trans (by repeat (first | (with_reducible first | exact HK.out | apply KeepBut.set_ | apply keep_drewN | apply keep_drew | apply keep_alloc) | exact HK.out)) hk (.inl rfl)); have n1_ := ak (hb); have n2_ := ak (hi); clear HK HB HI0; have HK := n0_; have HB := n1_; have HI0 := n2_; clear n0_ n1_ n2_; (try clear hb); (try clear hb2); (try clear hk); (try clear hi)) | (go_at_call 93; (with_reducible refine (field_GF_in.calls g t112 t113 s0_2 t114 s0_4 s0_5 a2 t115 t116 t117 t118 w0 _ ?side1 ?side2 A5.out).mono ?_); (case side1 => repeat (first | (with_reducible first | exact HI0.out | apply IsS109.alloc | apply IsS109.drewN | apply IsS109.drew | apply IsS109.set_0 | apply IsS109.set_1 | apply IsS109.set_3) | exact HI0.out)); (case side2 => repeat (first | (with_reducible first | exact HB.out | apply bal | apply pbn | apply bd1 | refine bst ?_ (IsS109.ge HI0.out)) | exact HB.out)); rintro e w11 ⟨rfl, hi, hb, hk⟩; have n0_ := ak (KeepBut.trans (by repeat (first | (with_reducible first | exact HK.out | apply KeepBut.set_ | apply keep_drewN | apply keep_drew | apply keep_alloc) | exact HK.out)) hk (.inl rfl)); have n1_ := ak (hb); have n2_ := ak (hi); clear HK HB HI0; have HK := n0_; have HB := n1_; have HI0 := n2_; clear n0_ n1_ n2_; (try clear hb); (try clear hb2); (try clear hk); (try clear hi)))
   repeat (go_quiet (first | (go_at_call 93; (with_reducible refine (field_GF_in.calls g s0_0 s0_1 s0_2 s0_3 s0_4 s0_5 a1 t111 t112 t113 t114 w0 _ ?side1 ?side2 A4.out).mono ?_); (case side1 => repeat (first | (with_reducible first | exact HI0.out | apply IsS109.alloc | apply IsS109.drewN | apply IsS109.drew | apply IsS109.set_0 | apply IsS109.set_1 | apply IsS109.set_3) | exact HI0.out)); (case side2 => repeat (first | (with_reducible first | exact HB.out | apply bal | apply pbn | apply bd1 | refine bst ?_ (IsS109.ge HI0.out)) | exact HB.out)); rintro e w10 ⟨rfl, hi, hb, hk⟩; have n0_ := ak (KeepBut.trans (by repeat (first | (with_reducible first | exact HK.out | apply KeepBut.set_ | apply keep_drewN | apply keep_drew | apply keep_alloc) | exact HK.out)) hk (.inl rfl)); have n1_ := ak (hb); have n2_ := ak (hi); clear HK HB HI0; have HK := n0_; have HB := n1_; have HI0 := n2_; clear n0_ n1_ n2_; (try clear hb); (try clear hb2); (try clear hk); (try clear hi)) | (go_at_call 93; (with_reducible refine (field_GF_in.calls g t112 t113 s0_2 t114 s0_4 s0_5 a2 t115 t116 t117 t118 w0 _ ?side1 ?side2 A5.out).mono ?_); (case side1 => repeat (first | (with_reducible first | exact HI0.out | apply IsS109.alloc | apply IsS109.drewN | apply IsS109.drew | apply IsS109.set_0 | apply IsS109.set_1 | apply IsS109.set_3) | exact HI0.out)); (case side2 => repeat (first | (with_reducible first | exact HB.out | apply bal | apply pbn | apply bd1 | refine bst ?_ (IsS109.ge HI0.out)) | exact HB.out)); rintro e w11 ⟨rfl, hi, hb, hk⟩; have n0_ := ak (KeepBut.trans (by repeat (first | (with_reducible first | exact HK.out | apply KeepBut.set_ | apply keep_drewN | apply keep_drew | apply keep_alloc) | exact HK.out)) hk (.inl rfl)); have n1_ := ak (hb); have n2_ := ak (hi); clear HK HB HI0; have HK := n0_; have HB := n1_; have HI0 := n2_; clear n0_ n1_ n2_; (try clear hb); (try clear hb2); (try clear hk); (try clear hi))); try go_wp2_with (first | (go_at_call 93; (with_reducible refine (field_GF_in.calls g s0_0 s0_1 s0_2 s0_3 s0_4 s0_5 a1 t111 t112 t113 t114 w0 _ ?side1 ?side2 A4.out).mono ?_); (case side1 => repeat (first | (with_reducible first | exact HI0.out | apply IsS109.alloc | apply IsS109.drewN | apply IsS109.drew | apply IsS109.set_0 | apply IsS109.set_1 | apply IsS109.set_3) | exact HI0.out)); (case side2 => repeat (first | (with_reducible first | exact HB.out | apply bal | apply pbn | apply bd1 | refine bst ?_ (IsS109.ge HI0.out)) | exact HB.out)); rintro e w10 ⟨rfl, hi, hb, hk⟩; have n0_ := ak (KeepBut.trans (by repeat (first | (with_reducible first | exact HK.out | apply KeepBut.set_ | apply keep_drewN | apply keep_drew | apply keep_alloc) | exact HK.out)) hk (.inl rfl)); have n1_ := ak (hb); have n2_ := ak (hi); clear HK HB HI0; have HK := n0_; have HB := n1_; have HI0 := n2_; clear n0_ n1_ n2_; (try clear hb); (try clear hb2); (try clear hk); (try clear hi)) | (go_at_call 93; (with_reducible refine (field_GF_in.calls g t112 t113 s0_2 t114 s0_4 s0_5 a2 t115 t116 t117 t118 w0 _ ?side1 ?side2 A5.out).mono ?_); (case side1 => repeat (first | (with_reducible first | exact HI0.out | apply IsS109.alloc | apply IsS109.drewN | apply IsS109.drew | apply IsS109.set_0 | apply IsS109.set_1 | apply IsS109.set_3) | exact HI0.out)); (case side2 => repeat (first | (with_reducible first | exact HB.out | apply bal | apply pbn | apply bd1 | refine bst ?_ (IsS109.ge HI0.out)) | exact HB.out)); rintro e w11 ⟨rfl, hi, hb, hk⟩; have n0_ := ak (KeepBut.trans (by repeat (first | (with_reducible first | exact HK.out | apply KeepBut.set_ | apply keep_drewN | apply keep_drew | apply keep_alloc) | exact HK.out)) hk (.inl rfl)); have n1_ := ak (hb); have n2_ := ak (hi); clear HK HB HI0; have HK := n0_; have HB := n1_; have HI0 := n2_; clear n0_ n1_ n2_; (try clear hb); (try clear hb2); (try clear hk); (try clear hi))))
   go_ret
   exact ⟨by first | rfl | (simp <;> rfl) | (simp [*] <;> rfl), by repeat (first | (with_reducible first | exact HI0.out | apply IsS109.alloc | apply IsS109.drewN | apply IsS109.drew | apply IsS109.set_0 | apply IsS109.set_1 | apply IsS109.set_3) | exact HI0.out), by repeat (first | (with_reducible first | exact HB.out | apply bal | apply pbn | apply bd1 | refine bst ?_ (IsS109.ge HI0.out)) | exact HB.out), by repeat (first | (with_reducible first | exact HK.out | apply KeepBut.set_ | apply keep_drewN | apply keep_drew | apply keep_alloc) | exact HK.out)⟩
  ·rw [if_neg c9] at H
   have c9b0 : (t115 == 0) = false := bqm c9
   have c9b1 : (t115 != 0) = true := bne_iff_ne.mpr c9
   by_cases c12 : 0 ≤ t111
   ·rw [if_pos c12] at H
    have c12b0 : decide (0 ≤ t111) = true := det c12
    clear c12
    by_cases c13 : t111 < (s0_5.length : Int)
    ·rw [if_pos c13] at H
     have c13b0 : decide (t111 < (s0_5.length : Int)) = true := det c13
     clear c13
     by_cases c14 : 0 ≤ t115
     ·rw [if_pos c14] at H
      have c14b0 : decide (0 ≤ t115) = true := det c14
      clear c14
      by_cases c15 : t115 < (s0_5.length : Int)
      ·rw [if_pos c15] at H
       have c15b0 : decide (t115 < (s0_5.length : Int)) = true := det c15
       clear c15
       by_cases c16 : (wrap64 (t118 - 1)) = 0
       ·rw [if_pos c16] at H
        exact absurd H (by simp)
       ·rw [if_neg c16] at H
        have c16b0 : ((wrap64 (t118 - 1)) == 0) = false := bqm c16
        have c16b1 : ((wrap64 (t118 - 1)) != 0) = true := bne_iff_ne.mpr c16
        obtain ⟨ji17, hji17⟩ : ∃ j_ : Int, (Int.tmod (wrap64 ((rd s0_5 t111) + (rd s0_5 t115))) (wrap64 (t118 - 1))) = j_ := ⟨_, rfl⟩
        replace H : (if 0 ≤ (ji17) then (if (ji17) < (s0_4.length : Int) then (some (rd s0_4 (ji17), t116, t117, t118)) else (none)) else (none)) = some (r1, r2, r3, r4) := by first | (rw [hji17] at H; exact H) | (simp only [hji17] at H ⊢; exact H)
        (try rw [hji17] at A4)
        (try rw [hji17] at A5)
        by_cases c18 : 0 ≤ (ji17)
        ·rw [if_pos c18] at H
         have c18b0 : decide (0 ≤ (ji17)) = true := det c18
         clear c18
         by_cases c19 : (ji17) < (s0_4.length : Int)
         ·rw [if_pos c19] at H
          have c19b0 : decide ((ji17) < (s0_4.length : Int)) = true := det c19
          clear c19
          simp only [Option.some.injEq, Prod.mk.injEq] at H
          obtain ⟨rfl, rfl, rfl, rfl⟩ := H
          go_enter Try.func91, Try.ntmps91
          go_wp2_with (first | (go_at_call 93; (with_reducible refine (field_GF_in.calls g s0_0 s0_1 s0_2 s0_3 s0_4 s0_5 a1 t111 t112 t113 t114 w0 _ ?side1 ?side2 A4.out).mono ?_); (case side1 => repeat (first | (with_reducible first | exact HI0.out | apply IsS109.alloc | apply IsS109.drewN | apply IsS109.drew | apply IsS109.set_0 | apply IsS109.set_1 | apply IsS109.set_3) | exact HI0.out)); (case side2 => repeat (first | (with_reducible first | exact HB.out | apply bal | apply pbn | apply bd1 | refine bst ?_ (IsS109.ge HI0.out)) | exact HB.out)); rintro e w20 ⟨rfl, hi, hb, hk⟩; have n0_ := ak (KeepBut.trans (by repeat (first | (with_reducible first | exact HK.out | apply KeepBut.set_ | apply keep_drewN | apply keep_drew | apply keep_alloc) | exact HK.out)) hk (.inl rfl)); have n1_ := ak (hb); have n2_ := ak (hi); clear HK HB HI0; have HK := n0_; have HB := n1_; have HI0 := n2_; clear n0_ n1_ n2_; (try clear hb); (try clear hb2); (try clear hk); (try clear hi)) | (go_at_call 93; (with_reducible refine (field_GF_in.calls g t112 t113 s0_2 t114 s0_4 s0_5 a2 t115 t116 t117 t118 w0 _ ?side1 ?side2 A5.out).mono ?_); (case side1 => repeat (first | (with_reducible first | exact HI0.out | apply IsS109.alloc | apply IsS109.drewN | apply IsS109.drew | apply IsS109.set_0 | apply IsS109.set_1 | apply IsS109.set_3) | exact HI0.out)); (case side2 => repeat (first | (with_reducible first | exact HB.out | apply bal | apply pbn | apply bd1 | refine bst ?_ (IsS109.ge HI0.out)) | exact HB.out)); rintro e w21 ⟨rfl, hi, hb, hk⟩; have n0_ := ak (KeepBut.trans (by repeat (first | (with_reducible first | exact HK.out | apply KeepBut.set_ | apply keep_drewN | apply keep_drew | apply keep_alloc) | exact HK.out)) hk (.inl rfl)); have n1_ := ak (hb); have n2_ := ak (hi); clear HK HB HI0; have HK := n0_; have HB := n1_; have HI0 := n2_; clear n0_ n1_ n2_; (try clear hb); (try clear hb2); (try clear hk); (try clear hi); obtain ⟨ASz22_2, cSz22_2, ASz22_4, cSz22_4, ASz22_5, cSz22_5, HGz22, hgz22, HSz22_2, HSz22_4, HSz22_5⟩ := HI0.out; have hcz22_0 := cellS109_0 HGz22; have hcz22_1 := cellS109_1 HGz22; have hcz22_2 := cellS109_2 HGz22; have hcz22_3 := cellS109_3 HGz22; have hcz22_4 := cellS109_4 HGz22; have hcz22_5 := cellS109_5 HGz22; have hfz22_0 := kfz HGz22 0; have hfz22_1 := kfz HGz22 1; have hfz22_3 := kfz HGz22 3; clear HGz22 hgz22; have p119 : 0 ≤ (t111 : Int) := odt (by first | (with_reducible assumption) | assumption); have q119 : t111 < (s0_5.length : Int) := odt (by first | (with_reducible assumption) | assumption); obtain ⟨ad119, e119, hx119_0⟩ := Kd.at_int HSz22_5 t111 p119 q119; cases e119; replace hx119_0 := pcb HB.out hx119_0; replace p119 := eq_true p119; replace q119 := eq_true q119; have p120 : 0 ≤ (t115 : Int) := odt (by first | (with_reducible assumption) | assumption); have q120 : t115 < (s0_5.length : Int) := odt (by first | (with_reducible assumption) | assumption); obtain ⟨ad120, e120, hx120_0⟩ := Kd.at_int HSz22_5 t115 p120 q120; obtain rfl : ad119 = ad120 := (by injection e120); replace hx120_0 := pcb HB.out hx120_0; replace p120 := eq_true p120; replace q120 := eq_true q120; have p121 : 0 ≤ ((ji17) : Int) := odt (by first | (with_reducible assumption) | assumption); have q121 : (ji17) < (s0_4.length : Int) := odt (by first | (with_reducible assumption) | assumption); obtain ⟨ad121, e121, hx121_0⟩ := Kd.at_int HSz22_4 (ji17) p121 q121; cases e121; replace hx121_0 := pcb HB.out hx121_0; replace p121 := eq_true p121; replace q121 := eq_true q121))
          repeat (go_quiet (first | (go_at_call 93; (with_reducible refine (field_GF_in.calls g s0_0 s0_1 s0_2 s0_3 s0_4 s0_5 a1 t111 t112 t113 t114 w0 _ ?side1 ?side2 A4.out).mono ?_); (case side1 => repeat (first | (with_reducible first | exact HI0.out | apply IsS109.alloc | apply IsS109.drewN | apply IsS109.drew | apply IsS109.set_0 | apply IsS109.set_1 | apply IsS109.set_3) | exact HI0.out)); (case side2 => repeat (first | (with_reducible first | exact HB.out | apply bal | apply pbn | apply bd1 | refine bst ?_ (IsS109.ge HI0.out)) | exact HB.out)); rintro e w20 ⟨rfl, hi, hb, hk⟩; have n0_ := ak (KeepBut.trans (by repeat (first | (with_reducible first | exact HK.out | apply KeepBut.set_ | apply keep_drewN | apply keep_drew | apply keep_alloc) | exact HK.out)) hk (.inl rfl)); have n1_ := ak (hb); have n2_ := ak (hi); clear HK HB HI0; have HK := n0_; have HB := n1_; have HI0 := n2_; clear n0_ n1_ n2_; (try clear hb); (try clear hb2); (try clear hk); (try clear hi)) | (go_at_call 93; (with_reducible refine (field_GF_in.calls g t112 t113 s0_2 t114 s0_4 s0_5 a2 t115 t116 t117 t118 w0 _ ?side1 ?side2 A5.out).mono ?_); (case side1 => repeat (first | (with_reducible first | exact HI0.out | apply IsS109.alloc | apply IsS109.drewN | apply IsS109.drew | apply IsS109.set_0 | apply IsS109.set_1 | apply IsS109.set_3) | exact HI0.out)); (case side2 => repeat (first | (with_reducible first | exact HB.out | apply bal | apply pbn | apply bd1 | refine bst ?_ (IsS109.ge HI0.out)) | exact HB.out)); rintro e w21 ⟨rfl, hi, hb, hk⟩; have n0_ := ak (KeepBut.trans (by repeat (first | (with_reducible first | exact HK.out | apply KeepBut.set_ | apply keep_drewN | apply keep_drew | apply keep_alloc) | exact HK.out)) hk (.inl rfl)); have n1_ := ak (hb); have n2_ := ak (hi); clear HK HB HI0; have HK := n0_; have HB := n1_; have HI0 := n2_; clear n0_ n1_ n2_; (try clear hb); (try clear hb2); (try clear hk); (try clear hi); obtain ⟨ASz22_2, cSz22_2, ASz22_4, cSz22_4, ASz22_5, cSz22_5, HGz22, hgz22, HSz22_2, HSz22_4, HSz22_5⟩ := HI0.out; have hcz22_0 := cellS109_0 HGz22; have hcz22_1 := cellS109_1 HGz22; have hcz22_2 := cellS109_2 HGz22; have hcz22_3 := cellS109_3 HGz22; have hcz22_4 := cellS109_4 HGz22; have hcz22_5 := cellS109_5 HGz22; have hfz22_0 := kfz HGz22 0; have hfz22_1 := kfz HGz22 1; have hfz22_3 := kfz HGz22 3; clear HGz22 hgz22; have p119 : 0 ≤ (t111 : Int) := odt (by first | (with_reducible assumption) | assumption); have q119 : t111 < (s0_5.length : Int) := odt (by first | (with_reducible assumption) | assumption); obtain ⟨ad119, e119, hx119_0⟩ := Kd.at_int HSz22_5 t111 p119 q119; cases e119; replace hx119_0 := pcb HB.out hx119_0; replace p119 := eq_true p119; replace q119 := eq_true q119; have p120 : 0 ≤ (t115 : Int) := odt (by first | (with_reducible assumption) | assumption); have q120 : t115 < (s0_5.length : Int) := odt (by first | (with_reducible assumption) | assumption); obtain ⟨ad120, e120, hx120_0⟩ := Kd.at_int HSz22_5 t115 p120 q120; obtain rfl : ad119 = ad120 := (by injection e120); replace hx120_0 := pcb HB.out hx120_0; replace p120 := eq_true p120; replace q120 := eq_true q120; have p121 : 0 ≤ ((ji17) : Int) := odt (by first | (with_reducible assumption) | assumption); have q121 : (ji17) < (s0_4.length : Int) := odt (by first | (with_reducible assumption) | assumption); obtain ⟨ad121, e121, hx121_0⟩ := Kd.at_int HSz22_4 (ji17) p121 q121; cases e121; replace hx121_0 := pcb HB.out hx121_0; replace p121 := eq_true p121; replace q121 := eq_true q121)); try go_wp2_with (first | (go_at_call 93; (with_reducible refine (field_GF_in.calls g s0_0 s0_1 s0_2 s0_3 s0_4 s0_5 a1 t111 t112 t113 t114 w0 _ ?side1 ?side2 A4.out).mono ?_); (case side1 => repeat (first | (with_reducible first | exact HI0.out | apply IsS109.alloc | apply IsS109.drewN | apply IsS109.drew | apply IsS109.set_0 | apply IsS109.set_1 | apply IsS109.set_3) | exact HI0.out)); (case side2 => repeat (first | (with_reducible first | exact HB.out | apply bal | apply pbn | apply bd1 | refine bst ?_ (IsS109.ge HI0.out)) | exact HB.out)); rintro e w20 ⟨rfl, hi, hb, hk⟩; have n0_ := ak (KeepBut.trans (by repeat (first | (with_reducible first | exact HK.out | apply KeepBut.set_ | apply keep_drewN | apply keep_drew | apply keep_alloc) | exact HK.out)) hk (.inl rfl)); have n1_ := ak (hb); have n2_ := ak (hi); clear HK HB HI0; have HK := n0_; have HB := n1_; have HI0 := n2_; clear n0_ n1_ n2_; (try clear hb); (try clear hb2); (try clear hk); (try clear hi)) | (go_at_call 93; (with_reducible refine (field_GF_in.calls g t112 t113 s0_2 t114 s0_4 s0_5 a2 t115 t116 t117 t118 w0 _ ?side1 ?side2 A5.out).mono ?_); (case side1 => repeat (first | (with_reducible first | exact HI0.out | apply IsS109.alloc | apply IsS109.drewN | apply IsS109.drew | apply IsS109.set_0 | apply IsS109.set_1 | apply IsS109.set_3) | exact HI0.out)); (case side2 => repeat (first | (with_reducible first | exact HB.out | apply bal | apply pbn | apply bd1 | refine bst ?_ (IsS109.ge HI0.out)) | exact HB.out)); rintro e w21 ⟨rfl, hi, hb, hk⟩; have n0_ := ak (KeepBut.trans (by repeat (first | (with_reducible first | exact HK.out | apply KeepBut.set_ | apply keep_drewN | apply keep_drew | apply keep_alloc) | exact HK.out)) hk (.inl rfl)); have n1_ := ak (hb); have n2_ := ak (hi); clear HK HB HI0; have HK := n0_; have HB := n1_; have HI0 := n2_; clear n0_ n1_ n2_; (try clear hb); (try clear hb2); (try clear hk); (try clear hi); obtain ⟨ASz22_2, cSz22_2, ASz22_4, cSz22_4, ASz22_5, cSz22_5, HGz22, hgz22, HSz22_2, HSz22_4, HSz22_5⟩ := HI0.out; have hcz22_0 := cellS109_0 HGz22; have hcz22_1 := cellS109_1 HGz22; have hcz22_2 := cellS109_2 HGz22; have hcz22_3 := cellS109_3 HGz22; have hcz22_4 := cellS109_4 HGz22; have hcz22_5 := cellS109_5 HGz22; have hfz22_0 := kfz HGz22 0; have hfz22_1 := kfz HGz22 1; have hfz22_3 := kfz HGz22 3; clear HGz22 hgz22; have p119 : 0 ≤ (t111 : Int) := odt (by first | (with_reducible assumption) | assumption); have q119 : t111 < (s0_5.length : Int) := odt (by first | (with_reducible assumption) | assumption); obtain ⟨ad119, e119, hx119_0⟩ := Kd.at_int HSz22_5 t111 p119 q119; cases e119; replace hx119_0 := pcb HB.out hx119_0; replace p119 := eq_true p119; replace q119 := eq_true q119; have p120 : 0 ≤ (t115 : Int) := odt (by first | (with_reducible assumption) | assumption); have q120 : t115 < (s0_5.length : Int) := odt (by first | (with_reducible assumption) | assumption); obtain ⟨ad120, e120, hx120_0⟩ := Kd.at_int HSz22_5 t115 p120 q120; obtain rfl : ad119 = ad120 := (by injection e120); replace hx120_0 := pcb HB.out hx120_0; replace p120 := eq_true p120; replace q120 := eq_true q120; have p121 : 0 ≤ ((ji17) : Int) := odt (by first | (with_reducible assumption) | assumption); have q121 : (ji17) < (s0_4.length : Int) := odt (by first | (with_reducible assumption) | assumption); obtain ⟨ad121, e121, hx121_0⟩ := Kd.at_int HSz22_4 (ji17) p121 q121; cases e121; replace hx121_0 := pcb HB.out hx121_0; replace p121 := eq_true p121; replace q121 := eq_true q121)))
          go_ret
          exact ⟨by first | rfl | (simp <;> rfl) | (simp only [← hji17]; first | rfl | (simp <;> rfl)) | (simp [*] <;> rfl), by repeat (first | (with_reducible first | exact HI0.out | apply IsS109.alloc | apply IsS109.drewN | apply IsS109.drew | apply IsS109.set_0 | apply IsS109.set_1 | apply IsS109.set_3) | exact HI0.out), by repeat (first | (with_reducible first | exact HB.out | apply bal | apply pbn | apply bd1 | refine bst ?_ (IsS109.ge HI0.out)) | exact HB.out), by repeat (first | (with_reducible first | exact HK.out | apply KeepBut.set_ | apply keep_drewN | apply keep_drew | apply keep_alloc) | exact HK.out)⟩
         ·rw [if_neg c19] at H
          exact absurd H (by simp)
        ·rw [if_neg c18] at H
         exact absurd H (by simp)
      ·rw [if_neg c15] at H
       exact absurd H (by simp)
     ·rw [if_neg c14] at H
      exact absurd H (by simp)
    ·rw [if_neg c13] at H
     exact absurd H (by simp)
   ·rw [if_neg c12] at H
    exact absurd H (by simp)
def field_GF_Div.f (s0_0 : Int) (s0_1 : Int) (s0_2 : List Int) (s0_3 : Int) (s0_4 : List Int) (s0_5 : List Int) (a1 : Int) (a2 : Int) : Option (Int × Int × Int × Int × Int) := (field_GF_Inv.f s0_0 s0_1 s0_2 s0_3 s0_4 s0_5 a2).bind fun bt122 => (if bt122.2.1 = 0 then ((field_GF_Mul.f bt122.2.2.1 bt122.2.2.2.1 s0_2 bt122.2.2.2.2 s0_4 s0_5 a1 bt122.1).bind fun bt127 => (some (bt127.1, 0, bt127.2.1, bt127.2.2.1, bt127.2.2.2))) else (some (0, bt122.2.1, bt122.2.2.1, bt122.2.2.2.1, bt122.2.2.2.2)))
theorem field_GF_Div.calls (g : Nat) (s0_0 : Int) (s0_1 : Int) (s0_2 : List Int) (s0_3 : Int) (s0_4 : List Int) (s0_5 : List Int) (a1 : Int) (a2 : Int) (r1 : Int) (r2 : Int) (r3 : Int) (r4 : Int) (r5 : Int) (w0 w : World) (hI : IsS109 w0 w g s0_0 s0_1 s0_2 s0_3 s0_4 s0_5) (hB : Below w0.heap.size w0 w) (h : field_GF_Div.f s0_0 s0_1 s0_2 s0_3 s0_4 s0_5 a1 a2 = some (r1, r2, r3, r4, r5)) :
  Calls Try.prog 67 #[.pointer (some ⟨g, 0, none⟩), .int .i64 a1, .int .i64 a2] w fun e w' => e = .returned (.tuple #[.int .i64 r1, .int .i64 r2]) ∧ IsS109 w0 w' g r3 r4 s0_2 r5 s0_4 s0_5 ∧ Below w0.heap.size w0 w' ∧ KeepBut w w' g none := by
 have HI0 := ak hI
 have HK := ak (KeepBut.refl w g none)
 have HL := ak hB.size
 clear hI
 have HW0 := ak hB.size
 have HB := ak hB
 clear hB
 have H : ((field_GF_Inv.f s0_0 s0_1 s0_2 s0_3 s0_4 s0_5 a2).bind fun bt122 => (if bt122.2.1 = 0 then ((field_GF_Mul.f bt122.2.2.1 bt122.2.2.2.1 s0_2 bt122.2.2.2.2 s0_4 s0_5 a1 bt122.1).bind fun bt127 => (some (bt127.1, 0, bt127.2.1, bt127.2.2.1, bt127.2.2.2))) else (some (0, bt122.2.1, bt122.2.2.1, bt122.2.2.2.1, bt122.2.2.2.2)))) = some (r1, r2, r3, r4, r5) := h
 clear h
 replace H := obm H
 obtain ⟨⟨t122, t123, t124, t125, t126⟩, A40, H⟩ := H
 replace H : (if t123 = 0 then ((field_GF_Mul.f t124 t125 s0_2 t126 s0_4 s0_5 a1 t122).bind fun bt127 => (some (bt127.1, 0, bt127.2.1, bt127.2.2.1, bt127.2.2.2))) else (some (0, t123, t124, t125, t126))) = some (r1, r2, r3, r4, r5) := H
 have A4 := ak A40
 clear A40
 by_cases c5 : t123 = 0
 ·rw [if_pos c5] at H
  have c5b0 : (t123 == 0) = true := beq_iff_eq.mpr c5
  have c5b1 : (t123 != 0) = false := bnm c5
  clear c5
  replace H := obm H
  obtain ⟨⟨t127, t128, t129, t130⟩, A60, H⟩ := H
  replace H : (some (t127, 0, t128, t129, t130)) = some (r1, r2, r3, r4, r5) := H
  have A6 := ak A60
  clear A60
  simp only [Option.some.injEq, Prod.mk.injEq] at H
  obtain ⟨rfl, rfl, rfl, rfl, rfl⟩ := H
  go_enter Try.func67, Try.ntmps67
  go_wp2_with (first | ((with_reducible refine gate_callee (f := 90) rfl ?_); refine goesL_ (some 13) rfl rfl Try.func90 (by kernel_rfl) rfl #[.pointer (some ⟨g, 0, none⟩), .int .i64 a2] rfl (by (try simp only [List.map_toArray, List.map_cons, List.map_nil]); first | done | rfl | (simp only [List.length_drop, List.length_take]; rfl)) ?_; (with_reducible refine (field_GF_Inv.calls g s0_0 s0_1 s0_2 s0_3 s0_4 s0_5 a2 t122 t123 t124 t125 t126 w0 _ ?side1 ?side2 A4.out).mono ?_); (case side1 => repeat (first | (with_reducible first | exact HI0.out | apply IsS109.alloc | apply IsS109.drewN | apply IsS109.drew | apply IsS109.set_0 | apply IsS109.set_1 | apply IsS109.set_3) | exact HI0.out)); (case side2 => repeat (first | (with_reducible first | exact HB.out | apply bal | apply pbn | apply bd1 | refine bst ?_ (IsS109.ge HI0.out)) | exact HB.out)); rintro e w7 ⟨rfl, hi, hb, hk⟩; refine ⟨_, rfl, ?_⟩; have n0_ := ak (KeepBut.trans (by repeat (first | (with_reducible first | exact HK.out | apply KeepBut.set_ | apply keep_drewN | apply keep_drew | apply keep_alloc) | exact HK.out)) hk (.inl rfl)); have n1_ := ak (hb); have n2_ := ak (hi); clear HK HB HI0; have HK := n0_; have HB := n1_; have HI0 := n2_; clear n0_ n1_ n2_; (try clear hb); (try clear hb2); (try clear hk); (try clear hi)) | ((with_reducible refine gate_callee (f := 91) rfl ?_); refine goesL_ (some 22) rfl rfl Try.func91 (by kernel_rfl) rfl #[.pointer (some ⟨g, 0, none⟩), .int .i64 a1, .int .i64 t122] rfl (by (try simp only [List.map_toArray, List.map_cons, List.map_nil]); first | done | rfl | (simp only [List.length_drop, List.length_take]; rfl)) ?_; (with_reducible refine (field_GF_Mul.calls g t124 t125 s0_2 t126 s0_4 s0_5 a1 t122 t127 t128 t129 t130 w0 _ ?side1 ?side2 A6.out).mono ?_); (case side1 => repeat (first | (with_reducible first | exact HI0.out | apply IsS109.alloc | apply IsS109.drewN | apply IsS109.drew | apply IsS109.set_0 | apply IsS109.set_1 | apply IsS109.set_3) | exact HI0.out)); (case side2 => repeat (first | (with_reducible first | exact HB.out | apply bal | apply pbn | apply bd1 | refine bst ?_ (IsS109.ge HI0.out)) | exact HB.out)); rintro e w8 ⟨rfl, hi, hb, hk⟩; refine ⟨_, rfl, ?_⟩; have n0_ := ak (KeepBut.trans (by repeat (first | (with_reducible first | exact HK.out | apply KeepBut.set_ | apply keep_drewN | apply keep_drew | apply keep_alloc) | exact HK.out)) hk (.inl rfl)); have n1_ := ak (hb); have n2_ := ak (hi); clear HK HB HI0; have HK := n0_; have HB := n1_; have HI0 := n2_; clear n0_ n1_ n2_; (try clear hb); (try clear hb2); (try clear hk); (try clear hi)))
  go_ret2
  exact ⟨by first | rfl | (simp <;> rfl) | (simp [*] <;> rfl), by repeat (first | (with_reducible first | exact HI0.out | apply IsS109.alloc | apply IsS109.drewN | apply IsS109.drew | apply IsS109.set_0 | apply IsS109.set_1 | apply IsS109.set_3) | exact HI0.out), by repeat (first | (with_reducible first | exact HB.out | apply bal | apply pbn | apply bd1 | refine bst ?_ (IsS109.ge HI0.out)) | exact HB.out), by repeat (first | (with_reducible first | exact HK.out | apply KeepBut.set_ | apply keep_drewN | apply keep_drew | apply keep_alloc) | exact HK.out)⟩
 ·rw [if_neg c5] at H
  have c5b0 : (t123 == 0) = false := bqm c5
  have c5b1 : (t123 != 0) = true := bne_iff_ne.mpr c5
  simp only [Option.some.injEq, Prod.mk.injEq] at H
  obtain ⟨rfl, rfl, rfl, rfl, rfl⟩ := H
  go_enter Try.func67, Try.ntmps67
  go_wp2_with (first | ((with_reducible refine gate_callee (f := 90) rfl ?_); refine goesL_ (some 13) rfl rfl Try.func90 (by kernel_rfl) rfl #[.pointer (some ⟨g, 0, none⟩), .int .i64 a2] rfl (by (try simp only [List.map_toArray, List.map_cons, List.map_nil]); first | done | rfl | (simp only [List.length_drop, List.length_take]; rfl)) ?_; (with_reducible refine (field_GF_Inv.calls g s0_0 s0_1 s0_2 s0_3 s0_4 s0_5 a2 t122 t123 t124 t125 t126 w0 _ ?side1 ?side2 A4.out).mono ?_); (case side1 => repeat (first | (with_reducible first | exact HI0.out | apply IsS109.alloc | apply IsS109.drewN | apply IsS109.drew | apply IsS109.set_0 | apply IsS109.set_1 | apply IsS109.set_3) | exact HI0.out)); (case side2 => repeat (first | (with_reducible first | exact HB.out | apply bal | apply pbn | apply bd1 | refine bst ?_ (IsS109.ge HI0.out)) | exact HB.out)); rintro e w9 ⟨rfl, hi, hb, hk⟩; refine ⟨_, rfl, ?_⟩; have n0_ := ak (KeepBut.trans (by repeat (first | (with_reducible first | exact HK.out | apply KeepBut.set_ | apply keep_drewN | apply keep_drew | apply keep_alloc) | exact HK.out)) hk (.inl rfl)); have n1_ := ak (hb); have n2_ := ak (hi); clear HK HB HI0; have HK := n0_; have HB := n1_; have HI0 := n2_; clear n0_ n1_ n2_; (try clear hb); (try clear hb2); (try clear hk); (try clear hi)))
  go_ret2
  exact ⟨by first | rfl | (simp <;> rfl) | (simp [*] <;> rfl), by repeat (first | (with_reducible first | exact HI0.out | apply IsS109.alloc | apply IsS109.drewN | apply IsS109.drew | apply IsS109.set_0 | apply IsS109.set_1 | apply IsS109.set_3) | exact HI0.out), by repeat (first | (with_reducible first | exact HB.out | apply bal | apply pbn | apply bd1 | refine bst ?_ (IsS109.ge HI0.out)) | exact HB.out), by repeat (first | (with_reducible first | exact HK.out | apply KeepBut.set_ | apply keep_drewN | apply keep_drew | apply keep_alloc) | exact HK.out)⟩
def field_GF_Add.l0 : Nat → Int → Int → Int → Int → Int → Int → List Int → Int → List Int → List Int → Option (Int × Int × Int × Int)
 | 0, _, _, _, _, _, _, _, _, _, _ => none
 | k + 1, x1, x2, x7, x8, x1000, x1001, x1002, x1003, x1004, x1005 => if x1 > 0 then (if x1000 = 0 then (none) else (field_GF_Add.l0 k (wrap64 (Int.tdiv x1 x1000)) (wrap64 (Int.tdiv x2 x1000)) (wrap64 (x7 + (wrap64 ((Int.tmod (wrap64 ((Int.tmod x1 x1000) + (Int.tmod x2 x1000))) x1000) * x8)))) (wrap64 (x8 * x1000)) x1000 x1001 x1002 x1003 x1004 x1005)) else (if x2 > 0 then (if x1000 = 0 then (none) else (field_GF_Add.l0 k (wrap64 (Int.tdiv x1 x1000)) (wrap64 (Int.tdiv x2 x1000)) (wrap64 (x7 + (wrap64 ((Int.tmod (wrap64 ((Int.tmod x1 x1000) + (Int.tmod x2 x1000))) x1000) * x8)))) (wrap64 (x8 * x1000)) x1000 x1001 x1002 x1003 x1004 x1005)) else (some (x7, x1000, x1001, x1003)))
def field_GF_Add.f (k : Nat) (s0_0 : Int) (s0_1 : Int) (s0_2 : List Int) (s0_3 : Int) (s0_4 : List Int) (s0_5 : List Int) (a1 : Int) (a2 : Int) : Option (Int × Int × Int × Int) := (field_GF_in.f s0_0 s0_1 s0_2 s0_3 s0_4 s0_5 a1).bind fun bt131 => ((field_GF_in.f bt131.2.1 bt131.2.2.1 s0_2 bt131.2.2.2 s0_4 s0_5 a2).bind fun bt135 => (if bt135.2.1 = 2 then (some (Go.bits .xor .i64 bt131.1 bt135.1, bt135.2.1, bt135.2.2.1, bt135.2.2.2)) else (field_GF_Add.l0 k bt131.1 bt135.1 0 1 bt135.2.1 bt135.2.2.1 s0_2 bt135.2.2.2 s0_4 s0_5)))
theorem field_GF_Add.calls (k : Nat) (g : Nat) (s0_0 : Int) (s0_1 : Int) (s0_2 : List Int) (s0_3 : Int) (s0_4 : List Int) (s0_5 : List Int) (a1 : Int) (a2 : Int) (r1 : Int) (r2 : Int) (r3 : Int) (r4 : Int) (w0 w : World) (hI : IsS109 w0 w g s0_0 s0_1 s0_2 s0_3 s0_4 s0_5) (hB : Below w0.heap.size w0 w) (h : field_GF_Add.f k s0_0 s0_1 s0_2 s0_3 s0_4 s0_5 a1 a2 = some (r1, r2, r3, r4)) :
  Calls Try.prog 92 #[.pointer (some ⟨g, 0, none⟩), .int .i64 a1, .int .i64 a2] w fun e w' => e = .returned (.int .i64 r1) ∧ IsS109 w0 w' g r2 r3 s0_2 r4 s0_4 s0_5 ∧ Below w0.heap.size w0 w' ∧ KeepBut w w' g none := by
 have HI0 := ak hI
 have HK := ak (KeepBut.refl w g none)
 have HL := ak hB.size
 clear hI
 have HW0 := ak hB.size
 have HB := ak hB
 clear hB
 have H : ((field_GF_in.f s0_0 s0_1 s0_2 s0_3 s0_4 s0_5 a1).bind fun bt131 => ((field_GF_in.f bt131.2.1 bt131.2.2.1 s0_2 bt131.2.2.2 s0_4 s0_5 a2).bind fun bt135 => (if bt135.2.1 = 2 then (some (Go.bits .xor .i64 bt131.1 bt135.1, bt135.2.1, bt135.2.2.1, bt135.2.2.2)) else (field_GF_Add.l0 k bt131.1 bt135.1 0 1 bt135.2.1 bt135.2.2.1 s0_2 bt135.2.2.2 s0_4 s0_5)))) = some (r1, r2, r3, r4) := h
 clear h
 replace H := obm H
 obtain ⟨⟨t131, t132, t133, t134⟩, A40, H⟩ := H
 replace H : ((field_GF_in.f t132 t133 s0_2 t134 s0_4 s0_5 a2).bind fun bt135 => (if bt135.2.1 = 2 then (some (Go.bits .xor .i64 t131 bt135.1, bt135.2.1, bt135.2.2.1, bt135.2.2.2)) else (field_GF_Add.l0 k t131 bt135.1 0 1 bt135.2.1 bt135.2.2.1 s0_2 bt135.2.2.2 s0_4 s0_5))) = some (r1, r2, r3, r4) := H
 have A4 := ak A40
 clear A40
 replace H := obm H
 obtain ⟨⟨t135, t136, t137, t138⟩, A50, H⟩ := H
 replace H : (if t136 = 2 then (some (Go.bits .xor .i64 t131 t135, t136, t137, t138)) else (field_GF_Add.l0 k t131 t135 0 1 t136 t137 s0_2 t138 s0_4 s0_5)) = some (r1, r2, r3, r4) := H
 have A5 := ak A50
 clear A50
 by_cases c6 : t136 = 2
 ·rw [if_pos c6] at H
  have c6b0 : (t136 == 2) = true := beq_iff_eq.mpr c6
  have c6b1 : (t136 != 2) = false := bnm c6
  clear c6
  simp only [Option.some.injEq, Prod.mk.injEq] at H
  obtain ⟨rfl, rfl, rfl, rfl⟩ := H
  go_enter Try.func92, Try.ntmps92
  go_wp2_with (first | (go_at_call 93; (with_reducible refine (field_GF_in.calls g s0_0 s0_1 s0_2 s0_3 s0_4 s0_5 a1 t131 t132 t133 t134 w0 _ ?side1 ?side2 A4.out).mono ?_); (case side1 => repeat (first | (with_reducible first | exact HI0.out | apply IsS109.alloc | apply IsS109.drewN | apply IsS109.drew | apply IsS109.set_0 | apply IsS109.set_1 | apply IsS109.set_3) | exact HI0.out)); (case side2 => repeat (first | (with_reducible first | exact HB.out | apply bal | apply pbn | apply bd1 | refine bst ?_ (IsS109.ge HI0.out)) | exact HB.out)); rintro e w7 ⟨rfl, hi, hb, hk⟩; have n0_ := ak (KeepBut.trans (by repeat (first | (with_reducible first | exact HK.out | apply KeepBut.set_ | apply keep_drewN | apply keep_drew | apply keep_alloc) | exact HK.out)) hk (.inl rfl)); have n1_ := ak (hb); have n2_ := ak (hi); clear HK HB HI0; have HK := n0_; have HB := n1_; have HI0 := n2_; clear n0_ n1_ n2_; (try clear hb); (try clear hb2); (try clear hk); (try clear hi)) | (go_at_call 93; (with_reducible refine (field_GF_in.calls g t132 t133 s0_2 t134 s0_4 s0_5 a2 t135 t136 t137 t138 w0 _ ?side1 ?side2 A5.out).mono ?_); (case side1 => repeat (first | (with_reducible first | exact HI0.out | apply IsS109.alloc | apply IsS109.drewN | apply IsS109.drew | apply IsS109.set_0 | apply IsS109.set_1 | apply IsS109.set_3) | exact HI0.out)); (case side2 => repeat (first | (with_reducible first | exact HB.out | apply bal | apply pbn | apply bd1 | refine bst ?_ (IsS109.ge HI0.out)) | exact HB.out)); rintro e w8 ⟨rfl, hi, hb, hk⟩; have n0_ := ak (KeepBut.trans (by repeat (first | (with_reducible first | exact HK.out | apply KeepBut.set_ | apply keep_drewN | apply keep_drew | apply keep_alloc) | exact HK.out)) hk (.inl rfl)); have n1_ := ak (hb); have n2_ := ak (hi); clear HK HB HI0; have HK := n0_; have HB := n1_; have HI0 := n2_; clear n0_ n1_ n2_; (try clear hb); (try clear hb2); (try clear hk); (try clear hi); obtain ⟨ASz9_2, cSz9_2, ASz9_4, cSz9_4, ASz9_5, cSz9_5, HGz9, hgz9, HSz9_2, HSz9_4, HSz9_5⟩ := HI0.out; have hcz9_0 := cellS109_0 HGz9; have hcz9_1 := cellS109_1 HGz9; have hcz9_2 := cellS109_2 HGz9; have hcz9_3 := cellS109_3 HGz9; have hcz9_4 := cellS109_4 HGz9; have hcz9_5 := cellS109_5 HGz9; have hfz9_0 := kfz HGz9 0; have hfz9_1 := kfz HGz9 1; have hfz9_3 := kfz HGz9 3; clear HGz9 hgz9))
  repeat (go_quiet (first | (go_at_call 93; (with_reducible refine (field_GF_in.calls g s0_0 s0_1 s0_2 s0_3 s0_4 s0_5 a1 t131 t132 t133 t134 w0 _ ?side1 ?side2 A4.out).mono ?_); (case side1 => repeat (first | (with_reducible first | exact HI0.out | apply IsS109.alloc | apply IsS109.drewN | apply IsS109.drew | apply IsS109.set_0 | apply IsS109.set_1 | apply IsS109.set_3) | exact HI0.out)); (case side2 => repeat (first | (with_reducible first | exact HB.out | apply bal | apply pbn | apply bd1 | refine bst ?_ (IsS109.ge HI0.out)) | exact HB.out)); rintro e w7 ⟨rfl, hi, hb, hk⟩; have n0_ := ak (KeepBut.trans (by repeat (first | (with_reducible first | exact HK.out | apply KeepBut.set_ | apply keep_drewN | apply keep_drew | apply keep_alloc) | exact HK.out)) hk (.inl rfl)); have n1_ := ak (hb); have n2_ := ak (hi); clear HK HB HI0; have HK := n0_; have HB := n1_; have HI0 := n2_; clear n0_ n1_ n2_; (try clear hb); (try clear hb2); (try clear hk); (try clear hi)) | (go_at_call 93; (with_reducible refine (field_GF_in.calls g t132 t133 s0_2 t134 s0_4 s0_5 a2 t135 t136 t137 t138 w0 _ ?side1 ?side2 A5.out).mono ?_); (case side1 => repeat (first | (with_reducible first | exact HI0.out | apply IsS109.alloc | apply IsS109.drewN | apply IsS109.drew | apply IsS109.set_0 | apply IsS109.set_1 | apply IsS109.set_3) | exact HI0.out)); (case side2 => repeat (first | (with_reducible first | exact HB.out | apply bal | apply pbn | apply bd1 | refine bst ?_ (IsS109.ge HI0.out)) | exact HB.out)); rintro e w8 ⟨rfl, hi, hb, hk⟩; have n0_ := ak (KeepBut.trans (by repeat (first | (with_reducible first | exact HK.out | apply KeepBut.set_ | apply keep_drewN | apply keep_drew | apply keep_alloc) | exact HK.out)) hk (.inl rfl)); have n1_ := ak (hb); have n2_ := ak (hi); clear HK HB HI0; have HK := n0_; have HB := n1_; have HI0 := n2_; clear n0_ n1_ n2_; (try clear hb); (try clear hb2); (try clear hk); (try clear hi); obtain ⟨ASz9_2, cSz9_2, ASz9_4, cSz9_4, ASz9_5, cSz9_5, HGz9, hgz9, HSz9_2, HSz9_4, HSz9_5⟩ := HI0.out; have hcz9_0 := cellS109_0 HGz9; have hcz9_1 := cellS109_1 HGz9; have hcz9_2 := cellS109_2 HGz9; have hcz9_3 := cellS109_3 HGz9; have hcz9_4 := cellS109_4 HGz9; have hcz9_5 := cellS109_5 HGz9; have hfz9_0 := kfz HGz9 0; have hfz9_1 := kfz HGz9 1; have hfz9_3 := kfz HGz9 3; clear HGz9 hgz9)); try go_wp2_with (first | (go_at_call 93; (with_reducible refine (field_GF_in.calls g s0_0 s0_1 s0_2 s0_3 s0_4 s0_5 a1 t131 t132 t133 t134 w0 _ ?side1 ?side2 A4.out).mono ?_); (case side1 => repeat (first | (with_reducible first | exact HI0.out | apply IsS109.alloc | apply IsS109.drewN | apply IsS109.drew | apply IsS109.set_0 | apply IsS109.set_1 | apply IsS109.set_3) | exact HI0.out)); (case side2 => repeat (first | (with_reducible first | exact HB.out | apply bal | apply pbn | apply bd1 | refine bst ?_ (IsS109.ge HI0.out)) | exact HB.out)); rintro e w7 ⟨rfl, hi, hb, hk⟩; have n0_ := ak (KeepBut.trans (by repeat (first | (with_reducible first | exact HK.out | apply KeepBut.set_ | apply keep_drewN | apply keep_drew | apply keep_alloc) | exact HK.out)) hk (.inl rfl)); have n1_ := ak (hb); have n2_ := ak (hi); clear HK HB HI0; have HK := n0_; have HB := n1_; have HI0 := n2_; clear n0_ n1_ n2_; (try clear hb); (try clear hb2); (try clear hk); (try clear hi)) | (go_at_call 93; (with_reducible refine (field_GF_in.calls g t132 t133 s0_2 t134 s0_4 s0_5 a2 t135 t136 t137 t138 w0 _ ?side1 ?side2 A5.out).mono ?_); (case side1 => repeat (first | (with_reducible first | exact HI0.out | apply IsS109.alloc | apply IsS109.drewN | apply IsS109.drew | apply IsS109.set_0 | apply IsS109.set_1 | apply IsS109.set_3) | exact HI0.out)); (case side2 => repeat (first | (with_reducible first | exact HB.out | apply bal | apply pbn | apply bd1 | refine bst ?_ (IsS109.ge HI0.out)) | exact HB.out)); rintro e w8 ⟨rfl, hi, hb, hk⟩; have n0_ := ak (KeepBut.trans (by repeat (first | (with_reducible first | exact HK.out | apply KeepBut.set_ | apply keep_drewN | apply keep_drew | apply keep_alloc) | exact HK.out)) hk (.inl rfl)); have n1_ := ak (hb); have n2_ := ak (hi); clear HK HB HI0; have HK := n0_; have HB := n1_; have HI0 := n2_; clear n0_ n1_ n2_; (try clear hb); (try clear hb2); (try clear hk); (try clear hi); obtain ⟨ASz9_2, cSz9_2, ASz9_4, cSz9_4, ASz9_5, cSz9_5, HGz9, hgz9, HSz9_2, HSz9_4, HSz9_5⟩ := HI0.out; have hcz9_0 := cellS109_0 HGz9; have hcz9_1 := cellS109_1 HGz9; have hcz9_2 := cellS109_2 HGz9; have hcz9_3 := cellS109_3 HGz9; have hcz9_4 := cellS109_4 HGz9; have hcz9_5 := cellS109_5 HGz9; have hfz9_0 := kfz HGz9 0; have hfz9_1 := kfz HGz9 1; have hfz9_3 := kfz HGz9 3; clear HGz9 hgz9)))
  go_ret
  exact ⟨by first | rfl | (simp <;> rfl) | (simp [*] <;> rfl), by repeat (first | (with_reducible first | exact HI0.out | apply IsS109.alloc | apply IsS109.drewN | apply IsS109.drew | apply IsS109.set_0 | apply IsS109.set_1 | apply IsS109.set_3) | exact HI0.out), by repeat (first | (with_reducible first | exact HB.out | apply bal | apply pbn | apply bd1 | refine bst ?_ (IsS109.ge HI0.out)) | exact HB.out), by repeat (first | (with_reducible first | exact HK.out | apply KeepBut.set_ | apply keep_drewN | apply keep_drew | apply keep_alloc) | exact HK.out)⟩
 ·rw [if_neg c6] at H
  have c6b0 : (t136 == 2) = false := bqm c6
  have c6b1 : (t136 != 2) = true := bne_iff_ne.mpr c6
  have H' := ak H
  clear H
  go_enter Try.func92, Try.ntmps92
  go_wp2_with (first | (go_at_call 93; (with_reducible refine (field_GF_in.calls g s0_0 s0_1 s0_2 s0_3 s0_4 s0_5 a1 t131 t132 t133 t134 w0 _ ?side1 ?side2 A4.out).mono ?_); (case side1 => repeat (first | (with_reducible first | exact HI0.out | apply IsS109.alloc | apply IsS109.drewN | apply IsS109.drew | apply IsS109.set_0 | apply IsS109.set_1 | apply IsS109.set_3) | exact HI0.out)); (case side2 => repeat (first | (with_reducible first | exact HB.out | apply bal | apply pbn | apply bd1 | refine bst ?_ (IsS109.ge HI0.out)) | exact HB.out)); rintro e w10 ⟨rfl, hi, hb, hk⟩; have n0_ := ak (KeepBut.trans (by repeat (first | (with_reducible first | exact HK.out | apply KeepBut.set_ | apply keep_drewN | apply keep_drew | apply keep_alloc) | exact HK.out)) hk (.inl rfl)); have n1_ := ak (hb); have n2_ := ak (hi); clear HK HB HI0; have HK := n0_; have HB := n1_; have HI0 := n2_; clear n0_ n1_ n2_; (try clear hb); (try clear hb2); (try clear hk); (try clear hi)) | (go_at_call 93; (with_reducible refine (field_GF_in.calls g t132 t133 s0_2 t134 s0_4 s0_5 a2 t135 t136 t137 t138 w0 _ ?side1 ?side2 A5.out).mono ?_); (case side1 => repeat (first | (with_reducible first | exact HI0.out | apply IsS109.alloc | apply IsS109.drewN | apply IsS109.drew | apply IsS109.set_0 | apply IsS109.set_1 | apply IsS109.set_3) | exact HI0.out)); (case side2 => repeat (first | (with_reducible first | exact HB.out | apply bal | apply pbn | apply bd1 | refine bst ?_ (IsS109.ge HI0.out)) | exact HB.out)); rintro e w11 ⟨rfl, hi, hb, hk⟩; have n0_ := ak (KeepBut.trans (by repeat (first | (with_reducible first | exact HK.out | apply KeepBut.set_ | apply keep_drewN | apply keep_drew | apply keep_alloc) | exact HK.out)) hk (.inl rfl)); have n1_ := ak (hb); have n2_ := ak (hi); clear HK HB HI0; have HK := n0_; have HB := n1_; have HI0 := n2_; clear n0_ n1_ n2_; (try clear hb); (try clear hb2); (try clear hk); (try clear hi); obtain ⟨ASz12_2, cSz12_2, ASz12_4, cSz12_4, ASz12_5, cSz12_5, HGz12, hgz12, HSz12_2, HSz12_4, HSz12_5⟩ := HI0.out; have hcz12_0 := cellS109_0 HGz12; have hcz12_1 := cellS109_1 HGz12; have hcz12_2 := cellS109_2 HGz12; have hcz12_3 := cellS109_3 HGz12; have hcz12_4 := cellS109_4 HGz12; have hcz12_5 := cellS109_5 HGz12; have hfz12_0 := kfz HGz12 0; have hfz12_1 := kfz HGz12 1; have hfz12_3 := kfz HGz12 3; clear HGz12 hgz12))
  repeat (go_quiet (first | (go_at_call 93; (with_reducible refine (field_GF_in.calls g s0_0 s0_1 s0_2 s0_3 s0_4 s0_5 a1 t131 t132 t133 t134 w0 _ ?side1 ?side2 A4.out).mono ?_); (case side1 => repeat (first | (with_reducible first | exact HI0.out | apply IsS109.alloc | apply IsS109.drewN | apply IsS109.drew | apply IsS109.set_0 | apply IsS109.set_1 | apply IsS109.set_3) | exact HI0.out)); (case side2 => repeat (first | (with_reducible first | exact HB.out | apply bal | apply pbn | apply bd1 | refine bst ?_ (IsS109.ge HI0.out)) | exact HB.out)); rintro e w10 ⟨rfl, hi, hb, hk⟩; have n0_ := ak (KeepBut.trans (by repeat (first | (with_reducible first | exact HK.out | apply KeepBut.set_ | apply keep_drewN | apply keep_drew | apply keep_alloc) | exact HK.out)) hk (.inl rfl)); have n1_ := ak (hb); have n2_ := ak (hi); clear HK HB HI0; have HK := n0_; have HB := n1_; have HI0 := n2_; clear n0_ n1_ n2_; (try clear hb); (try clear hb2); (try clear hk); (try clear hi)) | (go_at_call 93; (with_reducible refine (field_GF_in.calls g t132 t133 s0_2 t134 s0_4 s0_5 a2 t135 t136 t137 t138 w0 _ ?side1 ?side2 A5.out).mono ?_); (case side1 => repeat (first | (with_reducible first | exact HI0.out | apply IsS109.alloc | apply IsS109.drewN | apply IsS109.drew | apply IsS109.set_0 | apply IsS109.set_1 | apply IsS109.set_3) | exact HI0.out)); (case side2 => repeat (first | (with_reducible first | exact HB.out | apply bal | apply pbn | apply bd1 | refine bst ?_ (IsS109.ge HI0.out)) | exact HB.out)); rintro e w11 ⟨rfl, hi, hb, hk⟩; have n0_ := ak (KeepBut.trans (by repeat (first | (with_reducible first | exact HK.out | apply KeepBut.set_ | apply keep_drewN | apply keep_drew | apply keep_alloc) | exact HK.out)) hk (.inl rfl)); have n1_ := ak (hb); have n2_ := ak (hi); clear HK HB HI0; have HK := n0_; have HB := n1_; have HI0 := n2_; clear n0_ n1_ n2_; (try clear hb); (try clear hb2); (try clear hk); (try clear hi); obtain ⟨ASz12_2, cSz12_2, ASz12_4, cSz12_4, ASz12_5, cSz12_5, HGz12, hgz12, HSz12_2, HSz12_4, HSz12_5⟩ := HI0.out; have hcz12_0 := cellS109_0 HGz12; have hcz12_1 := cellS109_1 HGz12; have hcz12_2 := cellS109_2 HGz12; have hcz12_3 := cellS109_3 HGz12; have hcz12_4 := cellS109_4 HGz12; have hcz12_5 := cellS109_5 HGz12; have hfz12_0 := kfz HGz12 0; have hfz12_1 := kfz HGz12 1; have hfz12_3 := kfz HGz12 3; clear HGz12 hgz12)); try go_wp2_with (first | (go_at_call 93; (with_reducible refine (field_GF_in.calls g s0_0 s0_1 s0_2 s0_3 s0_4 s0_5 a1 t131 t132 t133 t134 w0 _ ?side1 ?side2 A4.out).mono ?_); (case side1 => repeat (first | (with_reducible first | exact HI0.out | apply IsS109.alloc | apply IsS109.drewN | apply IsS109.drew | apply IsS109.set_0 | apply IsS109.set_1 | apply IsS109.set_3) | exact HI0.out)); (case side2 => repeat (first | (with_reducible first | exact HB.out | apply bal | apply pbn | apply bd1 | refine bst ?_ (IsS109.ge HI0.out)) | exact HB.out)); rintro e w10 ⟨rfl, hi, hb, hk⟩; have n0_ := ak (KeepBut.trans (by repeat (first | (with_reducible first | exact HK.out | apply KeepBut.set_ | apply keep_drewN | apply keep_drew | apply keep_alloc) | exact HK.out)) hk (.inl rfl)); have n1_ := ak (hb); have n2_ := ak (hi); clear HK HB HI0; have HK := n0_; have HB := n1_; have HI0 := n2_; clear n0_ n1_ n2_; (try clear hb); (try clear hb2); (try clear hk); (try clear hi)) | (go_at_call 93; (with_reducible refine (field_GF_in.calls g t132 t133 s0_2 t134 s0_4 s0_5 a2 t135 t136 t137 t138 w0 _ ?side1 ?side2 A5.out).mono ?_); (case side1 => repeat (first | (with_reducible first | exact HI0.out | apply IsS109.alloc | apply IsS109.drewN | apply IsS109.drew | apply IsS109.set_0 | apply IsS109.set_1 | apply IsS109.set_3) | exact HI0.out)); (case side2 => repeat (first | (with_reducible first | exact HB.out | apply bal | apply pbn | apply bd1 | refine bst ?_ (IsS109.ge HI0.out)) | exact HB.out)); rintro e w11 ⟨rfl, hi, hb, hk⟩; have n0_ := ak (KeepBut.trans (by repeat (first | (with_reducible first | exact HK.out | apply KeepBut.set_ | apply keep_drewN | apply keep_drew | apply keep_alloc) | exact HK.out)) hk (.inl rfl)); have n1_ := ak (hb); have n2_ := ak (hi); clear HK HB HI0; have HK := n0_; have HB := n1_; have HI0 := n2_; clear n0_ n1_ n2_; (try clear hb); (try clear hb2); (try clear hk); (try clear hi); obtain ⟨ASz12_2, cSz12_2, ASz12_4, cSz12_4, ASz12_5, cSz12_5, HGz12, hgz12, HSz12_2, HSz12_4, HSz12_5⟩ := HI0.out; have hcz12_0 := cellS109_0 HGz12; have hcz12_1 := cellS109_1 HGz12; have hcz12_2 := cellS109_2 HGz12; have hcz12_3 := cellS109_3 HGz12; have hcz12_4 := cellS109_4 HGz12; have hcz12_5 := cellS109_5 HGz12; have hfz12_0 := kfz HGz12 0; have hfz12_1 := kfz HGz12 1; have hfz12_3 := kfz HGz12 3; clear HGz12 hgz12)))
  go_loopg [1, 2, 7, 8] k (fun kq v1 v2 v7 v8 w' => ∃ (x1_1 : Int) (x2_1 : Int) (x7_1 : Int) (x8_1 : Int), v1 = .int .i64 x1_1 ∧ v2 = .int .i64 x2_1 ∧ v7 = .int .i64 x7_1 ∧ v8 = .int .i64 x8_1 ∧ Aside0 (field_GF_Add.l0 kq x1_1 x2_1 x7_1 x8_1 t136 t137 s0_2 t138 s0_4 s0_5 = some (r1, r2, r3, r4)) ∧ Aside0 (kq ≤ k) ∧ Aside0 (IsS109 w0 w' g t136 t137 s0_2 t138 s0_4 s0_5) ∧ Aside0 (KeepBut w w' g none) ∧ Aside0 (Below w0.heap.size w0 w'))
  case atStart => exact ⟨(t131), (t135), (0), (1), (by first | rfl | (simp; done) | (simp [*]; done)), (by first | rfl | (simp; done) | (simp [*]; done)), (by first | rfl | (simp; done) | (simp [*]; done)), (by first | rfl | (simp; done) | (simp [*]; done)), H', ⟨Nat.le_refl _⟩, ⟨by repeat (first | (with_reducible first | exact HI0.out | apply IsS109.alloc | apply IsS109.drewN | apply IsS109.drew | apply IsS109.set_0 | apply IsS109.set_1 | apply IsS109.set_3) | exact HI0.out)⟩, ⟨by repeat (first | (with_reducible first | exact HK.out | apply KeepBut.set_ | apply keep_drewN | apply keep_drew | apply keep_alloc) | exact HK.out)⟩, ⟨by repeat (first | (with_reducible first | exact HB.out | apply bal | apply pbn | apply bd1 | refine bst ?_ (IsS109.ge HI0.out)) | exact HB.out)⟩⟩
  case round =>
   clear H'
   obtain ⟨x1_1, x2_1, x7_1, x8_1, rfl, rfl, rfl, rfl, HA, HK1, HI0, HK, HB⟩ := hrel
   cases gk with
   | zero => exact absurd HA.out (by simp [field_GF_Add.l0])
   | succ k1 =>
    have H := HA.out
    clear HA
    simp only [field_GF_Add.l0] at H
    by_cases c13 : x1_1 > 0
    ·rw [if_pos c13] at H
     have c13b0 : decide (0 < x1_1) = true := det c13
     clear c13
     by_cases c14 : t136 = 0
     ·rw [if_pos c14] at H
      exact absurd H (by simp)
     ·rw [if_neg c14] at H
      have c14b0 : (t136 == 0) = false := bqm c14
      have c14b1 : (t136 != 0) = true := bne_iff_ne.mpr c14
      have H' := ak H
      clear H
      obtain ⟨ASz15_2, cSz15_2, ASz15_4, cSz15_4, ASz15_5, cSz15_5, HGz15, hgz15, HSz15_2, HSz15_4, HSz15_5⟩ := HI0.out
      have hcz15_0 := cellS109_0 HGz15
      have hcz15_1 := cellS109_1 HGz15
      have hcz15_2 := cellS109_2 HGz15
      have hcz15_3 := cellS109_3 HGz15
      have hcz15_4 := cellS109_4 HGz15
      have hcz15_5 := cellS109_5 HGz15
      have hfz15_0 := kfz HGz15 0
      have hfz15_1 := kfz HGz15 1
      have hfz15_3 := kfz HGz15 3
      clear HGz15 hgz15
      go_wp2
      repeat (go_quiet (fail); try go_wp2)
      go_roundg k1
      case measure => have := HK1.out; omega
      case rel => exact ⟨(wrap64 (Int.tdiv x1_1 t136)), (wrap64 (Int.tdiv x2_1 t136)), (wrap64 (x7_1 + (wrap64 ((Int.tmod (wrap64 ((Int.tmod x1_1 t136) + (Int.tmod x2_1 t136))) t136) * x8_1)))), (wrap64 (x8_1 * t136)), (by first | rfl | (simp; done) | (simp [*]; done)), (by first | rfl | (simp; done) | (simp [*]; done)), (by first | rfl | (simp; done) | (simp [*]; done)), (by first | rfl | (simp; done) | (simp [*]; done)), H', ⟨by have := HK1.out; omega⟩, ⟨by repeat (first | (with_reducible first | exact HI0.out | apply IsS109.alloc | apply IsS109.drewN | apply IsS109.drew | apply IsS109.set_0 | apply IsS109.set_1 | apply IsS109.set_3) | exact HI0.out)⟩, ⟨by repeat (first | (with_reducible first | exact HK.out | apply KeepBut.set_ | apply keep_drewN | apply keep_drew | apply keep_alloc) | exact HK.out)⟩, ⟨by repeat (first | (with_reducible first | exact HB.out | apply bal | apply pbn | apply bd1 | refine bst ?_ (IsS109.ge HI0.out)) | exact HB.out)⟩⟩
    ·rw [if_neg c13] at H
     have c13b0 : decide (0 < x1_1) = false := dff c13
     clear c13
     by_cases c16 : x2_1 > 0
     ·rw [if_pos c16] at H
      have c16b0 : decide (0 < x2_1) = true := det c16
      clear c16
      by_cases c17 : t136 = 0
      ·rw [if_pos c17] at H
       exact absurd H (by simp)
      ·rw [if_neg c17] at H
       have c17b0 : (t136 == 0) = false := bqm c17
       have c17b1 : (t136 != 0) = true := bne_iff_ne.mpr c17
       have H' := ak H
       clear H
       obtain ⟨ASz18_2, cSz18_2, ASz18_4, cSz18_4, ASz18_5, cSz18_5, HGz18, hgz18, HSz18_2, HSz18_4, HSz18_5⟩ := HI0.out
       have hcz18_0 := cellS109_0 HGz18
       have hcz18_1 := cellS109_1 HGz18
       have hcz18_2 := cellS109_2 HGz18
       have hcz18_3 := cellS109_3 HGz18
       have hcz18_4 := cellS109_4 HGz18
       have hcz18_5 := cellS109_5 HGz18
       have hfz18_0 := kfz HGz18 0
       have hfz18_1 := kfz HGz18 1
       have hfz18_3 := kfz HGz18 3
       clear HGz18 hgz18
       go_wp2
       repeat (go_quiet (fail); try go_wp2)
       go_roundg k1
       case measure => have := HK1.out; omega
       case rel => exact ⟨(wrap64 (Int.tdiv x1_1 t136)), (wrap64 (Int.tdiv x2_1 t136)), (wrap64 (x7_1 + (wrap64 ((Int.tmod (wrap64 ((Int.tmod x1_1 t136) + (Int.tmod x2_1 t136))) t136) * x8_1)))), (wrap64 (x8_1 * t136)), (by first | rfl | (simp; done) | (simp [*]; done)), (by first | rfl | (simp; done) | (simp [*]; done)), (by first | rfl | (simp; done) | (simp [*]; done)), (by first | rfl | (simp; done) | (simp [*]; done)), H', ⟨by have := HK1.out; omega⟩, ⟨by repeat (first | (with_reducible first | exact HI0.out | apply IsS109.alloc | apply IsS109.drewN | apply IsS109.drew | apply IsS109.set_0 | apply IsS109.set_1 | apply IsS109.set_3) | exact HI0.out)⟩, ⟨by repeat (first | (with_reducible first | exact HK.out | apply KeepBut.set_ | apply keep_drewN | apply keep_drew | apply keep_alloc) | exact HK.out)⟩, ⟨by repeat (first | (with_reducible first | exact HB.out | apply bal | apply pbn | apply bd1 | refine bst ?_ (IsS109.ge HI0.out)) | exact HB.out)⟩⟩
     ·rw [if_neg c16] at H
      have c16b0 : decide (0 < x2_1) = false := dff c16
      clear c16
      simp only [Option.some.injEq, Prod.mk.injEq] at H
      obtain ⟨rfl, rfl, rfl, rfl⟩ := H
      go_wp2
      repeat (go_quiet (fail); try go_wp2)
      go_ret
      exact ⟨by first | rfl | (simp <;> rfl) | (simp [*] <;> rfl), by repeat (first | (with_reducible first | exact HI0.out | apply IsS109.alloc | apply IsS109.drewN | apply IsS109.drew | apply IsS109.set_0 | apply IsS109.set_1 | apply IsS109.set_3) | exact HI0.out), by repeat (first | (with_reducible first | exact HB.out | apply bal | apply pbn | apply bd1 | refine bst ?_ (IsS109.ge HI0.out)) | exact HB.out), by repeat (first | (with_reducible first | exact HK.out | apply KeepBut.set_ | apply keep_drewN | apply keep_drew | apply keep_alloc) | exact HK.out)⟩
def field_GF_Neg.l0 : Nat → Int → Int → Int → Int → Int → List Int → Int → List Int → List Int → Option (Int × Int × Int × Int)
 | 0, _, _, _, _, _, _, _, _, _ => none
 | k + 1, x1, x5, x6, x1000, x1001, x1002, x1003, x1004, x1005 => if x1 > 0 then (if x1000 = 0 then (none) else (field_GF_Neg.l0 k (wrap64 (Int.tdiv x1 x1000)) (wrap64 (x5 + (wrap64 ((Int.tmod (wrap64 (x1000 - (Int.tmod x1 x1000))) x1000) * x6)))) (wrap64 (x6 * x1000)) x1000 x1001 x1002 x1003 x1004 x1005)) else (some (x5, x1000, x1001, x1003))
def field_GF_Neg.f (k : Nat) (s0_0 : Int) (s0_1 : Int) (s0_2 : List Int) (s0_3 : Int) (s0_4 : List Int) (s0_5 : List Int) (a1 : Int) : Option (Int × Int × Int × Int) := (field_GF_in.f s0_0 s0_1 s0_2 s0_3 s0_4 s0_5 a1).bind fun bt149 => (field_GF_Neg.l0 k bt149.1 0 1 bt149.2.1 bt149.2.2.1 s0_2 bt149.2.2.2 s0_4 s0_5)
theorem field_GF_Neg.calls (k : Nat) (g : Nat) (s0_0 : Int) (s0_1 : Int) (s0_2 : List Int) (s0_3 : Int) (s0_4 : List Int) (s0_5 : List Int) (a1 : Int) (r1 : Int) (r2 : Int) (r3 : Int) (r4 : Int) (w0 w : World) (hI : IsS109 w0 w g s0_0 s0_1 s0_2 s0_3 s0_4 s0_5) (hB : Below w0.heap.size w0 w) (h : field_GF_Neg.f k s0_0 s0_1 s0_2 s0_3 s0_4 s0_5 a1 = some (r1, r2, r3, r4)) :
  Calls Try.prog 69 #[.pointer (some ⟨g, 0, none⟩), .int .i64 a1] w fun e w' => e = .returned (.int .i64 r1) ∧ IsS109 w0 w' g r2 r3 s0_2 r4 s0_4 s0_5 ∧ Below w0.heap.size w0 w' ∧ KeepBut w w' g none := by
 have HI0 := ak hI
 have HK := ak (KeepBut.refl w g none)
 have HL := ak hB.size
 clear hI
 have HW0 := ak hB.size
 have HB := ak hB
 clear hB
 have H : ((field_GF_in.f s0_0 s0_1 s0_2 s0_3 s0_4 s0_5 a1).bind fun bt149 => (field_GF_Neg.l0 k bt149.1 0 1 bt149.2.1 bt149.2.2.1 s0_2 bt149.2.2.2 s0_4 s0_5)) = some (r1, r2, r3, r4) := h
 clear h
 replace H := obm H
 obtain ⟨⟨t149, t150, t151, t152⟩, A30, H⟩ := H
 replace H : (field_GF_Neg.l0 k t149 0 1 t150 t151 s0_2 t152 s0_4 s0_5) = some (r1, r2, r3, r4) := H
 have A3 := ak A30
 clear A30
 have H' := ak H
 clear H
 go_enter Try.func69, Try.ntmps69
 go_wp2_with (first | (go_at_call 93; (with_reducible refine (field_GF_in.calls g s0_0 s0_1 s0_2 s0_3 s0_4 s0_5 a1 t149 t150 t151 t152 w0 _ ?side1 ?side2 A3.out).mono ?_); (case side1 => repeat (first | (with_reducible first | exact HI0.out | apply IsS109.alloc | apply IsS109.drewN | apply IsS109.drew | apply IsS109.set_0 | apply IsS109.set_1 | apply IsS109.set_3) | exact HI0.out)); (case side2 => repeat (first | (with_reducible first | exact HB.out | apply bal | apply pbn | apply bd1 | refine bst ?_ (IsS109.ge HI0.out)) | exact HB.out)); rintro e w4 ⟨rfl, hi, hb, hk⟩; have n0_ := ak (KeepBut.trans (by repeat (first | (with_reducible first | exact HK.out | apply KeepBut.set_ | apply keep_drewN | apply keep_drew | apply keep_alloc) | exact HK.out)) hk (.inl rfl)); have n1_ := ak (hb); have n2_ := ak (hi); clear HK HB HI0; have HK := n0_; have HB := n1_; have HI0 := n2_; clear n0_ n1_ n2_; (try clear hb); (try clear hb2); (try clear hk); (try clear hi)))
 repeat (go_quiet (first | (go_at_call 93; (with_reducible refine (field_GF_in.calls g s0_0 s0_1 s0_2 s0_3 s0_4 s0_5 a1 t149 t150 t151 t152 w0 _ ?side1 ?side2 A3.out).mono ?_); (case side1 => repeat (first | (with_reducible first | exact HI0.out | apply IsS109.alloc | apply IsS109.drewN | apply IsS109.drew | apply IsS109.set_0 | apply IsS109.set_1 | apply IsS109.set_3) | exact HI0.out)); (case side2 => repeat (first | (with_reducible first | exact HB.out | apply bal | apply pbn | apply bd1 | refine bst ?_ (IsS109.ge HI0.out)) | exact HB.out)); rintro e w4 ⟨rfl, hi, hb, hk⟩; have n0_ := ak (KeepBut.trans (by repeat (first | (with_reducible first | exact HK.out | apply KeepBut.set_ | apply keep_drewN | apply keep_drew | apply keep_alloc) | exact HK.out)) hk (.inl rfl)); have n1_ := ak (hb); have n2_ := ak (hi); clear HK HB HI0; have HK := n0_; have HB := n1_; have HI0 := n2_; clear n0_ n1_ n2_; (try clear hb); (try clear hb2); (try clear hk); (try clear hi))); try go_wp2_with (first | (go_at_call 93; (with_reducible refine (field_GF_in.calls g s0_0 s0_1 s0_2 s0_3 s0_4 s0_5 a1 t149 t150 t151 t152 w0 _ ?side1 ?side2 A3.out).mono ?_); (case side1 => repeat (first | (with_reducible first | exact HI0.out | apply IsS109.alloc | apply IsS109.drewN | apply IsS109.drew | apply IsS109.set_0 | apply IsS109.set_1 | apply IsS109.set_3) | exact HI0.out)); (case side2 => repeat (first | (with_reducible first | exact HB.out | apply bal | apply pbn | apply bd1 | refine bst ?_ (IsS109.ge HI0.out)) | exact HB.out)); rintro e w4 ⟨rfl, hi, hb, hk⟩; have n0_ := ak (KeepBut.trans (by repeat (first | (with_reducible first | exact HK.out | apply KeepBut.set_ | apply keep_drewN | apply keep_drew | apply keep_alloc) | exact HK.out)) hk (.inl rfl)); have n1_ := ak (hb); have n2_ := ak (hi); clear HK HB HI0; have HK := n0_; have HB := n1_; have HI0 := n2_; clear n0_ n1_ n2_; (try clear hb); (try clear hb2); (try clear hk); (try clear hi))))
 go_loopg [1, 5, 6] k (fun kq v1 v5 v6 w' => ∃ (x1_1 : Int) (x5_1 : Int) (x6_1 : Int), v1 = .int .i64 x1_1 ∧ v5 = .int .i64 x5_1 ∧ v6 = .int .i64 x6_1 ∧ Aside0 (field_GF_Neg.l0 kq x1_1 x5_1 x6_1 t150 t151 s0_2 t152 s0_4 s0_5 = some (r1, r2, r3, r4)) ∧ Aside0 (kq ≤ k) ∧ Aside0 (IsS109 w0 w' g t150 t151 s0_2 t152 s0_4 s0_5) ∧ Aside0 (KeepBut w w' g none) ∧ Aside0 (Below w0.heap.size w0 w'))
 case atStart => exact ⟨(t149), (0), (1), (by first | rfl | (simp; done) | (simp [*]; done)), (by first | rfl | (simp; done) | (simp [*]; done)), (by first | rfl | (simp; done) | (simp [*]; done)), H', ⟨Nat.le_refl _⟩, ⟨by repeat (first | (with_reducible first | exact HI0.out | apply IsS109.alloc | apply IsS109.drewN | apply IsS109.drew | apply IsS109.set_0 | apply IsS109.set_1 | apply IsS109.set_3) | exact HI0.out)⟩, ⟨by repeat (first | (with_reducible first | exact HK.out | apply KeepBut.set_ | apply keep_drewN | apply keep_drew | apply keep_alloc) | exact HK.out)⟩, ⟨by repeat (first | (with_reducible first | exact HB.out | apply bal | apply pbn | apply bd1 | refine bst ?_ (IsS109.ge HI0.out)) | exact HB.out)⟩⟩
 case round =>
  clear H'
  obtain ⟨x1_1, x5_1, x6_1, rfl, rfl, rfl, HA, HK1, HI0, HK, HB⟩ := hrel
  cases gk with
  | zero => exact absurd HA.out (by simp [field_GF_Neg.l0])
  | succ k1 =>
   have H := HA.out
   clear HA
   simp only [field_GF_Neg.l0] at H
   by_cases c5 : x1_1 > 0
   ·rw [if_pos c5] at H
    have c5b0 : decide (0 < x1_1) = true := det c5
    clear c5
    by_cases c6 : t150 = 0
    ·rw [if_pos c6] at H
     exact absurd H (by simp)
    ·rw [if_neg c6] at H
     have c6b0 : (t150 == 0) = false := bqm c6
     have c6b1 : (t150 != 0) = true := bne_iff_ne.mpr c6
     have H' := ak H
     clear H
     obtain ⟨ASz7_2, cSz7_2, ASz7_4, cSz7_4, ASz7_5, cSz7_5, HGz7, hgz7, HSz7_2, HSz7_4, HSz7_5⟩ := HI0.out
     have hcz7_0 := cellS109_0 HGz7
     have hcz7_1 := cellS109_1 HGz7
     have hcz7_2 := cellS109_2 HGz7
     have hcz7_3 := cellS109_3 HGz7
     have hcz7_4 := cellS109_4 HGz7
     have hcz7_5 := cellS109_5 HGz7
     have hfz7_0 := kfz HGz7 0
     have hfz7_1 := kfz HGz7 1
     have hfz7_3 := kfz HGz7 3
     clear HGz7 hgz7
     go_wp2
     repeat (go_quiet (fail); try go_wp2)
     go_roundg k1
     case measure => have := HK1.out; omega
     case rel => exact ⟨(wrap64 (Int.tdiv x1_1 t150)), (wrap64 (x5_1 + (wrap64 ((Int.tmod (wrap64 (t150 - (Int.tmod x1_1 t150))) t150) * x6_1)))), (wrap64 (x6_1 * t150)), (by first | rfl | (simp; done) | (simp [*]; done)), (by first | rfl | (simp; done) | (simp [*]; done)), (by first | rfl | (simp; done) | (simp [*]; done)), H', ⟨by have := HK1.out; omega⟩, ⟨by repeat (first | (with_reducible first | exact HI0.out | apply IsS109.alloc | apply IsS109.drewN | apply IsS109.drew | apply IsS109.set_0 | apply IsS109.set_1 | apply IsS109.set_3) | exact HI0.out)⟩, ⟨by repeat (first | (with_reducible first | exact HK.out | apply KeepBut.set_ | apply keep_drewN | apply keep_drew | apply keep_alloc) | exact HK.out)⟩, ⟨by repeat (first | (with_reducible first | exact HB.out | apply bal | apply pbn | apply bd1 | refine bst ?_ (IsS109.ge HI0.out)) | exact HB.out)⟩⟩
   ·rw [if_neg c5] at H
    have c5b0 : decide (0 < x1_1) = false := dff c5
    clear c5
    simp only [Option.some.injEq, Prod.mk.injEq] at H
    obtain ⟨rfl, rfl, rfl, rfl⟩ := H
    go_wp2
    repeat (go_quiet (fail); try go_wp2)
    go_ret
    exact ⟨by first | rfl | (simp <;> rfl) | (simp [*] <;> rfl), by repeat (first | (with_reducible first | exact HI0.out | apply IsS109.alloc | apply IsS109.drewN | apply IsS109.drew | apply IsS109.set_0 | apply IsS109.set_1 | apply IsS109.set_3) | exact HI0.out), by repeat (first | (with_reducible first | exact HB.out | apply bal | apply pbn | apply bd1 | refine bst ?_ (IsS109.ge HI0.out)) | exact HB.out), by repeat (first | (with_reducible first | exact HK.out | apply KeepBut.set_ | apply keep_drewN | apply keep_drew | apply keep_alloc) | exact HK.out)⟩
end Go.Proofs.Ytkifipakikbhcaa.Gf
namespace Go.Proofs.Ytkifipakikbhcaa.Hand
open Ytkifipakikbhcaa.Ref Ytkifipakikbhcaa.Pg
open Go.RowKit YtkifipakikbhcaaW.PrintWords YtkifipakikbhcaaW.PrintLast YtkifipakikbhcaaW.PrintMore
attribute [local go_sem ↓] Go.wp_at_zero Go.wp_at_succ
def logL : List Int → Nat → List Int → List Int
 | [], _, l => l
 | x :: e, n, l => logL e (n + 1) (l.set x.toNat n)
theorem cells3_below {W W' : World} {a b c : Addr} {s t u : Value} (h : W.cell? a = some s ∧ W.cell? b = some t ∧ W.cell? c = some u) (hb : Below W.heap.size W W') :
  W'.cell? a = some s ∧ W'.cell? b = some t ∧ W'.cell? c = some u := ⟨cbl h.1 hb, cbl h.2.1 hb, cbl h.2.2 hb⟩
theorem cells3_grown {W W' : World} {g : Nat} {r : Option Nat} {i j k : Nat} {s t u : Value} (h : W.cell? ⟨g, i, none⟩ = some s ∧ W.cell? ⟨g, j, none⟩ = some t ∧ W.cell? ⟨g, k, none⟩ = some u) (hg : W.grownBy W' r) (hr : some g ≠ r) :
  W'.cell? ⟨g, i, none⟩ = some s ∧ W'.cell? ⟨g, j, none⟩ = some t ∧ W'.cell? ⟨g, k, none⟩ = some u := ⟨cell_grown hg h.1 hr, cell_grown hg h.2.1 hr, cell_grown hg h.2.2 hr⟩
theorem own_ne_new {W : World} {v u : Value} {base e : Nat} {ok : Nat → Prop} {xs : List Int} (hn : ∃ b, v.ownBlock = some b ∧ W.heap.size ≤ b) (h : Kd.R (Kd.int .i64) e W base ok u xs) : ∀ k, v.ownBlock = some k → some k ≠ u.ownBlock := by
 obtain ⟨b, hb, hle⟩ := hn
 intro k hk he
 have e1 := osi (hb.symm.trans hk)
 subst e1
 exact Nat.lt_irrefl _ (Nat.lt_of_lt_of_le (Kd.R_lt h b he.symm) hle)
theorem own_ne_flip {v u : Value} (h : ∀ k, v.ownBlock = some k → some k ≠ u.ownBlock) : ∀ k, u.ownBlock = some k → some k ≠ v.ownBlock := fun k hk he => h k he.symm hk.symm
theorem new_ne_lt {W : World} {v : Value} {g : Nat} (hn : ∃ b, v.ownBlock = some b ∧ W.heap.size ≤ b) (h : g < W.heap.size) : some g ≠ v.ownBlock := by
 obtain ⟨b, hb, hle⟩ := hn
 rw [hb]; intro he; have e1 := osi he; subst e1
 exact Nat.lt_irrefl _ (Nat.lt_of_lt_of_le h hle)
theorem grown_lt {W W' : World} {g : Nat} {r : Option Nat} (hg : W.grownBy W' r) (h : g < W.heap.size) : g < W'.heap.size := Nat.lt_of_lt_of_le h hg.size
def cutW (W : World) (n : Nat) : World := { W with heap := W.heap.extract 0 n }
theorem cutW_size (W : World) (n : Nat) (h : n ≤ W.heap.size) : (cutW W n).heap.size = n := by
 simp [cutW]; omega
theorem cutW_get (W : World) (n k : Nat) (h : k < n) : (cutW W n).heap[k]? = W.heap[k]? := by
 simp [cutW, Array.getElem?_extract]; intro h2; omega
theorem cutW_self (W : World) (n : Nat) : Below (cutW W n).heap.size (cutW W n) W :=
 ⟨rfl, rfl, rfl, by simp [cutW]; omega, fun i hi => (cutW_get W n i (by simp [cutW] at hi; omega)).symm⟩
theorem cutW_below {w W : World} {n : Nat} (h : Below w.heap.size w W) (hn : w.heap.size ≤ n) (hn2 : n ≤ W.heap.size) : Below w.heap.size w (cutW W n) :=
 ⟨h.os, h.tape, h.output, by rw [cutW_size W n hn2]; exact hn, fun i hi => (cutW_get W n i (Nat.lt_of_lt_of_le hi hn)).trans (h.block i hi)⟩
theorem cutW_C {W : World} {n base e c m : Nat} {ok : Nat → Prop} {A : Option Addr} {xs : List Int} (h : Kd.R (Kd.int .i64) e W base ok (.slice A m c) xs) (hl : ∀ k, (Value.slice A m c).ownBlock = some k → k < n) : Kd.C (Kd.int .i64) (cutW W n) A xs.length xs :=
 (Kd.R_reads' (Kd.R_move (Kd.R_tight rfl h) (fun k hk => cutW_get W n k (hl k hk.symm)))).2.2
theorem cutW_C' {W : World} {n base e c m : Nat} {ok : Nat → Prop} {A : Option Addr} {xs : List Int} (h : Kd.R (Kd.int .i64) e W base ok (.slice A m c) xs) (hm : xs.length = m) (hl : ∀ k, (Value.slice A m c).ownBlock = some k → k < n) : Kd.C (Kd.int .i64) (cutW W n) A m xs := by
 have := cutW_C h hl
 rw [hm] at this; exact this
theorem own_ne_hat {W : World} {v v1 u : Value} {base e : Nat} {ok : Nat → Prop} {xs : List Int} (hat : v1.ownBlock = v.ownBlock ∨ ∃ b, v1.ownBlock = some b ∧ W.heap.size ≤ b) (hn : ∀ k, v.ownBlock = some k → some k ≠ u.ownBlock) (h : Kd.R (Kd.int .i64) e W base ok u xs) : ∀ k, u.ownBlock = some k → some k ≠ v1.ownBlock := by
 rcases hat with h1 | h1
 ·rw [h1]; exact own_ne_flip hn
 ·exact own_ne_flip (own_ne_new h1 h)
theorem logL_length : ∀ (e : List Int) (n : Nat) (l : List Int), (logL e n l).length = l.length
 | [], _, _ => rfl
 | x :: e, n, l => by rw [logL, logL_length e, List.length_set]
theorem New_ok (k : Nat) (P M : Int) (A : Option Addr) (c : Nat) (md : List Int) (q : Int) (w : World) (hr : Kd.C (Kd.int .i64) w A md.length md) (hc : md.length ≤ c)
  (hs : field_shape.f k P M md = some true) (ho : field_order.f k P M = some q) (hmd : md.length ≤ 8)
  (hq : 2 ≤ q) (hq2 : q ≤ 256) (pw : Int → List Int) (one : Int → Int) (hpw : ∀ x, 1 ≤ x → x < q → field_powers.f k P M md q x = some (pw x))
  (hone : ∀ x, 1 ≤ x → x < q → ((pw x).length : Int) = q - 1 → field_multiply.f k P M md (rd (pw x) (q - 2)) x = some (one x))
  (ex : List Int) (hg : genL pw one q (q - 1).toNat 1 = ex) (hex : ex ≠ []) (hin : ∀ x ∈ ex, 0 ≤ x ∧ x < q) (hle : ex.length ≤ 256) :
  Calls Try.prog 60 #[.agg #[.int .i64 P, .int .i64 M, .slice A md.length c]] w fun e w' => ∃ (g : Nat), e = .returned (.tuple #[.pointer (some ⟨g, 0, none⟩), .int .i64 0])
   ∧ ∃ w0 : World, Go.Proofs.Ytkifipakikbhcaa.Gf.IsS109 w0 w' g P M md q ex (logL ex 0 (List.replicate q.toNat 0)) ∧ Below w.heap.size w w0 ∧ Below w0.heap.size w0 w' := by
 have hu24 := Try.underlying24
 have hu109 := Try.underlying109
 have HR := ak hr
 have HC := ak hc
 have HQ := ak (And.intro hq hq2)
 have HPW := ak hpw
 have HONE := ak hone
 have HS := ak hs
 have HOR := ak ho
 have HG := ak hg
 have HEX := ak hex
 have HIN := ak hin
 have HLE := ak hle
 have HMD := ak hmd
 have HGEN := fun W hr => ak (generator_calls k P M A c md q W hr hc hq hq2 pw one hpw hone)
 rw [hg] at HGEN
 clear hr hc hq hq2 hpw hone hs ho hg hex hin hmd hle
 have hnil := fun (W : World) (a : Option Addr) (n c : Nat) => Lib.run_eql_slice_nil (P := Try.prog) W 22 3 a n c 0 0 Try.underlying22
 go_enter Try.func60, Try.ntmps60
 go_wp2_with (first | ((with_reducible refine gate_dst (N := 1) rfl ?_); refine box_event ?hg (N := 1) ?hd (cs := #[.int .i64 P, .int .i64 M, .slice A md.length c]) (t := 24) ?hr ?_; (case hd => rfl); (case hg => rfl); (case hr => first | (go_simp; done) | (go_simp; rfl)); intro gb hgb w1 hbox hb; have HGB := ak (show w.heap.size ≤ gb by omega); have HBK := ak hbox; have HB := ak hb; clear hgb; have hcz0 : w1.cell? ⟨gb, 0, none⟩ = some (.int .i64 P) := (kce hbox 0).trans rfl; have hcz1 : w1.cell? ⟨gb, 1, none⟩ = some (.int .i64 M) := (kce hbox 1).trans rfl; have hcz2 : w1.cell? ⟨gb, 2, none⟩ = some (.slice A md.length c) := (kce hbox 2).trans rfl; clear hbox hb) | (go_at_call 85; (with_reducible refine (field_shape.calls k P M A c md true w1 ?side1 ?side2 ?side3).mono ?_); (case side1 => exact Kd.C_below HR.out HB.out); (case side2 => exact HC.out); (case side3 => exact HS.out); rintro e w2 ⟨rfl, hB⟩; have HB2 := ak hB; replace hcz0 := cbl hcz0 hB; replace hcz1 := cbl hcz1 hB; replace hcz2 := cbl hcz2 hB; clear hB) | (go_at_call 86; (with_reducible refine (field_order.calls k P M q _ HOR.out).mono ?_); rintro e w3 ⟨rfl, ⟨nd, rfl⟩⟩) | (go_at_call 87; (with_reducible refine ((HGEN (w2.drewN nd) (Kd.C_drewN (Kd.C_below (Kd.C_below HR.out HB.out) HB2.out) nd)).out).mono ?_); rintro e w4 ⟨vg, rfl, hRG, hVG, hB⟩; obtain ⟨ge, ce, rfl, hge, hgl, cl, hgc⟩ := Kd.R_form hRG (List.length_pos_iff.2 HEX.out); clear hgl hgc hge cl; have HRG := ak hRG; have HB4 := ak hB; replace hcz0 := cbl (W := w2.drewN nd) hcz0 hB; replace hcz1 := cbl (W := w2.drewN nd) hcz1 hB; replace hcz2 := cbl (W := w2.drewN nd) hcz2 hB; clear hRG hVG hB))
 obtain ⟨HS3⟩ : Nonempty (Aside0 (w4.cell? ⟨gb, 0, none⟩ = some (.int .i64 P) ∧ w4.cell? ⟨gb, 1, none⟩ = some (.int .i64 M) ∧ w4.cell? ⟨gb, 2, none⟩ = some (.slice A md.length c))) := ⟨⟨hcz0, hcz1, hcz2⟩⟩
 have HBW := ak (show Below w.heap.size w w4.drew from bd1 (bsp HB.out (bsp (w2 := w4) (W := w2.drewN nd) (pbn HB2.out nd) HB4.out)))
 have HRW := ak (Kd.R_lower (Kd.R_drew HRG.out) (show w.heap.size ≤ w2.heap.size from bsz (bsp HB.out HB2.out)))
 have HGL := ak (show gb < w4.drew.heap.size from World.block_lt_of_cell? _ _ hcz0)
 clear HRG
 refine start_ (n := 16) (S := fun w' => w'.cell? ⟨gb, 0, none⟩ = some (.int .i64 P) ∧ w'.cell? ⟨gb, 1, none⟩ = some (.int .i64 M) ∧ w'.cell? ⟨gb, 2, none⟩ = some (.slice A md.length c)) (ds := []) #[false, false, false, false, false, false, false, false, false, false, false, false, false, false, false, false] (by kernel_rfl) rfl rfl ⟨hcz0, hcz1, hcz2⟩ (fun hHeld => ?_)
 refine pure_ (i := 0) (N := some 22) (v := ?_) (a' := ?_) #[true, false, false, false, false, false, false, false, false, false, false, false, false, false, false, false] rfl rfl (by kernel_rfl) (fun _ _ _ h => h) (Or.inl ⟨by rfl, ?_⟩) ?_ ?_
 rotate_left
 ·intro w'
  go_simp
  with_reducible rfl
 rotate_left
 ·simp only [Act.put, sia, scz, scs, i64_w, i32_w]
  rfl
 refine pure_ (i := 2) (N := some 24) (v := ?_) (a' := ?_) #[true, false, true, false, false, false, false, false, false, false, false, false, false, false, false, false] rfl rfl (by kernel_rfl) (fun _ _ _ h => h) (Or.inl ⟨by rfl, ?_⟩) ?_ ?_
 rotate_left
 ·intro w'
  go_simp
  with_reducible rfl
 rotate_left
 ·simp only [Act.put, sia, scz, scs, i64_w, i32_w]
  rfl
 refine pure_ (i := 5) (N := some 27) (v := ?_) (a' := ?_) #[true, false, true, false, false, true, false, false, false, false, false, false, false, false, false, false] rfl rfl (by kernel_rfl) (fun _ _ _ h => h) (Or.inl ⟨by rfl, ?_⟩) ?_ ?_
 rotate_left
 ·intro w'
  go_simp
  with_reducible rfl
 rotate_left
 ·simp only [Act.put, sia, scz, scs, i64_w, i32_w]
  rfl
 refine pure_ (i := 9) (N := some 31) (v := ?_) (a' := ?_) #[true, false, true, false, false, true, false, false, false, true, false, false, false, false, false, false] rfl rfl (by kernel_rfl) (fun _ _ _ h => h) (Or.inl ⟨by rfl, ?_⟩) ?_ ?_
 rotate_left
 ·intro w'
  go_simp
  with_reducible rfl
 rotate_left
 ·simp only [Act.put, sia, scz, scs, i64_w, i32_w]
  rfl
 refine pure_ (i := 10) (N := some 32) (v := ?_) (a' := ?_) #[true, false, true, false, false, true, false, false, false, true, true, false, false, false, false, false] rfl rfl (by kernel_rfl) (fun _ _ _ h => h) (Or.inl ⟨by rfl, ?_⟩) ?_ ?_
 rotate_left
 ·intro w'
  go_simp
  with_reducible rfl
 rotate_left
 ·simp only [Act.put, sia, scz, scs, i64_w, i32_w]
  rfl
 refine pure_ (i := 11) (N := some 33) (v := ?_) (a' := ?_) #[true, false, true, false, false, true, false, false, false, true, true, true, false, false, false, false] rfl rfl (by kernel_rfl) (fun _ _ _ h => h) (Or.inl ⟨by rfl, ?_⟩) ?_ ?_
 rotate_left
 ·intro w'
  go_simp
  with_reducible rfl
 rotate_left
 ·simp only [Act.put, sia, scz, scs, i64_w, i32_w]
  rfl
 refine take_ (i := 1) (N := some 23) (v := ?_) (a' := ?_) #[true, true, true, false, false, true, false, false, false, true, true, true, false, false, false, false] rfl rfl (by kernel_rfl) (fun _ _ _ h => h) (Or.inl ⟨by rfl, ?_⟩) hHeld ?_ ?_
 rotate_left
 ·rintro w' ⟨s0, s1, s2⟩
  go_simp
  with_reducible rfl
 rotate_left
 ·simp only [Act.put, sia, scz, scs, i64_w, i32_w]
  rfl
 refine take_ (i := 3) (N := some 25) (v := ?_) (a' := ?_) #[true, true, true, true, false, true, false, false, false, true, true, true, false, false, false, false] rfl rfl (by kernel_rfl) (fun _ _ _ h => h) (Or.inl ⟨by rfl, ?_⟩) hHeld ?_ ?_
 rotate_left
 ·rintro w' ⟨s0, s1, s2⟩
  go_simp
  with_reducible rfl
 rotate_left
 ·simp only [Act.put, sia, scz, scs, i64_w, i32_w]
  rfl
 refine take_ (i := 6) (N := some 28) (v := ?_) (a' := ?_) #[true, true, true, true, false, true, true, false, false, true, true, true, false, false, false, false] rfl rfl (by kernel_rfl) (fun _ _ _ h => h) (Or.inl ⟨by rfl, ?_⟩) hHeld ?_ ?_
 rotate_left
 ·rintro w' ⟨s0, s1, s2⟩
  go_simp
  with_reducible rfl
 rotate_left
 ·simp only [Act.put, sia, scz, scs, i64_w, i32_w]
  rfl
 refine join_ (σ := Value × (Option Addr × Nat) × (Option Addr × Nat)) 3 #[true, true, true, true, true, true, true, true, true, true, true, true, true, false, false, false] (fun s => [(26, s.1), (29, .slice s.2.1.1 md.length s.2.1.2), (30, .agg #[.int .i64 P, .int .i64 M, .slice s.2.1.1 md.length s.2.1.2]), (34, .slice s.2.2.1 q.toNat s.2.2.2)]) (fun s w5 => Kd.R (Kd.int .i64) 3 w5 w.heap.size (fun _ => True) (.slice s.2.1.1 md.length s.2.1.2) md ∧ Kd.R (Kd.int .i64) 3 w5 w.heap.size (fun _ => True) (.slice s.2.2.1 q.toNat s.2.2.2) (List.replicate q.toNat 0) ∧ Kd.R (Kd.int .i64) 3 w5 w.heap.size (fun _ => True) (.slice (some ⟨ge, 0, none⟩) ex.length ce) ex ∧ Below w.heap.size w w5 ∧ (∀ k, (Value.slice s.2.2.1 q.toNat s.2.2.2).ownBlock = some k → some k ≠ (Value.slice (some ⟨ge, 0, none⟩) ex.length ce).ownBlock) ∧ (∀ k, (Value.slice s.2.2.1 q.toNat s.2.2.2).ownBlock = some k → some k ≠ (Value.slice s.2.1.1 md.length s.2.1.2).ownBlock) ∧ (w5.cell? ⟨gb, 0, none⟩ = some (.int .i64 P) ∧ w5.cell? ⟨gb, 1, none⟩ = some (.int .i64 M) ∧ w5.cell? ⟨gb, 2, none⟩ = some (.slice A md.length c))) ?_ ?_
 rotate_left
 ·intro hCont
  refine two_ (i := 4) (j := 12) (Ni := some 26) (Nj := some 34) #[true, true, true, true, true, true, true, false, false, true, true, true, false, false, false, false] #[true, true, true, true, false, true, true, false, false, true, true, true, true, false, false, false] rfl rfl rfl rfl (by kernel_rfl) (by decide) (by decide) (fun K hK => ?_) (fun K hK => ?_)
  ·skip
   refine Kd.R_lit_step (Kd.int .i64) (w0 := w) w.heap.size 3 ?hw (N := 26) ?hd (xs := ([] : List Int)) (inner := []) (ok := fun _ => True) (okp := fun _ => True) ?hr ?hp (fun _ hk => hk) trivial HBW.out (bsz HBW.out) (by simp) ?_
   (case hd => rfl)
   (case hw => rfl)
   (case hr => first | (go_simp; done) | (go_simp; rfl))
   (case hp => exact Reps.none _ _)
   intro v26 wl hL hbW hg hn
   have HSv := cells3_grown hHeld hg (by simp)
   have HNE := ak (own_ne_new hn HRW.out)
   have HNG := ak (new_ne_lt hn HGL.out)
   (try (have n_ := ak (Kd.R_grown2 HRW.out rfl hg (by first | (intro k hk; cases hk) | exact HNE.out)); clear HRW; have HRW := n_; clear n_))
   have HL := ak hL
   have HGL' := ak (grown_lt hg HGL.out)
   clear HGL
   have HGL := HGL'
   clear HGL'
   clear HBW
   have HBW := ak hbW
   clear hL hbW hg hn
   refine hK.out _ _ ⟨HSv.1, HSv.2.1, HSv.2.2⟩ (fun hHeld => ?_)
   clear hK K
   refine norm_ (a' := ?_) ?_ ?_
   rotate_left
   ·show Act.put _ (some 26) _ = _
    simp only [Act.put, sia, scz, scs, i64_w, i32_w]
    rfl
   refine two_ (i := 7) (j := 12) (Ni := some 29) (Nj := some 34) #[true, true, true, true, true, true, true, true, false, true, true, true, false, false, false, false] #[true, true, true, true, true, true, true, false, false, true, true, true, true, false, false, false] rfl rfl rfl rfl (by kernel_rfl) (by decide) (by decide) (fun K hK => ?_) (fun K hK => ?_)
   ·skip
    refine Kd.R_append_rows_step (Kd.int .i64) (w0 := w) w.heap.size (by rfl) (.tmp 26) (.tmp 28) 22 3 (.int .i64 0) 8 rfl Try.underlying22 Go.Proofs.Ytkifipakikbhcaa.Ref.info3 rfl (by decide) (by omega) v26 [] md _ _ _ (fun _ => True) (fun _ => False) rfl rfl ?aO ?aR (fun _ _ h => h) (fun _ h => h.elim) ?aF ?aB ?aS ?aL ?_
    (case aR => exact Kd.C_below HR.out HBW.out)
    (case aB => exact HBW.out)
    (case aF => exact (fun _ _ => trivial))
    (case aO => exact HL.out)
    (case aS => exact bsz HBW.out)
    (case aL => have := HMD.out; simp only [List.length_nil]; omega)
    intro v29 wa hA hbW hg hat
    rw [List.nil_append] at hA
    obtain ⟨A29, c29, e29⟩ := Kd.R_slice hA
    subst e29
    have HSv := cells3_grown hHeld hg HNG.out
    (try (have n_ := ak (Kd.R_grown2 HRW.out rfl hg (by first | (intro k hk; cases hk) | exact HNE.out)); clear HRW; have HRW := n_; clear n_))
    have HA := ak hA
    have HGL' := ak (grown_lt hg HGL.out)
    clear HGL
    have HGL := HGL'
    clear HGL'
    clear HBW
    have HBW := ak hbW
    clear hA hbW hg hat HL
    refine hK.out _ _ ⟨HSv.1, HSv.2.1, HSv.2.2⟩ (fun hHeld => ?_)
    clear hK K
    refine norm_ (a' := ?_) ?_ ?_
    rotate_left
    ·show Act.put _ (some 29) _ = _
     simp only [Act.put, sia, scz, scs, i64_w, i32_w]
     rfl
    refine pure_ (i := 8) (N := some 30) (v := ?_) (a' := ?_) #[true, true, true, true, true, true, true, true, true, true, true, true, false, false, false, false] rfl rfl (by kernel_rfl) (fun _ _ _ h => h) (Or.inl ⟨by rfl, ?_⟩) ?_ ?_
    rotate_left
    ·intro w'
     go_simp
     with_reducible rfl
    rotate_left
    ·simp only [Act.put, sia, scz, scs, i64_w, i32_w]
     rfl
    refine one_ (i := 12) (N := some 34) #[true, true, true, true, true, true, true, true, true, true, true, true, true, false, false, false] rfl rfl (by kernel_rfl) (by decide) (fun K hK => ?_)
    refine Kd.R_make_step (Kd.int .i64) (w0 := w) w.heap.size 3 (by rfl) (N := 34) rfl 22 _ _ rfl q rfl rfl Try.underlying22 (.int .i64 0) 8 Go.Proofs.Ytkifipakikbhcaa.Ref.info3 rfl (by decide) (by omega) 0 (ok := fun _ => True) (okp := fun _ => True) rfl (fun _ hk => hk) trivial (by have := HQ.out; omega) (by have := HQ.out; omega) HBW.out (bsz HBW.out) ?_
    intro v34 wm hM hbW hg hn
    obtain ⟨A34, c34, e34⟩ := Kd.R_slice hM
    rw [List.length_replicate] at e34
    subst e34
    have HSv := cells3_grown hHeld hg (by simp)
    have HX1 := ak (own_ne_new hn HRW.out)
    have HA0 := HA
    (try (have n_ := ak (Kd.R_grown2 HRW.out rfl hg (by first | (intro k hk; cases hk) | exact HNE.out)); clear HRW; have HRW := n_; clear n_))
    (try (have n_ := ak (Kd.R_grown2 HA.out rfl hg (by first | (intro k hk; cases hk) | exact HNE.out)); clear HA; have HA := n_; clear n_))
    have HX2 := ak (own_ne_new hn HA0.out)
    clear HA0
    have HM := ak hM
    have HGL' := ak (grown_lt hg HGL.out)
    clear HGL
    have HGL := HGL'
    clear HGL'
    clear HBW
    have HBW := ak hbW
    clear hM hbW hg hn
    refine hK.out _ _ ⟨HSv.1, HSv.2.1, HSv.2.2⟩ (fun hHeld => ?_)
    clear hK K
    refine norm_ (a' := ?_) ?_ ?_
    rotate_left
    ·show Act.put _ (some 34) _ = _
     simp only [Act.put, sia, scz, scs, i64_w, i32_w]
     rfl
    exact norm_ (by simp only [putAll, Act.put, sia, scz, scs]) (hCont (v26, (A29, c29), (A34, c34)) _ ⟨HA.out, HM.out, HRW.out, HBW.out, HX1.out, HX2.out, hHeld⟩)
   ·skip
    refine Kd.R_make_step (Kd.int .i64) (w0 := w) w.heap.size 3 (by rfl) (N := 34) rfl 22 _ _ rfl q rfl rfl Try.underlying22 (.int .i64 0) 8 Go.Proofs.Ytkifipakikbhcaa.Ref.info3 rfl (by decide) (by omega) 0 (ok := fun _ => True) (okp := fun _ => True) rfl (fun _ hk => hk) trivial (by have := HQ.out; omega) (by have := HQ.out; omega) HBW.out (bsz HBW.out) ?_
    intro v34 wm hM hbW hg hn
    obtain ⟨A34, c34, e34⟩ := Kd.R_slice hM
    rw [List.length_replicate] at e34
    subst e34
    have HSv := cells3_grown hHeld hg (by simp)
    have HX1 := ak (own_ne_new hn HRW.out)
    have HNM := ak (own_ne_flip (own_ne_new hn HL.out))
    (try (have n_ := ak (Kd.R_grown2 HRW.out rfl hg (by first | (intro k hk; cases hk) | exact HNE.out)); clear HRW; have HRW := n_; clear n_))
    (try (have n_ := ak (Kd.R_grown2 HL.out rfl hg (by first | (intro k hk; cases hk) | exact HNE.out)); clear HL; have HL := n_; clear n_))
    have HM := ak hM
    have HGL' := ak (grown_lt hg HGL.out)
    clear HGL
    have HGL := HGL'
    clear HGL'
    clear HBW
    have HBW := ak hbW
    clear hM hbW hg hn
    refine hK.out _ _ ⟨HSv.1, HSv.2.1, HSv.2.2⟩ (fun hHeld => ?_)
    clear hK K
    refine norm_ (a' := ?_) ?_ ?_
    rotate_left
    ·show Act.put _ (some 34) _ = _
     simp only [Act.put, sia, scz, scs, i64_w, i32_w]
     rfl
    refine one_ (i := 7) (N := some 29) #[true, true, true, true, true, true, true, true, false, true, true, true, true, false, false, false] rfl rfl (by kernel_rfl) (by decide) (fun K hK => ?_)
    refine Kd.R_append_rows_step (Kd.int .i64) (w0 := w) w.heap.size (by rfl) (.tmp 26) (.tmp 28) 22 3 (.int .i64 0) 8 rfl Try.underlying22 Go.Proofs.Ytkifipakikbhcaa.Ref.info3 rfl (by decide) (by omega) v26 [] md _ _ _ (fun _ => True) (fun _ => False) rfl rfl ?aO ?aR (fun _ _ h => h) (fun _ h => h.elim) ?aF ?aB ?aS ?aL ?_
    (case aR => exact Kd.C_below HR.out HBW.out)
    (case aB => exact HBW.out)
    (case aF => exact (fun _ _ => trivial))
    (case aO => exact HL.out)
    (case aS => exact bsz HBW.out)
    (case aL => have := HMD.out; simp only [List.length_nil]; omega)
    intro v29 wa hA hbW hg hat
    rw [List.nil_append] at hA
    obtain ⟨A29, c29, e29⟩ := Kd.R_slice hA
    subst e29
    have HM0 := HM
    have HSv := cells3_grown hHeld hg HNG.out
    (try (have n_ := ak (Kd.R_grown2 HRW.out rfl hg (by first | (intro k hk; cases hk) | exact HNE.out)); clear HRW; have HRW := n_; clear n_))
    (try (have n_ := ak (Kd.R_grown2 HM.out rfl hg (by first | (intro k hk; cases hk) | exact HNM.out)); clear HM; have HM := n_; clear n_))
    have HA := ak hA
    have HX2 := ak (own_ne_hat hat HNM.out HM0.out)
    clear HM0
    have HGL' := ak (grown_lt hg HGL.out)
    clear HGL
    have HGL := HGL'
    clear HGL'
    clear HBW
    have HBW := ak hbW
    clear hA hbW hg hat HL
    refine hK.out _ _ ⟨HSv.1, HSv.2.1, HSv.2.2⟩ (fun hHeld => ?_)
    clear hK K
    refine norm_ (a' := ?_) ?_ ?_
    rotate_left
    ·show Act.put _ (some 29) _ = _
     simp only [Act.put, sia, scz, scs, i64_w, i32_w]
     rfl
    refine pure_ (i := 8) (N := some 30) (v := ?_) (a' := ?_) #[true, true, true, true, true, true, true, true, true, true, true, true, true, false, false, false] rfl rfl (by kernel_rfl) (fun _ _ _ h => h) (Or.inl ⟨by rfl, ?_⟩) ?_ ?_
    rotate_left
    ·intro w'
     go_simp
     with_reducible rfl
    rotate_left
    ·simp only [Act.put, sia, scz, scs, i64_w, i32_w]
     rfl
    exact norm_ (by simp only [putAll, Act.put, sia, scz, scs]) (hCont (v26, (A29, c29), (A34, c34)) _ ⟨HA.out, HM.out, HRW.out, HBW.out, HX1.out, HX2.out, hHeld⟩)
  ·skip
   refine Kd.R_make_step (Kd.int .i64) (w0 := w) w.heap.size 3 (by rfl) (N := 34) rfl 22 _ _ rfl q rfl rfl Try.underlying22 (.int .i64 0) 8 Go.Proofs.Ytkifipakikbhcaa.Ref.info3 rfl (by decide) (by omega) 0 (ok := fun _ => True) (okp := fun _ => True) rfl (fun _ hk => hk) trivial (by have := HQ.out; omega) (by have := HQ.out; omega) HBW.out (bsz HBW.out) ?_
   intro v34 wm hM hbW hg hn
   obtain ⟨A34, c34, e34⟩ := Kd.R_slice hM
   rw [List.length_replicate] at e34
   subst e34
   have HSv := cells3_grown hHeld hg (by simp)
   have HX1 := ak (own_ne_new hn HRW.out)
   (try (have n_ := ak (Kd.R_grown2 HRW.out rfl hg (by first | (intro k hk; cases hk) | exact HNE.out)); clear HRW; have HRW := n_; clear n_))
   have HM := ak hM
   have HGL' := ak (grown_lt hg HGL.out)
   clear HGL
   have HGL := HGL'
   clear HGL'
   clear HBW
   have HBW := ak hbW
   clear hM hbW hg hn
   refine hK.out _ _ ⟨HSv.1, HSv.2.1, HSv.2.2⟩ (fun hHeld => ?_)
   clear hK K
   refine norm_ (a' := ?_) ?_ ?_
   rotate_left
   ·show Act.put _ (some 34) _ = _
    simp only [Act.put, sia, scz, scs, i64_w, i32_w]
    rfl
   refine one_ (i := 4) (N := some 26) #[true, true, true, true, true, true, true, false, false, true, true, true, true, false, false, false] rfl rfl (by kernel_rfl) (by decide) (fun K hK => ?_)
   refine Kd.R_lit_step (Kd.int .i64) (w0 := w) w.heap.size 3 ?hw (N := 26) ?hd (xs := ([] : List Int)) (inner := []) (ok := fun _ => True) (okp := fun _ => True) ?hr ?hp (fun _ hk => hk) trivial HBW.out (bsz HBW.out) (by simp) ?_
   (case hd => rfl)
   (case hw => rfl)
   (case hr => first | (go_simp; done) | (go_simp; rfl))
   (case hp => exact Reps.none _ _)
   intro v26 wl hL hbW hg hn
   have HSv := cells3_grown hHeld hg (by simp)
   have HNE := ak (own_ne_new hn HRW.out)
   have HNM := ak (own_ne_new hn HM.out)
   have HNG := ak (new_ne_lt hn HGL.out)
   (try (have n_ := ak (Kd.R_grown2 HRW.out rfl hg (by first | (intro k hk; cases hk) | exact HNE.out)); clear HRW; have HRW := n_; clear n_))
   (try (have n_ := ak (Kd.R_grown2 HM.out rfl hg (by first | (intro k hk; cases hk) | exact HNM.out)); clear HM; have HM := n_; clear n_))
   have HL := ak hL
   have HGL' := ak (grown_lt hg HGL.out)
   clear HGL
   have HGL := HGL'
   clear HGL'
   clear HBW
   have HBW := ak hbW
   clear hL hbW hg hn
   refine hK.out _ _ ⟨HSv.1, HSv.2.1, HSv.2.2⟩ (fun hHeld => ?_)
   clear hK K
   refine norm_ (a' := ?_) ?_ ?_
   rotate_left
   ·show Act.put _ (some 26) _ = _
    simp only [Act.put, sia, scz, scs, i64_w, i32_w]
    rfl
   refine one_ (i := 7) (N := some 29) #[true, true, true, true, true, true, true, true, false, true, true, true, true, false, false, false] rfl rfl (by kernel_rfl) (by decide) (fun K hK => ?_)
   refine Kd.R_append_rows_step (Kd.int .i64) (w0 := w) w.heap.size (by rfl) (.tmp 26) (.tmp 28) 22 3 (.int .i64 0) 8 rfl Try.underlying22 Go.Proofs.Ytkifipakikbhcaa.Ref.info3 rfl (by decide) (by omega) v26 [] md _ _ _ (fun _ => True) (fun _ => False) rfl rfl ?aO ?aR (fun _ _ h => h) (fun _ h => h.elim) ?aF ?aB ?aS ?aL ?_
   (case aR => exact Kd.C_below HR.out HBW.out)
   (case aB => exact HBW.out)
   (case aF => exact (fun _ _ => trivial))
   (case aO => exact HL.out)
   (case aS => exact bsz HBW.out)
   (case aL => have := HMD.out; simp only [List.length_nil]; omega)
   intro v29 wa hA hbW hg hat
   rw [List.nil_append] at hA
   obtain ⟨A29, c29, e29⟩ := Kd.R_slice hA
   subst e29
   have HM0 := HM
   have HSv := cells3_grown hHeld hg HNG.out
   (try (have n_ := ak (Kd.R_grown2 HRW.out rfl hg (by first | (intro k hk; cases hk) | exact HNE.out)); clear HRW; have HRW := n_; clear n_))
   (try (have n_ := ak (Kd.R_grown2 HM.out rfl hg (by first | (intro k hk; cases hk) | exact HNM.out)); clear HM; have HM := n_; clear n_))
   have HA := ak hA
   have HX2 := ak (own_ne_hat hat HNM.out HM0.out)
   clear HM0
   have HGL' := ak (grown_lt hg HGL.out)
   clear HGL
   have HGL := HGL'
   clear HGL'
   clear HBW
   have HBW := ak hbW
   clear hA hbW hg hat HL
   refine hK.out _ _ ⟨HSv.1, HSv.2.1, HSv.2.2⟩ (fun hHeld => ?_)
   clear hK K
   refine norm_ (a' := ?_) ?_ ?_
   rotate_left
   ·show Act.put _ (some 29) _ = _
    simp only [Act.put, sia, scz, scs, i64_w, i32_w]
    rfl
   refine pure_ (i := 8) (N := some 30) (v := ?_) (a' := ?_) #[true, true, true, true, true, true, true, true, true, true, true, true, true, false, false, false] rfl rfl (by kernel_rfl) (fun _ _ _ h => h) (Or.inl ⟨by rfl, ?_⟩) ?_ ?_
   rotate_left
   ·intro w'
    go_simp
    with_reducible rfl
   rotate_left
   ·simp only [Act.put, sia, scz, scs, i64_w, i32_w]
    rfl
   exact norm_ (by simp only [putAll, Act.put, sia, scz, scs]) (hCont (v26, (A29, c29), (A34, c34)) _ ⟨HA.out, HM.out, HRW.out, HBW.out, HX1.out, HX2.out, hHeld⟩)
 rintro ⟨v26, ⟨A29, c29⟩, ⟨A34, c34⟩⟩ w5 ⟨hA, hM, hRW, hBW, hX1, hX2, hHeld⟩
 have HA := ak hA
 have HM := ak hM
 clear HRW HBW HGL
 have HRW := ak hRW
 have HBW := ak hBW
 have HX1 := ak hX1
 have HX2 := ak hX2
 clear hA hM hRW hBW hX1 hX2
 refine norm_ (a' := ?_) ?_ ?_
 rotate_left
 ·simp only [putAll, Act.put, sia, scz, scs]
  rfl
 refine pure_ (i := 13) (N := some 35) (v := ?_) (a' := ?_) #[true, true, true, true, true, true, true, true, true, true, true, true, true, true, false, false] rfl rfl (by kernel_rfl) (fun _ _ _ h => h) (Or.inl ⟨by rfl, ?_⟩) ?_ ?_
 rotate_left
 ·intro w'
  go_simp
  with_reducible rfl
 rotate_left
 ·simp only [Act.put, sia, scz, scs, i64_w, i32_w]
  rfl
 refine one_ (i := 14) (N := some 36) #[true, true, true, true, true, true, true, true, true, true, true, true, true, true, true, false] rfl rfl (by kernel_rfl) (by decide) (fun K hK => ?_)
 refine box_step ?hw (N := 36) ?hd (cs := #[.int .i64 P, .int .i64 M, .slice A29 md.length c29, .int .i64 q, .slice (some ⟨ge, 0, none⟩) ex.length ce, .slice A34 q.toNat c34]) (t := 109) ?hr ?_
 (case hw => rfl)
 (case hd => rfl)
 (case hr => first | (go_simp; done) | (go_simp; rfl))
 intro gg hgg w6 hbox hb
 have HSv := cells3_below hHeld hb
 have HBX := ak hbox
 have HGE := ak (show w.heap.size ≤ gg by rw [hgg]; exact bsz HBW.out)
 have HLA := ak (fun k (hk : (Value.slice A29 md.length c29).ownBlock = some k) => (by rw [hgg]; exact Kd.R_lt HA.out k hk : k < gg))
 have HLE2 := ak (fun k (hk : (Value.slice (some ⟨ge, 0, none⟩) ex.length ce).ownBlock = some k) => (by rw [hgg]; exact Kd.R_lt HRW.out k hk : k < gg))
 have HLM := ak (fun k (hk : (Value.slice A34 q.toNat c34).ownBlock = some k) => (by rw [hgg]; exact Kd.R_lt HM.out k hk : k < gg))
 have HA6 := ak (Kd.R_below HA.out hb)
 have HM6 := ak (Kd.R_below HM.out hb)
 have HR6 := ak (Kd.R_below HRW.out hb)
 have HB6 := ak (bsp HBW.out hb)
 clear HA HM HRW HBW hbox hb hgg
 refine hK.out _ _ ⟨HSv.1, HSv.2.1, HSv.2.2⟩ (fun hHeld => ?_)
 clear hK K
 refine norm_ (a' := ?_) ?_ ?_
 rotate_left
 ·show Act.put _ (some 36) _ = _
  simp only [Act.put, sia, scz, scs, i64_w, i32_w]
  rfl
 refine pure_ (i := 15) (N := some 6) (v := ?_) (a' := ?_) #[true, true, true, true, true, true, true, true, true, true, true, true, true, true, true, true] rfl rfl (by kernel_rfl) (fun _ _ _ h => h) (Or.inl ⟨by rfl, ?_⟩) ?_ ?_
 rotate_left
 ·intro w'
  go_simp
  with_reducible rfl
 rotate_left
 ·simp only [Act.put, sia, scz, scs, i64_w, i32_w]
  rfl
 refine done_ (by kernel_rfl) ?_
 go_wp2
 obtain ⟨gl, cl, el, hgl1, hgl2, -⟩ := Kd.R_form HM6.out (by have := HQ.out; rw [List.length_replicate]; omega)
 injection el with el1 el2 el3
 subst el1 el3
 have HGG := ak (show gg ≠ gl by
  rintro rfl
  exact Kd.R_ne HM6.out HBX.out (by decide) rfl)
 clear hgl1 hgl2 el2
 obtain ⟨lw, hlw⟩ : ∃ l, l = List.replicate q.toNat (0 : Int) := ⟨_, rfl⟩
 rw [← hlw] at HM6
 have HLW := ak (show lw.length = q.toNat by rw [hlw, List.length_replicate])
 go_loopg [39] ex.length (fun gk v39 w' => ∃ (n : Nat) (lg : List Int), v39 = .int .i64 n ∧ Aside0 (gk = ex.length - n ∧ n ≤ ex.length ∧ lg.length = q.toNat ∧ logL (ex.drop n) n lg = logL ex 0 lw) ∧ Aside0 (Below w.heap.size w w') ∧ Aside0 (w'.heap[gg]? = some (.cells #[.int .i64 P, .int .i64 M, .slice A29 md.length c29, .int .i64 q, .slice (some ⟨ge, 0, none⟩) ex.length ce, .slice (some ⟨gl, 0, none⟩) q.toNat c34] 109 (0, 0))) ∧ Aside0 (Kd.R (Kd.int .i64) 3 w' w.heap.size (fun _ => True) (.slice A29 md.length c29) md) ∧ Aside0 (Kd.R (Kd.int .i64) 3 w' w.heap.size (fun _ => True) (.slice (some ⟨ge, 0, none⟩) ex.length ce) ex) ∧ Aside0 (Kd.R (Kd.int .i64) 3 w' w.heap.size (fun _ => True) (.slice (some ⟨gl, 0, none⟩) q.toNat c34) lg))
 case atStart => exact ⟨0, lw, rfl, ⟨by simp, by simp, HLW.out, by simp⟩, HB6, HBX, HA6, HR6, HM6⟩
 case round =>
  obtain ⟨n, lg, rfl, HN, HBr, HXr, HAr, HEr, HLr⟩ := hrel
  clear HB6 HBX HA6 HR6 HM6
  by_cases c9 : (n : Int) < (ex.length : Int)
  ·have hc9 : decide ((n : Int) < (ex.length : Int)) = true := det c9
   have hc9b := eq_true c9
   have hc9a : (0 ≤ (n : Int)) = True := eq_true (Int.natCast_nonneg n)
   clear c9
   obtain ⟨ae, eae, hxe⟩ := Kd.at_int (Kd.R_reads' HEr.out).2.2 n (of_eq_true hc9a) (of_eq_true hc9b)
   cases eae
   obtain ⟨x, hx⟩ : ∃ x, rd ex (n : Int) = x := ⟨_, rfl⟩
   rw [hx] at hxe
   replace hxe : wr.cell? ⟨ge, n, none⟩ = some (.int .i64 x) := by simpa only [add_plain, Int.toNat_natCast, Nat.zero_add] using hxe
   have HXI := ak (HIN.out x (by rw [← hx]; exact rd_memInt (by omega) (of_eq_true hc9b)))
   have i0 : (0 ≤ x) = True := eq_true HXI.out.1
   have i1 : (x < (q.toNat : Int)) = True := eq_true (by have := HXI.out.2; omega)
   have hz5 : wr.cell? ⟨gg, 5, none⟩ = some (.slice (some ⟨gl, 0, none⟩) q.toNat c34) := (kce HXr.out 5).trans rfl
   have HL2 := ak (show Kd.R (Kd.int .i64) 3 wr w.heap.size (fun _ => True) (.slice (some ⟨gl, 0, none⟩) lg.length c34) lg by rw [HN.out.2.2.1]; exact HLr.out)
   have HPUT := ak (Kd.R_putn HLr.out x (n : Int))
   have HPG := ak (Kd.R_put HL2.out x (n : Int)).2
   obtain ⟨hxl, hfl⟩ := Kd.R_cell 0 HL2.out x (of_eq_true i0) (by rw [HN.out.2.2.1]; exact of_eq_true i1)
   have i2 : (x < max q 0) = True := eq_true (by have := HXI.out.2; omega)
   go_wp2
   have HB7 := ak (show Below w.heap.size w (wr.setCell ⟨gl, x.toNat, none⟩ (.int .i64 (n : Int))) from bst HBr.out (Kd.R_base HLr.out gl rfl))
   have HX7 := ak (show (wr.setCell ⟨gl, x.toNat, none⟩ (.int .i64 (n : Int))).heap[gg]? = some (.cells #[.int .i64 P, .int .i64 M, .slice A29 md.length c29, .int .i64 q, .slice (some ⟨ge, 0, none⟩) ex.length ce, .slice (some ⟨gl, 0, none⟩) q.toNat c34] 109 (0, 0)) from blk_grown HXr.out HPG.out (fun h => HGG.out (osi h)))
   have HA7 := ak (show Kd.R (Kd.int .i64) 3 (wr.setCell ⟨gl, x.toNat, none⟩ (.int .i64 (n : Int))) w.heap.size (fun _ => True) (.slice A29 md.length c29) md from Kd.R_grown1 HAr.out rfl HPG.out (HX2.out gl rfl))
   have HE7 := ak (show Kd.R (Kd.int .i64) 3 (wr.setCell ⟨gl, x.toNat, none⟩ (.int .i64 (n : Int))) w.heap.size (fun _ => True) (.slice (some ⟨ge, 0, none⟩) ex.length ce) ex from Kd.R_grown1 HEr.out rfl HPG.out (HX1.out gl rfl))
   have HL7 := ak (show Kd.R (Kd.int .i64) 3 (wr.setCell ⟨gl, x.toNat, none⟩ (.int .i64 (n : Int))) w.heap.size (fun _ => True) (.slice (some ⟨gl, 0, none⟩) q.toNat c34) (lg.set x.toNat n) from HPUT.out)
   go_roundg (ex.length - (n + 1))
   case measure => have := HN.out.1; have := of_eq_true hc9b; omega
   case rel =>
    have h := HN.out
    have h2 := of_eq_true hc9b
    refine ⟨n + 1, lg.set x.toNat n, ?_, ⟨rfl, by omega, by rw [List.length_set]; exact h.2.2.1, ?_⟩, HB7, HX7, HA7, HE7, HL7⟩
    ·rw [wrap64_succ' (n := 256) (by omega) (by have := HLE.out; omega) (by omega)]; rfl
    ·have hd := drop_cons (d := (0 : Int)) (i := (n : Int)) (l := ex) (by omega) h2
     rw [Int.toNat_natCast, show ((n : Int) + 1).toNat = n + 1 from by omega, show ex.getD n 0 = x from by rw [← hx]; rfl] at hd
     rw [← h.2.2.2, hd, logL]
  ·have hc9 : decide ((n : Int) < (ex.length : Int)) = false := dff c9
   have HC9 := ak c9
   have hc9b := eq_false c9
   clear c9
   go_wp2
   go_ret2
   have hnl : n = ex.length := by have := HN.out.2.1; have := HC9.out; omega
   have hlog : lg = logL ex 0 (List.replicate q.toNat 0) := by
    have h := HN.out.2.2.2
    rw [hnl, List.drop_length, logL, hlw] at h
    exact h
   have hgg := klt HXr.out
   have hsz : (cutW wr gg).heap.size = gg := cutW_size wr gg (Nat.le_of_lt hgg)
   refine ⟨gg, rfl, cutW wr gg, ⟨A29, c29, some ⟨ge, 0, none⟩, ce, some ⟨gl, 0, none⟩, c34, ?_, by rw [hsz]; exact Nat.le_refl _, ?_, ?_, ?_⟩, cutW_below HBr.out HGE.out (Nat.le_of_lt hgg), cutW_self wr gg⟩
   ·rw [logL_length, List.length_replicate]; exact HXr.out
   ·exact cutW_C HAr.out HLA.out
   ·exact cutW_C HEr.out HLE2.out
   ·rw [← hlog]; rw [HN.out.2.2.1]; have h := HN.out.2.2.1; exact cutW_C' HLr.out h HLM.out
theorem New_shape (k : Nat) (P M : Int) (A : Option Addr) (c : Nat) (md : List Int) (w : World) (hr : Kd.C (Kd.int .i64) w A md.length md) (hc : md.length ≤ c)
  (hs : field_shape.f k P M md = some false) :
  Calls Try.prog 60 #[.agg #[.int .i64 P, .int .i64 M, .slice A md.length c]] w fun e w' => e = .returned (.tuple #[.pointer none, .int .i64 1]) ∧ Below w.heap.size w w' := by
 have hu24 := Try.underlying24
 have hu109 := Try.underlying109
 have HR := ak hr
 have HC := ak hc
 have HS := ak hs
 clear hr hc hs
 go_enter Try.func60, Try.ntmps60
 go_wp2_with (first | ((with_reducible refine gate_dst (N := 1) rfl ?_); refine box_event ?hg (N := 1) ?hd (cs := #[.int .i64 P, .int .i64 M, .slice A md.length c]) (t := 24) ?hr ?_; (case hd => rfl); (case hg => rfl); (case hr => first | (go_simp; done) | (go_simp; rfl)); intro gb hgb w1 hbox hb; have HGB := ak (show w.heap.size ≤ gb by omega); have HBK := ak hbox; have HB := ak hb; clear hgb; have hcz0 : w1.cell? ⟨gb, 0, none⟩ = some (.int .i64 P) := (kce hbox 0).trans rfl; have hcz1 : w1.cell? ⟨gb, 1, none⟩ = some (.int .i64 M) := (kce hbox 1).trans rfl; have hcz2 : w1.cell? ⟨gb, 2, none⟩ = some (.slice A md.length c) := (kce hbox 2).trans rfl; clear hbox hb) | (go_at_call 85; (with_reducible refine (field_shape.calls k P M A c md false w1 ?side1 ?side2 ?side3).mono ?_); (case side1 => exact Kd.C_below HR.out HB.out); (case side2 => exact HC.out); (case side3 => exact HS.out); rintro e w2 ⟨rfl, hB⟩; have HB2 := ak hB; replace hcz0 := cbl hcz0 hB; replace hcz1 := cbl hcz1 hB; replace hcz2 := cbl hcz2 hB; clear hB))
 go_ret2
 exact ⟨rfl, bsp HB.out HB2.out⟩
theorem New_nil (k : Nat) (P M : Int) (A : Option Addr) (c : Nat) (md : List Int) (q : Int) (w : World) (hr : Kd.C (Kd.int .i64) w A md.length md) (hc : md.length ≤ c)
  (hs : field_shape.f k P M md = some true) (ho : field_order.f k P M = some q)
  (hq : 2 ≤ q) (hq2 : q ≤ 256) (pw : Int → List Int) (one : Int → Int) (hpw : ∀ x, 1 ≤ x → x < q → field_powers.f k P M md q x = some (pw x))
  (hone : ∀ x, 1 ≤ x → x < q → ((pw x).length : Int) = q - 1 → field_multiply.f k P M md (rd (pw x) (q - 2)) x = some (one x))
  (hg : genL pw one q (q - 1).toNat 1 = []) :
  Calls Try.prog 60 #[.agg #[.int .i64 P, .int .i64 M, .slice A md.length c]] w fun e w' => e = .returned (.tuple #[.pointer none, .int .i64 1]) ∧ Below w.heap.size w w' := by
 have hu24 := Try.underlying24
 have hu109 := Try.underlying109
 have HR := ak hr
 have HC := ak hc
 have HQ := ak (And.intro hq hq2)
 have HPW := ak hpw
 have HONE := ak hone
 have HS := ak hs
 have HOR := ak ho
 have HG := ak hg
 have HGEN := fun W hr => ak (generator_calls k P M A c md q W hr hc hq hq2 pw one hpw hone)
 rw [hg] at HGEN
 clear hr hc hq hq2 hpw hone hs ho hg
 have hnil := fun (W : World) (a : Option Addr) (n c : Nat) => Lib.run_eql_slice_nil (P := Try.prog) W 22 3 a n c 0 0 Try.underlying22
 go_enter Try.func60, Try.ntmps60
 go_wp2_with (first | ((with_reducible refine gate_dst (N := 1) rfl ?_); refine box_event ?hg (N := 1) ?hd (cs := #[.int .i64 P, .int .i64 M, .slice A md.length c]) (t := 24) ?hr ?_; (case hd => rfl); (case hg => rfl); (case hr => first | (go_simp; done) | (go_simp; rfl)); intro gb hgb w1 hbox hb; have HGB := ak (show w.heap.size ≤ gb by omega); have HBK := ak hbox; have HB := ak hb; clear hgb; have hcz0 : w1.cell? ⟨gb, 0, none⟩ = some (.int .i64 P) := (kce hbox 0).trans rfl; have hcz1 : w1.cell? ⟨gb, 1, none⟩ = some (.int .i64 M) := (kce hbox 1).trans rfl; have hcz2 : w1.cell? ⟨gb, 2, none⟩ = some (.slice A md.length c) := (kce hbox 2).trans rfl; clear hbox hb) | (go_at_call 85; (with_reducible refine (field_shape.calls k P M A c md true w1 ?side1 ?side2 ?side3).mono ?_); (case side1 => exact Kd.C_below HR.out HB.out); (case side2 => exact HC.out); (case side3 => exact HS.out); rintro e w2 ⟨rfl, hB⟩; have HB2 := ak hB; replace hcz0 := cbl hcz0 hB; replace hcz1 := cbl hcz1 hB; replace hcz2 := cbl hcz2 hB; clear hB) | (go_at_call 86; (with_reducible refine (field_order.calls k P M q _ HOR.out).mono ?_); rintro e w3 ⟨rfl, ⟨nd, rfl⟩⟩) | (go_at_call 87; (with_reducible refine ((HGEN (w2.drewN nd) (Kd.C_drewN (Kd.C_below (Kd.C_below HR.out HB.out) HB2.out) nd)).out).mono ?_); rintro e w4 ⟨vg, rfl, hRG, hVG, hB⟩; have hv := hVG (by trivial); subst hv; have HB4 := ak hB; clear hRG hVG hB))
 go_ret2
 exact ⟨rfl, bsp HB.out (bsp (w2 := w4) (W := w2.drewN nd) (pbn HB2.out nd) HB4.out)⟩
end Go.Proofs.Ytkifipakikbhcaa.Hand
namespace Go.Proofs.Ytkifipakikbhcaa.Hand
open Ytkifipakikbhcaa.Ref Ytkifipakikbhcaa.Pg
open Ytkifipakikbhcaa.Gf (IsS109 field_GF_Is.f matrix_entries.f matrix_entries.l0 matrix_entries.calls)
open Go.RowKit YtkifipakikbhcaaW.PrintWords YtkifipakikbhcaaW.PrintLast YtkifipakikbhcaaW.PrintMore
attribute [local go_sem ↓] Go.wp_at_zero Go.wp_at_succ
def pwN (P M : Int) (md : List Int) (q x : Int) : List Int := (field_powers.f 4096 P M md q x).getD []
def oneN (P M : Int) (md : List Int) (q x : Int) : Int := (field_multiply.f 4096 P M md (rd (pwN P M md q x) (q - 2)) x).getD 0
def exN (P M : Int) (md : List Int) (q : Int) : List Int := genL (pwN P M md q) (oneN P M md q) q (q - 1).toNat 1
def newAll (P M : Int) (md : List Int) (q : Int) : Bool := (List.range q.toNat).all fun i => decide (i = 0) || ((field_powers.f 4096 P M md q i).isSome && (!decide (((pwN P M md q i).length : Int) = q - 1) || (field_multiply.f 4096 P M md (rd (pwN P M md q i) (q - 2)) i).isSome))
def newO (P M : Int) (md : List Int) : Option (Option (Int × List Int × List Int)) :=
 (field_shape.f 4096 P M md).bind fun s => if s = true then (field_order.f 4096 P M).bind fun q =>
  if 2 ≤ q ∧ q ≤ 256 ∧ md.length ≤ 8 then
   if newAll P M md q = true then
    if exN P M md q = [] then some none
    else if (exN P M md q).all (fun x => decide (0 ≤ x ∧ x < q)) = true ∧ (exN P M md q).length ≤ 256 then some (some (q, exN P M md q, logL (exN P M md q) 0 (List.replicate q.toNat 0))) else none
   else none
  else none
 else some none
theorem newAll_pw {P M : Int} {md : List Int} {q : Int} (h : newAll P M md q = true) (x : Int) (h1 : 1 ≤ x) (h2 : x < q) : field_powers.f 4096 P M md q x = some (pwN P M md q x) ∧ (((pwN P M md q x).length : Int) = q - 1 → field_multiply.f 4096 P M md (rd (pwN P M md q x) (q - 2)) x = some (oneN P M md q x)) := by
 obtain ⟨i, rfl⟩ := Int.eq_ofNat_of_zero_le (show 0 ≤ x by omega)
 have h3 := List.all_eq_true.1 h i (List.mem_range.2 (by omega))
 simp only [Bool.or_eq_true, Bool.and_eq_true, decide_eq_true_eq, Bool.not_eq_true', decide_eq_false_iff_not] at h3
 rcases h3 with h3 | ⟨h3, h4⟩
 ·omega
 ·refine ⟨?_, ?_⟩
  ·unfold pwN
   obtain ⟨y, hy⟩ := Option.isSome_iff_exists.1 h3
   rw [hy]; rfl
  ·intro hl
   rcases h4 with h4 | h4
   ·exact absurd hl h4
   ·unfold oneN
    obtain ⟨y, hy⟩ := Option.isSome_iff_exists.1 h4
    rw [hy]; rfl
theorem New_some (P M : Int) (A : Option Addr) (c : Nat) (md : List Int) (q : Int) (ex lg : List Int) (w : World) (hr : Kd.C (Kd.int .i64) w A md.length md) (hc : md.length ≤ c) (h : newO P M md = some (some (q, ex, lg))) :
  Calls Try.prog 60 #[.agg #[.int .i64 P, .int .i64 M, .slice A md.length c]] w fun e w' => ∃ (g : Nat), e = .returned (.tuple #[.pointer (some ⟨g, 0, none⟩), .int .i64 0])
   ∧ ∃ w0 : World, IsS109 w0 w' g P M md q ex lg ∧ Below w.heap.size w w0 ∧ Below w0.heap.size w0 w' := by
 unfold newO at h
 obtain ⟨s, hs, h⟩ := Option.bind_eq_some_iff.1 h
 split at h
 ·rename_i hst
  subst hst
  obtain ⟨q', ho, h⟩ := Option.bind_eq_some_iff.1 h
  split at h
  ·rename_i hq
   split at h
   ·rename_i ha
    split at h
    ·exact absurd h (by simp)
    ·rename_i hne
     split at h
     ·rename_i hin
      simp only [Option.some.injEq, Prod.mk.injEq] at h
      obtain ⟨rfl, rfl, rfl⟩ := h
      exact New_ok 4096 P M A c md q' w hr hc hs ho hq.2.2 hq.1 hq.2.1 _ _ (fun x h1 h2 => (newAll_pw ha x h1 h2).1) (fun x h1 h2 => (newAll_pw ha x h1 h2).2) _ rfl hne (fun x hx => odt (List.all_eq_true.1 hin.1 x hx)) hin.2
     ·exact absurd h (by simp)
   ·exact absurd h (by simp)
  ·exact absurd h (by simp)
 ·exact absurd h (by simp)
theorem New_none (P M : Int) (A : Option Addr) (c : Nat) (md : List Int) (w : World) (hr : Kd.C (Kd.int .i64) w A md.length md) (hc : md.length ≤ c) (h : newO P M md = some none) :
  Calls Try.prog 60 #[.agg #[.int .i64 P, .int .i64 M, .slice A md.length c]] w fun e w' => e = .returned (.tuple #[.pointer none, .int .i64 1]) ∧ Below w.heap.size w w' := by
 unfold newO at h
 obtain ⟨s, hs, h⟩ := Option.bind_eq_some_iff.1 h
 split at h
 ·rename_i hst
  subst hst
  obtain ⟨q', ho, h⟩ := Option.bind_eq_some_iff.1 h
  split at h
  ·rename_i hq
   split at h
   ·rename_i ha
    split at h
    ·rename_i he
     exact New_nil 4096 P M A c md q' w hr hc hs ho hq.1 hq.2.1 _ _ (fun x h1 h2 => (newAll_pw ha x h1 h2).1) (fun x h1 h2 => (newAll_pw ha x h1 h2).2) he
    ·split at h <;> exact absurd h (by simp)
   ·exact absurd h (by simp)
  ·exact absurd h (by simp)
 ·rename_i hst
  have : s = false := by cases s <;> simp_all
  subst this
  exact New_shape 4096 P M A c md w hr hc hs
def entR (q : Int) : List Int → Int
 | [] => 0
 | x :: l => if 0 ≤ x ∧ x < q then entR q l else 2
theorem entries_l0 (P M : Int) (md : List Int) (q : Int) (ex lg l : List Int) (hl : l.length ≤ 4611686018427387904) : ∀ (m k i : Nat), m = l.length - i → i ≤ l.length → m < k →
  matrix_entries.l0 k l (l.length : Int) (i : Int) P M md q ex lg = some (entR q (l.drop i), P, M, q) := by
 intro m
 induction m with
 | zero =>
  intro k i hm hi hk
  obtain ⟨k, rfl⟩ : ∃ k', k = k' + 1 := ⟨k - 1, by omega⟩
  have h : i = l.length := by omega
  rw [matrix_entries.l0, if_neg (by omega), h, List.drop_length, entR]
 | succ m ih =>
  intro k i hm hi hk
  obtain ⟨k, rfl⟩ : ∃ k', k = k' + 1 := ⟨k - 1, by omega⟩
  have h : i < l.length := by omega
  have hn := ih k (i + 1) (by omega) (by omega) (by omega)
  have hw : wrap64 ((i : Int) + 1) = ((i + 1 : Nat) : Int) := by unfold wrap64; omega
  have hd : l.drop i = rd l (i : Int) :: l.drop (i + 1) := by
   have := drop_cons (d := (0 : Int)) (i := (i : Int)) (l := l) (by omega) (by omega)
   rw [Int.toNat_natCast, show ((i : Int) + 1).toNat = i + 1 from by omega] at this
   exact this
  rw [matrix_entries.l0, if_pos (by omega), if_pos (by omega), if_pos (by omega), hd, entR, hw]
  unfold Gf.field_GF_Is.f
  by_cases h1 : 0 ≤ rd l (i : Int)
  ·rw [if_pos (by omega)]
   simp only [Option.bind_some]
   by_cases h2 : rd l (i : Int) < q
   ·rw [if_pos (det h2), if_pos ⟨h1, h2⟩, hn]
   ·rw [if_neg (by simp [h2]), if_neg (by omega)]
  ·rw [if_neg (by omega)]
   simp only [Option.bind_some]
   rw [if_neg (by simp), if_neg (by omega)]
theorem entries_f (P M : Int) (md : List Int) (q : Int) (ex lg l : List Int) (hl : l.length ≤ 4611686018427387904) : matrix_entries.f (l.length + 1) P M md q ex lg l = some (entR q l, P, M, q) :=
 entries_l0 P M md q ex lg l hl l.length (l.length + 1) 0 (by omega) (by omega) (by omega)
theorem rows_drop {l : List (List Int)} {i : Nat} (h : i < l.length) : l.drop i = rd_L1 l (i : Int) :: l.drop (i + 1) := by
 have := drop_cons (d := ([] : List Int)) (i := (i : Int)) (l := l) (by omega) (by omega)
 rw [Int.toNat_natCast, show ((i : Int) + 1).toNat = i + 1 from by omega] at this
 exact this
def lenR (cols : Int) : List (List Int) → Bool
 | [] => true
 | l :: ls => if (l.length : Int) = cols then lenR cols ls else false
theorem lenR_mem {cols : Int} : ∀ {rows : List (List Int)}, lenR cols rows = true → ∀ {l}, l ∈ rows → (l.length : Int) = cols
 | [], _, _, h => by simp at h
 | r :: rs, h, l, hl => by
  rw [lenR] at h
  split at h
  ·rename_i h1
   rcases List.mem_cons.1 hl with rfl | h2
   ·exact h1
   ·exact lenR_mem h h2
  ·simp at h
theorem C_ne {w0 : World} {A : Option Addr} {l : List Int} {g : Nat} (h : Kd.C (Kd.int .i64) w0 A l.length l) (hg : w0.heap.size ≤ g) : ∀ ad, A = some ad → 0 < l.length → ad.block ≠ g := by
 intro ad e h0
 obtain ⟨ad', e', hx⟩ := Kd.at_int h 0 (by omega) (by omega)
 rw [e] at e'
 cases e'
 have hb := World.block_lt_of_cell? _ _ hx
 rw [add_block] at hb
 omega
def entM (q : Int) : List (List Int) → Int
 | [] => 0
 | l :: ls => if entR q l = 0 then entM q ls else entR q l
def checkM (q cols : Int) (rows : List (List Int)) : Int :=
 if cols < 0 ∨ cols > 256 ∨ (rows.length : Int) > 256 then 3 else if lenR cols rows = true then entM q rows else 3
theorem check98_calls (g : Nat) (P M : Int) (md : List Int) (q : Int) (ex lg : List Int) (cols : Int) (A : Option Addr) (c : Nat) (rows : List (List Int)) (w0 w : World) (hI : IsS109 w0 w g P M md q ex lg) (hB : Below w0.heap.size w0 w)
  (hr : Kd.C (Kd.slice 3 (Kd.int .i64)) w0 A rows.length rows) (hc : rows.length ≤ c) :
  Calls Try.prog 98 #[.pointer (some ⟨g, 0, none⟩), .agg #[.int .i64 cols, .slice A rows.length c]] w fun e w' => e = .returned (.int .i64 (checkM q cols rows)) ∧ IsS109 w0 w' g P M md q ex lg ∧ Below w0.heap.size w0 w' := by
 have hu27 := Try.underlying27
 have HI := ak hI
 have HB0 := ak hB
 have HR := ak hr
 have HC := ak hc
 clear hI hB hr hc
 go_enter Try.func98, Try.ntmps98
 by_cases hbad : cols < 0 ∨ cols > 256 ∨ (rows.length : Int) > 256
 ·go_wp2_with (first | ((with_reducible refine gate_dst (N := 3) rfl ?_); refine box_event ?hg (N := 3) ?hd (cs := #[.int .i64 cols, .slice A rows.length c]) (t := 27) ?hr ?_; (case hd => rfl); (case hg => rfl); (case hr => first | (go_simp; done) | (go_simp; rfl)); intro gb hgb w1 hbox hb; have HGB := ak (show w.heap.size ≤ gb by omega); have HBK := ak hbox; have HB := ak hb; clear hgb; have hcz0 : w1.cell? ⟨gb, 0, none⟩ = some (.int .i64 cols) := (kce hbox 0).trans rfl; have hcz1 : w1.cell? ⟨gb, 1, none⟩ = some (.slice A rows.length c) := (kce hbox 1).trans rfl; clear hbox hb))
  all_goals first | (go_ret; refine ⟨by rw [checkM, if_pos hbad]; rfl, HI.out.below HB.out, bsp HB0.out HB.out⟩) | (exfalso; omega)
 ·have e1 := eq_false (show ¬ cols < 0 by omega)
  have e2 := eq_false (show ¬ 256 < cols by omega)
  have e3 := eq_false (show ¬ 256 < (rows.length : Int) by omega)
  have d1 : decide (cols < 0) = false := dff (by omega)
  have d2 : decide (256 < cols) = false := dff (by omega)
  have d3 : decide (256 < (rows.length : Int)) = false := dff (by omega)
  have HBAD := ak hbad
  have HLN := ak (show rows.length ≤ 256 by omega)
  clear hbad
  go_wp2_with (first | ((with_reducible refine gate_dst (N := 3) rfl ?_); refine box_event ?hg (N := 3) ?hd (cs := #[.int .i64 cols, .slice A rows.length c]) (t := 27) ?hr ?_; (case hd => rfl); (case hg => rfl); (case hr => first | (go_simp; done) | (go_simp; rfl)); intro gb hgb w1 hbox hb; have HGB := ak (show w.heap.size ≤ gb by omega); have HBK := ak hbox; have HB := ak hb; clear hgb; have hcz0 : w1.cell? ⟨gb, 0, none⟩ = some (.int .i64 cols) := (kce hbox 0).trans rfl; have hcz1 : w1.cell? ⟨gb, 1, none⟩ = some (.slice A rows.length c) := (kce hbox 1).trans rfl; clear hbox hb))
  clear e1 e2 e3 d1 d2 d3
  have HI1 := ak (HI.out.below HB.out)
  have HB1 := ak (bsp HB0.out HB.out)
  have HR1 := ak (Kd.C_below HR.out HB1.out)
  clear HI HB0
  go_loopg [27] rows.length (fun gk v27 w' => w' = w1 ∧ ∃ n : Nat, v27 = .int .i64 n ∧ Aside0 (n ≤ rows.length ∧ gk = rows.length - n ∧ lenR cols (rows.drop n) = lenR cols rows))
  case atStart => exact ⟨rfl, 0, rfl, ⟨by simp, by simp, by simp⟩⟩
  case round =>
   obtain ⟨rfl, n, rfl, HN⟩ := hrel
   by_cases hlt : (n : Int) < (rows.length : Int)
   ·have c1 := eq_true hlt
    have c2 : (0 ≤ (n : Int)) = True := eq_true (Int.natCast_nonneg n)
    obtain ⟨ad, A0, c0, eA, hx, hc0, hr0⟩ := at_L1 HR1.out n (of_eq_true c2) hlt
    subst eA
    obtain ⟨row, hrow⟩ : ∃ x, rd_L1 rows (n : Int) = x := ⟨_, rfl⟩
    rw [hrow] at hx hc0 hr0
    rw [Int.toNat_natCast] at hx
    have HLT := ak hlt
    have HROW := ak hrow
    clear hlt hrow hc0 hr0
    by_cases hl : (row.length : Int) = cols
    ·have b1 : ((row.length : Int) != cols) = false := by simp [hl]
     have HL := ak hl
     clear hl
     go_wp2
     go_roundg (rows.length - (n + 1))
     case measure => have := HN.out.2.1; have := HLT.out; omega
     case rel =>
      have h := HN.out; have h2 := HLT.out
      refine ⟨rfl, n + 1, by rw [wrap64_succ' (n := 9223372036854775807) (by omega) (by have := HLN.out; omega) (by omega)]; rfl, ⟨by omega, rfl, ?_⟩⟩
      ·rw [← h.2.2, rows_drop (by omega : n < rows.length), lenR, HROW.out, if_pos HL.out]
    ·have b1 : ((row.length : Int) != cols) = true := by simp [hl]
     have HL := ak hl
     clear hl
     go_wp2
     go_ret
     have h := HN.out; have h2 := HLT.out
     refine ⟨?_, HI1.out, HB1.out⟩
     rw [checkM, if_neg HBAD.out, ← h.2.2, rows_drop (by omega : n < rows.length), lenR, HROW.out, if_neg HL.out, if_neg (by simp)]; rfl
   ·have c1 := eq_false hlt
    have HLT := ak hlt
    clear hlt
    have HLR := ak (show lenR cols rows = true by
     have h := HN.out; have h2 := HLT.out
     rw [← h.2.2, show n = rows.length by omega, List.drop_length, lenR])
    go_wp2
    clear HN HLT hcz0 c1
    go_loopg [40] rows.length (fun gk v40 w' => ∃ n : Nat, v40 = .int .i64 n ∧ Aside0 (n ≤ rows.length ∧ gk = rows.length - n ∧ entM q (rows.drop n) = entM q rows) ∧ Aside0 (IsS109 w0 w' g P M md q ex lg) ∧ Aside0 (Below w0.heap.size w0 w'))
    case atStart => exact ⟨0, rfl, ⟨by simp, by simp, by simp⟩, HI1, HB1⟩
    case round =>
     obtain ⟨n, rfl, HN, HIr, HBr⟩ := hrel
     by_cases hlt : (n : Int) < (rows.length : Int)
     ·have c1 := eq_true hlt
      have c2 : (0 ≤ (n : Int)) = True := eq_true (Int.natCast_nonneg n)
      obtain ⟨ad, A0, c0, eA, hx, hc0, hr0⟩ := at_L1 (Kd.C_below HR.out HBr.out) n (of_eq_true c2) hlt
      obtain ⟨ad', A0', c0', eA', hx', hc0', hr0'⟩ := at_L1 HR.out n (of_eq_true c2) hlt
      subst eA
      cases eA'
      rw [pcb HBr.out hx'] at hx
      injection hx with hx
      injection hx with e1 e2 e3
      subst e1 e3
      clear e2 hr0 hc0
      have hx := pcb HBr.out hx'
      obtain ⟨row, hrow⟩ : ∃ x, rd_L1 rows (n : Int) = x := ⟨_, rfl⟩
      rw [hrow] at hx hr0' hc0'
      rw [Int.toNat_natCast] at hx
      have HLT := ak hlt
      have HROW := ak hrow
      have HR0 := ak hr0'
      have HC0 := ak hc0'
      have HLL := ak (lenR_mem HLR.out (show row ∈ rows by rw [← hrow]; exact rd_memRow (by omega) hlt))
      clear hlt hrow hr0' hx' hc0'
      obtain ⟨er, her⟩ : ∃ e, entR q row = e := ⟨_, rfl⟩
      have HER := ak her
      clear her
      go_wp2_with (first | (go_at_call 82; (with_reducible refine (matrix_entries.calls _ g P M md q ex lg A0' c0' row _ _ _ _ w0 _ HIr.out HBr.out ?s1 ?s2 ?s3 (entries_f P M md q ex lg row ?s4)).mono ?_); (case s1 => exact Kd.C_below HR0.out HBr.out); (case s2 => exact HC0.out); (case s3 => exact C_ne HR0.out HIr.out.ge); (case s4 => have := HLL.out; have := HBAD.out; omega); rintro e w2 ⟨rfl, hI, hB, hk⟩; rw [HER.out]; have HI2 := ak hI; have HB2 := ak hB; clear hI hB hk))
      ·rename_i hne
       go_ret
       have h := HN.out; have h2 := HLT.out
       refine ⟨?_, HI2.out, HB2.out⟩
       rw [checkM, if_neg HBAD.out, if_pos HLR.out, ← h.2.2, rows_drop (by omega : n < rows.length), entM, HROW.out, HER.out, if_neg (by simpa using hne)]; rfl
      ·rename_i hne
       go_roundg (rows.length - (n + 1))
       case measure => have := HN.out.2.1; have := HLT.out; omega
       case rel =>
        have h := HN.out; have h2 := HLT.out
        refine ⟨n + 1, by rw [wrap64_succ' (n := 9223372036854775807) (by omega) (by have := HLN.out; omega) (by omega)]; rfl, ⟨by omega, rfl, ?_⟩, HI2, HB2⟩
        rw [← h.2.2, rows_drop (by omega : n < rows.length), entM, HROW.out, HER.out, if_pos (by simpa using hne)]
     ·have c1 := eq_false hlt
      have HLT := ak hlt
      clear hlt
      go_wp2
      go_ret
      have h := HN.out; have h2 := HLT.out
      refine ⟨?_, HIr.out, HBr.out⟩
      rw [checkM, if_neg HBAD.out, if_pos HLR.out, ← h.2.2, show n = rows.length by omega, List.drop_length, entM]; rfl
end Go.Proofs.Ytkifipakikbhcaa.Hand
namespace Go.Proofs.Ytkifipakikbhcaa.Hand
open Ytkifipakikbhcaa.Ref Ytkifipakikbhcaa.Pg
open Ytkifipakikbhcaa.Gf (IsS109)
open Go.RowKit YtkifipakikbhcaaW.PrintWords YtkifipakikbhcaaW.PrintLast YtkifipakikbhcaaW.PrintMore
attribute [local go_sem ↓] Go.wp_at_zero Go.wp_at_succ
theorem open_none (P M : Int) (A : Option Addr) (c : Nat) (md : List Int) (vs : Value) (w : World) (hr : Kd.C (Kd.int .i64) w A md.length md) (hc : md.length ≤ c) (h : newO P M md = some none) :
  Calls Try.prog 80 #[.agg #[.int .i64 P, .int .i64 M, .slice A md.length c], vs] w fun e w' => e = .returned (.tuple #[.pointer none, .int .i64 1]) ∧ Below w.heap.size w w' := by
 have hu24 := Try.underlying24
 have HR := ak hr
 have HC := ak hc
 have HN := ak h
 clear hr hc h
 go_enter Try.func80, Try.ntmps80
 go_wp2_with (first | ((with_reducible refine gate_dst (N := 2) rfl ?_); refine box_event ?hg (N := 2) ?hd (cs := #[.int .i64 P, .int .i64 M, .slice A md.length c]) (t := 24) ?hr ?_; (case hd => rfl); (case hg => rfl); (case hr => first | (go_simp; done) | (go_simp; rfl)); intro gb hgb w1 hbox hb; have HGB := ak (show w.heap.size ≤ gb by omega); have HBK := ak hbox; have HB := ak hb; clear hgb; have hcz0 : w1.cell? ⟨gb, 0, none⟩ = some (.int .i64 P) := (kce hbox 0).trans rfl; have hcz1 : w1.cell? ⟨gb, 1, none⟩ = some (.int .i64 M) := (kce hbox 1).trans rfl; have hcz2 : w1.cell? ⟨gb, 2, none⟩ = some (.slice A md.length c) := (kce hbox 2).trans rfl; clear hbox hb) | (go_at_call 60; (with_reducible refine (New_none P M A c md w1 (Kd.C_below HR.out HB.out) HC.out HN.out).mono ?_); rintro e w2 ⟨rfl, hB⟩; have HB2 := ak hB; clear hB))
 go_ret2
 exact ⟨rfl, bsp HB.out HB2.out⟩
theorem open_some (P M : Int) (A : Option Addr) (c : Nat) (md : List Int) (q : Int) (ex lg : List Int) (gm cm : Nat) (cols : Int) (AR : Option Addr) (cR : Nat) (rows : List (List Int)) (w : World) (hr : Kd.C (Kd.int .i64) w A md.length md) (hc : md.length ≤ c) (h : newO P M md = some (some (q, ex, lg)))
  (hm : w.heap[gm]? = some (.cells #[.int .i64 cols, .slice AR rows.length cR] 27 (0, 0))) (hrr : Kd.C (Kd.slice 3 (Kd.int .i64)) w AR rows.length rows) (hcr : rows.length ≤ cR) :
  Calls Try.prog 80 #[.agg #[.int .i64 P, .int .i64 M, .slice A md.length c], .slice (some ⟨gm, 0, none⟩) 1 cm] w fun e w' => ∃ v : Value, e = .returned (.tuple #[v, .int .i64 (checkM q cols rows)]) ∧ Below w.heap.size w w'
   ∧ (checkM q cols rows = 0 → ∃ g : Nat, v = .pointer (some ⟨g, 0, none⟩) ∧ ∃ w0 : World, IsS109 w0 w' g P M md q ex lg ∧ Below w.heap.size w w0 ∧ Below w0.heap.size w0 w') := by
 have hu24 := Try.underlying24
 have hu27 := Try.underlying27
 have HR := ak hr
 have HC := ak hc
 have HN := ak h
 have HM := ak hm
 have HRR := ak hrr
 have HCR := ak hcr
 obtain ⟨ck, hck⟩ : ∃ e, checkM q cols rows = e := ⟨_, rfl⟩
 rw [hck]
 have HCK := ak hck
 clear hr hc h hm hrr hcr hck
 go_enter Try.func80, Try.ntmps80
 go_wp2_with (first | ((with_reducible refine gate_dst (N := 2) rfl ?_); refine box_event ?hg (N := 2) ?hd (cs := #[.int .i64 P, .int .i64 M, .slice A md.length c]) (t := 24) ?hr ?_; (case hd => rfl); (case hg => rfl); (case hr => first | (go_simp; done) | (go_simp; rfl)); intro gb hgb w1 hbox hb; have HGB := ak (show w.heap.size ≤ gb by omega); have HBK := ak hbox; have HB := ak hb; clear hgb; have hcz0 : w1.cell? ⟨gb, 0, none⟩ = some (.int .i64 P) := (kce hbox 0).trans rfl; have hcz1 : w1.cell? ⟨gb, 1, none⟩ = some (.int .i64 M) := (kce hbox 1).trans rfl; have hcz2 : w1.cell? ⟨gb, 2, none⟩ = some (.slice A md.length c) := (kce hbox 2).trans rfl; clear hbox hb) | (go_at_call 60; (with_reducible refine (New_some P M A c md q ex lg w1 (Kd.C_below HR.out HB.out) HC.out HN.out).mono ?_); rintro e w2 ⟨g, rfl, w0, hI, hB1, hB2⟩; have HI := ak hI; have HB1 := ak (bsp HB.out hB1); have HB2 := ak hB2; clear hI hB1 hB2))
 have HMB := ak (show Below w.heap.size w w2 from bsp HB1.out HB2.out)
 clear hcz0 hcz1 hcz2
 go_loopg [20] 1 (fun gk v20 w' => (v20 = .int .i64 0 ∧ gk = 1 ∧ w' = w2) ∨ (v20 = .int .i64 1 ∧ gk = 0 ∧ ck = 0 ∧ Aside0 (IsS109 w0 w' g P M md q ex lg) ∧ Aside0 (Below w0.heap.size w0 w')))
 case atStart => exact Or.inl ⟨rfl, rfl, rfl⟩
 case round =>
  rcases hrel with ⟨rfl, rfl, rfl⟩ | ⟨rfl, rfl, h0, HIr, HBr⟩
  ·have hm0 : wr.cell? ⟨gm, 0, none⟩ = some (.int .i64 cols) := cbl ((kce HM.out 0).trans rfl) HMB.out
   have hm1 : wr.cell? ⟨gm, 1, none⟩ = some (.slice AR rows.length cR) := cbl ((kce HM.out 1).trans rfl) HMB.out
   go_wp2_with (first | (go_at_call 98; (with_reducible refine (check98_calls g P M md q ex lg cols AR cR rows w0 _ (HI.out.alloc _) (bal HB2.out _) (Kd.C_below HRR.out HB1.out) HCR.out).mono ?_); rintro e w3 ⟨rfl, hI, hB⟩; rw [HCK.out]; have HI3 := ak hI; have HB3 := ak hB; clear hI hB))
   ·rename_i hne
    go_ret2
    exact ⟨_, rfl, bsp HB1.out HB3.out, fun h0 => absurd h0 (by simpa using hne)⟩
   ·rename_i hne
    go_roundg 0
    case measure => exact Nat.zero_lt_one
    case rel => exact Or.inr ⟨rfl, rfl, by simpa using hne, HI3, HB3⟩
  ·subst h0
   go_wp2
   go_ret2
   exact ⟨_, rfl, bsp HB1.out HBr.out, g, rfl, w0, HIr.out, HB1.out, HBr.out⟩
def matrix_Check.f (a0_0 : Int) (a0_1 : Int) (l0_2 : List Int) (a1_0 : Int) (l1_1 : List (List Int)) : Option Int :=
 (newO a0_0 a0_1 l0_2).map fun o => match o with
  | none => 1
  | some x => checkM x.1 a1_0 l1_1
theorem matrix_Check.calls (a0_0 : Int) (a0_1 : Int) (A0_2 : Option Addr) (c0_2 : Nat) (l0_2 : List Int) (a1_0 : Int) (A1_1 : Option Addr) (c1_1 : Nat) (l1_1 : List (List Int)) (r : Int) (w : World) (hr0_2 : Kd.C (Kd.int .i64) w A0_2 l0_2.length l0_2) (hc0_2 : l0_2.length ≤ c0_2) (hr1_1 : Kd.C (Kd.slice 3 (Kd.int .i64)) w A1_1 l1_1.length l1_1) (hc1_1 : l1_1.length ≤ c1_1) (h : matrix_Check.f a0_0 a0_1 l0_2 a1_0 l1_1 = some r) :
  Calls Try.prog 42 #[.agg #[.int .i64 a0_0, .int .i64 a0_1, .slice A0_2 l0_2.length c0_2], .agg #[.int .i64 a1_0, .slice A1_1 l1_1.length c1_1]] w fun e w' => e = .returned (.int .i64 r) ∧ Below w.heap.size w w' := by
 have hu24 := Try.underlying24
 have hu27 := Try.underlying27
 have HR := ak hr0_2
 have HC := ak hc0_2
 have HRR := ak hr1_1
 have HCR := ak hc1_1
 have HH := ak h
 clear hr0_2 hc0_2 hr1_1 hc1_1 h
 go_enter Try.func42, Try.ntmps42
 go_upto_region 1 with (first | ((with_reducible refine gate_dst (N := 2) rfl ?_); refine box_event ?hg (N := 2) ?hd (cs := #[.int .i64 a0_0, .int .i64 a0_1, .slice A0_2 l0_2.length c0_2]) (t := 24) ?hr ?_; (case hd => rfl); (case hg => rfl); (case hr => first | (go_simp; done) | (go_simp; rfl)); intro gb hgb w1 hbox hb; have HGB := ak (show w.heap.size ≤ gb by omega); have HBK := ak hbox; have HB := ak hb; clear hgb hbox hb) | ((with_reducible refine gate_dst (N := 3) rfl ?_); refine box_event ?hg (N := 3) ?hd (cs := #[.int .i64 a1_0, .slice A1_1 l1_1.length c1_1]) (t := 27) ?hr ?_; (case hd => rfl); (case hg => rfl); (case hr => first | (go_simp; done) | (go_simp; rfl)); intro gm hgm w2 hbox hb; have HBM := ak hbox; have HBK2 := ak (blk_grown HBK.out (grown_of_below hb none) (by simp)); have HB2 := ak (bsp HB.out hb); clear hgm hbox hb))
 have hcz0 : w2.cell? ⟨gb, 0, none⟩ = some (.int .i64 a0_0) := (kce HBK2.out 0).trans rfl
 have hcz1 : w2.cell? ⟨gb, 1, none⟩ = some (.int .i64 a0_1) := (kce HBK2.out 1).trans rfl
 have hcz2 : w2.cell? ⟨gb, 2, none⟩ = some (.slice A0_2 l0_2.length c0_2) := (kce HBK2.out 2).trans rfl
 have hcm0 : w2.cell? ⟨gm, 0, none⟩ = some (.int .i64 a1_0) := (kce HBM.out 0).trans rfl
 have hcm1 : w2.cell? ⟨gm, 1, none⟩ = some (.slice A1_1 l1_1.length c1_1) := (kce HBM.out 1).trans rfl
 have HBB := ak (bsp HB2.out (bal (Below.refl w2.heap.size w2) (Obj.cells #[.int .i64 a1_0, .slice A1_1 l1_1.length c1_1] 27)))
 cases hno : newO a0_0 a0_1 l0_2 with
 | none => rw [matrix_Check.f, hno] at HH; exact absurd HH.out (by simp)
 | some o =>
  cases o with
  | none =>
   rw [matrix_Check.f, hno] at HH
   have HNO := ak hno
   clear hno
   have hr1 : (1 : Int) = r := osi HH.out
   subst hr1
   go_wp2_with (first | (go_at_call 80; (with_reducible refine (open_none a0_0 a0_1 A0_2 c0_2 l0_2 _ _ (Kd.C_below HR.out HBB.out) HC.out HNO.out).mono ?_); rintro e w3 ⟨rfl, hB⟩; have HB3 := ak hB; clear hB))
   go_ret
   exact ⟨rfl, bsp HBB.out HB3.out⟩
  | some x =>
   obtain ⟨q, ex, lg⟩ := x
   rw [matrix_Check.f, hno] at HH
   have HNO := ak hno
   clear hno
   have hr1 : checkM q a1_0 l1_1 = r := osi HH.out
   have HR1 := ak hr1
   clear hr1 HH
   go_wp2_with (first | (go_at_call 80; (with_reducible refine (open_some a0_0 a0_1 A0_2 c0_2 l0_2 q ex lg w2.heap.size 1 a1_0 A1_1 c1_1 l1_1 _ (Kd.C_below HR.out HBB.out) HC.out HNO.out (heap_alloc_new _ _) (Kd.C_below HRR.out HBB.out) HCR.out).mono ?_); rintro e w3 ⟨v, rfl, hB, -⟩; rw [HR1.out]; have HB3 := ak hB; clear hB))
   go_ret
   exact ⟨rfl, bsp HBB.out HB3.out⟩
end Go.Proofs.Ytkifipakikbhcaa.Hand
namespace Go.Proofs.Ytkifipakikbhcaa.Pm
open Ytkifipakikbhcaa.Ref Ytkifipakikbhcaa.Pg Ytkifipakikbhcaa.Hand
open Go.RowKit YtkifipakikbhcaaW.PrintWords YtkifipakikbhcaaW.PrintLast YtkifipakikbhcaaW.PrintMore
theorem info3 : (Try.prog.info? 3).map (fun i => (i.zero, i.size, i.bytes)) = some (some (.int .i64 0), 1, 8) := by kernel_rfl
theorem info22 : (Try.prog.info? 22).map (fun i => (i.zero, i.size, i.bytes)) = some (some (.slice none 0 0), 1, 24) := by kernel_rfl
def rd_L1 (xs : List (List Int)) (i : Int) : (List Int) := xs.getD i.toNat ([] : List Int)
theorem at_L1 {w : World} {A : Option Addr} {n : Nat} {xs : List (List Int)} (h : Kd.C (Kd.slice 3 (Kd.int .i64)) w A n xs) (i : Int) (h0 : 0 ≤ i) (h1 : i < n) : ∃ ad A0 c0, A = some ad ∧ w.cell? (ad.add i.toNat) = some (.slice A0 (rd_L1 xs i).length c0) ∧ (rd_L1 xs i).length ≤ c0 ∧ (Kd.int .i64).C w A0 (rd_L1 xs i).length (rd_L1 xs i) := by
 obtain ⟨ad, c, e, _, hK, hc0⟩ := Kd.C_get h ([] : List Int) i h0 h1
 have hc : ∀ j u, c[j]? = some u → w.cell? (ad.add (i.toNat * 1 + j)) = some u := hc0
 obtain ⟨A0, c0, rfl, l0, g0⟩ := hK
 exact ⟨ad, A0, c0, e, by have hq := hc 0 _ rfl; rwa [Nat.mul_one, Nat.add_zero] at hq, l0, g0⟩
end Go.Proofs.Ytkifipakikbhcaa.Pm
