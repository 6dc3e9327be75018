/- Part 6 of the claim: what the law reaches, walked (merged by slim.py out of the texts in wip). -/
import Derived.Test.YtkifipakikbhcaaSm5
import Derived.Below
import Derived.ChangeOld
import Derived.Deep.Matrix
import Derived.Lib.SmallJoins
import Derived.OpenShut
import Derived.ProofKit
import Derived.ShutString
import Derived.SizedLaws
import Derived.Test.YtkifipakikbhcaaRows
import Derived.WalkKit
set_option maxHeartbeats 8000000
set_option maxRecDepth 100000
set_option linter.unusedSimpArgs false
set_option linter.unusedVariables false
namespace Go.Proofs.Ytkifipakikbhcaa.Ref
open Go.RowKit Go.Proofs.YtkifipakikbhcaaW.PrintWords Go.Proofs.YtkifipakikbhcaaW.PrintLast Go.Proofs.YtkifipakikbhcaaW.PrintMore
attribute [local go_sem] max2_int min2_int max_two min_two max_three min_three max_four min_four
mutual
def codewrightref09_Few.j0 : Nat → Int → Bool → Int → List (List Int) → Option (Bool)
 | 0, _, _, _, _ => none
 | k + 1, x1, x16, x364000, x364001 => if x16 = true then (some false) else (codewrightref09_Few.l0 k (wrap64 (x1 - (x364001.length : Int))) 0 x364000 x364001)
def codewrightref09_Few.l0 : Nat → Int → Int → Int → List (List Int) → Option (Bool)
 | 0, _, _, _, _ => none
 | k + 1, x5, x6, x364000, x364001 => if x6 < (x364001.length : Int) then (if 0 ≤ x6 then (if ((rd_L1 x364001 x6).length : Int) > x5 then (some false) else (codewrightref09_Few.l0 k (wrap64 (x5 - ((rd_L1 x364001 x6).length : Int))) (wrap64 (x6 + 1)) x364000 x364001)) else (none)) else (some true)
end
def codewrightref09_Few.f (k : Nat) (a0_0 : Int) (l0_1 : List (List Int)) (a1 : Int) : Option (Bool) := if a0_0 > 260 then (codewrightref09_Few.j0 k a1 true a0_0 l0_1) else (codewrightref09_Few.j0 k a1 (decide ((l0_1.length : Int) > a1)) a0_0 l0_1)
theorem codewrightref09_Few.calls (k : Nat) (a0_0 : Int) (A0_1 : Option Addr) (c0_1 : Nat) (l0_1 : List (List Int)) (a1 : Int) (r : Bool) (w : World) (hr0_1 : Kd.C (Kd.slice 3 (Kd.int .i64)) w A0_1 l0_1.length l0_1) (hc0_1 : l0_1.length ≤ c0_1) (h : codewrightref09_Few.f k a0_0 l0_1 a1 = some r) :
  Calls Try.prog 13 #[.agg #[.int .i64 a0_0, .slice A0_1 l0_1.length c0_1], .int .i64 a1] w fun e w' => e = .returned (.bool r) ∧ Below w.heap.size w w' := by
 have hu27 := Try.underlying27
 have HR0_1 := Aside0.mk hr0_1
 have HC0_1 := Aside0.mk hc0_1
 clear hr0_1 hc0_1
 have HB := Aside0.mk (Below.refl w.heap.size w)
 have H : (if a0_0 > 260 then (codewrightref09_Few.j0 k a1 true a0_0 l0_1) else (codewrightref09_Few.j0 k a1 (decide ((l0_1.length : Int) > a1)) a0_0 l0_1)) = some r := h
 clear h
 have HC3 := Aside0.mk H
 clear H
 go_enter Try.func13, Try.ntmps13
 go_upto_region 1 with (first | ((with_reducible refine gate_dst (N := 2) rfl ?_); (try (refine gate_guard (by rfl) ?_; dsimp only)); refine box_event ?hg (N := 2) ?hd (cs := #[.int .i64 a0_0, .slice A0_1 l0_1.length c0_1]) (t := 27) ?hr ?_; (case hd => rfl); (case hg => rfl); (case hr => first | (go_simp; done) | (go_simp; rfl)); intro gb363 hg w4 hbox hb; have n0_ := Aside0.mk (below_step (by repeat (first | (with_reducible first | exact HB.out | apply below_alloc | apply pw_below_drewN | apply below_drew1) | exact HB.out)) hb); have n1_ := Aside0.mk (hbox); have n2_ := Aside0.mk ((by rw [hg]; exact (below_size (by repeat (first | (with_reducible first | exact HB.out | apply below_alloc | apply pw_below_drewN | apply below_drew1) | exact HB.out))) : w.heap.size ≤ gb363)); have n3_ := Aside0.mk ((by rw [hg]; exact (below_size (by repeat (first | (with_reducible first | exact HB.out | apply below_alloc | apply pw_below_drewN | apply below_drew1) | exact HB.out))) : w.heap.size ≤ gb363)); clear HB; have HB := n0_; have BK363 := n1_; have GW363 := n2_; have GE363 := n3_; clear n0_ n1_ n2_ n3_; clear hb hbox hg))
 (try simp only [Act.put, List.setIfInBounds_toArray, List.set_cons_zero, List.set_cons_succ])
 go_cut [16] (fun v16 wc => ∃ (kq : Nat) (x16_2 : Bool), v16 = .bool x16_2 ∧ Aside0 (codewrightref09_Few.j0 kq a1 x16_2 a0_0 l0_1 = some r) ∧ Aside0 (kq ≤ k) ∧ Aside0 (wc.heap[gb363]? = some (.cells #[.int .i64 a0_0, (.slice A0_1 l0_1.length c0_1)] 27 (0, 0))) ∧ Aside0 (Below w.heap.size w wc))
 case first =>
  have H := HC3.out
  clear HC3
  by_cases c5 : a0_0 > 260
  ·rw [if_pos c5] at H
   have c5b0 : decide (260 < a0_0) = true := decide_eq_true c5
   clear c5
   (first | rw [c5b0] | (simp only [i64_w, i32_w]; rw [c5b0]) | skip)
   have H' := Aside0.mk H
   clear H
   have hcz6_0 : w4.cell? ⟨gb363, 0, none⟩ = some (.int .i64 a0_0) := (blk_cell BK363.out 0).trans rfl
   have hcz6_1 : w4.cell? ⟨gb363, 1, none⟩ = some (.slice A0_1 l0_1.length c0_1) := (blk_cell BK363.out 1).trans rfl
   have hfz6_0 := blk_frozen BK363.out 0
   have hfz6_1 := blk_frozen BK363.out 1
   go_wp2
   go_meet
   case rel => exact ⟨_, (true), (by first | rfl | (simp; done) | (simp [*]; done)), H', ⟨by first | omega | exact Nat.le_refl _⟩, ⟨by (with_reducible repeat (first | refine blk_drewN ?_ _ | refine blk_drew ?_ | refine blk_alloc ?_ _)); exact BK363.out⟩, ⟨by repeat (first | (with_reducible first | exact HB.out | apply below_alloc | apply pw_below_drewN | apply below_drew1 | refine below_set ?_ GE363.out) | exact HB.out)⟩⟩
  ·rw [if_neg c5] at H
   have c5b0 : decide (260 < a0_0) = false := decide_eq_false c5
   clear c5
   (first | rw [c5b0] | (simp only [i64_w, i32_w]; rw [c5b0]) | skip)
   have H' := Aside0.mk H
   clear H
   have hcz7_0 : w4.cell? ⟨gb363, 0, none⟩ = some (.int .i64 a0_0) := (blk_cell BK363.out 0).trans rfl
   have hcz7_1 : w4.cell? ⟨gb363, 1, none⟩ = some (.slice A0_1 l0_1.length c0_1) := (blk_cell BK363.out 1).trans rfl
   have hfz7_0 := blk_frozen BK363.out 0
   have hfz7_1 := blk_frozen BK363.out 1
   go_wp2
   go_meet
   case rel => exact ⟨_, (decide ((l0_1.length : Int) > a1)), (by first | rfl | (simp; done) | (simp [*]; done)), H', ⟨by first | omega | exact Nat.le_refl _⟩, ⟨by (with_reducible repeat (first | refine blk_drewN ?_ _ | refine blk_drew ?_ | refine blk_alloc ?_ _)); exact BK363.out⟩, ⟨by repeat (first | (with_reducible first | exact HB.out | apply below_alloc | apply pw_below_drewN | apply below_drew1 | refine below_set ?_ GE363.out) | exact HB.out)⟩⟩
 case rest =>
  clear HC3
  try clear c1
  try clear p2
  try clear c5
  try clear c5b0
  try clear hcz6_0
  try clear hcz6_1
  try clear hcz7_0
  try clear hcz7_1
  try clear hfz6_0
  try clear hfz6_1
  try clear hfz7_0
  try clear hfz7_1
  obtain ⟨kq, x16_2, rfl, HA, HJ2, BK363, HB⟩ := hcut
  cases kq with
  | zero => exact absurd HA.out (by simp [codewrightref09_Few.j0])
  | succ kj2 =>
   have H := HA.out
   clear HA
   simp only [codewrightref09_Few.j0] at H
   by_cases c8 : x16_2 = true
   ·subst c8
    have H1 : (some false) = some r := by rw [if_pos rfl] at H; exact H
    clear H
    have H := H1
    clear H1
    obtain rfl := Option.some.inj H
    go_wp2
    go_ret
    exact ⟨by first | rfl | (simp [errW_none, errW_some] <;> rfl) | (simp [*, errW_none, errW_some] <;> rfl), by repeat (first | (with_reducible first | exact HB.out | apply below_alloc | apply pw_below_drewN | apply below_drew1 | refine below_set ?_ GE363.out) | exact HB.out)⟩
   ·replace c8 := Bool.eq_false_iff.mpr c8
    subst c8
    have H1 : (codewrightref09_Few.l0 kj2 (wrap64 (a1 - (l0_1.length : Int))) 0 a0_0 l0_1) = some r := by rw [if_neg (show ¬ (false = true) by decide)] at H; exact H
    clear H
    have H := H1
    clear H1
    have H' := Aside0.mk H
    clear H
    have hcz9_0 : wc.cell? ⟨gb363, 0, none⟩ = some (.int .i64 a0_0) := (blk_cell BK363.out 0).trans rfl
    have hcz9_1 : wc.cell? ⟨gb363, 1, none⟩ = some (.slice A0_1 l0_1.length c0_1) := (blk_cell BK363.out 1).trans rfl
    have hfz9_0 := blk_frozen BK363.out 0
    have hfz9_1 := blk_frozen BK363.out 1
    go_wp2
    go_loopg [5, 6] kj2 (fun kq v5 v6 w' => ∃ (x5_2 : Int) (x6_2 : Int), v5 = .int .i64 x5_2 ∧ v6 = .int .i64 x6_2 ∧ Aside0 (codewrightref09_Few.l0 kq x5_2 x6_2 a0_0 l0_1 = some r) ∧ Aside0 (kq ≤ kj2) ∧ Aside0 (w'.heap[gb363]? = some (.cells #[.int .i64 a0_0, (.slice A0_1 l0_1.length c0_1)] 27 (0, 0))) ∧ Aside0 (Below w.heap.size w w'))
    case atStart => exact ⟨(wrap64 (a1 - (l0_1.length : Int))), (0), (by first | rfl | (simp; done) | (simp [*]; done)), (by first | rfl | (simp; done) | (simp [*]; done)), H', ⟨Nat.le_refl _⟩, ⟨by (with_reducible repeat (first | refine blk_drewN ?_ _ | refine blk_drew ?_ | refine blk_alloc ?_ _)); exact BK363.out⟩, ⟨by repeat (first | (with_reducible first | exact HB.out | apply below_alloc | apply pw_below_drewN | apply below_drew1 | refine below_set ?_ GE363.out) | exact HB.out)⟩⟩
    case round =>
     clear H'
     try clear c1
     try clear p2
     try clear c5
     try clear c5b0
     try clear p6
     try clear c8
     try clear hcz6_0
     try clear hcz6_1
     try clear hcz7_0
     try clear hcz7_1
     try clear hcz9_0
     try clear hcz9_1
     try clear hfz6_0
     try clear hfz6_1
     try clear hfz7_0
     try clear hfz7_1
     try clear hfz9_0
     try clear hfz9_1
     try clear p2
     obtain ⟨x5_2, x6_2, rfl, rfl, HA, HK2, BK363, HB⟩ := hrel
     cases gk with
     | zero => exact absurd HA.out (by simp [codewrightref09_Few.l0])
     | succ k2 =>
      have H := HA.out
      clear HA
      simp only [codewrightref09_Few.l0] at H
      by_cases c10 : x6_2 < (l0_1.length : Int)
      ·rw [if_pos c10] at H
       have c10b0 : decide (x6_2 < (l0_1.length : Int)) = true := decide_eq_true c10
       clear c10
       by_cases c11 : 0 ≤ x6_2
       ·rw [if_pos c11] at H
        have c11b0 : decide (0 ≤ x6_2) = true := decide_eq_true c11
        clear c11
        by_cases c12 : ((rd_L1 l0_1 x6_2).length : Int) > x5_2
        ·rw [if_pos c12] at H
         have c12b0 : decide (x5_2 < ((rd_L1 l0_1 x6_2).length : Int)) = true := decide_eq_true c12
         clear c12
         obtain rfl := Option.some.inj H
         have hcz13_0 : wr.cell? ⟨gb363, 0, none⟩ = some (.int .i64 a0_0) := (blk_cell BK363.out 0).trans rfl
         have hcz13_1 : wr.cell? ⟨gb363, 1, none⟩ = some (.slice A0_1 l0_1.length c0_1) := (blk_cell BK363.out 1).trans rfl
         have hfz13_0 := blk_frozen BK363.out 0
         have hfz13_1 := blk_frozen BK363.out 1
         have p364 : 0 ≤ (x6_2 : Int) := of_decide_eq_true (by first | (with_reducible assumption) | assumption)
         have q364 : x6_2 < (l0_1.length : Int) := of_decide_eq_true (by first | (with_reducible assumption) | assumption)
         obtain ⟨ad364, A364_0, c364_0, e364, hx364_0, hl364_0, hi364_0⟩ := at_L1 HR0_1.out x6_2 p364 q364
         cases e364
         replace hx364_0 := (HB.out.cell (World.block_lt_of_cell? w _ hx364_0)).trans hx364_0
         have HR364_0 := Aside0.mk hi364_0
         have HC364_0 := Aside0.mk hl364_0
         clear hi364_0 hl364_0
         replace p364 := eq_true p364
         replace q364 := eq_true q364
         go_wp2
         go_ret
         exact ⟨by first | rfl | (simp [errW_none, errW_some] <;> rfl) | (simp [*, errW_none, errW_some] <;> rfl), by repeat (first | (with_reducible first | exact HB.out | apply below_alloc | apply pw_below_drewN | apply below_drew1 | refine below_set ?_ GE363.out) | exact HB.out)⟩
        ·rw [if_neg c12] at H
         have c12b0 : decide (x5_2 < ((rd_L1 l0_1 x6_2).length : Int)) = false := decide_eq_false c12
         clear c12
         have H' := Aside0.mk H
         clear H
         have hcz14_0 : wr.cell? ⟨gb363, 0, none⟩ = some (.int .i64 a0_0) := (blk_cell BK363.out 0).trans rfl
         have hcz14_1 : wr.cell? ⟨gb363, 1, none⟩ = some (.slice A0_1 l0_1.length c0_1) := (blk_cell BK363.out 1).trans rfl
         have hfz14_0 := blk_frozen BK363.out 0
         have hfz14_1 := blk_frozen BK363.out 1
         have p364 : 0 ≤ (x6_2 : Int) := of_decide_eq_true (by first | (with_reducible assumption) | assumption)
         have q364 : x6_2 < (l0_1.length : Int) := of_decide_eq_true (by first | (with_reducible assumption) | assumption)
         obtain ⟨ad364, A364_0, c364_0, e364, hx364_0, hl364_0, hi364_0⟩ := at_L1 HR0_1.out x6_2 p364 q364
         cases e364
         replace hx364_0 := (HB.out.cell (World.block_lt_of_cell? w _ hx364_0)).trans hx364_0
         have HR364_0 := Aside0.mk hi364_0
         have HC364_0 := Aside0.mk hl364_0
         clear hi364_0 hl364_0
         replace p364 := eq_true p364
         replace q364 := eq_true q364
         have p365 : 0 ≤ (x6_2 : Int) := of_decide_eq_true (by first | (with_reducible assumption) | assumption)
         have q365 : x6_2 < (l0_1.length : Int) := of_decide_eq_true (by first | (with_reducible assumption) | assumption)
         obtain ⟨ad365, A365_0, c365_0, e365, hx365_0, hl365_0, hi365_0⟩ := at_L1 HR0_1.out x6_2 p365 q365
         obtain rfl : ad364 = ad365 := (by injection e365)
         replace hx365_0 := (HB.out.cell (World.block_lt_of_cell? w _ hx365_0)).trans hx365_0
         have HR365_0 := Aside0.mk hi365_0
         have HC365_0 := Aside0.mk hl365_0
         clear hi365_0 hl365_0
         replace p365 := eq_true p365
         replace q365 := eq_true q365
         have ea_ := Option.some.inj (hx364_0.symm.trans hx365_0)
         injection ea_ with ea_ en_ ec_
         subst ea_
         subst ec_
         clear en_
         go_wp2
         go_roundg k2
         case measure => have := HJ2.out; have := HK2.out; omega
         case rel => exact ⟨(wrap64 (x5_2 - ((rd_L1 l0_1 x6_2).length : Int))), (wrap64 (x6_2 + 1)), (by first | rfl | (simp; done) | (simp [*]; done)), (by first | rfl | (simp; done) | (simp [*]; done)), H', ⟨by have := HJ2.out; have := HK2.out; omega⟩, ⟨by (with_reducible repeat (first | refine blk_drewN ?_ _ | refine blk_drew ?_ | refine blk_alloc ?_ _)); exact BK363.out⟩, ⟨by repeat (first | (with_reducible first | exact HB.out | apply below_alloc | apply pw_below_drewN | apply below_drew1 | refine below_set ?_ GE363.out) | exact HB.out)⟩⟩
       ·rw [if_neg c11] at H
        exact absurd H (by simp)
      ·rw [if_neg c10] at H
       have c10b0 : decide (x6_2 < (l0_1.length : Int)) = false := decide_eq_false c10
       clear c10
       obtain rfl := Option.some.inj H
       have hcz15_0 : wr.cell? ⟨gb363, 0, none⟩ = some (.int .i64 a0_0) := (blk_cell BK363.out 0).trans rfl
       have hcz15_1 : wr.cell? ⟨gb363, 1, none⟩ = some (.slice A0_1 l0_1.length c0_1) := (blk_cell BK363.out 1).trans rfl
       have hfz15_0 := blk_frozen BK363.out 0
       have hfz15_1 := blk_frozen BK363.out 1
       go_wp2
       go_ret
       exact ⟨by first | rfl | (simp [errW_none, errW_some] <;> rfl) | (simp [*, errW_none, errW_some] <;> rfl), by repeat (first | (with_reducible first | exact HB.out | apply below_alloc | apply pw_below_drewN | apply below_drew1 | refine below_set ?_ GE363.out) | exact HB.out)⟩
end Go.Proofs.Ytkifipakikbhcaa.Ref
namespace Go.Proofs.Ytkifipakikbhcaa.Ref
open Go.RowKit Go.Proofs.YtkifipakikbhcaaW.PrintWords Go.Proofs.YtkifipakikbhcaaW.PrintLast Go.Proofs.YtkifipakikbhcaaW.PrintMore
attribute [local go_sem] max2_int min2_int max_two min_two max_three min_three max_four min_four
def codewrightref44_Few.f (k : Nat) (a0_0 : Int) (l0_1 : List (List Int)) : Option (Bool) := (codewrightref09_Few.f k 0 l0_1 300).bind fun t367 => (if t367 = true then (if a0_0 ≤ 10 then (some true) else (some (decide (a0_0 > 16)))) else (some false))
theorem codewrightref44_Few.calls (k : Nat) (a0_0 : Int) (A0_1 : Option Addr) (c0_1 : Nat) (l0_1 : List (List Int)) (r : Bool) (w : World) (hr0_1 : Kd.C (Kd.slice 3 (Kd.int .i64)) w A0_1 l0_1.length l0_1) (hc0_1 : l0_1.length ≤ c0_1) (h : codewrightref44_Few.f k a0_0 l0_1 = some r) :
  Calls Try.prog 17 #[.agg #[.int .i64 a0_0, .slice A0_1 l0_1.length c0_1]] w fun e w' => e = .returned (.bool r) ∧ Below w.heap.size w w' := by
 have hu31 := Try.underlying31
 have hu27 := Try.underlying27
 have HR0_1 := Aside0.mk hr0_1
 have HC0_1 := Aside0.mk hc0_1
 clear hr0_1 hc0_1
 have HB := Aside0.mk (Below.refl w.heap.size w)
 have H : ((codewrightref09_Few.f k 0 l0_1 300).bind fun t367 => (if t367 = true then (if a0_0 ≤ 10 then (some true) else (some (decide (a0_0 > 16)))) else (some false))) = some r := h
 clear h
 replace H := Option.bind_eq_some_iff.mp H
 obtain ⟨t367, A20, H⟩ := H
 replace H : (if t367 = true then (if a0_0 ≤ 10 then (some true) else (some (decide (a0_0 > 16)))) else (some false)) = some r := H
 have A2 := Aside0.mk A20
 clear A20
 by_cases c3 : t367 = true
 ·subst c3
  have H1 : (if a0_0 ≤ 10 then (some true) else (some (decide (a0_0 > 16)))) = some r := by rw [if_pos rfl] at H; exact H
  clear H
  have H := H1
  clear H1
  by_cases c4 : a0_0 ≤ 10
  ·rw [if_pos c4] at H
   have c4b0 : decide (a0_0 ≤ 10) = true := decide_eq_true c4
   clear c4
   obtain rfl := Option.some.inj H
   go_enter Try.func17, Try.ntmps17
   go_wp2_with (first | ((with_reducible refine gate_dst (N := 1) rfl ?_); refine box_event ?hg (N := 1) ?hd (cs := #[.int .i64 a0_0, .slice A0_1 l0_1.length c0_1]) (t := 31) ?hr ?_; (case hd => rfl); (case hg => rfl); (case hr => first | (go_simp; done) | (go_simp; rfl)); intro gb366 hg w5 hbox hb; have n0_ := Aside0.mk (below_step (by repeat (first | (with_reducible first | exact HB.out | apply below_alloc | apply pw_below_drewN | apply below_drew1) | exact HB.out)) hb); have n1_ := Aside0.mk (hbox); have n2_ := Aside0.mk ((by rw [hg]; exact (below_size (by repeat (first | (with_reducible first | exact HB.out | apply below_alloc | apply pw_below_drewN | apply below_drew1) | exact HB.out))) : w.heap.size ≤ gb366)); have n3_ := Aside0.mk ((by rw [hg]; exact (below_size (by repeat (first | (with_reducible first | exact HB.out | apply below_alloc | apply pw_below_drewN | apply below_drew1) | exact HB.out))) : w.heap.size ≤ gb366)); clear HB; have HB := n0_; have BK366 := n1_; have GW366 := n2_; have GE366 := n3_; clear n0_ n1_ n2_ n3_; clear hb hbox hg; have hcz6_0 : w5.cell? ⟨gb366, 0, none⟩ = some (.int .i64 a0_0) := (blk_cell BK366.out 0).trans rfl; have hcz6_1 : w5.cell? ⟨gb366, 1, none⟩ = some (.slice A0_1 l0_1.length c0_1) := (blk_cell BK366.out 1).trans rfl; have hfz6_0 := blk_frozen BK366.out 0; have hfz6_1 := blk_frozen BK366.out 1) | ((with_reducible refine gate_callee (f := 13) rfl ?_); refine goesL_ (some 6) rfl rfl Try.func13 (by kernel_rfl) rfl #[.agg #[.int .i64 0, .slice A0_1 l0_1.length c0_1], .int .i64 300] rfl (by (try simp only [List.map_toArray, List.map_cons, List.map_nil]); first | done | rfl | (simp only [List.length_drop, List.length_take]; rfl)) ?_; (with_reducible refine (codewrightref09_Few.calls k 0 _ _ l0_1 300 true _ ?side1 ?side2 A2.out).mono ?_); (case side1 => repeat (first | exact (Kd.C_below HR0_1.out HB.out) | (with_reducible refine Kd.C_alloc ?_ _) | (with_reducible refine Kd.C_drewN ?_ _) | (with_reducible refine Kd.C_drew ?_))); (case side2 => exact HC0_1.out); rintro e w7 ⟨rfl, hb⟩; refine ⟨_, rfl, ?_⟩; have n0_ := Aside0.mk (blk_below (g := gb366) (o := .cells #[.int .i64 a0_0, .slice A0_1 l0_1.length c0_1] 31 (0, 0)) (by (with_reducible repeat (first | refine blk_drewN ?_ _ | refine blk_drew ?_ | refine blk_alloc ?_ _)); exact BK366.out) hb); have n1_ := Aside0.mk (below_step (by repeat (first | (with_reducible first | exact HB.out | apply below_alloc | apply pw_below_drewN | apply below_drew1 | refine below_set ?_ GE366.out) | exact HB.out)) hb); clear BK366; clear HB; have BK366 := n0_; have HB := n1_; clear n0_ n1_; (try clear hb); (try clear hb2); (try clear hk); (try clear hi); have hcz8_0 : w7.cell? ⟨gb366, 0, none⟩ = some (.int .i64 a0_0) := (blk_cell BK366.out 0).trans rfl; have hcz8_1 : w7.cell? ⟨gb366, 1, none⟩ = some (.slice A0_1 l0_1.length c0_1) := (blk_cell BK366.out 1).trans rfl; have hfz8_0 := blk_frozen BK366.out 0; have hfz8_1 := blk_frozen BK366.out 1))
   go_ret
   exact ⟨by first | rfl | (simp [errW_none, errW_some] <;> rfl) | (simp [*, errW_none, errW_some] <;> rfl), by repeat (first | (with_reducible first | exact HB.out | apply below_alloc | apply pw_below_drewN | apply below_drew1 | refine below_set ?_ GE366.out) | exact HB.out)⟩
  ·rw [if_neg c4] at H
   have c4b0 : decide (a0_0 ≤ 10) = false := decide_eq_false c4
   clear c4
   obtain rfl := Option.some.inj H
   go_enter Try.func17, Try.ntmps17
   go_wp2_with (first | ((with_reducible refine gate_dst (N := 1) rfl ?_); refine box_event ?hg (N := 1) ?hd (cs := #[.int .i64 a0_0, .slice A0_1 l0_1.length c0_1]) (t := 31) ?hr ?_; (case hd => rfl); (case hg => rfl); (case hr => first | (go_simp; done) | (go_simp; rfl)); intro gb366 hg w9 hbox hb; have n0_ := Aside0.mk (below_step (by repeat (first | (with_reducible first | exact HB.out | apply below_alloc | apply pw_below_drewN | apply below_drew1) | exact HB.out)) hb); have n1_ := Aside0.mk (hbox); have n2_ := Aside0.mk ((by rw [hg]; exact (below_size (by repeat (first | (with_reducible first | exact HB.out | apply below_alloc | apply pw_below_drewN | apply below_drew1) | exact HB.out))) : w.heap.size ≤ gb366)); have n3_ := Aside0.mk ((by rw [hg]; exact (below_size (by repeat (first | (with_reducible first | exact HB.out | apply below_alloc | apply pw_below_drewN | apply below_drew1) | exact HB.out))) : w.heap.size ≤ gb366)); clear HB; have HB := n0_; have BK366 := n1_; have GW366 := n2_; have GE366 := n3_; clear n0_ n1_ n2_ n3_; clear hb hbox hg; have hcz10_0 : w9.cell? ⟨gb366, 0, none⟩ = some (.int .i64 a0_0) := (blk_cell BK366.out 0).trans rfl; have hcz10_1 : w9.cell? ⟨gb366, 1, none⟩ = some (.slice A0_1 l0_1.length c0_1) := (blk_cell BK366.out 1).trans rfl; have hfz10_0 := blk_frozen BK366.out 0; have hfz10_1 := blk_frozen BK366.out 1) | ((with_reducible refine gate_callee (f := 13) rfl ?_); refine goesL_ (some 6) rfl rfl Try.func13 (by kernel_rfl) rfl #[.agg #[.int .i64 0, .slice A0_1 l0_1.length c0_1], .int .i64 300] rfl (by (try simp only [List.map_toArray, List.map_cons, List.map_nil]); first | done | rfl | (simp only [List.length_drop, List.length_take]; rfl)) ?_; (with_reducible refine (codewrightref09_Few.calls k 0 _ _ l0_1 300 true _ ?side1 ?side2 A2.out).mono ?_); (case side1 => repeat (first | exact (Kd.C_below HR0_1.out HB.out) | (with_reducible refine Kd.C_alloc ?_ _) | (with_reducible refine Kd.C_drewN ?_ _) | (with_reducible refine Kd.C_drew ?_))); (case side2 => exact HC0_1.out); rintro e w11 ⟨rfl, hb⟩; refine ⟨_, rfl, ?_⟩; have n0_ := Aside0.mk (blk_below (g := gb366) (o := .cells #[.int .i64 a0_0, .slice A0_1 l0_1.length c0_1] 31 (0, 0)) (by (with_reducible repeat (first | refine blk_drewN ?_ _ | refine blk_drew ?_ | refine blk_alloc ?_ _)); exact BK366.out) hb); have n1_ := Aside0.mk (below_step (by repeat (first | (with_reducible first | exact HB.out | apply below_alloc | apply pw_below_drewN | apply below_drew1 | refine below_set ?_ GE366.out) | exact HB.out)) hb); clear BK366; clear HB; have BK366 := n0_; have HB := n1_; clear n0_ n1_; (try clear hb); (try clear hb2); (try clear hk); (try clear hi); have hcz12_0 : w11.cell? ⟨gb366, 0, none⟩ = some (.int .i64 a0_0) := (blk_cell BK366.out 0).trans rfl; have hcz12_1 : w11.cell? ⟨gb366, 1, none⟩ = some (.slice A0_1 l0_1.length c0_1) := (blk_cell BK366.out 1).trans rfl; have hfz12_0 := blk_frozen BK366.out 0; have hfz12_1 := blk_frozen BK366.out 1))
   go_ret
   exact ⟨by first | rfl | (simp [errW_none, errW_some] <;> rfl) | (simp [*, errW_none, errW_some] <;> rfl), by repeat (first | (with_reducible first | exact HB.out | apply below_alloc | apply pw_below_drewN | apply below_drew1 | refine below_set ?_ GE366.out) | exact HB.out)⟩
 ·replace c3 := Bool.eq_false_iff.mpr c3
  subst c3
  have H1 : (some false) = some r := by rw [if_neg (show ¬ (false = true) by decide)] at H; exact H
  clear H
  have H := H1
  clear H1
  obtain rfl := Option.some.inj H
  go_enter Try.func17, Try.ntmps17
  go_wp2_with (first | ((with_reducible refine gate_dst (N := 1) rfl ?_); refine box_event ?hg (N := 1) ?hd (cs := #[.int .i64 a0_0, .slice A0_1 l0_1.length c0_1]) (t := 31) ?hr ?_; (case hd => rfl); (case hg => rfl); (case hr => first | (go_simp; done) | (go_simp; rfl)); intro gb366 hg w13 hbox hb; have n0_ := Aside0.mk (below_step (by repeat (first | (with_reducible first | exact HB.out | apply below_alloc | apply pw_below_drewN | apply below_drew1) | exact HB.out)) hb); have n1_ := Aside0.mk (hbox); have n2_ := Aside0.mk ((by rw [hg]; exact (below_size (by repeat (first | (with_reducible first | exact HB.out | apply below_alloc | apply pw_below_drewN | apply below_drew1) | exact HB.out))) : w.heap.size ≤ gb366)); have n3_ := Aside0.mk ((by rw [hg]; exact (below_size (by repeat (first | (with_reducible first | exact HB.out | apply below_alloc | apply pw_below_drewN | apply below_drew1) | exact HB.out))) : w.heap.size ≤ gb366)); clear HB; have HB := n0_; have BK366 := n1_; have GW366 := n2_; have GE366 := n3_; clear n0_ n1_ n2_ n3_; clear hb hbox hg; have hcz14_0 : w13.cell? ⟨gb366, 0, none⟩ = some (.int .i64 a0_0) := (blk_cell BK366.out 0).trans rfl; have hcz14_1 : w13.cell? ⟨gb366, 1, none⟩ = some (.slice A0_1 l0_1.length c0_1) := (blk_cell BK366.out 1).trans rfl; have hfz14_0 := blk_frozen BK366.out 0; have hfz14_1 := blk_frozen BK366.out 1) | ((with_reducible refine gate_callee (f := 13) rfl ?_); refine goesL_ (some 6) rfl rfl Try.func13 (by kernel_rfl) rfl #[.agg #[.int .i64 0, .slice A0_1 l0_1.length c0_1], .int .i64 300] rfl (by (try simp only [List.map_toArray, List.map_cons, List.map_nil]); first | done | rfl | (simp only [List.length_drop, List.length_take]; rfl)) ?_; (with_reducible refine (codewrightref09_Few.calls k 0 _ _ l0_1 300 false _ ?side1 ?side2 A2.out).mono ?_); (case side1 => repeat (first | exact (Kd.C_below HR0_1.out HB.out) | (with_reducible refine Kd.C_alloc ?_ _) | (with_reducible refine Kd.C_drewN ?_ _) | (with_reducible refine Kd.C_drew ?_))); (case side2 => exact HC0_1.out); rintro e w15 ⟨rfl, hb⟩; refine ⟨_, rfl, ?_⟩; have n0_ := Aside0.mk (blk_below (g := gb366) (o := .cells #[.int .i64 a0_0, .slice A0_1 l0_1.length c0_1] 31 (0, 0)) (by (with_reducible repeat (first | refine blk_drewN ?_ _ | refine blk_drew ?_ | refine blk_alloc ?_ _)); exact BK366.out) hb); have n1_ := Aside0.mk (below_step (by repeat (first | (with_reducible first | exact HB.out | apply below_alloc | apply pw_below_drewN | apply below_drew1 | refine below_set ?_ GE366.out) | exact HB.out)) hb); clear BK366; clear HB; have BK366 := n0_; have HB := n1_; clear n0_ n1_; (try clear hb); (try clear hb2); (try clear hk); (try clear hi)))
  go_ret
  exact ⟨by first | rfl | (simp [errW_none, errW_some] <;> rfl) | (simp [*, errW_none, errW_some] <;> rfl), by repeat (first | (with_reducible first | exact HB.out | apply below_alloc | apply pw_below_drewN | apply below_drew1 | refine below_set ?_ GE366.out) | exact HB.out)⟩
end Go.Proofs.Ytkifipakikbhcaa.Ref
namespace Go.Proofs.Ytkifipakikbhcaa.Ref
open Go.RowKit Go.Proofs.YtkifipakikbhcaaW.PrintWords Go.Proofs.YtkifipakikbhcaaW.PrintLast Go.Proofs.YtkifipakikbhcaaW.PrintMore
attribute [local go_sem] max2_int min2_int max_two min_two max_three min_three max_four min_four
mutual
def codewrightlaw44_split.l0 : Nat → Int → Int → List Int → Int → Option (List Int)
 | 0, _, _, _, _ => none
 | k + 1, x0, x1, x5, x6 => if x6 < x1 then (codewrightlaw44_split.j1 k x0 x1 x5 x6 (decide (x6 < 32))) else (codewrightlaw44_split.j1 k x0 x1 x5 x6 false)
def codewrightlaw44_split.j1 : Nat → Int → Int → List Int → Int → Bool → Option (List Int)
 | 0, _, _, _, _, _ => none
 | k + 1, x0, x1, x5, x6, x13 => if x13 = true then (if 0 ≤ x6 then (if (Go.bits .and .u32 (shr .u32 x0 x6) 1) = 1 then (if x5.length < 17592186044416 then (codewrightlaw44_split.l0 k x0 x1 (x5 ++ [x6]) (wrap64 (x6 + 1))) else (none)) else (codewrightlaw44_split.l0 k x0 x1 x5 (wrap64 (x6 + 1)))) else (none)) else (some x5)
end
def codewrightlaw44_split.f (k : Nat) (a0 : Int) (a1 : Int) : Option (List Int) := codewrightlaw44_split.l0 k a0 a1 ([] : List Int) 0
theorem codewrightlaw44_split.mono_l : ∀ k, (∀ y0 y1 y2 y3, LeO (codewrightlaw44_split.l0 k y0 y1 y2 y3) (codewrightlaw44_split.l0 (k + 1) y0 y1 y2 y3)) ∧ (∀ y0 y1 y2 y3 y4, LeO (codewrightlaw44_split.j1 k y0 y1 y2 y3 y4) (codewrightlaw44_split.j1 (k + 1) y0 y1 y2 y3 y4))
 | 0 => ⟨fun _ _ _ _ r h => by simp [codewrightlaw44_split.l0] at h, fun _ _ _ _ _ r h => by simp [codewrightlaw44_split.j1] at h⟩
 | k + 1 => by
  obtain ⟨ih0, ih1⟩ := codewrightlaw44_split.mono_l k
  refine ⟨?_, ?_⟩
  ·intro y0 y1 y2 y3
   unfold codewrightlaw44_split.l0
   repeat' first
   | (with_reducible exact ih0 _ _ _ _)
   | (with_reducible exact ih1 _ _ _ _ _)
   | (with_reducible exact LeO.refl _)
   | (with_reducible exact LeO.none _)
   | (with_reducible refine LeO.ite ?_ ?_)
   | (with_reducible refine LeO.bind ?_ (fun _ => ?_))
   | exact ih0 _ _ _ _
   | exact ih1 _ _ _ _ _
   | exact LeO.none _
   | refine LeO.ite ?_ ?_
   | refine LeO.bind ?_ (fun _ => ?_)
  ·intro y0 y1 y2 y3 y4
   unfold codewrightlaw44_split.j1
   repeat' first
   | (with_reducible exact ih0 _ _ _ _)
   | (with_reducible exact ih1 _ _ _ _ _)
   | (with_reducible exact LeO.refl _)
   | (with_reducible exact LeO.none _)
   | (with_reducible refine LeO.ite ?_ ?_)
   | (with_reducible refine LeO.bind ?_ (fun _ => ?_))
   | exact ih0 _ _ _ _
   | exact ih1 _ _ _ _ _
   | exact LeO.none _
   | refine LeO.ite ?_ ?_
   | refine LeO.bind ?_ (fun _ => ?_)
theorem codewrightlaw44_split.mono : ∀ a0 a1 k, LeO (codewrightlaw44_split.f k a0 a1) (codewrightlaw44_split.f (k + 1) a0 a1) := by
 intro a0 a1 k
 obtain ⟨ih0, ih1⟩ := codewrightlaw44_split.mono_l k
 unfold codewrightlaw44_split.f
 repeat' first
   | (with_reducible exact ih0 _ _ _ _)
   | (with_reducible exact ih1 _ _ _ _ _)
   | (with_reducible exact LeO.refl _)
   | (with_reducible exact LeO.none _)
   | (with_reducible refine LeO.ite ?_ ?_)
   | (with_reducible refine LeO.bind ?_ (fun _ => ?_))
   | exact ih0 _ _ _ _
   | exact ih1 _ _ _ _ _
   | exact LeO.none _
   | refine LeO.ite ?_ ?_
   | refine LeO.bind ?_ (fun _ => ?_)
theorem codewrightlaw44_split.calls (k : Nat) (a0 : Int) (a1 : Int) (r : List Int) (w : World) (h : codewrightlaw44_split.f k a0 a1 = some r) :
  Calls Try.prog 35 #[.int .u32 a0, .int .i64 a1] w fun e w' => ∃ v0_ : Value, e = .returned (v0_) ∧ Kd.R (Kd.int .i64) 3 w' w.heap.size (fun _ => True) v0_ r ∧ Below w.heap.size w w' := by
 have HB := Aside0.mk (Below.refl w.heap.size w)
 have H : (codewrightlaw44_split.l0 k a0 a1 ([] : List Int) 0) = some r := h
 clear h
 have H' := Aside0.mk H
 clear H
 go_enter Try.func35, Try.ntmps35
 go_wp2
 go_loopg [5, 6] k (fun kq v5 v6 w' => ∃ (x5_1 : List Int) (x6_1 : Int), v6 = .int .i64 x6_1 ∧ Aside0 (codewrightlaw44_split.l0 kq a0 a1 x5_1 x6_1 = some r) ∧ Aside0 (kq ≤ k) ∧ Aside0 (Kd.R (Kd.int .i64) 3 w' w.heap.size (fun _ => True) v5 x5_1) ∧ Aside0 (Below w.heap.size w w'))
 case atStart => exact ⟨(([] : List Int)), (0), (by first | rfl | (simp; done) | (simp [*]; done)), H', ⟨Nat.le_refl _⟩, ⟨by first | exact Kd.R_nil _ _ _ _ _ | exact Kd.N_nil _ _ _ _ _ | exact Kd.V_nil _ _ _ _ _ | exact Kd.Q_nil _ _ _ _ _ | exact Kd.S_nil _ _ _ _ _⟩, ⟨by repeat (first | (with_reducible first | exact HB.out | apply below_alloc | apply pw_below_drewN | apply below_drew1) | exact HB.out)⟩⟩
 case round =>
  clear H'
  try clear p2
  obtain ⟨x5_1, x6_1, rfl, HA, HK1, HO_5, HB⟩ := hrel
  cases gk with
  | zero => exact absurd HA.out (by simp [codewrightlaw44_split.l0])
  | succ k1 =>
   have H := HA.out
   clear HA
   simp only [codewrightlaw44_split.l0] at H
   have HC3 := Aside0.mk H
   clear H
   go_upto_region 3 with (fail)
   go_cut [13] (fun v13 wc => ∃ (kq : Nat) (x13_2 : Bool), v13 = .bool x13_2 ∧ Aside0 (codewrightlaw44_split.j1 kq a0 a1 x5_1 x6_1 x13_2 = some r) ∧ Aside0 (kq ≤ k1) ∧ Aside0 (Kd.R (Kd.int .i64) 3 wc w.heap.size (fun _ => True) u5 x5_1) ∧ Aside0 (Below w.heap.size w wc))
   case first =>
    have H := HC3.out
    clear HC3
    by_cases c4 : x6_1 < a1
    ·rw [if_pos c4] at H
     have c4b0 : decide (x6_1 < a1) = true := decide_eq_true c4
     clear c4
     (first | rw [c4b0] | (simp only [i64_w, i32_w]; rw [c4b0]) | skip)
     have H' := Aside0.mk H
     clear H
     go_wp2
     go_meet
     case rel => exact ⟨_, (decide (x6_1 < 32)), (by first | rfl | (simp; done) | (simp [*]; done)), H', ⟨by have := HK1.out; first | omega | exact Nat.le_refl _⟩, ⟨by (with_reducible repeat (first | apply Kd.R_alloc | apply Kd.R_drewN | apply Kd.R_drew)); exact HO_5.out⟩, ⟨by repeat (first | (with_reducible first | exact HB.out | apply below_alloc | apply pw_below_drewN | apply below_drew1) | exact HB.out)⟩⟩
    ·rw [if_neg c4] at H
     have c4b0 : decide (x6_1 < a1) = false := decide_eq_false c4
     clear c4
     (first | rw [c4b0] | (simp only [i64_w, i32_w]; rw [c4b0]) | skip)
     have H' := Aside0.mk H
     clear H
     go_wp2
     go_meet
     case rel => exact ⟨_, (false), (by first | rfl | (simp; done) | (simp [*]; done)), H', ⟨by have := HK1.out; first | omega | exact Nat.le_refl _⟩, ⟨by (with_reducible repeat (first | apply Kd.R_alloc | apply Kd.R_drewN | apply Kd.R_drew)); exact HO_5.out⟩, ⟨by repeat (first | (with_reducible first | exact HB.out | apply below_alloc | apply pw_below_drewN | apply below_drew1) | exact HB.out)⟩⟩
   case rest =>
    clear HC3
    try clear p2
    try clear c3
    try clear c4
    try clear c4b0
    try clear p2
    obtain ⟨kq, x13_2, rfl, HA, HJ2, HO_5, HB⟩ := hcut
    cases kq with
    | zero => exact absurd HA.out (by simp [codewrightlaw44_split.j1])
    | succ kj2 =>
     have H := HA.out
     clear HA
     simp only [codewrightlaw44_split.j1] at H
     by_cases c5 : x13_2 = true
     ·subst c5
      have H1 : (if 0 ≤ x6_1 then (if (Go.bits .and .u32 (shr .u32 a0 x6_1) 1) = 1 then (if x5_1.length < 17592186044416 then (codewrightlaw44_split.l0 kj2 a0 a1 (x5_1 ++ [x6_1]) (wrap64 (x6_1 + 1))) else (none)) else (codewrightlaw44_split.l0 kj2 a0 a1 x5_1 (wrap64 (x6_1 + 1)))) else (none)) = some r := by rw [if_pos rfl] at H; exact H
      clear H
      have H := H1
      clear H1
      by_cases c6 : 0 ≤ x6_1
      ·rw [if_pos c6] at H
       have c6b0 := eq_true c6
       have c6b1 : decide (0 ≤ x6_1) = true := decide_eq_true c6
       clear c6
       obtain ⟨ji7, hji7⟩ : ∃ j_ : Int, (shr .u32 a0 x6_1) = j_ := ⟨_, rfl⟩
       replace H : (if (Go.bits .and .u32 (ji7) 1) = 1 then (if x5_1.length < 17592186044416 then (codewrightlaw44_split.l0 kj2 a0 a1 (x5_1 ++ [x6_1]) (wrap64 (x6_1 + 1))) else (none)) else (codewrightlaw44_split.l0 kj2 a0 a1 x5_1 (wrap64 (x6_1 + 1)))) = some r := by first | (rw [hji7] at H; exact H) | (simp only [hji7] at H ⊢; exact H)
       have hji7_ : (a0 / 2 ^ min x6_1.toNat 32) = ji7 := hji7
       have hji7z : x6_1 ≤ 32 → (a0 / 2 ^ x6_1.toNat) = ji7 := shr_small hji7
       by_cases c8 : (Go.bits .and .u32 (ji7) 1) = 1
       ·rw [if_pos c8] at H
        have c8b0 : ((Go.bits .and .u32 (ji7) 1) == 1) = true := beq_iff_eq.mpr c8
        have c8b1 : ((Go.bits .and .u32 (ji7) 1) != 1) = false := bne_eq_false_iff_eq.mpr c8
        clear c8
        by_cases c9 : x5_1.length < 17592186044416
        ·rw [if_pos c9] at H
         have LMc9 := Aside0.mk c9
         clear c9
         obtain ⟨y384, hy384⟩ : ∃ y_ : List Int, y_ = (x5_1 ++ [x6_1]) := ⟨_, rfl⟩
         replace H : (codewrightlaw44_split.l0 kj2 a0 a1 y384 (wrap64 (x6_1 + 1))) = some r := by first | (rw [hy384]; with_reducible exact H) | (have H2_ := (Option.bind_some _ _).symm.trans H; rw [hy384]; with_reducible exact H2_) | (have H2_ := (Option.bind_some _ _).symm.trans H; with_reducible exact H2_) | with_reducible exact H | (rw [hy384]; exact H) | exact H
         have Ny384 := Aside0.mk hy384
         clear hy384
         have H' := Aside0.mk H
         clear H
         go_wp2_with (first | ((with_reducible refine gate_builtin (b := .append) (xs := #[.tmp 21, .tmp 23]) rfl ?_); at_builtin; refine Kd.R_append (Kd.int .i64) (w0 := w) w.heap.size rfl (.tmp 21) (.tmp 23) 22 3 (.int .i64 0) 8 rfl Try.underlying22 info3 rfl (by decide) (by omega) u5 x5_1 x6_1 [.int .i64 x6_1] (fun _ => True) (fun _ => False) rfl rfl ?aP (fun _ hk => hk.elim) ?aF ?aO ?aB ?aS ?aL ?_; (case aP => exact rfl); (case aB => exact (by repeat (first | (with_reducible first | exact HB.out | apply below_alloc | apply pw_below_drewN | apply below_drew1) | exact HB.out))); (case aF => exact (fun _ _ => trivial)); (case aO => exact (by (with_reducible repeat (first | apply Kd.R_alloc | apply Kd.R_drewN | apply Kd.R_drew)); exact HO_5.out)); (case aS => exact (below_size (by repeat (first | (with_reducible first | exact HB.out | apply below_alloc | apply pw_below_drewN | apply below_drew1) | exact HB.out)))); (case aL => have := LMc9.out; omega); intro v385 w10 ho hb hg hat; rw [← Ny384.out] at ho; have n0_ := Aside0.mk (hb); have n1_ := Aside0.mk (ho); clear HB; clear HO_5; have HB := n0_; have HO386 := n1_; clear n0_ n1_; clear ho hb hg hat))
         go_roundg kj2
         case measure => have := HK1.out; have := HJ2.out; omega
         case rel => exact ⟨(y384), (wrap64 (x6_1 + 1)), (by first | rfl | (simp; done) | (simp [*]; done)), H', ⟨by have := HK1.out; have := HJ2.out; omega⟩, ⟨by (with_reducible repeat (first | apply Kd.R_alloc | apply Kd.R_drewN | apply Kd.R_drew)); exact HO386.out⟩, ⟨by repeat (first | (with_reducible first | exact HB.out | apply below_alloc | apply pw_below_drewN | apply below_drew1) | exact HB.out)⟩⟩
        ·rw [if_neg c9] at H
         exact absurd H (by simp)
       ·rw [if_neg c8] at H
        have c8b0 : ((Go.bits .and .u32 (ji7) 1) == 1) = false := beq_eq_false_iff_ne.mpr c8
        have c8b1 : ((Go.bits .and .u32 (ji7) 1) != 1) = true := bne_iff_ne.mpr c8
        have H' := Aside0.mk H
        clear H
        go_wp2
        go_roundg kj2
        case measure => have := HK1.out; have := HJ2.out; omega
        case rel => exact ⟨(x5_1), (wrap64 (x6_1 + 1)), (by first | rfl | (simp; done) | (simp [*]; done)), H', ⟨by have := HK1.out; have := HJ2.out; omega⟩, ⟨by (with_reducible repeat (first | apply Kd.R_alloc | apply Kd.R_drewN | apply Kd.R_drew)); exact HO_5.out⟩, ⟨by repeat (first | (with_reducible first | exact HB.out | apply below_alloc | apply pw_below_drewN | apply below_drew1) | exact HB.out)⟩⟩
      ·rw [if_neg c6] at H
       exact absurd H (by simp)
     ·replace c5 := Bool.eq_false_iff.mpr c5
      subst c5
      have H1 : (some x5_1) = some r := by rw [if_neg (show ¬ (false = true) by decide)] at H; exact H
      clear H
      have H := H1
      clear H1
      obtain rfl := Option.some.inj H
      go_wp2
      go_ret
      exact ⟨_, by first | rfl | (simp [errW_none, errW_some] <;> rfl) | (simp [*, errW_none, errW_some] <;> rfl), by (with_reducible repeat (first | apply Kd.R_alloc | apply Kd.R_drewN | apply Kd.R_drew)); exact HO_5.out, by repeat (first | (with_reducible first | exact HB.out | apply below_alloc | apply pw_below_drewN | apply below_drew1) | exact HB.out)⟩
end Go.Proofs.Ytkifipakikbhcaa.Ref
namespace Go.Proofs.Ytkifipakikbhcaa.Lb
open Go.Proofs.Ytkifipakikbhcaa.Ref Go.Proofs.Ytkifipakikbhcaa.Pg Go.Proofs.Ytkifipakikbhcaa.Pk Go.Proofs.Ytkifipakikbhcaa.Pm Go.Proofs.Ytkifipakikbhcaa.Hand
open Go.RowKit Go.Proofs.YtkifipakikbhcaaW.PrintWords Go.Proofs.YtkifipakikbhcaaW.PrintLast Go.Proofs.YtkifipakikbhcaaW.PrintMore
attribute [local go_sem] max2_int min2_int max_two min_two max_three min_three max_four min_four
def codewrightlaw44_PeelSmallest.j0 : Nat → Int → Bool → Int → List (List Int) → Option (Bool)
 | 0, _, _, _, _ => none
 | k + 1, x1, x27, x102000, x102001 => if x27 = true then ((codewrightlaw44_awake.f).bind fun t105 => (some t105)) else ((peel_Smallest.f x102000 x102001).bind fun bt106 => ((codewrightlaw44_split.f k x1 x102000).bind fun t110 => ((peel_Stopping.f k x102000 x102001 t110).bind fun bt113 => (if bt113.2 = 0 then (if bt106.2 = 11 then (if bt113.1 = true then (some ((t110.length : Int) == 0)) else (some true)) else ((peel_Stopping.f k x102000 x102001 bt106.1).bind fun bt115 => (if bt106.2 = 0 then (if bt115.2 = 0 then (if bt115.1 = true then (if (bt106.1.length : Int) > 0 then (if bt113.1 = true then (if (t110.length : Int) = 0 then (some (decide ((bt106.1.length : Int) ≤ x102000))) else (if (t110.length : Int) ≥ (bt106.1.length : Int) then (some (decide ((bt106.1.length : Int) ≤ x102000))) else (some false))) else (some (decide ((bt106.1.length : Int) ≤ x102000)))) else (some false)) else (some false)) else (some false)) else (some false)))) else (some false)))))
def codewrightlaw44_PeelSmallest.f (k : Nat) (a0_0 : Int) (l0_1 : List (List Int)) (a1 : Int) : Option (Bool) := (codewrightlaw44_awake.f).bind fun t102 => (if t102 = true then ((codewrightref44_Few.f k a0_0 l0_1).bind fun t103 => (if t103 = true then ((codewrightref44_Check.f k a0_0 l0_1).bind fun t104 => (if t104 = 0 then (codewrightlaw44_PeelSmallest.j0 k a1 (decide (a0_0 > 16)) a0_0 l0_1) else (codewrightlaw44_PeelSmallest.j0 k a1 true a0_0 l0_1))) else (codewrightlaw44_PeelSmallest.j0 k a1 true a0_0 l0_1))) else (codewrightlaw44_PeelSmallest.j0 k a1 true a0_0 l0_1))
theorem codewrightlaw44_PeelSmallest.mono_l : ∀ k, (∀ y0 y1 y2 y3, LeO (codewrightlaw44_PeelSmallest.j0 k y0 y1 y2 y3) (codewrightlaw44_PeelSmallest.j0 (k + 1) y0 y1 y2 y3))
 | 0 => fun _ _ _ _ r h => by simp [codewrightlaw44_PeelSmallest.j0] at h
 | k + 1 => by
  have ih0 := codewrightlaw44_PeelSmallest.mono_l k
  ·intro y0 y1 y2 y3
   unfold codewrightlaw44_PeelSmallest.j0
   repeat' first
   | (with_reducible exact ih0 _ _ _ _)
   | (with_reducible exact codewrightlaw44_split.mono _ _ _)
   | (with_reducible exact codewrightref44_Check.mono _ _ _)
   | (with_reducible exact codewrightref44_Few.mono _ _ _)
   | (with_reducible exact peel_Stopping.mono _ _ _ _)
   | (with_reducible exact LeO.refl _)
   | (with_reducible exact LeO.none _)
   | (with_reducible refine LeO.ite ?_ ?_)
   | (with_reducible refine LeO.bind ?_ (fun _ => ?_))
   | exact ih0 _ _ _ _
   | exact codewrightlaw44_split.mono _ _ _
   | exact codewrightref44_Check.mono _ _ _
   | exact codewrightref44_Few.mono _ _ _
   | exact peel_Stopping.mono _ _ _ _
   | exact LeO.none _
   | refine LeO.ite ?_ ?_
   | refine LeO.bind ?_ (fun _ => ?_)
theorem codewrightlaw44_PeelSmallest.calls (k : Nat) (a0_0 : Int) (A0_1 : Option Addr) (c0_1 : Nat) (l0_1 : List (List Int)) (a1 : Int) (r : Bool) (hrt : r = true) (w : World) (hr0_1 : Kd.C (Kd.slice 3 (Kd.int .i64)) w A0_1 l0_1.length l0_1) (hc0_1 : l0_1.length ≤ c0_1) (h : codewrightlaw44_PeelSmallest.f k a0_0 l0_1 a1 = some r) :
  Calls Try.prog 10 #[.agg #[.int .i64 a0_0, .slice A0_1 l0_1.length c0_1], .int .u32 a1] w fun e w' => e = .returned (.bool r) ∧ Below w.heap.size w w' := by
 have hu31 := Try.underlying31
 have HR0_1 := Aside0.mk hr0_1
 have HC0_1 := Aside0.mk hc0_1
 clear hr0_1 hc0_1
 have HB := Aside0.mk (Below.refl w.heap.size w)
 have H : ((codewrightlaw44_awake.f).bind fun t102 => (if t102 = true then ((codewrightref44_Few.f k a0_0 l0_1).bind fun t103 => (if t103 = true then ((codewrightref44_Check.f k a0_0 l0_1).bind fun t104 => (if t104 = 0 then (codewrightlaw44_PeelSmallest.j0 k a1 (decide (a0_0 > 16)) a0_0 l0_1) else (codewrightlaw44_PeelSmallest.j0 k a1 true a0_0 l0_1))) else (codewrightlaw44_PeelSmallest.j0 k a1 true a0_0 l0_1))) else (codewrightlaw44_PeelSmallest.j0 k a1 true a0_0 l0_1))) = some r := h
 clear h
 have HC3 := Aside0.mk H
 clear H
 go_enter Try.func10, Try.ntmps10
 go_upto_region 1 with (first | ((with_reducible refine gate_dst (N := 2) rfl ?_); (try (refine gate_guard (by rfl) ?_; dsimp only)); refine box_event ?hg (N := 2) ?hd (cs := #[.int .i64 a0_0, .slice A0_1 l0_1.length c0_1]) (t := 31) ?hr ?_; (case hd => rfl); (case hg => rfl); (case hr => first | (go_simp; done) | (go_simp; rfl)); intro gb101 hg w4 hbox hb; have n0_ := Aside0.mk (below_step (by repeat (first | (with_reducible first | exact HB.out | apply below_alloc | apply pw_below_drewN | apply below_drew1) | exact HB.out)) hb); have n1_ := Aside0.mk (hbox); have n2_ := Aside0.mk ((by rw [hg]; exact (below_size (by repeat (first | (with_reducible first | exact HB.out | apply below_alloc | apply pw_below_drewN | apply below_drew1) | exact HB.out))) : w.heap.size ≤ gb101)); have n3_ := Aside0.mk ((by rw [hg]; exact (below_size (by repeat (first | (with_reducible first | exact HB.out | apply below_alloc | apply pw_below_drewN | apply below_drew1) | exact HB.out))) : w.heap.size ≤ gb101)); clear HB; have HB := n0_; have BK101 := n1_; have GW101 := n2_; have GE101 := n3_; clear n0_ n1_ n2_ n3_; clear hb hbox hg))
 (try simp only [Act.put, List.setIfInBounds_toArray, List.set_cons_zero, List.set_cons_succ])
 go_cut [27] (fun v27 wc => ∃ (kq : Nat) (x27_2 : Bool), v27 = .bool x27_2 ∧ Aside0 (codewrightlaw44_PeelSmallest.j0 kq a1 x27_2 a0_0 l0_1 = some r) ∧ Aside0 (kq ≤ k) ∧ Aside0 (wc.heap[gb101]? = some (.cells #[.int .i64 a0_0, (.slice A0_1 l0_1.length c0_1)] 31 (0, 0))) ∧ Aside0 (Below w.heap.size w wc))
 case first =>
  have H := HC3.out
  clear HC3
  replace H := Option.bind_eq_some_iff.mp H
  obtain ⟨t102, A50, H⟩ := H
  replace H : (if t102 = true then ((codewrightref44_Few.f k a0_0 l0_1).bind fun t103 => (if t103 = true then ((codewrightref44_Check.f k a0_0 l0_1).bind fun t104 => (if t104 = 0 then (codewrightlaw44_PeelSmallest.j0 k a1 (decide (a0_0 > 16)) a0_0 l0_1) else (codewrightlaw44_PeelSmallest.j0 k a1 true a0_0 l0_1))) else (codewrightlaw44_PeelSmallest.j0 k a1 true a0_0 l0_1))) else (codewrightlaw44_PeelSmallest.j0 k a1 true a0_0 l0_1)) = some r := H
  have A5 := Aside0.mk A50
  clear A50
  by_cases c6 : t102 = true
  ·subst c6
   have H1 : ((codewrightref44_Few.f k a0_0 l0_1).bind fun t103 => (if t103 = true then ((codewrightref44_Check.f k a0_0 l0_1).bind fun t104 => (if t104 = 0 then (codewrightlaw44_PeelSmallest.j0 k a1 (decide (a0_0 > 16)) a0_0 l0_1) else (codewrightlaw44_PeelSmallest.j0 k a1 true a0_0 l0_1))) else (codewrightlaw44_PeelSmallest.j0 k a1 true a0_0 l0_1))) = some r := by rw [if_pos rfl] at H; exact H
   clear H
   have H := H1
   clear H1
   replace H := Option.bind_eq_some_iff.mp H
   obtain ⟨t103, A70, H⟩ := H
   replace H : (if t103 = true then ((codewrightref44_Check.f k a0_0 l0_1).bind fun t104 => (if t104 = 0 then (codewrightlaw44_PeelSmallest.j0 k a1 (decide (a0_0 > 16)) a0_0 l0_1) else (codewrightlaw44_PeelSmallest.j0 k a1 true a0_0 l0_1))) else (codewrightlaw44_PeelSmallest.j0 k a1 true a0_0 l0_1)) = some r := H
   have A7 := Aside0.mk A70
   clear A70
   by_cases c8 : t103 = true
   ·subst c8
    have H1 : ((codewrightref44_Check.f k a0_0 l0_1).bind fun t104 => (if t104 = 0 then (codewrightlaw44_PeelSmallest.j0 k a1 (decide (a0_0 > 16)) a0_0 l0_1) else (codewrightlaw44_PeelSmallest.j0 k a1 true a0_0 l0_1))) = some r := by rw [if_pos rfl] at H; exact H
    clear H
    have H := H1
    clear H1
    replace H := Option.bind_eq_some_iff.mp H
    obtain ⟨t104, A90, H⟩ := H
    replace H : (if t104 = 0 then (codewrightlaw44_PeelSmallest.j0 k a1 (decide (a0_0 > 16)) a0_0 l0_1) else (codewrightlaw44_PeelSmallest.j0 k a1 true a0_0 l0_1)) = some r := H
    have A9 := Aside0.mk A90
    clear A90
    by_cases c10 : t104 = 0
    ·rw [if_pos c10] at H
     have c10b0 : (t104 == 0) = true := beq_iff_eq.mpr c10
     have c10b1 : (t104 != 0) = false := bne_eq_false_iff_eq.mpr c10
     clear c10
     (first | rw [c10b0] | (simp only [i64_w, i32_w]; rw [c10b0]) | skip)
     have H' := Aside0.mk H
     clear H
     go_wp2_with (first | ((with_reducible refine gate_callee (f := 12) rfl ?_); refine goesL_ (some 11) rfl rfl Try.func12 (by kernel_rfl) rfl #[] rfl (by (try simp only [List.map_toArray, List.map_cons, List.map_nil]); first | done | rfl | (simp only [List.length_drop, List.length_take]; rfl)) ?_; (with_reducible refine (codewrightlaw44_awake.calls  true _ A5.out).mono ?_); rintro e w11 ⟨rfl, hb⟩; refine ⟨_, rfl, ?_⟩; have n0_ := Aside0.mk (blk_below (g := gb101) (o := .cells #[.int .i64 a0_0, .slice A0_1 l0_1.length c0_1] 31 (0, 0)) (by (with_reducible repeat (first | refine blk_drewN ?_ _ | refine blk_drew ?_ | refine blk_alloc ?_ _)); exact BK101.out) hb); have n1_ := Aside0.mk (below_step (by repeat (first | (with_reducible first | exact HB.out | apply below_alloc | apply pw_below_drewN | apply below_drew1 | refine below_set ?_ GE101.out) | exact HB.out)) hb); clear BK101; clear HB; have BK101 := n0_; have HB := n1_; clear n0_ n1_; (try clear hb); (try clear hb2); (try clear hk); (try clear hi); have hcz12_0 : w11.cell? ⟨gb101, 0, none⟩ = some (.int .i64 a0_0) := (blk_cell BK101.out 0).trans rfl; have hcz12_1 : w11.cell? ⟨gb101, 1, none⟩ = some (.slice A0_1 l0_1.length c0_1) := (blk_cell BK101.out 1).trans rfl; have hfz12_0 := blk_frozen BK101.out 0; have hfz12_1 := blk_frozen BK101.out 1) | (go_at_call 17; (with_reducible refine (codewrightref44_Few.calls k a0_0 _ _ l0_1 true _ ?side1 ?side2 A7.out).mono ?_); (case side1 => repeat (first | exact (Kd.C_below HR0_1.out HB.out) | (with_reducible refine Kd.C_alloc ?_ _) | (with_reducible refine Kd.C_drewN ?_ _) | (with_reducible refine Kd.C_drew ?_))); (case side2 => exact HC0_1.out); rintro e w13 ⟨rfl, hb⟩; have n0_ := Aside0.mk (blk_below (g := gb101) (o := .cells #[.int .i64 a0_0, .slice A0_1 l0_1.length c0_1] 31 (0, 0)) (by (with_reducible repeat (first | refine blk_drewN ?_ _ | refine blk_drew ?_ | refine blk_alloc ?_ _)); exact BK101.out) hb); have n1_ := Aside0.mk (below_step (by repeat (first | (with_reducible first | exact HB.out | apply below_alloc | apply pw_below_drewN | apply below_drew1 | refine below_set ?_ GE101.out) | exact HB.out)) hb); clear BK101; clear HB; have BK101 := n0_; have HB := n1_; clear n0_ n1_; (try clear hb); (try clear hb2); (try clear hk); (try clear hi); have hcz14_0 : w13.cell? ⟨gb101, 0, none⟩ = some (.int .i64 a0_0) := (blk_cell BK101.out 0).trans rfl; have hcz14_1 : w13.cell? ⟨gb101, 1, none⟩ = some (.slice A0_1 l0_1.length c0_1) := (blk_cell BK101.out 1).trans rfl; have hfz14_0 := blk_frozen BK101.out 0; have hfz14_1 := blk_frozen BK101.out 1) | (go_at_call 23; (with_reducible refine (codewrightref44_Check.calls k a0_0 _ _ l0_1 t104 _ ?side1 ?side2 A9.out).mono ?_); (case side1 => repeat (first | exact (Kd.C_below HR0_1.out HB.out) | (with_reducible refine Kd.C_alloc ?_ _) | (with_reducible refine Kd.C_drewN ?_ _) | (with_reducible refine Kd.C_drew ?_))); (case side2 => exact HC0_1.out); rintro e w15 ⟨rfl, hb⟩; have n0_ := Aside0.mk (blk_below (g := gb101) (o := .cells #[.int .i64 a0_0, .slice A0_1 l0_1.length c0_1] 31 (0, 0)) (by (with_reducible repeat (first | refine blk_drewN ?_ _ | refine blk_drew ?_ | refine blk_alloc ?_ _)); exact BK101.out) hb); have n1_ := Aside0.mk (below_step (by repeat (first | (with_reducible first | exact HB.out | apply below_alloc | apply pw_below_drewN | apply below_drew1 | refine below_set ?_ GE101.out) | exact HB.out)) hb); clear BK101; clear HB; have BK101 := n0_; have HB := n1_; clear n0_ n1_; (try clear hb); (try clear hb2); (try clear hk); (try clear hi); have hcz16_0 : w15.cell? ⟨gb101, 0, none⟩ = some (.int .i64 a0_0) := (blk_cell BK101.out 0).trans rfl; have hcz16_1 : w15.cell? ⟨gb101, 1, none⟩ = some (.slice A0_1 l0_1.length c0_1) := (blk_cell BK101.out 1).trans rfl; have hfz16_0 := blk_frozen BK101.out 0; have hfz16_1 := blk_frozen BK101.out 1))
     go_meet
     case rel => exact ⟨_, (decide (a0_0 > 16)), (by first | rfl | (simp; done) | (simp [*]; done)), H', ⟨by first | omega | exact Nat.le_refl _⟩, ⟨by (with_reducible repeat (first | refine blk_drewN ?_ _ | refine blk_drew ?_ | refine blk_alloc ?_ _)); exact BK101.out⟩, ⟨by repeat (first | (with_reducible first | exact HB.out | apply below_alloc | apply pw_below_drewN | apply below_drew1 | refine below_set ?_ GE101.out) | exact HB.out)⟩⟩
    ·rw [if_neg c10] at H
     have c10b0 : (t104 == 0) = false := beq_eq_false_iff_ne.mpr c10
     have c10b1 : (t104 != 0) = true := bne_iff_ne.mpr c10
     (first | rw [c10b0] | (simp only [i64_w, i32_w]; rw [c10b0]) | skip)
     have H' := Aside0.mk H
     clear H
     go_wp2_with (first | ((with_reducible refine gate_callee (f := 12) rfl ?_); refine goesL_ (some 11) rfl rfl Try.func12 (by kernel_rfl) rfl #[] rfl (by (try simp only [List.map_toArray, List.map_cons, List.map_nil]); first | done | rfl | (simp only [List.length_drop, List.length_take]; rfl)) ?_; (with_reducible refine (codewrightlaw44_awake.calls  true _ A5.out).mono ?_); rintro e w17 ⟨rfl, hb⟩; refine ⟨_, rfl, ?_⟩; have n0_ := Aside0.mk (blk_below (g := gb101) (o := .cells #[.int .i64 a0_0, .slice A0_1 l0_1.length c0_1] 31 (0, 0)) (by (with_reducible repeat (first | refine blk_drewN ?_ _ | refine blk_drew ?_ | refine blk_alloc ?_ _)); exact BK101.out) hb); have n1_ := Aside0.mk (below_step (by repeat (first | (with_reducible first | exact HB.out | apply below_alloc | apply pw_below_drewN | apply below_drew1 | refine below_set ?_ GE101.out) | exact HB.out)) hb); clear BK101; clear HB; have BK101 := n0_; have HB := n1_; clear n0_ n1_; (try clear hb); (try clear hb2); (try clear hk); (try clear hi); have hcz18_0 : w17.cell? ⟨gb101, 0, none⟩ = some (.int .i64 a0_0) := (blk_cell BK101.out 0).trans rfl; have hcz18_1 : w17.cell? ⟨gb101, 1, none⟩ = some (.slice A0_1 l0_1.length c0_1) := (blk_cell BK101.out 1).trans rfl; have hfz18_0 := blk_frozen BK101.out 0; have hfz18_1 := blk_frozen BK101.out 1) | (go_at_call 17; (with_reducible refine (codewrightref44_Few.calls k a0_0 _ _ l0_1 true _ ?side1 ?side2 A7.out).mono ?_); (case side1 => repeat (first | exact (Kd.C_below HR0_1.out HB.out) | (with_reducible refine Kd.C_alloc ?_ _) | (with_reducible refine Kd.C_drewN ?_ _) | (with_reducible refine Kd.C_drew ?_))); (case side2 => exact HC0_1.out); rintro e w19 ⟨rfl, hb⟩; have n0_ := Aside0.mk (blk_below (g := gb101) (o := .cells #[.int .i64 a0_0, .slice A0_1 l0_1.length c0_1] 31 (0, 0)) (by (with_reducible repeat (first | refine blk_drewN ?_ _ | refine blk_drew ?_ | refine blk_alloc ?_ _)); exact BK101.out) hb); have n1_ := Aside0.mk (below_step (by repeat (first | (with_reducible first | exact HB.out | apply below_alloc | apply pw_below_drewN | apply below_drew1 | refine below_set ?_ GE101.out) | exact HB.out)) hb); clear BK101; clear HB; have BK101 := n0_; have HB := n1_; clear n0_ n1_; (try clear hb); (try clear hb2); (try clear hk); (try clear hi); have hcz20_0 : w19.cell? ⟨gb101, 0, none⟩ = some (.int .i64 a0_0) := (blk_cell BK101.out 0).trans rfl; have hcz20_1 : w19.cell? ⟨gb101, 1, none⟩ = some (.slice A0_1 l0_1.length c0_1) := (blk_cell BK101.out 1).trans rfl; have hfz20_0 := blk_frozen BK101.out 0; have hfz20_1 := blk_frozen BK101.out 1) | (go_at_call 23; (with_reducible refine (codewrightref44_Check.calls k a0_0 _ _ l0_1 t104 _ ?side1 ?side2 A9.out).mono ?_); (case side1 => repeat (first | exact (Kd.C_below HR0_1.out HB.out) | (with_reducible refine Kd.C_alloc ?_ _) | (with_reducible refine Kd.C_drewN ?_ _) | (with_reducible refine Kd.C_drew ?_))); (case side2 => exact HC0_1.out); rintro e w21 ⟨rfl, hb⟩; have n0_ := Aside0.mk (blk_below (g := gb101) (o := .cells #[.int .i64 a0_0, .slice A0_1 l0_1.length c0_1] 31 (0, 0)) (by (with_reducible repeat (first | refine blk_drewN ?_ _ | refine blk_drew ?_ | refine blk_alloc ?_ _)); exact BK101.out) hb); have n1_ := Aside0.mk (below_step (by repeat (first | (with_reducible first | exact HB.out | apply below_alloc | apply pw_below_drewN | apply below_drew1 | refine below_set ?_ GE101.out) | exact HB.out)) hb); clear BK101; clear HB; have BK101 := n0_; have HB := n1_; clear n0_ n1_; (try clear hb); (try clear hb2); (try clear hk); (try clear hi)))
     go_meet
     case rel => exact ⟨_, (true), (by first | rfl | (simp; done) | (simp [*]; done)), H', ⟨by first | omega | exact Nat.le_refl _⟩, ⟨by (with_reducible repeat (first | refine blk_drewN ?_ _ | refine blk_drew ?_ | refine blk_alloc ?_ _)); exact BK101.out⟩, ⟨by repeat (first | (with_reducible first | exact HB.out | apply below_alloc | apply pw_below_drewN | apply below_drew1 | refine below_set ?_ GE101.out) | exact HB.out)⟩⟩
   ·replace c8 := Bool.eq_false_iff.mpr c8
    subst c8
    have H1 : (codewrightlaw44_PeelSmallest.j0 k a1 true a0_0 l0_1) = some r := by rw [if_neg (show ¬ (false = true) by decide)] at H; exact H
    clear H
    have H := H1
    clear H1
    have H' := Aside0.mk H
    clear H
    go_wp2_with (first | ((with_reducible refine gate_callee (f := 12) rfl ?_); refine goesL_ (some 11) rfl rfl Try.func12 (by kernel_rfl) rfl #[] rfl (by (try simp only [List.map_toArray, List.map_cons, List.map_nil]); first | done | rfl | (simp only [List.length_drop, List.length_take]; rfl)) ?_; (with_reducible refine (codewrightlaw44_awake.calls  true _ A5.out).mono ?_); rintro e w22 ⟨rfl, hb⟩; refine ⟨_, rfl, ?_⟩; have n0_ := Aside0.mk (blk_below (g := gb101) (o := .cells #[.int .i64 a0_0, .slice A0_1 l0_1.length c0_1] 31 (0, 0)) (by (with_reducible repeat (first | refine blk_drewN ?_ _ | refine blk_drew ?_ | refine blk_alloc ?_ _)); exact BK101.out) hb); have n1_ := Aside0.mk (below_step (by repeat (first | (with_reducible first | exact HB.out | apply below_alloc | apply pw_below_drewN | apply below_drew1 | refine below_set ?_ GE101.out) | exact HB.out)) hb); clear BK101; clear HB; have BK101 := n0_; have HB := n1_; clear n0_ n1_; (try clear hb); (try clear hb2); (try clear hk); (try clear hi); have hcz23_0 : w22.cell? ⟨gb101, 0, none⟩ = some (.int .i64 a0_0) := (blk_cell BK101.out 0).trans rfl; have hcz23_1 : w22.cell? ⟨gb101, 1, none⟩ = some (.slice A0_1 l0_1.length c0_1) := (blk_cell BK101.out 1).trans rfl; have hfz23_0 := blk_frozen BK101.out 0; have hfz23_1 := blk_frozen BK101.out 1) | (go_at_call 17; (with_reducible refine (codewrightref44_Few.calls k a0_0 _ _ l0_1 false _ ?side1 ?side2 A7.out).mono ?_); (case side1 => repeat (first | exact (Kd.C_below HR0_1.out HB.out) | (with_reducible refine Kd.C_alloc ?_ _) | (with_reducible refine Kd.C_drewN ?_ _) | (with_reducible refine Kd.C_drew ?_))); (case side2 => exact HC0_1.out); rintro e w24 ⟨rfl, hb⟩; have n0_ := Aside0.mk (blk_below (g := gb101) (o := .cells #[.int .i64 a0_0, .slice A0_1 l0_1.length c0_1] 31 (0, 0)) (by (with_reducible repeat (first | refine blk_drewN ?_ _ | refine blk_drew ?_ | refine blk_alloc ?_ _)); exact BK101.out) hb); have n1_ := Aside0.mk (below_step (by repeat (first | (with_reducible first | exact HB.out | apply below_alloc | apply pw_below_drewN | apply below_drew1 | refine below_set ?_ GE101.out) | exact HB.out)) hb); clear BK101; clear HB; have BK101 := n0_; have HB := n1_; clear n0_ n1_; (try clear hb); (try clear hb2); (try clear hk); (try clear hi)))
    go_meet
    case rel => exact ⟨_, (true), (by first | rfl | (simp; done) | (simp [*]; done)), H', ⟨by first | omega | exact Nat.le_refl _⟩, ⟨by (with_reducible repeat (first | refine blk_drewN ?_ _ | refine blk_drew ?_ | refine blk_alloc ?_ _)); exact BK101.out⟩, ⟨by repeat (first | (with_reducible first | exact HB.out | apply below_alloc | apply pw_below_drewN | apply below_drew1 | refine below_set ?_ GE101.out) | exact HB.out)⟩⟩
  ·replace c6 := Bool.eq_false_iff.mpr c6
   subst c6
   have H1 : (codewrightlaw44_PeelSmallest.j0 k a1 true a0_0 l0_1) = some r := by rw [if_neg (show ¬ (false = true) by decide)] at H; exact H
   clear H
   have H := H1
   clear H1
   have H' := Aside0.mk H
   clear H
   go_wp2_with (first | ((with_reducible refine gate_callee (f := 12) rfl ?_); refine goesL_ (some 11) rfl rfl Try.func12 (by kernel_rfl) rfl #[] rfl (by (try simp only [List.map_toArray, List.map_cons, List.map_nil]); first | done | rfl | (simp only [List.length_drop, List.length_take]; rfl)) ?_; (with_reducible refine (codewrightlaw44_awake.calls  false _ A5.out).mono ?_); rintro e w25 ⟨rfl, hb⟩; refine ⟨_, rfl, ?_⟩; have n0_ := Aside0.mk (blk_below (g := gb101) (o := .cells #[.int .i64 a0_0, .slice A0_1 l0_1.length c0_1] 31 (0, 0)) (by (with_reducible repeat (first | refine blk_drewN ?_ _ | refine blk_drew ?_ | refine blk_alloc ?_ _)); exact BK101.out) hb); have n1_ := Aside0.mk (below_step (by repeat (first | (with_reducible first | exact HB.out | apply below_alloc | apply pw_below_drewN | apply below_drew1 | refine below_set ?_ GE101.out) | exact HB.out)) hb); clear BK101; clear HB; have BK101 := n0_; have HB := n1_; clear n0_ n1_; (try clear hb); (try clear hb2); (try clear hk); (try clear hi)))
   go_meet
   case rel => exact ⟨_, (true), (by first | rfl | (simp; done) | (simp [*]; done)), H', ⟨by first | omega | exact Nat.le_refl _⟩, ⟨by (with_reducible repeat (first | refine blk_drewN ?_ _ | refine blk_drew ?_ | refine blk_alloc ?_ _)); exact BK101.out⟩, ⟨by repeat (first | (with_reducible first | exact HB.out | apply below_alloc | apply pw_below_drewN | apply below_drew1 | refine below_set ?_ GE101.out) | exact HB.out)⟩⟩
 case rest =>
  clear HC3
  try clear c1
  try clear p2
  try clear c6
  try clear c8
  try clear c10
  try clear c10b0
  try clear c10b1
  try clear c12
  try clear hcz12_0
  try clear hcz12_1
  try clear hcz14_0
  try clear hcz14_1
  try clear hcz16_0
  try clear hcz16_1
  try clear hcz18_0
  try clear hcz18_1
  try clear hcz20_0
  try clear hcz20_1
  try clear hcz23_0
  try clear hcz23_1
  try clear hfz12_0
  try clear hfz12_1
  try clear hfz14_0
  try clear hfz14_1
  try clear hfz16_0
  try clear hfz16_1
  try clear hfz18_0
  try clear hfz18_1
  try clear hfz20_0
  try clear hfz20_1
  try clear hfz23_0
  try clear hfz23_1
  obtain ⟨kq, x27_2, rfl, HA, HJ2, BK101, HB⟩ := hcut
  cases kq with
  | zero => exact absurd HA.out (by simp [codewrightlaw44_PeelSmallest.j0])
  | succ kj2 =>
   have H := HA.out
   clear HA
   simp only [codewrightlaw44_PeelSmallest.j0] at H
   by_cases c26 : x27_2 = true
   ·subst c26
    have H1 : ((codewrightlaw44_awake.f).bind fun t105 => (some t105)) = some r := by rw [if_pos rfl] at H; exact H
    clear H
    have H := H1
    clear H1
    replace H := Option.bind_eq_some_iff.mp H
    obtain ⟨t105, A270, H⟩ := H
    replace H : (some t105) = some r := H
    have A27 := Aside0.mk A270
    clear A270
    obtain rfl := Option.some.inj H
    go_wp2_with (first | ((with_reducible refine gate_callee (f := 12) rfl ?_); refine goesL_ (some 28) rfl rfl Try.func12 (by kernel_rfl) rfl #[] rfl (by (try simp only [List.map_toArray, List.map_cons, List.map_nil]); first | done | rfl | (simp only [List.length_drop, List.length_take]; rfl)) ?_; (with_reducible refine (codewrightlaw44_awake.calls  t105 _ A27.out).mono ?_); rintro e w28 ⟨rfl, hb⟩; refine ⟨_, rfl, ?_⟩; have n0_ := Aside0.mk (blk_below (g := gb101) (o := .cells #[.int .i64 a0_0, .slice A0_1 l0_1.length c0_1] 31 (0, 0)) (by (with_reducible repeat (first | refine blk_drewN ?_ _ | refine blk_drew ?_ | refine blk_alloc ?_ _)); exact BK101.out) hb); have n1_ := Aside0.mk (below_step (by repeat (first | (with_reducible first | exact HB.out | apply below_alloc | apply pw_below_drewN | apply below_drew1 | refine below_set ?_ GE101.out) | exact HB.out)) hb); clear BK101; clear HB; have BK101 := n0_; have HB := n1_; clear n0_ n1_; (try clear hb); (try clear hb2); (try clear hk); (try clear hi)))
    go_ret
    exact ⟨by first | rfl | (simp [errW_none, errW_some] <;> rfl) | (simp [*, errW_none, errW_some] <;> rfl), by repeat (first | (with_reducible first | exact HB.out | apply below_alloc | apply pw_below_drewN | apply below_drew1 | refine below_set ?_ GE101.out) | exact HB.out)⟩
   ·replace c26 := Bool.eq_false_iff.mpr c26
    subst c26
    have H1 : ((peel_Smallest.f a0_0 l0_1).bind fun bt106 => ((codewrightlaw44_split.f kj2 a1 a0_0).bind fun t110 => ((peel_Stopping.f kj2 a0_0 l0_1 t110).bind fun bt113 => (if bt113.2 = 0 then (if bt106.2 = 11 then (if bt113.1 = true then (some ((t110.length : Int) == 0)) else (some true)) else ((peel_Stopping.f kj2 a0_0 l0_1 bt106.1).bind fun bt115 => (if bt106.2 = 0 then (if bt115.2 = 0 then (if bt115.1 = true then (if (bt106.1.length : Int) > 0 then (if bt113.1 = true then (if (t110.length : Int) = 0 then (some (decide ((bt106.1.length : Int) ≤ a0_0))) else (if (t110.length : Int) ≥ (bt106.1.length : Int) then (some (decide ((bt106.1.length : Int) ≤ a0_0))) else (some false))) else (some (decide ((bt106.1.length : Int) ≤ a0_0)))) else (some false)) else (some false)) else (some false)) else (some false)))) else (some false))))) = some r := by rw [if_neg (show ¬ (false = true) by decide)] at H; exact H
    clear H
    have H := H1
    clear H1
    replace H := Option.bind_eq_some_iff.mp H
    obtain ⟨⟨t106, t109⟩, A290, H⟩ := H
    replace H : ((codewrightlaw44_split.f kj2 a1 a0_0).bind fun t110 => ((peel_Stopping.f kj2 a0_0 l0_1 t110).bind fun bt113 => (if bt113.2 = 0 then (if t109 = 11 then (if bt113.1 = true then (some ((t110.length : Int) == 0)) else (some true)) else ((peel_Stopping.f kj2 a0_0 l0_1 t106).bind fun bt115 => (if t109 = 0 then (if bt115.2 = 0 then (if bt115.1 = true then (if (t106.length : Int) > 0 then (if bt113.1 = true then (if (t110.length : Int) = 0 then (some (decide ((t106.length : Int) ≤ a0_0))) else (if (t110.length : Int) ≥ (t106.length : Int) then (some (decide ((t106.length : Int) ≤ a0_0))) else (some false))) else (some (decide ((t106.length : Int) ≤ a0_0)))) else (some false)) else (some false)) else (some false)) else (some false)))) else (some false)))) = some r := H
    have A29 := Aside0.mk A290
    clear A290
    replace H := Option.bind_eq_some_iff.mp H
    obtain ⟨t110, A300, H⟩ := H
    replace H : ((peel_Stopping.f kj2 a0_0 l0_1 t110).bind fun bt113 => (if bt113.2 = 0 then (if t109 = 11 then (if bt113.1 = true then (some ((t110.length : Int) == 0)) else (some true)) else ((peel_Stopping.f kj2 a0_0 l0_1 t106).bind fun bt115 => (if t109 = 0 then (if bt115.2 = 0 then (if bt115.1 = true then (if (t106.length : Int) > 0 then (if bt113.1 = true then (if (t110.length : Int) = 0 then (some (decide ((t106.length : Int) ≤ a0_0))) else (if (t110.length : Int) ≥ (t106.length : Int) then (some (decide ((t106.length : Int) ≤ a0_0))) else (some false))) else (some (decide ((t106.length : Int) ≤ a0_0)))) else (some false)) else (some false)) else (some false)) else (some false)))) else (some false))) = some r := H
    have A30 := Aside0.mk A300
    clear A300
    replace H := Option.bind_eq_some_iff.mp H
    obtain ⟨⟨t113, t114⟩, A310, H⟩ := H
    replace H : (if t114 = 0 then (if t109 = 11 then (if t113 = true then (some ((t110.length : Int) == 0)) else (some true)) else ((peel_Stopping.f kj2 a0_0 l0_1 t106).bind fun bt115 => (if t109 = 0 then (if bt115.2 = 0 then (if bt115.1 = true then (if (t106.length : Int) > 0 then (if t113 = true then (if (t110.length : Int) = 0 then (some (decide ((t106.length : Int) ≤ a0_0))) else (if (t110.length : Int) ≥ (t106.length : Int) then (some (decide ((t106.length : Int) ≤ a0_0))) else (some false))) else (some (decide ((t106.length : Int) ≤ a0_0)))) else (some false)) else (some false)) else (some false)) else (some false)))) else (some false)) = some r := H
    have A31 := Aside0.mk A310
    clear A310
    by_cases c32 : t114 = 0
    ·rw [if_pos c32] at H
     have c32b0 : (t114 == 0) = true := beq_iff_eq.mpr c32
     have c32b1 : (t114 != 0) = false := bne_eq_false_iff_eq.mpr c32
     clear c32
     by_cases c33 : t109 = 11
     ·rw [if_pos c33] at H
      have c33b0 : (t109 == 11) = true := beq_iff_eq.mpr c33
      have c33b1 : (t109 != 11) = false := bne_eq_false_iff_eq.mpr c33
      clear c33
      by_cases c34 : t113 = true
      ·subst c34
       have H1 : (some ((t110.length : Int) == 0)) = some r := by rw [if_pos rfl] at H; exact H
       clear H
       have H := H1
       clear H1
       obtain rfl := Option.some.inj H
       have hcz35_0 : wc.cell? ⟨gb101, 0, none⟩ = some (.int .i64 a0_0) := (blk_cell BK101.out 0).trans rfl
       have hcz35_1 : wc.cell? ⟨gb101, 1, none⟩ = some (.slice A0_1 l0_1.length c0_1) := (blk_cell BK101.out 1).trans rfl
       have hfz35_0 := blk_frozen BK101.out 0
       have hfz35_1 := blk_frozen BK101.out 1
       go_wp2_with (first | ((with_reducible refine gate_callee (f := 26) rfl ?_); refine goesL_ (some 31) rfl rfl Try.func26 (by kernel_rfl) rfl #[.agg #[.int .i64 a0_0, .slice A0_1 l0_1.length c0_1]] rfl (by (try simp only [List.map_toArray, List.map_cons, List.map_nil]); first | done | rfl | (simp only [List.length_drop, List.length_take]; rfl)) ?_; (with_reducible refine (peel_Smallest.calls a0_0 _ _ l0_1 t106 t109 _ ?side1 ?side2 A29.out).mono ?_); (case side1 => repeat (first | exact (Kd.C_below HR0_1.out HB.out) | (with_reducible refine Kd.C_alloc ?_ _) | (with_reducible refine Kd.C_drewN ?_ _) | (with_reducible refine Kd.C_drew ?_))); (case side2 => exact HC0_1.out); rintro e w36 ⟨v107, rfl, ho0, hb⟩; refine ⟨_, rfl, ?_⟩; have n0_ := Aside0.mk (Kd.R_lower ho0 (below_size (by repeat (first | (with_reducible first | exact HB.out | apply below_alloc | apply pw_below_drewN | apply below_drew1 | refine below_set ?_ GE101.out) | exact HB.out)))); have n1_ := Aside0.mk (blk_below (g := gb101) (o := .cells #[.int .i64 a0_0, .slice A0_1 l0_1.length c0_1] 31 (0, 0)) (by (with_reducible repeat (first | refine blk_drewN ?_ _ | refine blk_drew ?_ | refine blk_alloc ?_ _)); exact BK101.out) hb); have n2_ := Aside0.mk (below_step (by repeat (first | (with_reducible first | exact HB.out | apply below_alloc | apply pw_below_drewN | apply below_drew1 | refine below_set ?_ GE101.out) | exact HB.out)) hb); clear BK101; clear HB; have HO108 := n0_; have BK101 := n1_; have HB := n2_; clear n0_ n1_ n2_; (try clear hb); (try clear hb2); (try clear hk); (try clear hi); (try clear ho0); have hcz37_0 : w36.cell? ⟨gb101, 0, none⟩ = some (.int .i64 a0_0) := (blk_cell BK101.out 0).trans rfl; have hcz37_1 : w36.cell? ⟨gb101, 1, none⟩ = some (.slice A0_1 l0_1.length c0_1) := (blk_cell BK101.out 1).trans rfl; have hfz37_0 := blk_frozen BK101.out 0; have hfz37_1 := blk_frozen BK101.out 1) | ((with_reducible refine gate_callee (f := 35) rfl ?_); refine goesL_ (some 37) rfl rfl Try.func35 (by kernel_rfl) rfl #[.int .u32 a1, .int .i64 a0_0] rfl (by (try simp only [List.map_toArray, List.map_cons, List.map_nil]); first | done | rfl | (simp only [List.length_drop, List.length_take]; rfl)) ?_; (with_reducible refine (codewrightlaw44_split.calls kj2 a1 a0_0 t110 _ A30.out).mono ?_); rintro e w38 ⟨v111, rfl, ho0, hb⟩; refine ⟨_, rfl, ?_⟩; have n0_ := Aside0.mk (Kd.R_elder' (by (with_reducible repeat (first | apply Kd.R_alloc | apply Kd.R_drewN | apply Kd.R_drew)); exact HO108.out) (Kd.R_base ho0) hb); have n1_ := Aside0.mk (Kd.R_lower (Kd.R_new' ho0 (Kd.R_lt (by (with_reducible repeat (first | apply Kd.R_alloc | apply Kd.R_drewN | apply Kd.R_drew)); exact HO108.out))) (below_size (by repeat (first | (with_reducible first | exact HB.out | apply below_alloc | apply pw_below_drewN | apply below_drew1 | refine below_set ?_ GE101.out) | exact HB.out)))); have n2_ := Aside0.mk (blk_below (g := gb101) (o := .cells #[.int .i64 a0_0, .slice A0_1 l0_1.length c0_1] 31 (0, 0)) (by (with_reducible repeat (first | refine blk_drewN ?_ _ | refine blk_drew ?_ | refine blk_alloc ?_ _)); exact BK101.out) hb); have n3_ := Aside0.mk (below_step (by repeat (first | (with_reducible first | exact HB.out | apply below_alloc | apply pw_below_drewN | apply below_drew1 | refine below_set ?_ GE101.out) | exact HB.out)) hb); clear HO108; clear BK101; clear HB; have HO108 := n0_; have HO112 := n1_; have BK101 := n2_; have HB := n3_; clear n0_ n1_ n2_ n3_; (try clear hb); (try clear hb2); (try clear hk); (try clear hi); (try clear ho0); have hcz39_0 : w38.cell? ⟨gb101, 0, none⟩ = some (.int .i64 a0_0) := (blk_cell BK101.out 0).trans rfl; have hcz39_1 : w38.cell? ⟨gb101, 1, none⟩ = some (.slice A0_1 l0_1.length c0_1) := (blk_cell BK101.out 1).trans rfl; have hfz39_0 := blk_frozen BK101.out 0; have hfz39_1 := blk_frozen BK101.out 1; obtain ⟨Ao40, co40, eo40⟩ := Kd.R_slice HO112.out; subst eo40) | ((with_reducible refine gate_callee (f := 20) rfl ?_); refine goesL_ (some 41) rfl rfl Try.func20 (by kernel_rfl) rfl #[.agg #[.int .i64 a0_0, .slice A0_1 l0_1.length c0_1], .slice Ao40 t110.length co40] rfl (by (try simp only [List.map_toArray, List.map_cons, List.map_nil]); first | done | rfl | (simp only [List.length_drop, List.length_take]; rfl)) ?_; (with_reducible refine (peel_Stopping.calls kj2 a0_0 _ _ l0_1 _ _ t110 true t114 _ ?side1 ?side2 ?side3 ?side4 A31.out).mono ?_); (case side1 => repeat (first | exact (Kd.C_below HR0_1.out HB.out) | (with_reducible refine Kd.C_alloc ?_ _) | (with_reducible refine Kd.C_drewN ?_ _) | (with_reducible refine Kd.C_drew ?_))); (case side2 => exact HC0_1.out); (case side3 => repeat (first | exact (Kd.R_reads' HO112.out).2.2 | (with_reducible refine Kd.C_alloc ?_ _) | (with_reducible refine Kd.C_drewN ?_ _) | (with_reducible refine Kd.C_drew ?_))); (case side4 => exact (Kd.R_reads' HO112.out).2.1); rintro e w41 ⟨rfl, hb⟩; refine ⟨_, rfl, ?_⟩; have n0_ := Aside0.mk (Kd.R_below (by (with_reducible repeat (first | apply Kd.R_alloc | apply Kd.R_drewN | apply Kd.R_drew)); exact HO108.out) hb); have n1_ := Aside0.mk (Kd.R_below (by (with_reducible repeat (first | apply Kd.R_alloc | apply Kd.R_drewN | apply Kd.R_drew)); exact HO112.out) hb); have n2_ := Aside0.mk (blk_below (g := gb101) (o := .cells #[.int .i64 a0_0, .slice A0_1 l0_1.length c0_1] 31 (0, 0)) (by (with_reducible repeat (first | refine blk_drewN ?_ _ | refine blk_drew ?_ | refine blk_alloc ?_ _)); exact BK101.out) hb); have n3_ := Aside0.mk (below_step (by repeat (first | (with_reducible first | exact HB.out | apply below_alloc | apply pw_below_drewN | apply below_drew1 | refine below_set ?_ GE101.out) | exact HB.out)) hb); clear HO108; clear HO112; clear BK101; clear HB; have HO108 := n0_; have HO112 := n1_; have BK101 := n2_; have HB := n3_; clear n0_ n1_ n2_ n3_; (try clear hb); (try clear hb2); (try clear hk); (try clear hi)))
       go_ret
       exact ⟨by first | rfl | (simp [errW_none, errW_some] <;> rfl) | (simp [*, errW_none, errW_some] <;> rfl), by repeat (first | (with_reducible first | exact HB.out | apply below_alloc | apply pw_below_drewN | apply below_drew1 | refine below_set ?_ GE101.out) | exact HB.out)⟩
      ·replace c34 := Bool.eq_false_iff.mpr c34
       subst c34
       have H1 : (some true) = some r := by rw [if_neg (show ¬ (false = true) by decide)] at H; exact H
       clear H
       have H := H1
       clear H1
       obtain rfl := Option.some.inj H
       have hcz42_0 : wc.cell? ⟨gb101, 0, none⟩ = some (.int .i64 a0_0) := (blk_cell BK101.out 0).trans rfl
       have hcz42_1 : wc.cell? ⟨gb101, 1, none⟩ = some (.slice A0_1 l0_1.length c0_1) := (blk_cell BK101.out 1).trans rfl
       have hfz42_0 := blk_frozen BK101.out 0
       have hfz42_1 := blk_frozen BK101.out 1
       go_wp2_with (first | ((with_reducible refine gate_callee (f := 26) rfl ?_); refine goesL_ (some 31) rfl rfl Try.func26 (by kernel_rfl) rfl #[.agg #[.int .i64 a0_0, .slice A0_1 l0_1.length c0_1]] rfl (by (try simp only [List.map_toArray, List.map_cons, List.map_nil]); first | done | rfl | (simp only [List.length_drop, List.length_take]; rfl)) ?_; (with_reducible refine (peel_Smallest.calls a0_0 _ _ l0_1 t106 t109 _ ?side1 ?side2 A29.out).mono ?_); (case side1 => repeat (first | exact (Kd.C_below HR0_1.out HB.out) | (with_reducible refine Kd.C_alloc ?_ _) | (with_reducible refine Kd.C_drewN ?_ _) | (with_reducible refine Kd.C_drew ?_))); (case side2 => exact HC0_1.out); rintro e w43 ⟨v107, rfl, ho0, hb⟩; refine ⟨_, rfl, ?_⟩; have n0_ := Aside0.mk (Kd.R_lower ho0 (below_size (by repeat (first | (with_reducible first | exact HB.out | apply below_alloc | apply pw_below_drewN | apply below_drew1 | refine below_set ?_ GE101.out) | exact HB.out)))); have n1_ := Aside0.mk (blk_below (g := gb101) (o := .cells #[.int .i64 a0_0, .slice A0_1 l0_1.length c0_1] 31 (0, 0)) (by (with_reducible repeat (first | refine blk_drewN ?_ _ | refine blk_drew ?_ | refine blk_alloc ?_ _)); exact BK101.out) hb); have n2_ := Aside0.mk (below_step (by repeat (first | (with_reducible first | exact HB.out | apply below_alloc | apply pw_below_drewN | apply below_drew1 | refine below_set ?_ GE101.out) | exact HB.out)) hb); clear BK101; clear HB; have HO108 := n0_; have BK101 := n1_; have HB := n2_; clear n0_ n1_ n2_; (try clear hb); (try clear hb2); (try clear hk); (try clear hi); (try clear ho0); have hcz44_0 : w43.cell? ⟨gb101, 0, none⟩ = some (.int .i64 a0_0) := (blk_cell BK101.out 0).trans rfl; have hcz44_1 : w43.cell? ⟨gb101, 1, none⟩ = some (.slice A0_1 l0_1.length c0_1) := (blk_cell BK101.out 1).trans rfl; have hfz44_0 := blk_frozen BK101.out 0; have hfz44_1 := blk_frozen BK101.out 1) | ((with_reducible refine gate_callee (f := 35) rfl ?_); refine goesL_ (some 37) rfl rfl Try.func35 (by kernel_rfl) rfl #[.int .u32 a1, .int .i64 a0_0] rfl (by (try simp only [List.map_toArray, List.map_cons, List.map_nil]); first | done | rfl | (simp only [List.length_drop, List.length_take]; rfl)) ?_; (with_reducible refine (codewrightlaw44_split.calls kj2 a1 a0_0 t110 _ A30.out).mono ?_); rintro e w45 ⟨v111, rfl, ho0, hb⟩; refine ⟨_, rfl, ?_⟩; have n0_ := Aside0.mk (Kd.R_elder' (by (with_reducible repeat (first | apply Kd.R_alloc | apply Kd.R_drewN | apply Kd.R_drew)); exact HO108.out) (Kd.R_base ho0) hb); have n1_ := Aside0.mk (Kd.R_lower (Kd.R_new' ho0 (Kd.R_lt (by (with_reducible repeat (first | apply Kd.R_alloc | apply Kd.R_drewN | apply Kd.R_drew)); exact HO108.out))) (below_size (by repeat (first | (with_reducible first | exact HB.out | apply below_alloc | apply pw_below_drewN | apply below_drew1 | refine below_set ?_ GE101.out) | exact HB.out)))); have n2_ := Aside0.mk (blk_below (g := gb101) (o := .cells #[.int .i64 a0_0, .slice A0_1 l0_1.length c0_1] 31 (0, 0)) (by (with_reducible repeat (first | refine blk_drewN ?_ _ | refine blk_drew ?_ | refine blk_alloc ?_ _)); exact BK101.out) hb); have n3_ := Aside0.mk (below_step (by repeat (first | (with_reducible first | exact HB.out | apply below_alloc | apply pw_below_drewN | apply below_drew1 | refine below_set ?_ GE101.out) | exact HB.out)) hb); clear HO108; clear BK101; clear HB; have HO108 := n0_; have HO112 := n1_; have BK101 := n2_; have HB := n3_; clear n0_ n1_ n2_ n3_; (try clear hb); (try clear hb2); (try clear hk); (try clear hi); (try clear ho0); have hcz46_0 : w45.cell? ⟨gb101, 0, none⟩ = some (.int .i64 a0_0) := (blk_cell BK101.out 0).trans rfl; have hcz46_1 : w45.cell? ⟨gb101, 1, none⟩ = some (.slice A0_1 l0_1.length c0_1) := (blk_cell BK101.out 1).trans rfl; have hfz46_0 := blk_frozen BK101.out 0; have hfz46_1 := blk_frozen BK101.out 1; obtain ⟨Ao47, co47, eo47⟩ := Kd.R_slice HO112.out; subst eo47) | ((with_reducible refine gate_callee (f := 20) rfl ?_); refine goesL_ (some 41) rfl rfl Try.func20 (by kernel_rfl) rfl #[.agg #[.int .i64 a0_0, .slice A0_1 l0_1.length c0_1], .slice Ao47 t110.length co47] rfl (by (try simp only [List.map_toArray, List.map_cons, List.map_nil]); first | done | rfl | (simp only [List.length_drop, List.length_take]; rfl)) ?_; (with_reducible refine (peel_Stopping.calls kj2 a0_0 _ _ l0_1 _ _ t110 false t114 _ ?side1 ?side2 ?side3 ?side4 A31.out).mono ?_); (case side1 => repeat (first | exact (Kd.C_below HR0_1.out HB.out) | (with_reducible refine Kd.C_alloc ?_ _) | (with_reducible refine Kd.C_drewN ?_ _) | (with_reducible refine Kd.C_drew ?_))); (case side2 => exact HC0_1.out); (case side3 => repeat (first | exact (Kd.R_reads' HO112.out).2.2 | (with_reducible refine Kd.C_alloc ?_ _) | (with_reducible refine Kd.C_drewN ?_ _) | (with_reducible refine Kd.C_drew ?_))); (case side4 => exact (Kd.R_reads' HO112.out).2.1); rintro e w48 ⟨rfl, hb⟩; refine ⟨_, rfl, ?_⟩; have n0_ := Aside0.mk (Kd.R_below (by (with_reducible repeat (first | apply Kd.R_alloc | apply Kd.R_drewN | apply Kd.R_drew)); exact HO108.out) hb); have n1_ := Aside0.mk (Kd.R_below (by (with_reducible repeat (first | apply Kd.R_alloc | apply Kd.R_drewN | apply Kd.R_drew)); exact HO112.out) hb); have n2_ := Aside0.mk (blk_below (g := gb101) (o := .cells #[.int .i64 a0_0, .slice A0_1 l0_1.length c0_1] 31 (0, 0)) (by (with_reducible repeat (first | refine blk_drewN ?_ _ | refine blk_drew ?_ | refine blk_alloc ?_ _)); exact BK101.out) hb); have n3_ := Aside0.mk (below_step (by repeat (first | (with_reducible first | exact HB.out | apply below_alloc | apply pw_below_drewN | apply below_drew1 | refine below_set ?_ GE101.out) | exact HB.out)) hb); clear HO108; clear HO112; clear BK101; clear HB; have HO108 := n0_; have HO112 := n1_; have BK101 := n2_; have HB := n3_; clear n0_ n1_ n2_ n3_; (try clear hb); (try clear hb2); (try clear hk); (try clear hi)))
       go_ret
       exact ⟨by first | rfl | (simp [errW_none, errW_some] <;> rfl) | (simp [*, errW_none, errW_some] <;> rfl), by repeat (first | (with_reducible first | exact HB.out | apply below_alloc | apply pw_below_drewN | apply below_drew1 | refine below_set ?_ GE101.out) | exact HB.out)⟩
     ·rw [if_neg c33] at H
      have c33b0 : (t109 == 11) = false := beq_eq_false_iff_ne.mpr c33
      have c33b1 : (t109 != 11) = true := bne_iff_ne.mpr c33
      replace H := Option.bind_eq_some_iff.mp H
      obtain ⟨⟨t115, t116⟩, A490, H⟩ := H
      replace H : (if t109 = 0 then (if t116 = 0 then (if t115 = true then (if (t106.length : Int) > 0 then (if t113 = true then (if (t110.length : Int) = 0 then (some (decide ((t106.length : Int) ≤ a0_0))) else (if (t110.length : Int) ≥ (t106.length : Int) then (some (decide ((t106.length : Int) ≤ a0_0))) else (some false))) else (some (decide ((t106.length : Int) ≤ a0_0)))) else (some false)) else (some false)) else (some false)) else (some false)) = some r := H
      have A49 := Aside0.mk A490
      clear A490
      by_cases c50 : t109 = 0
      ·rw [if_pos c50] at H
       have c50b0 : (t109 == 0) = true := beq_iff_eq.mpr c50
       have c50b1 : (t109 != 0) = false := bne_eq_false_iff_eq.mpr c50
       clear c50
       by_cases c51 : t116 = 0
       ·rw [if_pos c51] at H
        have c51b0 : (t116 == 0) = true := beq_iff_eq.mpr c51
        have c51b1 : (t116 != 0) = false := bne_eq_false_iff_eq.mpr c51
        clear c51
        by_cases c52 : t115 = true
        ·subst c52
         have H1 : (if (t106.length : Int) > 0 then (if t113 = true then (if (t110.length : Int) = 0 then (some (decide ((t106.length : Int) ≤ a0_0))) else (if (t110.length : Int) ≥ (t106.length : Int) then (some (decide ((t106.length : Int) ≤ a0_0))) else (some false))) else (some (decide ((t106.length : Int) ≤ a0_0)))) else (some false)) = some r := by rw [if_pos rfl] at H; exact H
         clear H
         have H := H1
         clear H1
         by_cases c53 : (t106.length : Int) > 0
         ·rw [if_pos c53] at H
          have c53b0 : decide (0 < (t106.length : Int)) = true := decide_eq_true c53
          have c53b1 : decide (0 < t106.length) = true := decide_eq_true (by omega)
          clear c53
          by_cases c54 : t113 = true
          ·subst c54
           have H1 : (if (t110.length : Int) = 0 then (some (decide ((t106.length : Int) ≤ a0_0))) else (if (t110.length : Int) ≥ (t106.length : Int) then (some (decide ((t106.length : Int) ≤ a0_0))) else (some false))) = some r := by rw [if_pos rfl] at H; exact H
           clear H
           have H := H1
           clear H1
           by_cases c55 : (t110.length : Int) = 0
           ·rw [if_pos c55] at H
            have c55b0 : ((t110.length : Int) == 0) = true := beq_iff_eq.mpr c55
            have c55b1 : ((t110.length : Int) != 0) = false := bne_eq_false_iff_eq.mpr c55
            clear c55
            obtain rfl := Option.some.inj H
            have hcz56_0 : wc.cell? ⟨gb101, 0, none⟩ = some (.int .i64 a0_0) := (blk_cell BK101.out 0).trans rfl
            have hcz56_1 : wc.cell? ⟨gb101, 1, none⟩ = some (.slice A0_1 l0_1.length c0_1) := (blk_cell BK101.out 1).trans rfl
            have hfz56_0 := blk_frozen BK101.out 0
            have hfz56_1 := blk_frozen BK101.out 1
            go_wp2_with (first | ((with_reducible refine gate_callee (f := 26) rfl ?_); refine goesL_ (some 31) rfl rfl Try.func26 (by kernel_rfl) rfl #[.agg #[.int .i64 a0_0, .slice A0_1 l0_1.length c0_1]] rfl (by (try simp only [List.map_toArray, List.map_cons, List.map_nil]); first | done | rfl | (simp only [List.length_drop, List.length_take]; rfl)) ?_; (with_reducible refine (peel_Smallest.calls a0_0 _ _ l0_1 t106 t109 _ ?side1 ?side2 A29.out).mono ?_); (case side1 => repeat (first | exact (Kd.C_below HR0_1.out HB.out) | (with_reducible refine Kd.C_alloc ?_ _) | (with_reducible refine Kd.C_drewN ?_ _) | (with_reducible refine Kd.C_drew ?_))); (case side2 => exact HC0_1.out); rintro e w57 ⟨v107, rfl, ho0, hb⟩; refine ⟨_, rfl, ?_⟩; have n0_ := Aside0.mk (Kd.R_lower ho0 (below_size (by repeat (first | (with_reducible first | exact HB.out | apply below_alloc | apply pw_below_drewN | apply below_drew1 | refine below_set ?_ GE101.out) | exact HB.out)))); have n1_ := Aside0.mk (blk_below (g := gb101) (o := .cells #[.int .i64 a0_0, .slice A0_1 l0_1.length c0_1] 31 (0, 0)) (by (with_reducible repeat (first | refine blk_drewN ?_ _ | refine blk_drew ?_ | refine blk_alloc ?_ _)); exact BK101.out) hb); have n2_ := Aside0.mk (below_step (by repeat (first | (with_reducible first | exact HB.out | apply below_alloc | apply pw_below_drewN | apply below_drew1 | refine below_set ?_ GE101.out) | exact HB.out)) hb); clear BK101; clear HB; have HO108 := n0_; have BK101 := n1_; have HB := n2_; clear n0_ n1_ n2_; (try clear hb); (try clear hb2); (try clear hk); (try clear hi); (try clear ho0); have hcz58_0 : w57.cell? ⟨gb101, 0, none⟩ = some (.int .i64 a0_0) := (blk_cell BK101.out 0).trans rfl; have hcz58_1 : w57.cell? ⟨gb101, 1, none⟩ = some (.slice A0_1 l0_1.length c0_1) := (blk_cell BK101.out 1).trans rfl; have hfz58_0 := blk_frozen BK101.out 0; have hfz58_1 := blk_frozen BK101.out 1) | ((with_reducible refine gate_callee (f := 35) rfl ?_); refine goesL_ (some 37) rfl rfl Try.func35 (by kernel_rfl) rfl #[.int .u32 a1, .int .i64 a0_0] rfl (by (try simp only [List.map_toArray, List.map_cons, List.map_nil]); first | done | rfl | (simp only [List.length_drop, List.length_take]; rfl)) ?_; (with_reducible refine (codewrightlaw44_split.calls kj2 a1 a0_0 t110 _ A30.out).mono ?_); rintro e w59 ⟨v111, rfl, ho0, hb⟩; refine ⟨_, rfl, ?_⟩; have n0_ := Aside0.mk (Kd.R_elder' (by (with_reducible repeat (first | apply Kd.R_alloc | apply Kd.R_drewN | apply Kd.R_drew)); exact HO108.out) (Kd.R_base ho0) hb); have n1_ := Aside0.mk (Kd.R_lower (Kd.R_new' ho0 (Kd.R_lt (by (with_reducible repeat (first | apply Kd.R_alloc | apply Kd.R_drewN | apply Kd.R_drew)); exact HO108.out))) (below_size (by repeat (first | (with_reducible first | exact HB.out | apply below_alloc | apply pw_below_drewN | apply below_drew1 | refine below_set ?_ GE101.out) | exact HB.out)))); have n2_ := Aside0.mk (blk_below (g := gb101) (o := .cells #[.int .i64 a0_0, .slice A0_1 l0_1.length c0_1] 31 (0, 0)) (by (with_reducible repeat (first | refine blk_drewN ?_ _ | refine blk_drew ?_ | refine blk_alloc ?_ _)); exact BK101.out) hb); have n3_ := Aside0.mk (below_step (by repeat (first | (with_reducible first | exact HB.out | apply below_alloc | apply pw_below_drewN | apply below_drew1 | refine below_set ?_ GE101.out) | exact HB.out)) hb); clear HO108; clear BK101; clear HB; have HO108 := n0_; have HO112 := n1_; have BK101 := n2_; have HB := n3_; clear n0_ n1_ n2_ n3_; (try clear hb); (try clear hb2); (try clear hk); (try clear hi); (try clear ho0); have hcz60_0 : w59.cell? ⟨gb101, 0, none⟩ = some (.int .i64 a0_0) := (blk_cell BK101.out 0).trans rfl; have hcz60_1 : w59.cell? ⟨gb101, 1, none⟩ = some (.slice A0_1 l0_1.length c0_1) := (blk_cell BK101.out 1).trans rfl; have hfz60_0 := blk_frozen BK101.out 0; have hfz60_1 := blk_frozen BK101.out 1; obtain ⟨Ao61, co61, eo61⟩ := Kd.R_slice HO112.out; subst eo61) | ((with_reducible refine gate_callee (f := 20) rfl ?_); refine goesL_ (some 41) rfl rfl Try.func20 (by kernel_rfl) rfl #[.agg #[.int .i64 a0_0, .slice A0_1 l0_1.length c0_1], .slice Ao61 t110.length co61] rfl (by (try simp only [List.map_toArray, List.map_cons, List.map_nil]); first | done | rfl | (simp only [List.length_drop, List.length_take]; rfl)) ?_; (with_reducible refine (peel_Stopping.calls kj2 a0_0 _ _ l0_1 _ _ t110 true t114 _ ?side1 ?side2 ?side3 ?side4 A31.out).mono ?_); (case side1 => repeat (first | exact (Kd.C_below HR0_1.out HB.out) | (with_reducible refine Kd.C_alloc ?_ _) | (with_reducible refine Kd.C_drewN ?_ _) | (with_reducible refine Kd.C_drew ?_))); (case side2 => exact HC0_1.out); (case side3 => repeat (first | exact (Kd.R_reads' HO112.out).2.2 | (with_reducible refine Kd.C_alloc ?_ _) | (with_reducible refine Kd.C_drewN ?_ _) | (with_reducible refine Kd.C_drew ?_))); (case side4 => exact (Kd.R_reads' HO112.out).2.1); rintro e w62 ⟨rfl, hb⟩; refine ⟨_, rfl, ?_⟩; have n0_ := Aside0.mk (Kd.R_below (by (with_reducible repeat (first | apply Kd.R_alloc | apply Kd.R_drewN | apply Kd.R_drew)); exact HO108.out) hb); have n1_ := Aside0.mk (Kd.R_below (by (with_reducible repeat (first | apply Kd.R_alloc | apply Kd.R_drewN | apply Kd.R_drew)); exact HO112.out) hb); have n2_ := Aside0.mk (blk_below (g := gb101) (o := .cells #[.int .i64 a0_0, .slice A0_1 l0_1.length c0_1] 31 (0, 0)) (by (with_reducible repeat (first | refine blk_drewN ?_ _ | refine blk_drew ?_ | refine blk_alloc ?_ _)); exact BK101.out) hb); have n3_ := Aside0.mk (below_step (by repeat (first | (with_reducible first | exact HB.out | apply below_alloc | apply pw_below_drewN | apply below_drew1 | refine below_set ?_ GE101.out) | exact HB.out)) hb); clear HO108; clear HO112; clear BK101; clear HB; have HO108 := n0_; have HO112 := n1_; have BK101 := n2_; have HB := n3_; clear n0_ n1_ n2_ n3_; (try clear hb); (try clear hb2); (try clear hk); (try clear hi); have hcz63_0 : w62.cell? ⟨gb101, 0, none⟩ = some (.int .i64 a0_0) := (blk_cell BK101.out 0).trans rfl; have hcz63_1 : w62.cell? ⟨gb101, 1, none⟩ = some (.slice A0_1 l0_1.length c0_1) := (blk_cell BK101.out 1).trans rfl; have hfz63_0 := blk_frozen BK101.out 0; have hfz63_1 := blk_frozen BK101.out 1; obtain ⟨Ao64, co64, eo64⟩ := Kd.R_slice HO108.out; subst eo64) | ((with_reducible refine gate_callee (f := 20) rfl ?_); refine goesL_ (some 58) rfl rfl Try.func20 (by kernel_rfl) rfl #[.agg #[.int .i64 a0_0, .slice A0_1 l0_1.length c0_1], .slice Ao64 t106.length co64] rfl (by (try simp only [List.map_toArray, List.map_cons, List.map_nil]); first | done | rfl | (simp only [List.length_drop, List.length_take]; rfl)) ?_; (with_reducible refine (peel_Stopping.calls kj2 a0_0 _ _ l0_1 _ _ t106 true t116 _ ?side1 ?side2 ?side3 ?side4 A49.out).mono ?_); (case side1 => repeat (first | exact (Kd.C_below HR0_1.out HB.out) | (with_reducible refine Kd.C_alloc ?_ _) | (with_reducible refine Kd.C_drewN ?_ _) | (with_reducible refine Kd.C_drew ?_))); (case side2 => exact HC0_1.out); (case side3 => repeat (first | exact (Kd.R_reads' HO108.out).2.2 | (with_reducible refine Kd.C_alloc ?_ _) | (with_reducible refine Kd.C_drewN ?_ _) | (with_reducible refine Kd.C_drew ?_))); (case side4 => exact (Kd.R_reads' HO108.out).2.1); rintro e w65 ⟨rfl, hb⟩; refine ⟨_, rfl, ?_⟩; have n0_ := Aside0.mk (Kd.R_below (by (with_reducible repeat (first | apply Kd.R_alloc | apply Kd.R_drewN | apply Kd.R_drew)); exact HO108.out) hb); have n1_ := Aside0.mk (Kd.R_below (by (with_reducible repeat (first | apply Kd.R_alloc | apply Kd.R_drewN | apply Kd.R_drew)); exact HO112.out) hb); have n2_ := Aside0.mk (blk_below (g := gb101) (o := .cells #[.int .i64 a0_0, .slice A0_1 l0_1.length c0_1] 31 (0, 0)) (by (with_reducible repeat (first | refine blk_drewN ?_ _ | refine blk_drew ?_ | refine blk_alloc ?_ _)); exact BK101.out) hb); have n3_ := Aside0.mk (below_step (by repeat (first | (with_reducible first | exact HB.out | apply below_alloc | apply pw_below_drewN | apply below_drew1 | refine below_set ?_ GE101.out) | exact HB.out)) hb); clear HO108; clear HO112; clear BK101; clear HB; have HO108 := n0_; have HO112 := n1_; have BK101 := n2_; have HB := n3_; clear n0_ n1_ n2_ n3_; (try clear hb); (try clear hb2); (try clear hk); (try clear hi); have hcz66_0 : w65.cell? ⟨gb101, 0, none⟩ = some (.int .i64 a0_0) := (blk_cell BK101.out 0).trans rfl; have hcz66_1 : w65.cell? ⟨gb101, 1, none⟩ = some (.slice A0_1 l0_1.length c0_1) := (blk_cell BK101.out 1).trans rfl; have hfz66_0 := blk_frozen BK101.out 0; have hfz66_1 := blk_frozen BK101.out 1))
            go_ret
            exact ⟨by first | rfl | (simp [errW_none, errW_some] <;> rfl) | (simp [*, errW_none, errW_some] <;> rfl), by repeat (first | (with_reducible first | exact HB.out | apply below_alloc | apply pw_below_drewN | apply below_drew1 | refine below_set ?_ GE101.out) | exact HB.out)⟩
           ·rw [if_neg c55] at H
            have c55b0 : ((t110.length : Int) == 0) = false := beq_eq_false_iff_ne.mpr c55
            have c55b1 : ((t110.length : Int) != 0) = true := bne_iff_ne.mpr c55
            have c55b2 : ¬ (t110 = []) := fun h_ => c55 (by rw [h_]; rfl)
            by_cases c67 : (t110.length : Int) ≥ (t106.length : Int)
            ·rw [if_pos c67] at H
             have c67b0 : decide ((t106.length : Int) ≤ (t110.length : Int)) = true := decide_eq_true c67
             have c67b1 : decide (t106.length ≤ t110.length) = true := decide_eq_true (Int.ofNat_le.mp c67)
             clear c67
             obtain rfl := Option.some.inj H
             have hcz68_0 : wc.cell? ⟨gb101, 0, none⟩ = some (.int .i64 a0_0) := (blk_cell BK101.out 0).trans rfl
             have hcz68_1 : wc.cell? ⟨gb101, 1, none⟩ = some (.slice A0_1 l0_1.length c0_1) := (blk_cell BK101.out 1).trans rfl
             have hfz68_0 := blk_frozen BK101.out 0
             have hfz68_1 := blk_frozen BK101.out 1
             go_wp2_with (first | ((with_reducible refine gate_callee (f := 26) rfl ?_); refine goesL_ (some 31) rfl rfl Try.func26 (by kernel_rfl) rfl #[.agg #[.int .i64 a0_0, .slice A0_1 l0_1.length c0_1]] rfl (by (try simp only [List.map_toArray, List.map_cons, List.map_nil]); first | done | rfl | (simp only [List.length_drop, List.length_take]; rfl)) ?_; (with_reducible refine (peel_Smallest.calls a0_0 _ _ l0_1 t106 t109 _ ?side1 ?side2 A29.out).mono ?_); (case side1 => repeat (first | exact (Kd.C_below HR0_1.out HB.out) | (with_reducible refine Kd.C_alloc ?_ _) | (with_reducible refine Kd.C_drewN ?_ _) | (with_reducible refine Kd.C_drew ?_))); (case side2 => exact HC0_1.out); rintro e w69 ⟨v107, rfl, ho0, hb⟩; refine ⟨_, rfl, ?_⟩; have n0_ := Aside0.mk (Kd.R_lower ho0 (below_size (by repeat (first | (with_reducible first | exact HB.out | apply below_alloc | apply pw_below_drewN | apply below_drew1 | refine below_set ?_ GE101.out) | exact HB.out)))); have n1_ := Aside0.mk (blk_below (g := gb101) (o := .cells #[.int .i64 a0_0, .slice A0_1 l0_1.length c0_1] 31 (0, 0)) (by (with_reducible repeat (first | refine blk_drewN ?_ _ | refine blk_drew ?_ | refine blk_alloc ?_ _)); exact BK101.out) hb); have n2_ := Aside0.mk (below_step (by repeat (first | (with_reducible first | exact HB.out | apply below_alloc | apply pw_below_drewN | apply below_drew1 | refine below_set ?_ GE101.out) | exact HB.out)) hb); clear BK101; clear HB; have HO108 := n0_; have BK101 := n1_; have HB := n2_; clear n0_ n1_ n2_; (try clear hb); (try clear hb2); (try clear hk); (try clear hi); (try clear ho0); have hcz70_0 : w69.cell? ⟨gb101, 0, none⟩ = some (.int .i64 a0_0) := (blk_cell BK101.out 0).trans rfl; have hcz70_1 : w69.cell? ⟨gb101, 1, none⟩ = some (.slice A0_1 l0_1.length c0_1) := (blk_cell BK101.out 1).trans rfl; have hfz70_0 := blk_frozen BK101.out 0; have hfz70_1 := blk_frozen BK101.out 1) | ((with_reducible refine gate_callee (f := 35) rfl ?_); refine goesL_ (some 37) rfl rfl Try.func35 (by kernel_rfl) rfl #[.int .u32 a1, .int .i64 a0_0] rfl (by (try simp only [List.map_toArray, List.map_cons, List.map_nil]); first | done | rfl | (simp only [List.length_drop, List.length_take]; rfl)) ?_; (with_reducible refine (codewrightlaw44_split.calls kj2 a1 a0_0 t110 _ A30.out).mono ?_); rintro e w71 ⟨v111, rfl, ho0, hb⟩; refine ⟨_, rfl, ?_⟩; have n0_ := Aside0.mk (Kd.R_elder' (by (with_reducible repeat (first | apply Kd.R_alloc | apply Kd.R_drewN | apply Kd.R_drew)); exact HO108.out) (Kd.R_base ho0) hb); have n1_ := Aside0.mk (Kd.R_lower (Kd.R_new' ho0 (Kd.R_lt (by (with_reducible repeat (first | apply Kd.R_alloc | apply Kd.R_drewN | apply Kd.R_drew)); exact HO108.out))) (below_size (by repeat (first | (with_reducible first | exact HB.out | apply below_alloc | apply pw_below_drewN | apply below_drew1 | refine below_set ?_ GE101.out) | exact HB.out)))); have n2_ := Aside0.mk (blk_below (g := gb101) (o := .cells #[.int .i64 a0_0, .slice A0_1 l0_1.length c0_1] 31 (0, 0)) (by (with_reducible repeat (first | refine blk_drewN ?_ _ | refine blk_drew ?_ | refine blk_alloc ?_ _)); exact BK101.out) hb); have n3_ := Aside0.mk (below_step (by repeat (first | (with_reducible first | exact HB.out | apply below_alloc | apply pw_below_drewN | apply below_drew1 | refine below_set ?_ GE101.out) | exact HB.out)) hb); clear HO108; clear BK101; clear HB; have HO108 := n0_; have HO112 := n1_; have BK101 := n2_; have HB := n3_; clear n0_ n1_ n2_ n3_; (try clear hb); (try clear hb2); (try clear hk); (try clear hi); (try clear ho0); have hcz72_0 : w71.cell? ⟨gb101, 0, none⟩ = some (.int .i64 a0_0) := (blk_cell BK101.out 0).trans rfl; have hcz72_1 : w71.cell? ⟨gb101, 1, none⟩ = some (.slice A0_1 l0_1.length c0_1) := (blk_cell BK101.out 1).trans rfl; have hfz72_0 := blk_frozen BK101.out 0; have hfz72_1 := blk_frozen BK101.out 1; obtain ⟨Ao73, co73, eo73⟩ := Kd.R_slice HO112.out; subst eo73) | ((with_reducible refine gate_callee (f := 20) rfl ?_); refine goesL_ (some 41) rfl rfl Try.func20 (by kernel_rfl) rfl #[.agg #[.int .i64 a0_0, .slice A0_1 l0_1.length c0_1], .slice Ao73 t110.length co73] rfl (by (try simp only [List.map_toArray, List.map_cons, List.map_nil]); first | done | rfl | (simp only [List.length_drop, List.length_take]; rfl)) ?_; (with_reducible refine (peel_Stopping.calls kj2 a0_0 _ _ l0_1 _ _ t110 true t114 _ ?side1 ?side2 ?side3 ?side4 A31.out).mono ?_); (case side1 => repeat (first | exact (Kd.C_below HR0_1.out HB.out) | (with_reducible refine Kd.C_alloc ?_ _) | (with_reducible refine Kd.C_drewN ?_ _) | (with_reducible refine Kd.C_drew ?_))); (case side2 => exact HC0_1.out); (case side3 => repeat (first | exact (Kd.R_reads' HO112.out).2.2 | (with_reducible refine Kd.C_alloc ?_ _) | (with_reducible refine Kd.C_drewN ?_ _) | (with_reducible refine Kd.C_drew ?_))); (case side4 => exact (Kd.R_reads' HO112.out).2.1); rintro e w74 ⟨rfl, hb⟩; refine ⟨_, rfl, ?_⟩; have n0_ := Aside0.mk (Kd.R_below (by (with_reducible repeat (first | apply Kd.R_alloc | apply Kd.R_drewN | apply Kd.R_drew)); exact HO108.out) hb); have n1_ := Aside0.mk (Kd.R_below (by (with_reducible repeat (first | apply Kd.R_alloc | apply Kd.R_drewN | apply Kd.R_drew)); exact HO112.out) hb); have n2_ := Aside0.mk (blk_below (g := gb101) (o := .cells #[.int .i64 a0_0, .slice A0_1 l0_1.length c0_1] 31 (0, 0)) (by (with_reducible repeat (first | refine blk_drewN ?_ _ | refine blk_drew ?_ | refine blk_alloc ?_ _)); exact BK101.out) hb); have n3_ := Aside0.mk (below_step (by repeat (first | (with_reducible first | exact HB.out | apply below_alloc | apply pw_below_drewN | apply below_drew1 | refine below_set ?_ GE101.out) | exact HB.out)) hb); clear HO108; clear HO112; clear BK101; clear HB; have HO108 := n0_; have HO112 := n1_; have BK101 := n2_; have HB := n3_; clear n0_ n1_ n2_ n3_; (try clear hb); (try clear hb2); (try clear hk); (try clear hi); have hcz75_0 : w74.cell? ⟨gb101, 0, none⟩ = some (.int .i64 a0_0) := (blk_cell BK101.out 0).trans rfl; have hcz75_1 : w74.cell? ⟨gb101, 1, none⟩ = some (.slice A0_1 l0_1.length c0_1) := (blk_cell BK101.out 1).trans rfl; have hfz75_0 := blk_frozen BK101.out 0; have hfz75_1 := blk_frozen BK101.out 1; obtain ⟨Ao76, co76, eo76⟩ := Kd.R_slice HO108.out; subst eo76) | ((with_reducible refine gate_callee (f := 20) rfl ?_); refine goesL_ (some 58) rfl rfl Try.func20 (by kernel_rfl) rfl #[.agg #[.int .i64 a0_0, .slice A0_1 l0_1.length c0_1], .slice Ao76 t106.length co76] rfl (by (try simp only [List.map_toArray, List.map_cons, List.map_nil]); first | done | rfl | (simp only [List.length_drop, List.length_take]; rfl)) ?_; (with_reducible refine (peel_Stopping.calls kj2 a0_0 _ _ l0_1 _ _ t106 true t116 _ ?side1 ?side2 ?side3 ?side4 A49.out).mono ?_); (case side1 => repeat (first | exact (Kd.C_below HR0_1.out HB.out) | (with_reducible refine Kd.C_alloc ?_ _) | (with_reducible refine Kd.C_drewN ?_ _) | (with_reducible refine Kd.C_drew ?_))); (case side2 => exact HC0_1.out); (case side3 => repeat (first | exact (Kd.R_reads' HO108.out).2.2 | (with_reducible refine Kd.C_alloc ?_ _) | (with_reducible refine Kd.C_drewN ?_ _) | (with_reducible refine Kd.C_drew ?_))); (case side4 => exact (Kd.R_reads' HO108.out).2.1); rintro e w77 ⟨rfl, hb⟩; refine ⟨_, rfl, ?_⟩; have n0_ := Aside0.mk (Kd.R_below (by (with_reducible repeat (first | apply Kd.R_alloc | apply Kd.R_drewN | apply Kd.R_drew)); exact HO108.out) hb); have n1_ := Aside0.mk (Kd.R_below (by (with_reducible repeat (first | apply Kd.R_alloc | apply Kd.R_drewN | apply Kd.R_drew)); exact HO112.out) hb); have n2_ := Aside0.mk (blk_below (g := gb101) (o := .cells #[.int .i64 a0_0, .slice A0_1 l0_1.length c0_1] 31 (0, 0)) (by (with_reducible repeat (first | refine blk_drewN ?_ _ | refine blk_drew ?_ | refine blk_alloc ?_ _)); exact BK101.out) hb); have n3_ := Aside0.mk (below_step (by repeat (first | (with_reducible first | exact HB.out | apply below_alloc | apply pw_below_drewN | apply below_drew1 | refine below_set ?_ GE101.out) | exact HB.out)) hb); clear HO108; clear HO112; clear BK101; clear HB; have HO108 := n0_; have HO112 := n1_; have BK101 := n2_; have HB := n3_; clear n0_ n1_ n2_ n3_; (try clear hb); (try clear hb2); (try clear hk); (try clear hi); have hcz78_0 : w77.cell? ⟨gb101, 0, none⟩ = some (.int .i64 a0_0) := (blk_cell BK101.out 0).trans rfl; have hcz78_1 : w77.cell? ⟨gb101, 1, none⟩ = some (.slice A0_1 l0_1.length c0_1) := (blk_cell BK101.out 1).trans rfl; have hfz78_0 := blk_frozen BK101.out 0; have hfz78_1 := blk_frozen BK101.out 1))
             go_ret
             exact ⟨by first | rfl | (simp [errW_none, errW_some] <;> rfl) | (simp [*, errW_none, errW_some] <;> rfl), by repeat (first | (with_reducible first | exact HB.out | apply below_alloc | apply pw_below_drewN | apply below_drew1 | refine below_set ?_ GE101.out) | exact HB.out)⟩
            ·rw [if_neg c67] at H
             have c67b0 : decide ((t106.length : Int) ≤ (t110.length : Int)) = false := decide_eq_false c67
             have c67b1 : decide (t106.length ≤ t110.length) = false := decide_eq_false (fun h => c67 (Int.ofNat_le.mpr h))
             clear c67
             exact absurd ((Option.some.inj H).trans hrt) (by decide)
          ·replace c54 := Bool.eq_false_iff.mpr c54
           subst c54
           have H1 : (some (decide ((t106.length : Int) ≤ a0_0))) = some r := by rw [if_neg (show ¬ (false = true) by decide)] at H; exact H
           clear H
           have H := H1
           clear H1
           obtain rfl := Option.some.inj H
           have hcz89_0 : wc.cell? ⟨gb101, 0, none⟩ = some (.int .i64 a0_0) := (blk_cell BK101.out 0).trans rfl
           have hcz89_1 : wc.cell? ⟨gb101, 1, none⟩ = some (.slice A0_1 l0_1.length c0_1) := (blk_cell BK101.out 1).trans rfl
           have hfz89_0 := blk_frozen BK101.out 0
           have hfz89_1 := blk_frozen BK101.out 1
           go_wp2_with (first | ((with_reducible refine gate_callee (f := 26) rfl ?_); refine goesL_ (some 31) rfl rfl Try.func26 (by kernel_rfl) rfl #[.agg #[.int .i64 a0_0, .slice A0_1 l0_1.length c0_1]] rfl (by (try simp only [List.map_toArray, List.map_cons, List.map_nil]); first | done | rfl | (simp only [List.length_drop, List.length_take]; rfl)) ?_; (with_reducible refine (peel_Smallest.calls a0_0 _ _ l0_1 t106 t109 _ ?side1 ?side2 A29.out).mono ?_); (case side1 => repeat (first | exact (Kd.C_below HR0_1.out HB.out) | (with_reducible refine Kd.C_alloc ?_ _) | (with_reducible refine Kd.C_drewN ?_ _) | (with_reducible refine Kd.C_drew ?_))); (case side2 => exact HC0_1.out); rintro e w90 ⟨v107, rfl, ho0, hb⟩; refine ⟨_, rfl, ?_⟩; have n0_ := Aside0.mk (Kd.R_lower ho0 (below_size (by repeat (first | (with_reducible first | exact HB.out | apply below_alloc | apply pw_below_drewN | apply below_drew1 | refine below_set ?_ GE101.out) | exact HB.out)))); have n1_ := Aside0.mk (blk_below (g := gb101) (o := .cells #[.int .i64 a0_0, .slice A0_1 l0_1.length c0_1] 31 (0, 0)) (by (with_reducible repeat (first | refine blk_drewN ?_ _ | refine blk_drew ?_ | refine blk_alloc ?_ _)); exact BK101.out) hb); have n2_ := Aside0.mk (below_step (by repeat (first | (with_reducible first | exact HB.out | apply below_alloc | apply pw_below_drewN | apply below_drew1 | refine below_set ?_ GE101.out) | exact HB.out)) hb); clear BK101; clear HB; have HO108 := n0_; have BK101 := n1_; have HB := n2_; clear n0_ n1_ n2_; (try clear hb); (try clear hb2); (try clear hk); (try clear hi); (try clear ho0); have hcz91_0 : w90.cell? ⟨gb101, 0, none⟩ = some (.int .i64 a0_0) := (blk_cell BK101.out 0).trans rfl; have hcz91_1 : w90.cell? ⟨gb101, 1, none⟩ = some (.slice A0_1 l0_1.length c0_1) := (blk_cell BK101.out 1).trans rfl; have hfz91_0 := blk_frozen BK101.out 0; have hfz91_1 := blk_frozen BK101.out 1) | ((with_reducible refine gate_callee (f := 35) rfl ?_); refine goesL_ (some 37) rfl rfl Try.func35 (by kernel_rfl) rfl #[.int .u32 a1, .int .i64 a0_0] rfl (by (try simp only [List.map_toArray, List.map_cons, List.map_nil]); first | done | rfl | (simp only [List.length_drop, List.length_take]; rfl)) ?_; (with_reducible refine (codewrightlaw44_split.calls kj2 a1 a0_0 t110 _ A30.out).mono ?_); rintro e w92 ⟨v111, rfl, ho0, hb⟩; refine ⟨_, rfl, ?_⟩; have n0_ := Aside0.mk (Kd.R_elder' (by (with_reducible repeat (first | apply Kd.R_alloc | apply Kd.R_drewN | apply Kd.R_drew)); exact HO108.out) (Kd.R_base ho0) hb); have n1_ := Aside0.mk (Kd.R_lower (Kd.R_new' ho0 (Kd.R_lt (by (with_reducible repeat (first | apply Kd.R_alloc | apply Kd.R_drewN | apply Kd.R_drew)); exact HO108.out))) (below_size (by repeat (first | (with_reducible first | exact HB.out | apply below_alloc | apply pw_below_drewN | apply below_drew1 | refine below_set ?_ GE101.out) | exact HB.out)))); have n2_ := Aside0.mk (blk_below (g := gb101) (o := .cells #[.int .i64 a0_0, .slice A0_1 l0_1.length c0_1] 31 (0, 0)) (by (with_reducible repeat (first | refine blk_drewN ?_ _ | refine blk_drew ?_ | refine blk_alloc ?_ _)); exact BK101.out) hb); have n3_ := Aside0.mk (below_step (by repeat (first | (with_reducible first | exact HB.out | apply below_alloc | apply pw_below_drewN | apply below_drew1 | refine below_set ?_ GE101.out) | exact HB.out)) hb); clear HO108; clear BK101; clear HB; have HO108 := n0_; have HO112 := n1_; have BK101 := n2_; have HB := n3_; clear n0_ n1_ n2_ n3_; (try clear hb); (try clear hb2); (try clear hk); (try clear hi); (try clear ho0); have hcz93_0 : w92.cell? ⟨gb101, 0, none⟩ = some (.int .i64 a0_0) := (blk_cell BK101.out 0).trans rfl; have hcz93_1 : w92.cell? ⟨gb101, 1, none⟩ = some (.slice A0_1 l0_1.length c0_1) := (blk_cell BK101.out 1).trans rfl; have hfz93_0 := blk_frozen BK101.out 0; have hfz93_1 := blk_frozen BK101.out 1; obtain ⟨Ao94, co94, eo94⟩ := Kd.R_slice HO112.out; subst eo94) | ((with_reducible refine gate_callee (f := 20) rfl ?_); refine goesL_ (some 41) rfl rfl Try.func20 (by kernel_rfl) rfl #[.agg #[.int .i64 a0_0, .slice A0_1 l0_1.length c0_1], .slice Ao94 t110.length co94] rfl (by (try simp only [List.map_toArray, List.map_cons, List.map_nil]); first | done | rfl | (simp only [List.length_drop, List.length_take]; rfl)) ?_; (with_reducible refine (peel_Stopping.calls kj2 a0_0 _ _ l0_1 _ _ t110 false t114 _ ?side1 ?side2 ?side3 ?side4 A31.out).mono ?_); (case side1 => repeat (first | exact (Kd.C_below HR0_1.out HB.out) | (with_reducible refine Kd.C_alloc ?_ _) | (with_reducible refine Kd.C_drewN ?_ _) | (with_reducible refine Kd.C_drew ?_))); (case side2 => exact HC0_1.out); (case side3 => repeat (first | exact (Kd.R_reads' HO112.out).2.2 | (with_reducible refine Kd.C_alloc ?_ _) | (with_reducible refine Kd.C_drewN ?_ _) | (with_reducible refine Kd.C_drew ?_))); (case side4 => exact (Kd.R_reads' HO112.out).2.1); rintro e w95 ⟨rfl, hb⟩; refine ⟨_, rfl, ?_⟩; have n0_ := Aside0.mk (Kd.R_below (by (with_reducible repeat (first | apply Kd.R_alloc | apply Kd.R_drewN | apply Kd.R_drew)); exact HO108.out) hb); have n1_ := Aside0.mk (Kd.R_below (by (with_reducible repeat (first | apply Kd.R_alloc | apply Kd.R_drewN | apply Kd.R_drew)); exact HO112.out) hb); have n2_ := Aside0.mk (blk_below (g := gb101) (o := .cells #[.int .i64 a0_0, .slice A0_1 l0_1.length c0_1] 31 (0, 0)) (by (with_reducible repeat (first | refine blk_drewN ?_ _ | refine blk_drew ?_ | refine blk_alloc ?_ _)); exact BK101.out) hb); have n3_ := Aside0.mk (below_step (by repeat (first | (with_reducible first | exact HB.out | apply below_alloc | apply pw_below_drewN | apply below_drew1 | refine below_set ?_ GE101.out) | exact HB.out)) hb); clear HO108; clear HO112; clear BK101; clear HB; have HO108 := n0_; have HO112 := n1_; have BK101 := n2_; have HB := n3_; clear n0_ n1_ n2_ n3_; (try clear hb); (try clear hb2); (try clear hk); (try clear hi); have hcz96_0 : w95.cell? ⟨gb101, 0, none⟩ = some (.int .i64 a0_0) := (blk_cell BK101.out 0).trans rfl; have hcz96_1 : w95.cell? ⟨gb101, 1, none⟩ = some (.slice A0_1 l0_1.length c0_1) := (blk_cell BK101.out 1).trans rfl; have hfz96_0 := blk_frozen BK101.out 0; have hfz96_1 := blk_frozen BK101.out 1; obtain ⟨Ao97, co97, eo97⟩ := Kd.R_slice HO108.out; subst eo97) | ((with_reducible refine gate_callee (f := 20) rfl ?_); refine goesL_ (some 58) rfl rfl Try.func20 (by kernel_rfl) rfl #[.agg #[.int .i64 a0_0, .slice A0_1 l0_1.length c0_1], .slice Ao97 t106.length co97] rfl (by (try simp only [List.map_toArray, List.map_cons, List.map_nil]); first | done | rfl | (simp only [List.length_drop, List.length_take]; rfl)) ?_; (with_reducible refine (peel_Stopping.calls kj2 a0_0 _ _ l0_1 _ _ t106 true t116 _ ?side1 ?side2 ?side3 ?side4 A49.out).mono ?_); (case side1 => repeat (first | exact (Kd.C_below HR0_1.out HB.out) | (with_reducible refine Kd.C_alloc ?_ _) | (with_reducible refine Kd.C_drewN ?_ _) | (with_reducible refine Kd.C_drew ?_))); (case side2 => exact HC0_1.out); (case side3 => repeat (first | exact (Kd.R_reads' HO108.out).2.2 | (with_reducible refine Kd.C_alloc ?_ _) | (with_reducible refine Kd.C_drewN ?_ _) | (with_reducible refine Kd.C_drew ?_))); (case side4 => exact (Kd.R_reads' HO108.out).2.1); rintro e w98 ⟨rfl, hb⟩; refine ⟨_, rfl, ?_⟩; have n0_ := Aside0.mk (Kd.R_below (by (with_reducible repeat (first | apply Kd.R_alloc | apply Kd.R_drewN | apply Kd.R_drew)); exact HO108.out) hb); have n1_ := Aside0.mk (Kd.R_below (by (with_reducible repeat (first | apply Kd.R_alloc | apply Kd.R_drewN | apply Kd.R_drew)); exact HO112.out) hb); have n2_ := Aside0.mk (blk_below (g := gb101) (o := .cells #[.int .i64 a0_0, .slice A0_1 l0_1.length c0_1] 31 (0, 0)) (by (with_reducible repeat (first | refine blk_drewN ?_ _ | refine blk_drew ?_ | refine blk_alloc ?_ _)); exact BK101.out) hb); have n3_ := Aside0.mk (below_step (by repeat (first | (with_reducible first | exact HB.out | apply below_alloc | apply pw_below_drewN | apply below_drew1 | refine below_set ?_ GE101.out) | exact HB.out)) hb); clear HO108; clear HO112; clear BK101; clear HB; have HO108 := n0_; have HO112 := n1_; have BK101 := n2_; have HB := n3_; clear n0_ n1_ n2_ n3_; (try clear hb); (try clear hb2); (try clear hk); (try clear hi); have hcz99_0 : w98.cell? ⟨gb101, 0, none⟩ = some (.int .i64 a0_0) := (blk_cell BK101.out 0).trans rfl; have hcz99_1 : w98.cell? ⟨gb101, 1, none⟩ = some (.slice A0_1 l0_1.length c0_1) := (blk_cell BK101.out 1).trans rfl; have hfz99_0 := blk_frozen BK101.out 0; have hfz99_1 := blk_frozen BK101.out 1))
           go_ret
           exact ⟨by first | rfl | (simp [errW_none, errW_some] <;> rfl) | (simp [*, errW_none, errW_some] <;> rfl), by repeat (first | (with_reducible first | exact HB.out | apply below_alloc | apply pw_below_drewN | apply below_drew1 | refine below_set ?_ GE101.out) | exact HB.out)⟩
         ·rw [if_neg c53] at H
          have c53b0 : decide (0 < (t106.length : Int)) = false := decide_eq_false c53
          have c53b1 : decide (0 < t106.length) = false := decide_eq_false (by omega)
          clear c53
          exact absurd ((Option.some.inj H).trans hrt) (by decide)
        ·replace c52 := Bool.eq_false_iff.mpr c52
         subst c52
         have H1 : (some false) = some r := by rw [if_neg (show ¬ (false = true) by decide)] at H; exact H
         clear H
         have H := H1
         clear H1
         exact absurd ((Option.some.inj H).trans hrt) (by decide)
       ·rw [if_neg c51] at H
        have c51b0 : (t116 == 0) = false := beq_eq_false_iff_ne.mpr c51
        have c51b1 : (t116 != 0) = true := bne_iff_ne.mpr c51
        exact absurd ((Option.some.inj H).trans hrt) (by decide)
      ·rw [if_neg c50] at H
       have c50b0 : (t109 == 0) = false := beq_eq_false_iff_ne.mpr c50
       have c50b1 : (t109 != 0) = true := bne_iff_ne.mpr c50
       exact absurd ((Option.some.inj H).trans hrt) (by decide)
    ·rw [if_neg c32] at H
     have c32b0 : (t114 == 0) = false := beq_eq_false_iff_ne.mpr c32
     have c32b1 : (t114 != 0) = true := bne_iff_ne.mpr c32
     exact absurd ((Option.some.inj H).trans hrt) (by decide)
end Go.Proofs.Ytkifipakikbhcaa.Lb
namespace Go.Proofs.Ytkifipakikbhcaa.Hand
def leftR : List Bool → Nat → List Int
 | [], _ => []
 | b :: bs, i => if b = true then (i : Int) :: leftR bs (i + 1) else leftR bs (i + 1)
theorem leftR_mem : ∀ (bs : List Bool) (i : Nat) (x : Int), x ∈ leftR bs i ↔ ∃ k : Nat, bs[k]? = some true ∧ x = ((i + k : Nat) : Int)
 | [], i, x => by simp [leftR]
 | b :: bs, i, x => by
  rw [leftR]
  have ih := leftR_mem bs (i + 1) x
  constructor
  ·intro h
   by_cases hb : b = true
   ·rw [if_pos hb] at h
    rcases List.mem_cons.1 h with rfl | h
    ·exact ⟨0, by simp [hb], by simp⟩
    ·obtain ⟨k, hk, e⟩ := ih.1 h
     exact ⟨k + 1, by simpa using hk, by rw [e]; congr 1; omega⟩
   ·rw [if_neg hb] at h
    obtain ⟨k, hk, e⟩ := ih.1 h
    exact ⟨k + 1, by simpa using hk, by rw [e]; congr 1; omega⟩
  ·rintro ⟨k, hk, e⟩
   cases k with
   | zero =>
    have hb : b = true := by simpa using hk
    rw [if_pos hb, e]; simp
   | succ k =>
    have := ih.2 ⟨k, by simpa using hk, by rw [e]; congr 1; omega⟩
    by_cases hb : b = true
    ·rw [if_pos hb]; exact List.mem_cons_of_mem _ this
    ·rw [if_neg hb]; exact this
theorem leftR_length : ∀ (bs : List Bool) (i : Nat), (leftR bs i).length = bs.count true
 | [], i => by simp [leftR]
 | b :: bs, i => by
  rw [leftR, List.count_cons]
  by_cases hb : b = true
  ·rw [if_pos hb, List.length_cons, leftR_length]; simp [hb]
  ·rw [if_neg hb, leftR_length]; simp [hb]
theorem leftR_set : ∀ (bs : List Bool) (i : Nat) (V : Int) (p : Option Int), (i : Int) + bs.length ≤ V → (∀ y, p = some y → y < i) → setR V p (leftR bs i) = true
 | [], i, V, p, _, _ => by cases p <;> rfl
 | b :: bs, i, V, p, h, hp => by
  rw [leftR]
  simp only [List.length_cons] at h
  by_cases hb : b = true
  ·rw [if_pos hb, setR_cons, if_neg (by omega), if_neg (by omega)]
   have ih := leftR_set bs (i + 1) V (some (i : Int)) (by push_cast; omega) (fun y e => by cases e; push_cast; omega)
   cases p with
   | none => simpa using ih
   | some y =>
    have hy := hp y rfl
    have hm : decide ((i : Int) ≤ y) = false := decide_eq_false (by omega)
    simp only [hm, Bool.false_eq_true, if_false]
    exact ih
  ·rw [if_neg hb]
   exact leftR_set bs (i + 1) V p (by push_cast; omega) (fun y e => by have := hp y e; push_cast; omega)
def maskR : List Int → List Bool → List Bool
 | [], o => o
 | i :: l, o => maskR l (o.set i.toNat true)
theorem maskR_length : ∀ (l : List Int) (o : List Bool), (maskR l o).length = o.length
 | [], o => rfl
 | i :: l, o => by rw [maskR, maskR_length, List.length_set]
theorem maskR_get : ∀ (l : List Int) (o : List Bool) (k : Nat), k < o.length → (maskR l o)[k]? = some (o.getD k false || l.any fun i => decide (i.toNat = k))
 | [], o, k, h => by simp [maskR, List.getD_eq_getElem?_getD, List.getElem?_eq_getElem h]
 | i :: l, o, k, h => by
  rw [maskR, maskR_get l _ k (by rw [List.length_set]; exact h), List.any_cons]
  by_cases e : i.toNat = k
  ·subst e; simp [List.getD_eq_getElem?_getD, List.getElem?_set_self h]
  ·simp [List.getD_eq_getElem?_getD, List.getElem?_set_ne e, e]
theorem maskR_left (m : List Bool) (n : Nat) (h : m.length = n) : maskR (leftR m 0) (List.replicate n false) = m := by
 apply List.ext_getElem?
 intro k
 by_cases hk : k < n
 ·rw [maskR_get _ _ k (by rw [List.length_replicate]; exact hk)]
  have h0 : (List.replicate n false).getD k false = false := by rw [List.getD_eq_getElem?_getD, List.getElem?_replicate, if_pos hk]; rfl
  rw [h0, Bool.false_or, List.getElem?_eq_getElem (by omega)]
  congr 1
  cases hb : m[k] with
  | true =>
   rw [List.any_eq_true]
   exact ⟨(k : Int), (leftR_mem m 0 k).2 ⟨k, by rw [List.getElem?_eq_getElem (by omega), hb], by simp⟩, by simp⟩
  | false =>
   rw [List.any_eq_false]
   intro x hx
   obtain ⟨j, hj, e⟩ := (leftR_mem m 0 x).1 hx
   intro he
   have he := of_decide_eq_true he
   have : j = k := by omega
   subst this
   rw [List.getElem?_eq_getElem (by omega), hb] at hj
   simp at hj
 ·rw [List.getElem?_eq_none (by rw [maskR_length, List.length_replicate]; omega), List.getElem?_eq_none (by omega)]
theorem count_set : ∀ (l : List Bool) (i : Nat), i < l.length → l.getD i false = false → (l.set i true).count true = l.count true + 1
 | [], i, h, _ => by simp at h
 | b :: l, 0, _, h => by
  have hb : b = false := by simpa using h
  subst hb; simp
 | b :: l, i + 1, h, h2 => by
  have := count_set l i (by simpa using h) (by simpa using h2)
  simp only [List.set_cons_succ, List.count_cons, this]; omega
theorem getD_set (l : List Bool) (i j : Nat) : (l.set i true).getD j false = if i = j ∧ i < l.length then true else l.getD j false := by
 simp only [List.getD_eq_getElem?_getD]
 by_cases e : i = j
 ·subst e
  by_cases h : i < l.length
  ·rw [List.getElem?_set_self h, if_pos ⟨rfl, h⟩]; rfl
  ·rw [if_neg (by omega), List.set_eq_of_length_le (by omega)]
 ·rw [List.getElem?_set_ne e, if_neg (fun h => e h.1)]
theorem srch_some {f : List Bool → Nat → Option (List Bool)} {inn r : List Bool} : ∀ {n i : Nat}, srch f inn n i = some r → ∃ k, i ≤ k ∧ k < i + n ∧ f (inn.set k true) (k + 1) = some r
 | 0, i, h => by simp [srch] at h
 | n + 1, i, h => by
  rw [srch] at h
  cases hf : f (inn.set i true) (i + 1) with
  | some r' => rw [hf] at h; exact ⟨i, by omega, by omega, by rw [hf]; exact h⟩
  | none =>
   rw [hf] at h
   obtain ⟨k, h1, h2, h3⟩ := srch_some h
   exact ⟨k, by omega, by omega, h3⟩
theorem srch_none {f : List Bool → Nat → Option (List Bool)} {inn : List Bool} : ∀ {n i : Nat}, srch f inn n i = none → ∀ k, i ≤ k → k < i + n → f (inn.set k true) (k + 1) = none
 | 0, i, h, k, h1, h2 => by omega
 | n + 1, i, h, k, h1, h2 => by
  rw [srch] at h
  cases hf : f (inn.set i true) (i + 1) with
  | some r' => rw [hf] at h; simp at h
  | none =>
   rw [hf] at h
   by_cases e : k = i
   ·subst e; exact hf
   ·exact srch_none h k (by omega) (by omega)
theorem fromS_some {V : Nat} {ch : List (List Int)} : ∀ {s : Nat} {inn : List Bool} {i : Nat} {r : List Bool}, inn.length = V → (∀ j, i ≤ j → inn.getD j false = false) → fromS V ch s inn i = some r →
  r.length = V ∧ alone r ch < 0 ∧ r.count true = inn.count true + s
 | 0, inn, i, r, hl, hz, h => by
  rw [fromS] at h
  split at h
  ·rename_i h1; cases h; exact ⟨hl, h1, rfl⟩
  ·simp at h
 | s + 1, inn, i, r, hl, hz, h => by
  rw [fromS] at h
  obtain ⟨k, h1, h2, h3⟩ := srch_some h
  have hk : k < V := by omega
  obtain ⟨h4, h5, h6⟩ := fromS_some (by rw [List.length_set]; exact hl) (fun j hj => by rw [getD_set, if_neg (by omega)]; exact hz j (by omega)) h3
  exact ⟨h4, h5, by rw [h6, count_set inn k (by omega) (hz k h1)]; omega⟩
theorem count_zero_getD {l : List Bool} (h : l.count true = 0) (j : Nat) : l.getD j false = false := by
 rw [List.count_eq_zero] at h
 rw [List.getD_eq_getElem?_getD]
 cases hj : l[j]? with
 | none => rfl
 | some b =>
  cases b with
  | false => rfl
  | true => exact absurd (List.mem_of_getElem? hj) h
theorem first_true : ∀ (l : List Bool) (s : Nat), l.count true = s + 1 → ∃ k, k < l.length ∧ (∀ j, j < k → l.getD j false = false) ∧ l.getD k false = true ∧ (l.drop (k + 1)).count true = s
 | [], s, h => by simp at h
 | true :: l, s, h => ⟨0, by simp, fun j hj => by omega, by simp, by simp at h; simpa using h⟩
 | false :: l, s, h => by
  obtain ⟨k, h1, h2, h3, h4⟩ := first_true l s (by simpa using h)
  refine ⟨k + 1, by simp; omega, fun j hj => ?_, by simpa using h3, by simpa using h4⟩
  cases j with
  | zero => rfl
  | succ j => simpa using h2 j (by omega)
theorem fromS_none {V : Nat} {ch : List (List Int)} : ∀ {s : Nat} {inn : List Bool} {i : Nat} (m : List Bool), inn.length = V → (∀ j, i ≤ j → inn.getD j false = false) → fromS V ch s inn i = none →
  m.length = V → (∀ j, j < i → m.getD j false = inn.getD j false) → (m.drop i).count true = s → ¬ alone m ch < 0
 | 0, inn, i, m, hl, hz, h, hm, ha, hc => by
  rw [fromS] at h
  split at h
  ·simp at h
  ·rename_i h1
   have : m = inn := by
    apply List.ext_getElem?
    intro j
    by_cases hj : j < V
    ·have e : m.getD j false = inn.getD j false := by
      by_cases hi : j < i
      ·exact ha j hi
      ·rw [hz j (by omega)]
       have := count_zero_getD hc (j - i)
       rw [List.getD_eq_getElem?_getD, List.getElem?_drop, show i + (j - i) = j by omega] at this
       rw [List.getD_eq_getElem?_getD]; exact this
     rw [List.getD_eq_getElem?_getD, List.getD_eq_getElem?_getD, List.getElem?_eq_getElem (by omega), List.getElem?_eq_getElem (by omega)] at e
     rw [List.getElem?_eq_getElem (by omega), List.getElem?_eq_getElem (by omega)]
     exact congrArg some e
    ·rw [List.getElem?_eq_none (by omega), List.getElem?_eq_none (by omega)]
   rw [this]; exact h1
 | s + 1, inn, i, m, hl, hz, h, hm, ha, hc => by
  rw [fromS] at h
  obtain ⟨k, h1, h2, h3, h4⟩ := first_true _ s hc
  rw [List.length_drop] at h1
  have hle : s ≤ (m.drop (i + k + 1)).length := by
   have h5 : ((m.drop i).drop (k + 1)).count true ≤ ((m.drop i).drop (k + 1)).length := List.count_le_length
   rw [h4, List.drop_drop] at h5
   exact h5
  rw [List.length_drop] at hle
  have hn := srch_none h (i + k) (by omega) (by omega)
  refine fromS_none m (by rw [List.length_set]; exact hl) (fun j hj => by rw [getD_set, if_neg (by omega)]; exact hz j (by omega)) hn hm (fun j hj => ?_) (by rw [List.drop_drop] at h4; exact h4)
  rw [getD_set]
  have hd : ∀ t, (m.drop i).getD t false = m.getD (i + t) false := fun t => by rw [List.getD_eq_getElem?_getD, List.getElem?_drop, List.getD_eq_getElem?_getD]
  by_cases e : i + k = j
  ·rw [if_pos ⟨e, by omega⟩, ← e, ← hd]; exact h3
  ·rw [if_neg (fun h => e h.1)]
   by_cases hi : j < i
   ·exact ha j hi
   ·rw [hz j (by omega)]
    have := h2 (j - i) (by omega)
    rw [hd, show i + (j - i) = j by omega] at this
    exact this
theorem firstSize_some {V : Nat} {ch : List (List Int)} {r : List Bool} : ∀ {n s : Nat}, firstSize V ch n s = some r → ∃ t, s ≤ t ∧ t < s + n ∧ fromS V ch t (List.replicate V false) 0 = some r ∧ ∀ u, s ≤ u → u < t → fromS V ch u (List.replicate V false) 0 = none
 | 0, s, h => by simp [firstSize] at h
 | n + 1, s, h => by
  rw [firstSize] at h
  cases hf : fromS V ch s (List.replicate V false) 0 with
  | some r' => rw [hf] at h; exact ⟨s, by omega, by omega, by rw [hf]; exact h, fun u h1 h2 => by omega⟩
  | none =>
   rw [hf] at h
   obtain ⟨t, h1, h2, h3, h4⟩ := firstSize_some h
   refine ⟨t, by omega, by omega, h3, fun u h5 h6 => ?_⟩
   by_cases e : u = s
   ·subst e; exact hf
   ·exact h4 u (by omega) h6
theorem firstSize_none {V : Nat} {ch : List (List Int)} : ∀ {n s : Nat}, firstSize V ch n s = none → ∀ u, s ≤ u → u < s + n → fromS V ch u (List.replicate V false) 0 = none
 | 0, s, h, u, h1, h2 => by omega
 | n + 1, s, h, u, h1, h2 => by
  rw [firstSize] at h
  cases hf : fromS V ch s (List.replicate V false) 0 with
  | some r' => rw [hf] at h; simp at h
  | none =>
   rw [hf] at h
   by_cases e : u = s
   ·subst e; exact hf
   ·exact firstSize_none h u (by omega) (by omega)
theorem rep_getD (V j : Nat) : (List.replicate V false).getD j false = false := by
 rw [List.getD_eq_getElem?_getD, List.getElem?_replicate]; split <;> rfl
theorem rep_count (V : Nat) : (List.replicate V false).count true = 0 := by
 rw [List.count_eq_zero]; intro h; have := List.eq_of_mem_replicate h; simp at this
theorem first_law {V : Nat} {ch : List (List Int)} {r : List Bool} (h : firstSize V ch V 1 = some r) :
  r.length = V ∧ alone r ch < 0 ∧ 1 ≤ r.count true ∧ r.count true ≤ V ∧ ∀ m : List Bool, m.length = V → alone m ch < 0 → m.count true ≠ 0 → r.count true ≤ m.count true := by
 obtain ⟨t, h1, h2, h3, h4⟩ := firstSize_some h
 obtain ⟨h5, h6, h7⟩ := fromS_some (List.length_replicate ..) (fun j _ => rep_getD V j) h3
 rw [rep_count] at h7
 refine ⟨h5, h6, by omega, by omega, fun m hm ha hc => ?_⟩
 by_cases hlt : m.count true < t
 ·exact absurd ha (fromS_none m (List.length_replicate ..) (fun j _ => rep_getD V j) (h4 (m.count true) (by omega) hlt) hm (fun j hj => by omega) (by rw [List.drop_zero]))
 ·omega
theorem first_nolaw {V : Nat} {ch : List (List Int)} (h : firstSize V ch V 1 = none) (m : List Bool) (hm : m.length = V) (ha : alone m ch < 0) : m.count true = 0 := by
 by_cases hc : m.count true = 0
 ·exact hc
 ·have hle : m.count true ≤ m.length := List.count_le_length
  exact absurd ha (fromS_none m (List.length_replicate ..) (fun j _ => rep_getD V j) (firstSize_none h (m.count true) (by omega) (by omega)) hm (fun j hj => by omega) (by rw [List.drop_zero]))
end Go.Proofs.Ytkifipakikbhcaa.Hand
namespace Go.Proofs.Ytkifipakikbhcaa.Hand
open Go.Proofs.Ytkifipakikbhcaa.Ref Go.Proofs.Ytkifipakikbhcaa.Pg
open Go.Proofs.Ytkifipakikbhcaa.Pk (peel_Stopping.f peel_Greatest.f)
open Go.RowKit Go.Proofs.YtkifipakikbhcaaW.PrintWords Go.Proofs.YtkifipakikbhcaaW.PrintLast Go.Proofs.YtkifipakikbhcaaW.PrintMore
theorem w64_succ {i n : Nat} (h : i < n) (hn : n ≤ 4611686018427387904) : wrap64 ((i : Int) + 1) = ((i + 1 : Nat) : Int) := by unfold wrap64; omega
theorem set_fk {l : List Int} {n : Int} {k : Nat} (hl : l.length ≤ 4611686018427387904) (hk : l.length < k) : peel_set.f k l n = some (setR n none l) := by
 have := set_l0 l n hl l.length k 0 (by omega) (by omega) hk
 rw [if_pos rfl, List.drop_zero] at this
 exact this
theorem rising_l0 (l : List Int) (n : Int) (hl : l.length ≤ 4611686018427387904) : ∀ (m k i : Nat), m = l.length - i → i ≤ l.length → m < k →
  codewrightref10_Rising.l0 k l n (i : Int) = some (setR n (if i = 0 then none else some (rd l ((i : Int) - 1))) (l.drop i)) := by
 intro m
 induction m with
 | zero =>
  intro k i hm hi hk
  obtain ⟨k, rfl⟩ : ∃ k', k = k' + 1 := ⟨k - 1, by omega⟩
  have h : i = l.length := by omega
  rw [codewrightref10_Rising.l0, if_neg (by omega), h, List.drop_length, setR]
 | succ m ih =>
  intro k i hm hi hk
  obtain ⟨k, rfl⟩ : ∃ k', k = k' + 1 := ⟨k - 1, by omega⟩
  have h : i < l.length := by omega
  have hn := ih k (i + 1) (by omega) (by omega) (by omega)
  have hw : wrap64 ((i : Int) + 1) = ((i + 1 : Nat) : Int) := by unfold wrap64; omega
  rw [if_neg (by omega), show (((i + 1 : Nat) : Int) - 1) = (i : Int) from by omega] at hn
  rw [codewrightref10_Rising.l0, if_pos (by omega), if_pos (by omega), rd_drop h, setR_cons, hw, hn]
  by_cases h1 : rd l (i : Int) < 0
  ·rw [if_pos h1, if_pos h1]
  ·rw [if_neg h1, if_neg h1]
   by_cases h2 : rd l (i : Int) ≥ n
   ·rw [if_pos h2, if_pos h2]
   ·rw [if_neg h2, if_neg h2]
    by_cases h3 : i = 0
    ·rw [if_neg (by omega), if_pos h3]
     simp
    ·have hw1 : wrap64 ((i : Int) - 1) = (i : Int) - 1 := by unfold wrap64; omega
     rw [if_pos (by omega), hw1, if_pos (by omega), if_pos (by omega), if_neg h3]
     by_cases h4 : rd l (i : Int) ≤ rd l ((i : Int) - 1)
     ·rw [if_pos h4]; simp [h4]
     ·rw [if_neg h4]; simp [h4]
theorem rising_f {l : List Int} {n : Int} {k : Nat} (hl : l.length ≤ 4611686018427387904) (hk : l.length < k) : codewrightref10_Rising.f k l n = some (setR n none l) := by
 have := rising_l0 l n hl l.length k 0 (by omega) (by omega) hk
 rw [if_pos rfl, List.drop_zero] at this
 exact this
theorem rcheck_l0 (V : Int) (ch : List (List Int)) (n : Nat) (hn : n ≤ 4611686018427387904) (hc : ch.length ≤ 4611686018427387904) (hr : ∀ l ∈ ch, l.length ≤ n) : ∀ (m k i : Nat), m = ch.length - i → i ≤ ch.length → m + n + 1 < k →
  codewrightref44_Check.l0 k (i : Int) V ch = some (if (ch.drop i).any (fun l => !setR V none l) = true then 6 else 0) := by
 intro m
 induction m with
 | zero =>
  intro k i hm hi hk
  obtain ⟨k, rfl⟩ : ∃ k', k = k' + 1 := ⟨k - 1, by omega⟩
  have h : i = ch.length := by omega
  rw [codewrightref44_Check.l0, if_neg (by omega), h, List.drop_length]
  rfl
 | succ m ih =>
  intro k i hm hi hk
  obtain ⟨k, rfl⟩ : ∃ k', k = k' + 1 := ⟨k - 1, by omega⟩
  have h : i < ch.length := by omega
  have hmem : rd_L1 ch (i : Int) ∈ ch := rd_memRow (by omega) (by omega)
  have hln := hr _ hmem
  have hi' := ih k (i + 1) (by omega) (by omega) (by omega)
  rw [codewrightref44_Check.l0, if_pos (by omega), if_pos (by omega), rising_f (by omega) (by omega), Option.bind_some, rows_drop h, List.any_cons, w64_succ h hc, hi']
  cases hs : setR V none (rd_L1 ch (i : Int)) with
  | true => simp
  | false => simp
theorem rcheck_f {V : Int} {ch : List (List Int)} {n k : Nat} (hn : n ≤ 4611686018427387904) (hc : ch.length ≤ 4611686018427387904) (hr : ∀ l ∈ ch, l.length ≤ n) (hk : 300 + n < k) :
  codewrightref44_Check.f k V ch = peel_Check.f V ch ∧ ∃ e, peel_Check.f V ch = some e := by
 have hall : ch.all (fun l => decide (l.length ≤ 4611686018427387904)) = true := List.all_eq_true.2 (fun l hl => decide_eq_true (by have := hr l hl; omega))
 have hp : peel_Check.f V ch = some (if V < 1 then 4 else if V > 64 then 4 else if (ch.length : Int) > 256 then 8 else if ch.any (fun l => !setR V none l) = true then 6 else 0) := by
  unfold peel_Check.f; rw [if_pos hall]
 obtain ⟨k, rfl⟩ : ∃ k', k = k' + 1 := ⟨k - 1, by omega⟩
 refine ⟨?_, _, hp⟩
 rw [hp, codewrightref44_Check.f]
 by_cases h1 : V < 1
 ·rw [if_pos h1, if_pos h1, codewrightref44_Check.j0, if_pos rfl]
 ·rw [if_neg h1, if_neg h1, codewrightref44_Check.j0]
  by_cases h2 : V > 64
  ·rw [if_pos (decide_eq_true h2), if_pos h2]
  ·rw [if_neg (by simp; omega), if_neg h2]
   by_cases h3 : (ch.length : Int) > 256
   ·rw [if_pos h3, if_pos h3]
   ·rw [if_neg h3, if_neg h3]
    have := rcheck_l0 V ch n hn hc hr ch.length k 0 (by omega) (by omega) (by omega)
    rw [List.drop_zero] at this
    exact this
theorem few_l0 (c : Int) (ls : List (List Int)) (B : Nat) (hB : B ≤ 1000) : ∀ (m k i : Nat) (x : Int), m = ls.length - i → i ≤ ls.length → ls.length ≤ B → x ≤ B → -1000000000 ≤ x → m < k → (∀ l ∈ ls.take i, l.length ≤ B) →
  ∃ b, codewrightref09_Few.l0 k x (i : Int) c ls = some b ∧ (b = true → ∀ l ∈ ls, l.length ≤ B) := by
 intro m
 induction m with
 | zero =>
  intro k i x hm hi hls hx hx2 hk ht
  obtain ⟨k, rfl⟩ : ∃ k', k = k' + 1 := ⟨k - 1, by omega⟩
  refine ⟨true, by rw [codewrightref09_Few.l0, if_neg (by omega)], fun _ l hl => ht l ?_⟩
  rw [List.take_of_length_le (by omega)]; exact hl
 | succ m ih =>
  intro k i x hm hi hls hx hx2 hk ht
  obtain ⟨k, rfl⟩ : ∃ k', k = k' + 1 := ⟨k - 1, by omega⟩
  have h : i < ls.length := by omega
  by_cases h1 : ((rd_L1 ls (i : Int)).length : Int) > x
  ·exact ⟨false, by rw [codewrightref09_Few.l0, if_pos (by omega), if_pos (by omega), if_pos h1], by simp⟩
  ·have hw : wrap64 (x - ((rd_L1 ls (i : Int)).length : Int)) = x - ((rd_L1 ls (i : Int)).length : Int) := by unfold wrap64; omega
   obtain ⟨b, hb, h2⟩ := ih k (i + 1) (x - ((rd_L1 ls (i : Int)).length : Int)) (by omega) (by omega) hls (by omega) (by omega) (by omega) (by
    intro l hl
    rw [List.take_add_one] at hl
    rcases List.mem_append.1 hl with hl | hl
    ·exact ht l hl
    ·have e : ls[i]? = some (rd_L1 ls (i : Int)) := by
      have h2 : (ls.drop i)[0]? = some (rd_L1 ls (i : Int)) := by rw [rows_drop h]; rfl
      rw [List.getElem?_drop, Nat.add_zero] at h2
      exact h2
     rw [e] at hl
     have : l = rd_L1 ls (i : Int) := by simpa using hl
     rw [this]; omega)
   exact ⟨b, by rw [codewrightref09_Few.l0, if_pos (by omega), if_pos (by omega), if_neg h1, hw, w64_succ h (by omega)]; exact hb, h2⟩
theorem few_f (c : Int) (ls : List (List Int)) (B k : Nat) (hB : B ≤ 1000) (hk : B + 2 < k) :
  ∃ b, codewrightref09_Few.f k c ls (B : Int) = some b ∧ (b = true → c ≤ 260 ∧ ls.length ≤ B ∧ ∀ l ∈ ls, l.length ≤ B) := by
 obtain ⟨k, rfl⟩ : ∃ k', k = k' + 1 := ⟨k - 1, by omega⟩
 unfold codewrightref09_Few.f
 by_cases h1 : c > 260
 ·exact ⟨false, by rw [if_pos h1, codewrightref09_Few.j0, if_pos rfl], by simp⟩
 ·rw [if_neg h1, codewrightref09_Few.j0]
  by_cases h2 : (ls.length : Int) > (B : Int)
  ·exact ⟨false, by rw [if_pos (decide_eq_true h2)], by simp⟩
  ·rw [if_neg (by simp; omega)]
   have hw : wrap64 ((B : Int) - (ls.length : Int)) = (B : Int) - (ls.length : Int) := by unfold wrap64; omega
   rw [hw]
   obtain ⟨b, hb, h3⟩ := few_l0 c ls B hB ls.length k 0 ((B : Int) - (ls.length : Int)) (by omega) (by omega) (by omega) (by omega) (by omega) (by omega) (by simp)
   exact ⟨b, hb, fun hbt => ⟨by omega, by omega, h3 hbt⟩⟩
theorem fewG_f (V : Int) (ch : List (List Int)) (k : Nat) (hk : 302 < k) :
  ∃ b, codewrightref44_Few.f k V ch = some b ∧ (b = true → (V ≤ 10 ∨ 16 < V) ∧ ch.length ≤ 300 ∧ ∀ l ∈ ch, l.length ≤ 300) := by
 obtain ⟨b, hb, h⟩ := few_f 0 ch 300 k (by omega) (by omega)
 unfold codewrightref44_Few.f
 rw [show ((300 : Nat) : Int) = 300 from rfl] at hb
 rw [hb, Option.bind_some]
 cases b with
 | false => exact ⟨false, by simp, by simp⟩
 | true =>
  rw [if_pos rfl]
  by_cases h1 : V ≤ 10
  ·exact ⟨true, by rw [if_pos h1], fun _ => ⟨Or.inl h1, (h rfl).2⟩⟩
  ·exact ⟨decide (V > 16), by rw [if_neg h1], fun h2 => ⟨Or.inr (of_decide_eq_true h2), (h rfl).2⟩⟩
theorem split_l0 (bits : Int) (V : Nat) (hV : V ≤ 31) : ∀ (d k i : Nat) (acc : List Int), d = V - i → i ≤ V → 2 * d + 1 < k → acc.length ≤ i →
  ∃ m : List Bool, m.length = d ∧ codewrightlaw44_split.l0 k bits (V : Int) acc (i : Int) = some (acc ++ leftR m i) := by
 intro d
 induction d with
 | zero =>
  intro k i acc hd hi hk ha
  obtain ⟨k, rfl⟩ : ∃ k', k = k' + 2 := ⟨k - 2, by omega⟩
  refine ⟨[], rfl, ?_⟩
  rw [codewrightlaw44_split.l0, if_neg (by omega), codewrightlaw44_split.j1, if_neg (by simp)]
  simp [leftR]
 | succ d ih =>
  intro k i acc hd hi hk ha
  obtain ⟨k, rfl⟩ : ∃ k', k = k' + 2 := ⟨k - 2, by omega⟩
  rw [codewrightlaw44_split.l0, if_pos (by omega), codewrightlaw44_split.j1, if_pos (decide_eq_true (by omega)), if_pos (by omega)]
  have hw : wrap64 ((i : Int) + 1) = ((i + 1 : Nat) : Int) := by unfold wrap64; omega
  rw [hw]
  split
  ·rw [if_pos (by omega)]
   obtain ⟨m, hm, e⟩ := ih k (i + 1) (acc ++ [(i : Int)]) (by omega) (by omega) (by omega) (by simp; omega)
   refine ⟨true :: m, by simp [hm], ?_⟩
   rw [e, leftR, if_pos rfl]; simp
  ·obtain ⟨m, hm, e⟩ := ih k (i + 1) acc (by omega) (by omega) (by omega) (by omega)
   refine ⟨false :: m, by simp [hm], ?_⟩
   rw [e, leftR, if_neg (by simp)]
theorem split_f (bits : Int) (V k : Nat) (hV : V ≤ 31) (hk : 64 < k) : ∃ m : List Bool, m.length = V ∧ codewrightlaw44_split.f k bits (V : Int) = some (leftR m 0) := by
 obtain ⟨m, hm, e⟩ := split_l0 bits V hV V k 0 [] (by omega) (by omega) (by omega) (by simp)
 exact ⟨m, hm, e⟩
theorem mask_l0 (l : List Int) (n : Nat) (hl : l.length ≤ 4611686018427387904) (hr : ∀ x ∈ l, 0 ≤ x ∧ x < (n : Int)) : ∀ (d k i : Nat) (o : List Bool), d = l.length - i → i ≤ l.length → d < k → o.length = n →
  peel_mask.l0 k o l (l.length : Int) (i : Int) = some (maskR (l.drop i) o) := by
 intro d
 induction d with
 | zero =>
  intro k i o hd hi hk ho
  obtain ⟨k, rfl⟩ : ∃ k', k = k' + 1 := ⟨k - 1, by omega⟩
  have h : i = l.length := by omega
  rw [peel_mask.l0, if_neg (by omega), h, List.drop_length, maskR]
 | succ d ih =>
  intro k i o hd hi hk ho
  obtain ⟨k, rfl⟩ : ∃ k', k = k' + 1 := ⟨k - 1, by omega⟩
  have h : i < l.length := by omega
  have hm := hr _ (rd_memInt (l := l) (i := (i : Int)) (by omega) (by omega))
  rw [peel_mask.l0, if_pos (by omega), if_pos (by omega), if_pos (by omega), if_pos hm.1, if_pos (by omega), rd_drop h, maskR, w64_succ h hl]
  exact ih k (i + 1) _ (by omega) (by omega) (by omega) (by rw [List.length_set]; exact ho)
theorem mask_f {l : List Int} {V k : Nat} {ch : List (List Int)} (hV : V ≤ 64) (hl : l.length ≤ 4611686018427387904) (hr : ∀ x ∈ l, 0 ≤ x ∧ x < (V : Int)) (hk : l.length < k) : peel_mask.f k (V : Int) ch l = some (maskR l (List.replicate V false)) := by
 unfold peel_mask.f
 rw [if_pos (by omega), if_pos (by omega), Int.toNat_natCast]
 have := mask_l0 l V hl hr l.length k 0 (List.replicate V false) (by omega) (by omega) hk (List.length_replicate ..)
 rw [List.drop_zero] at this
 exact this
theorem bool_drop {l : List Bool} {i : Nat} (h : i < l.length) : l.drop i = rdOf false l (i : Int) :: l.drop (i + 1) := by
 have := drop_cons (d := false) (i := (i : Int)) (l := l) (by omega) (by omega)
 rw [Int.toNat_natCast, show ((i : Int) + 1).toNat = i + 1 from by omega] at this
 exact this
theorem left_l0 (l : List Bool) (hl : l.length ≤ 1000000) : ∀ (d k i : Nat) (acc : List Int), d = l.length - i → i ≤ l.length → d < k → acc.length ≤ i →
  peel_left.l0 k acc l (l.length : Int) (i : Int) = some (acc ++ leftR (l.drop i) i) := by
 intro d
 induction d with
 | zero =>
  intro k i acc hd hi hk ha
  obtain ⟨k, rfl⟩ : ∃ k', k = k' + 1 := ⟨k - 1, by omega⟩
  have h : i = l.length := by omega
  rw [peel_left.l0, if_neg (by omega), h, List.drop_length, leftR, List.append_nil]
 | succ d ih =>
  intro k i acc hd hi hk ha
  obtain ⟨k, rfl⟩ : ∃ k', k = k' + 1 := ⟨k - 1, by omega⟩
  have h : i < l.length := by omega
  rw [peel_left.l0, if_pos (by omega), if_pos (by omega), if_pos (by omega), bool_drop h, leftR, w64_succ h (by omega)]
  by_cases hb : rdOf false l (i : Int) = true
  ·rw [if_pos hb, if_pos (by omega), if_pos hb, ih k (i + 1) _ (by omega) (by omega) (by omega) (by simp; omega)]
   simp
  ·rw [if_neg hb, if_neg hb, ih k (i + 1) _ (by omega) (by omega) (by omega) (by omega)]
theorem left_f {l : List Bool} {k : Nat} (hl : l.length ≤ 1000000) (hk : l.length < k) : peel_left.f k l = some (leftR l 0) := by
 have := left_l0 l hl l.length k 0 [] (by omega) (by omega) hk (by simp)
 rw [List.drop_zero, List.nil_append] at this
 exact this
theorem leftR_mem0 {m : List Bool} {x : Int} (h : x ∈ leftR m 0) : 0 ≤ x ∧ x < (m.length : Int) := by
 obtain ⟨k, hk, e⟩ := (leftR_mem m 0 x).1 h
 have := (List.getElem?_eq_some_iff.1 hk).1
 omega
theorem graph_ok {V : Int} {ch : List (List Int)} (h : peel_Check.f V ch = some 0) : ∃ n : Nat, V = n ∧ 1 ≤ n ∧ n ≤ 64 ∧ ch.length ≤ 256 ∧ (∀ l ∈ ch, setR n none l = true) ∧ ∀ l ∈ ch, ∀ i ∈ l, 0 ≤ i ∧ i < (n : Int) := by
 obtain ⟨h1, h2, h3, h4⟩ := check_zero h
 refine ⟨V.toNat, by omega, by omega, by omega, h3, ?_, fun l hl i hi => ?_⟩
 ·rw [Int.toNat_of_nonneg (by omega)]; exact h4
 ·rw [Int.toNat_of_nonneg (by omega)]; exact setR_mem (h4 l hl) i hi
theorem alone_f {V : Int} {ch : List (List Int)} {m : List Bool} (hc : ch.length ≤ 256) (h : ∀ l ∈ ch, ∀ i ∈ l, 0 ≤ i ∧ i < (m.length : Int)) : peel_alone.f V ch m = some (alone m ch) := by
 unfold peel_alone.f
 rw [if_pos (List.all_eq_true.2 fun l hl => List.all_eq_true.2 fun i hi => decide_eq_true (h l hl i hi)), if_pos (by omega)]
theorem stopping_f {n k : Nat} {ch : List (List Int)} {m : List Bool} (h : peel_Check.f (n : Int) ch = some 0) (hm : m.length = n) (hk : 64 < k) :
  peel_Stopping.f k (n : Int) ch (leftR m 0) = some (decide (alone m ch < 0), 0) := by
 obtain ⟨n', e, h1, h2, h3, h4, h5⟩ := graph_ok h
 have e : n = n' := by omega
 subst e
 have hlen : (leftR m 0).length ≤ n := by rw [leftR_length, ← hm]; exact List.count_le_length
 unfold peel_Stopping.f
 rw [h, Option.bind_some, if_pos rfl, set_fk (by omega) (by omega), Option.bind_some, leftR_set m 0 n none (by omega) (by simp), if_pos rfl, mask_f h2 (by omega) (fun x hx => by rw [← hm]; exact leftR_mem0 hx) (by omega), Option.bind_some, maskR_left m n hm, alone_f h3 (by rw [hm]; exact h5), Option.bind_some]
end Go.Proofs.Ytkifipakikbhcaa.Hand
namespace Go.Proofs.Ytkifipakikbhcaa.Hand
open Go.Proofs.Ytkifipakikbhcaa.Ref Go.Proofs.Ytkifipakikbhcaa.Pg
open Go.Proofs.Ytkifipakikbhcaa.Pk (peel_Stopping.f)
open Go.Proofs.Ytkifipakikbhcaa.Lb (codewrightlaw44_PeelSmallest.f codewrightlaw44_PeelSmallest.j0)
open Go.RowKit Go.Proofs.YtkifipakikbhcaaW.PrintWords Go.Proofs.YtkifipakikbhcaaW.PrintLast Go.Proofs.YtkifipakikbhcaaW.PrintMore
theorem smallest_j0 (n : Nat) (ch : List (List Int)) (bits : Int) (hck : peel_Check.f (n : Int) ch = some 0) (hn : n ≤ 16) :
  codewrightlaw44_PeelSmallest.j0 1000 bits false (n : Int) ch = some true := by
 obtain ⟨n', e, h1, h2, h3, h4, h5⟩ := graph_ok hck
 have e : n = n' := by omega
 subst e
 have hch : ∀ l ∈ ch, ∀ i ∈ l, 0 ≤ i := fun l hl i hi => (h5 l hl i hi).1
 obtain ⟨m, hm, hs⟩ := split_f bits n 999 (by omega) (by omega)
 have hst := fun (x : List Bool) (hx : x.length = n) => stopping_f (k := 999) hck hx (by omega)
 rw [codewrightlaw44_PeelSmallest.j0, if_neg (by simp)]
 unfold peel_Smallest.f
 rw [hck, Option.bind_some, if_pos rfl, if_neg (by omega), Int.toNat_natCast]
 cases hf : firstSize n ch n 1 with
 | none =>
  simp only [Option.bind_some, hs, hst m hm]
  rw [if_pos trivial, if_pos trivial]
  by_cases ha : alone m ch < 0
  ·rw [if_pos (decide_eq_true ha)]
   have := first_nolaw hf m hm ha
   have hl : (leftR m 0).length = 0 := by rw [leftR_length]; exact this
   simp [hl]
  ·rw [if_neg (by simp; omega)]
 | some r =>
  obtain ⟨l1, l2, l3, l4, l5⟩ := first_law hf
  have hlen : (leftR r 0).length = r.count true := leftR_length r 0
  have hlm : (leftR m 0).length = m.count true := leftR_length m 0
  simp only []
  rw [left_f (by omega) (by omega)]
  simp only [Option.map_some, Option.bind_some, hs, hst m hm, hst r l1]
  rw [if_pos trivial, if_neg (by decide), if_pos trivial, if_pos trivial, if_pos (decide_eq_true l2), if_pos (by omega)]
  by_cases ha : alone m ch < 0
  ·rw [if_pos (decide_eq_true ha)]
   by_cases hz : ((leftR m 0).length : Int) = 0
   ·rw [if_pos hz, decide_eq_true (by omega)]
   ·have := l5 m hm ha (by omega)
    rw [if_neg hz, if_pos (by omega), decide_eq_true (by omega)]
  ·rw [if_neg (by simp; omega), decide_eq_true (by omega)]
theorem smallest_pure (V : Int) (ch : List (List Int)) (bits : Int) : codewrightlaw44_PeelSmallest.f 1001 V ch bits = some true := by
 have haw : ∀ (b : Bool), b = true → codewrightlaw44_PeelSmallest.j0 1001 bits b V ch = some true := by
  intro b hb
  rw [codewrightlaw44_PeelSmallest.j0, if_pos hb]; rfl
 unfold codewrightlaw44_PeelSmallest.f
 rw [show codewrightlaw44_awake.f = some true from rfl, Option.bind_some, if_pos rfl]
 obtain ⟨b, hb, hfew⟩ := fewG_f V ch 1001 (by omega)
 rw [hb, Option.bind_some]
 cases b with
 | false => rw [if_neg (by simp)]; exact haw _ rfl
 | true =>
  obtain ⟨f1, f2, f3⟩ := hfew rfl
  rw [if_pos rfl]
  obtain ⟨hc, e, he⟩ := rcheck_f (V := V) (ch := ch) (n := 300) (k := 1001) (by omega) (by omega) f3 (by omega)
  rw [hc, he, Option.bind_some]
  by_cases h0 : e = 0
  ·subst h0
   rw [if_pos rfl]
   by_cases h16 : V > 16
   ·exact haw _ (decide_eq_true h16)
   ·obtain ⟨n, e, h1, h2, _⟩ := graph_ok he
    subst e
    rw [decide_eq_false h16]
    have := smallest_j0 n ch bits he (by omega)
    exact Lb.codewrightlaw44_PeelSmallest.mono_l 1000 _ _ _ _ _ this
  ·rw [if_neg h0]; exact haw _ rfl
end Go.Proofs.Ytkifipakikbhcaa.Hand
namespace Go.Proofs.Ytkifipakikbhcaa.Hand
open Go.ChangeShapes Go.WideShapes Go.ChangeAt Go.RowKit
open Go.Proofs.Ytkifipakikbhcaa.Ref
open Go.Proofs.YtkifipakikbhcaaW.PrintWords Go.Proofs.YtkifipakikbhcaaW.PrintLast Go.Proofs.YtkifipakikbhcaaW.PrintMore
theorem own : ownKnob Try.prog.godebug = none := by kernel_rfl
theorem laidOut : laidOutB Try.prog = true := by kernel_rfl
section
variable {H : Type} {enc : TypeId × Value → H} {W : World}
theorem ints_C {fuel : Nat} {v : Value} {x : DataW H × List MemPlace} (h : DataW.trod enc Try.prog W 0 (fun _ => true) true fuel 22 [v] = some x) :
  ∃ (A : Option Addr) (c : Nat) (l : List Int), v = .slice A l.length c ∧ l.length ≤ c ∧ c ≤ maxLen ∧ Kd.C (Kd.int .i64) W A l.length l := by
 rcases Go.ChangeShapes.open_ints Try.underlying22 Try.underlying3 (by kernel_rfl) h with ⟨hcs, _⟩ | ⟨a, len, cap, zs, hcs, _, hl, hm, hz, _, hcell, _⟩
 ·exact ⟨none, 0, [], by simpa using hcs, Nat.le_refl _, Nat.zero_le _, Kd.C_nil _ _⟩
 ·simp only [if_true] at hz
  have hlen : (zs.take len).length = len := by rw [List.length_take]; omega
  refine ⟨some a, cap, zs.take len, by rw [hlen]; simpa using hcs, by omega, hm, ?_⟩
  refine Kd.C_of_reads (d := 0) ⟨rfl, by rw [hlen]; have := hm; unfold maxLen at this; omega, fun hp => ⟨a, rfl, fun j hj => ?_⟩⟩
  rw [hlen] at hj
  rw [hcell j (by omega)]
  simp [List.getD_eq_getElem?_getD, List.getElem?_take, hj]
theorem rows_C {fuel : Nat} {v : Value} {x : DataW H × List MemPlace} (h : DataW.trod enc Try.prog W 0 (fun _ => true) true fuel 25 [v] = some x) :
  ∃ (A : Option Addr) (c : Nat) (l : List (List Int)), v = .slice A l.length c ∧ l.length ≤ c ∧ c ≤ maxLen ∧ Kd.C (Kd.slice 3 (Kd.int .i64)) W A l.length l := by
 rcases Go.Deep.open_int_rows Try.underlying25 Try.underlying22 Try.underlying3 (by kernel_rfl) (by kernel_rfl) h with ⟨hcs, _⟩ | ⟨a, len, cap, A, L, C, Z, hcs, _, hl, hm, _, hr⟩
 ·exact ⟨none, 0, [], by simpa using hcs, Nat.le_refl _, Nat.zero_le _, Kd.C_nil _ _⟩
 ·have hlen : ((List.range len).map fun r => (Z r).take (L r)).length = len := by simp
  refine ⟨some a, cap, (List.range len).map fun r => (Z r).take (L r), by rw [hlen]; simpa using hcs, by omega, hm, rfl, by rw [hlen]; have := hm; unfold maxLen at this; omega, fun hp => ⟨a, rfl, fun j p hj => ?_⟩⟩
  have hj2 : j < len := by
   have := (List.getElem?_eq_some_iff.1 hj).1
   rw [hlen] at this; exact this
  have hp : p = (Z j).take (L j) := by
   rw [List.getElem?_map, List.getElem?_range hj2] at hj
   exact (Option.some.inj hj).symm
  obtain ⟨hc, h1, h2, h3, h4, h5, h6⟩ := hr j (by omega)
  have hpl : p.length = L j := by rw [hp, List.length_take]; omega
  refine ⟨[.slice (A j) p.length (C j)], rfl, ⟨A j, C j, rfl, by omega, ?_⟩, ?_⟩
  ·refine Kd.C_of_reads (d := 0) ⟨rfl, by have := h2; unfold maxLen at this; omega, fun hp0 => ?_⟩
   cases hA : A j with
   | none => exact absurd (h5 hA) (by omega)
   | some a' =>
    refine ⟨a', rfl, fun i hi => ?_⟩
    rw [(h6 a' hA).2 i (by omega)]
    have hi2 : i < L j := by omega
    simp [hp, List.getD_eq_getElem?_getD, List.getElem?_take, hi2]
  ·intro i u hu
   have hi : i = 0 := by
    have := (List.getElem?_eq_some_iff.1 hu).1
    simp at this; exact this
   subst hi
   have hu : Value.slice (A j) p.length (C j) = u := by simpa using hu
   rw [← hu, hpl]
   have e : j * (Kd.slice 3 (Kd.int .i64)).sz + 0 = j := by show j * 1 + 0 = j; omega
   rw [e]; exact hc
end
end Go.Proofs.Ytkifipakikbhcaa.Hand
