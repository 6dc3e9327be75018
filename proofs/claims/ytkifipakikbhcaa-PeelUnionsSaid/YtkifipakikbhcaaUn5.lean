/- Part 5 of the claim: what the law reaches, walked (merged by slim.py out of the texts in wip). -/
import Derived.Test.YtkifipakikbhcaaUn4
import Derived.ArgAppend
import Derived.Below
import Derived.BigQuiet
import Derived.Deep.AppendLies
import Derived.Deep.CutBlock
import Derived.Deep.DeepCutAuto
import Derived.Deep.Draws
import Derived.Deep.LoopGhost
import Derived.Deep.OwnRows
import Derived.Deep.QuietTactic
import Derived.Deep.RegionHeld3
import Derived.KernelRfl
import Derived.Laws.BitsLemmas
import Derived.Laws.BytesArg
import Derived.Laws.EntriesVeiled
import Derived.Laws.IdiomCopy
import Derived.Laws.MakeOwn
import Derived.Laws.OwnMore
import Derived.Laws.Rows
import Derived.Laws.Slices
import Derived.Lib.AppendStr
import Derived.Lib.ConvBytes
import Derived.Maps.AppendAt
import Derived.OrdersHeld
import Derived.OwnWalk
import Derived.RowKit
import Derived.RowKit3
import Derived.Tactics
import Derived.Test.YtkifipakikbhcaaProg
import Derived.WalkKit
import Derived.WideLaws
set_option maxHeartbeats 8000000
set_option maxRecDepth 100000
set_option linter.unusedSimpArgs false
set_option linter.unusedVariables false
namespace Go.Proofs.Ytkifipakikbhcaa.Ref
open Go.RowKit Go.Proofs.YtkifipakikbhcaaW.PrintWords Go.Proofs.YtkifipakikbhcaaW.PrintLast Go.Proofs.YtkifipakikbhcaaW.PrintMore
attribute [local go_sem] max2_int min2_int max_two min_two max_three min_three max_four min_four
def codewrightref09_SameRows.l0 : Nat → List (List Int) → List (List Int) → Int → Option (Bool)
 | 0, _, _, _ => none
 | k + 1, x0, x1, x5 => if x5 < (x0.length : Int) then (if 0 ≤ x5 then (if x5 < (x1.length : Int) then ((codewrightref09_SameInts.f k (rd_L1 x0 x5) (rd_L1 x1 x5)).bind fun t359 => (if t359 = true then (codewrightref09_SameRows.l0 k x0 x1 (wrap64 (x5 + 1))) else (some false))) else (none)) else (none)) else (some true)
def codewrightref09_SameRows.f (k : Nat) (l0 : List (List Int)) (l1 : List (List Int)) : Option (Bool) := if (l0.length : Int) = (l1.length : Int) then (codewrightref09_SameRows.l0 k l0 l1 0) else (some false)
theorem codewrightref09_SameRows.calls (k : Nat) (A0 : Option Addr) (c0 : Nat) (l0 : List (List Int)) (A1 : Option Addr) (c1 : Nat) (l1 : List (List Int)) (r : Bool) (w : World) (hr0 : Kd.C (Kd.slice 3 (Kd.int .i64)) w A0 l0.length l0) (hc0 : l0.length ≤ c0) (hr1 : Kd.C (Kd.slice 3 (Kd.int .i64)) w A1 l1.length l1) (hc1 : l1.length ≤ c1) (h : codewrightref09_SameRows.f k l0 l1 = some r) :
  Calls Try.prog 44 #[.slice A0 l0.length c0, .slice A1 l1.length c1] w fun e w' => e = .returned (.bool r) ∧ Drawn0 w w' := by
 have HR0 := Aside0.mk hr0
 have HC0 := Aside0.mk hc0
 clear hr0 hc0
 have HR1 := Aside0.mk hr1
 have HC1 := Aside0.mk hc1
 clear hr1 hc1
 have H : (if (l0.length : Int) = (l1.length : Int) then (codewrightref09_SameRows.l0 k l0 l1 0) else (some false)) = some r := h
 clear h
 by_cases c3 : (l0.length : Int) = (l1.length : Int)
 ·rw [if_pos c3] at H
  have c3b0 : ((l0.length : Int) == (l1.length : Int)) = true := beq_iff_eq.mpr c3
  have c3b1 : ((l0.length : Int) != (l1.length : Int)) = false := bne_eq_false_iff_eq.mpr c3
  have c3b2 : (l0.length == l1.length) = true := by first | simpa using c3 | (simp at c3 ⊢; omega)
  clear c3
  have H' := Aside0.mk H
  clear H
  go_enter Try.func44, Try.ntmps44
  go_wp2
  repeat (go_quiet (fail); try go_wp2)
  go_loopg [5] k (fun kq v5 w' => ∃ (x5_1 : Int), v5 = .int .i64 x5_1 ∧ Aside0 (codewrightref09_SameRows.l0 kq l0 l1 x5_1 = some r) ∧ Aside0 (kq ≤ k) ∧ Drawn0 w w')
  case atStart => exact ⟨(0), (by first | rfl | (simp; done) | (simp [*]; done)), H', ⟨Nat.le_refl _⟩, by repeat (first | exact Drawn0.refl _ | apply Drawn0.step)⟩
  case round =>
   clear H'
   try clear c1
   try clear p2
   try clear c3
   try clear c3b0
   try clear c3b1
   try clear c3b2
   obtain ⟨x5_1, rfl, HA, HK1, ⟨m1, rfl⟩⟩ := hrel
   cases gk with
   | zero => exact absurd HA.out (by simp [codewrightref09_SameRows.l0])
   | succ k1 =>
    have H := HA.out
    clear HA
    simp only [codewrightref09_SameRows.l0] at H
    by_cases c4 : x5_1 < (l0.length : Int)
    ·rw [if_pos c4] at H
     have c4b0 : decide (x5_1 < (l0.length : Int)) = true := decide_eq_true c4
     clear c4
     by_cases c5 : 0 ≤ x5_1
     ·rw [if_pos c5] at H
      have c5b0 : decide (0 ≤ x5_1) = true := decide_eq_true c5
      clear c5
      by_cases c6 : x5_1 < (l1.length : Int)
      ·rw [if_pos c6] at H
       have c6b0 : decide (x5_1 < (l1.length : Int)) = true := decide_eq_true c6
       clear c6
       replace H := Option.bind_eq_some_iff.mp H
       obtain ⟨t359, A70, H⟩ := H
       replace H : (if t359 = true then (codewrightref09_SameRows.l0 k1 l0 l1 (wrap64 (x5_1 + 1))) else (some false)) = some r := H
       have A7 := Aside0.mk A70
       clear A70
       by_cases c8 : t359 = true
       ·subst c8
        have H1 : (codewrightref09_SameRows.l0 k1 l0 l1 (wrap64 (x5_1 + 1))) = some r := by rw [if_pos rfl] at H; exact H
        clear H
        have H := H1
        clear H1
        have H' := Aside0.mk H
        clear H
        have p357 : 0 ≤ (x5_1 : Int) := of_decide_eq_true (by first | (with_reducible assumption) | assumption)
        have q357 : x5_1 < (l0.length : Int) := of_decide_eq_true (by first | (with_reducible assumption) | assumption)
        obtain ⟨ad357, A357_0, c357_0, e357, hx357_0, hl357_0, hi357_0⟩ := at_L1 HR0.out x5_1 p357 q357
        cases e357
        have HR357_0 := Aside0.mk hi357_0
        have HC357_0 := Aside0.mk hl357_0
        clear hi357_0 hl357_0
        replace p357 := eq_true p357
        replace q357 := eq_true q357
        have p358 : 0 ≤ (x5_1 : Int) := of_decide_eq_true (by first | (with_reducible assumption) | assumption)
        have q358 : x5_1 < (l1.length : Int) := of_decide_eq_true (by first | (with_reducible assumption) | assumption)
        obtain ⟨ad358, A358_0, c358_0, e358, hx358_0, hl358_0, hi358_0⟩ := at_L1 HR1.out x5_1 p358 q358
        cases e358
        have HR358_0 := Aside0.mk hi358_0
        have HC358_0 := Aside0.mk hl358_0
        clear hi358_0 hl358_0
        replace p358 := eq_true p358
        replace q358 := eq_true q358
        go_wp2_with (first | (go_at_call 28; (with_reducible refine (codewrightref09_SameInts.calls k1 _ _ (rd_L1 l0 x5_1) _ _ (rd_L1 l1 x5_1) true _ ?side1 ?side2 ?side3 ?side4 A7.out).mono ?_); (case side1 => repeat (first | exact HR357_0.out | (with_reducible refine Kd.C_alloc ?_ _) | (with_reducible refine Kd.C_drewN ?_ _) | (with_reducible refine Kd.C_drew ?_))); (case side2 => exact HC357_0.out); (case side3 => repeat (first | exact HR358_0.out | (with_reducible refine Kd.C_alloc ?_ _) | (with_reducible refine Kd.C_drewN ?_ _) | (with_reducible refine Kd.C_drew ?_))); (case side4 => exact HC358_0.out); rintro e w' ⟨rfl, ⟨nd, rfl⟩⟩; (try first | exact ⟨rfl, _, World.drewN_drewN _ _ _⟩ | exact ⟨rfl, _, Eq.trans (World.drewN_drewN _ _ _) (congrArg (World.drewN _) (Nat.add_assoc _ _ _))⟩)))
        repeat (go_quiet (first | (go_at_call 28; (with_reducible refine (codewrightref09_SameInts.calls k1 _ _ (rd_L1 l0 x5_1) _ _ (rd_L1 l1 x5_1) true _ ?side1 ?side2 ?side3 ?side4 A7.out).mono ?_); (case side1 => repeat (first | exact HR357_0.out | (with_reducible refine Kd.C_alloc ?_ _) | (with_reducible refine Kd.C_drewN ?_ _) | (with_reducible refine Kd.C_drew ?_))); (case side2 => exact HC357_0.out); (case side3 => repeat (first | exact HR358_0.out | (with_reducible refine Kd.C_alloc ?_ _) | (with_reducible refine Kd.C_drewN ?_ _) | (with_reducible refine Kd.C_drew ?_))); (case side4 => exact HC358_0.out); rintro e w' ⟨rfl, ⟨nd, rfl⟩⟩; (try first | exact ⟨rfl, _, World.drewN_drewN _ _ _⟩ | exact ⟨rfl, _, Eq.trans (World.drewN_drewN _ _ _) (congrArg (World.drewN _) (Nat.add_assoc _ _ _))⟩))); try go_wp2_with (first | (go_at_call 28; (with_reducible refine (codewrightref09_SameInts.calls k1 _ _ (rd_L1 l0 x5_1) _ _ (rd_L1 l1 x5_1) true _ ?side1 ?side2 ?side3 ?side4 A7.out).mono ?_); (case side1 => repeat (first | exact HR357_0.out | (with_reducible refine Kd.C_alloc ?_ _) | (with_reducible refine Kd.C_drewN ?_ _) | (with_reducible refine Kd.C_drew ?_))); (case side2 => exact HC357_0.out); (case side3 => repeat (first | exact HR358_0.out | (with_reducible refine Kd.C_alloc ?_ _) | (with_reducible refine Kd.C_drewN ?_ _) | (with_reducible refine Kd.C_drew ?_))); (case side4 => exact HC358_0.out); rintro e w' ⟨rfl, ⟨nd, rfl⟩⟩; (try first | exact ⟨rfl, _, World.drewN_drewN _ _ _⟩ | exact ⟨rfl, _, Eq.trans (World.drewN_drewN _ _ _) (congrArg (World.drewN _) (Nat.add_assoc _ _ _))⟩))))
        go_roundg k1
        case measure => have := HK1.out; omega
        case rel => exact ⟨(wrap64 (x5_1 + 1)), (by first | rfl | (simp; done) | (simp [*]; done)), H', ⟨by have := HK1.out; omega⟩, by repeat (first | exact Drawn0.refl _ | apply Drawn0.step)⟩
       ·replace c8 := Bool.eq_false_iff.mpr c8
        subst c8
        have H1 : (some false) = some r := by rw [if_neg (show ¬ (false = true) by decide)] at H; exact H
        clear H
        have H := H1
        clear H1
        obtain rfl := Option.some.inj H
        have p357 : 0 ≤ (x5_1 : Int) := of_decide_eq_true (by first | (with_reducible assumption) | assumption)
        have q357 : x5_1 < (l0.length : Int) := of_decide_eq_true (by first | (with_reducible assumption) | assumption)
        obtain ⟨ad357, A357_0, c357_0, e357, hx357_0, hl357_0, hi357_0⟩ := at_L1 HR0.out x5_1 p357 q357
        cases e357
        have HR357_0 := Aside0.mk hi357_0
        have HC357_0 := Aside0.mk hl357_0
        clear hi357_0 hl357_0
        replace p357 := eq_true p357
        replace q357 := eq_true q357
        have p358 : 0 ≤ (x5_1 : Int) := of_decide_eq_true (by first | (with_reducible assumption) | assumption)
        have q358 : x5_1 < (l1.length : Int) := of_decide_eq_true (by first | (with_reducible assumption) | assumption)
        obtain ⟨ad358, A358_0, c358_0, e358, hx358_0, hl358_0, hi358_0⟩ := at_L1 HR1.out x5_1 p358 q358
        cases e358
        have HR358_0 := Aside0.mk hi358_0
        have HC358_0 := Aside0.mk hl358_0
        clear hi358_0 hl358_0
        replace p358 := eq_true p358
        replace q358 := eq_true q358
        go_wp2_with (first | (go_at_call 28; (with_reducible refine (codewrightref09_SameInts.calls k1 _ _ (rd_L1 l0 x5_1) _ _ (rd_L1 l1 x5_1) false _ ?side1 ?side2 ?side3 ?side4 A7.out).mono ?_); (case side1 => repeat (first | exact HR357_0.out | (with_reducible refine Kd.C_alloc ?_ _) | (with_reducible refine Kd.C_drewN ?_ _) | (with_reducible refine Kd.C_drew ?_))); (case side2 => exact HC357_0.out); (case side3 => repeat (first | exact HR358_0.out | (with_reducible refine Kd.C_alloc ?_ _) | (with_reducible refine Kd.C_drewN ?_ _) | (with_reducible refine Kd.C_drew ?_))); (case side4 => exact HC358_0.out); rintro e w' ⟨rfl, ⟨nd, rfl⟩⟩; (try first | exact ⟨rfl, _, World.drewN_drewN _ _ _⟩ | exact ⟨rfl, _, Eq.trans (World.drewN_drewN _ _ _) (congrArg (World.drewN _) (Nat.add_assoc _ _ _))⟩)))
        repeat (go_quiet (first | (go_at_call 28; (with_reducible refine (codewrightref09_SameInts.calls k1 _ _ (rd_L1 l0 x5_1) _ _ (rd_L1 l1 x5_1) false _ ?side1 ?side2 ?side3 ?side4 A7.out).mono ?_); (case side1 => repeat (first | exact HR357_0.out | (with_reducible refine Kd.C_alloc ?_ _) | (with_reducible refine Kd.C_drewN ?_ _) | (with_reducible refine Kd.C_drew ?_))); (case side2 => exact HC357_0.out); (case side3 => repeat (first | exact HR358_0.out | (with_reducible refine Kd.C_alloc ?_ _) | (with_reducible refine Kd.C_drewN ?_ _) | (with_reducible refine Kd.C_drew ?_))); (case side4 => exact HC358_0.out); rintro e w' ⟨rfl, ⟨nd, rfl⟩⟩; (try first | exact ⟨rfl, _, World.drewN_drewN _ _ _⟩ | exact ⟨rfl, _, Eq.trans (World.drewN_drewN _ _ _) (congrArg (World.drewN _) (Nat.add_assoc _ _ _))⟩))); try go_wp2_with (first | (go_at_call 28; (with_reducible refine (codewrightref09_SameInts.calls k1 _ _ (rd_L1 l0 x5_1) _ _ (rd_L1 l1 x5_1) false _ ?side1 ?side2 ?side3 ?side4 A7.out).mono ?_); (case side1 => repeat (first | exact HR357_0.out | (with_reducible refine Kd.C_alloc ?_ _) | (with_reducible refine Kd.C_drewN ?_ _) | (with_reducible refine Kd.C_drew ?_))); (case side2 => exact HC357_0.out); (case side3 => repeat (first | exact HR358_0.out | (with_reducible refine Kd.C_alloc ?_ _) | (with_reducible refine Kd.C_drewN ?_ _) | (with_reducible refine Kd.C_drew ?_))); (case side4 => exact HC358_0.out); rintro e w' ⟨rfl, ⟨nd, rfl⟩⟩; (try first | exact ⟨rfl, _, World.drewN_drewN _ _ _⟩ | exact ⟨rfl, _, Eq.trans (World.drewN_drewN _ _ _) (congrArg (World.drewN _) (Nat.add_assoc _ _ _))⟩))))
        go_ret
        exact ⟨by first | rfl | (simp; done) | (simp [*]; done), by repeat (first | exact Drawn0.refl _ | apply Drawn0.step)⟩
      ·rw [if_neg c6] at H
       exact absurd H (by simp)
     ·rw [if_neg c5] at H
      exact absurd H (by simp)
    ·rw [if_neg c4] at H
     have c4b0 : decide (x5_1 < (l0.length : Int)) = false := decide_eq_false c4
     clear c4
     obtain rfl := Option.some.inj H
     go_wp2
     repeat (go_quiet (fail); try go_wp2)
     go_ret
     exact ⟨by first | rfl | (simp; done) | (simp [*]; done), by repeat (first | exact Drawn0.refl _ | apply Drawn0.step)⟩
 ·rw [if_neg c3] at H
  have c3b0 : ((l0.length : Int) == (l1.length : Int)) = false := beq_eq_false_iff_ne.mpr c3
  have c3b1 : ((l0.length : Int) != (l1.length : Int)) = true := bne_iff_ne.mpr c3
  have c3b2 : (l0.length == l1.length) = false := by first | simpa using c3 | (simp at c3 ⊢; omega)
  obtain rfl := Option.some.inj H
  go_enter Try.func44, Try.ntmps44
  go_wp2
  repeat (go_quiet (fail); try go_wp2)
  go_ret
  exact ⟨by first | rfl | (simp; done) | (simp [*]; done), by repeat (first | exact Drawn0.refl _ | apply Drawn0.step)⟩
end Go.Proofs.Ytkifipakikbhcaa.Ref
namespace Go.Proofs.Ytkifipakikbhcaa.Ref
open Go.RowKit Go.Proofs.YtkifipakikbhcaaW.PrintWords Go.Proofs.YtkifipakikbhcaaW.PrintLast Go.Proofs.YtkifipakikbhcaaW.PrintMore
attribute [local go_sem] max2_int min2_int max_two min_two max_three min_three max_four min_four
def codewrightref44_Same.f (k : Nat) (a0_0 : Int) (l0_1 : List (List Int)) (a1_0 : Int) (l1_1 : List (List Int)) : Option (Bool) := if a0_0 = a1_0 then ((codewrightref09_SameRows.f k l0_1 l1_1).bind fun t362 => (some t362)) else (some false)
theorem codewrightref44_Same.calls (k : Nat) (a0_0 : Int) (A0_1 : Option Addr) (c0_1 : Nat) (l0_1 : List (List Int)) (a1_0 : Int) (A1_1 : Option Addr) (c1_1 : Nat) (l1_1 : List (List Int)) (r : Bool) (w : World) (hr0_1 : Kd.C (Kd.slice 3 (Kd.int .i64)) w A0_1 l0_1.length l0_1) (hc0_1 : l0_1.length ≤ c0_1) (hr1_1 : Kd.C (Kd.slice 3 (Kd.int .i64)) w A1_1 l1_1.length l1_1) (hc1_1 : l1_1.length ≤ c1_1) (h : codewrightref44_Same.f k a0_0 l0_1 a1_0 l1_1 = some r) :
  Calls Try.prog 16 #[.agg #[.int .i64 a0_0, .slice A0_1 l0_1.length c0_1], .agg #[.int .i64 a1_0, .slice A1_1 l1_1.length c1_1]] w fun e w' => e = .returned (.bool r) ∧ Below w.heap.size w w' := by
 have hu31 := Try.underlying31
 have HR0_1 := Aside0.mk hr0_1
 have HC0_1 := Aside0.mk hc0_1
 clear hr0_1 hc0_1
 have HR1_1 := Aside0.mk hr1_1
 have HC1_1 := Aside0.mk hc1_1
 clear hr1_1 hc1_1
 have HB := Aside0.mk (Below.refl w.heap.size w)
 have H : (if a0_0 = a1_0 then ((codewrightref09_SameRows.f k l0_1 l1_1).bind fun t362 => (some t362)) else (some false)) = some r := h
 clear h
 by_cases c3 : a0_0 = a1_0
 ·rw [if_pos c3] at H
  have c3b0 : (a0_0 == a1_0) = true := beq_iff_eq.mpr c3
  have c3b1 : (a0_0 != a1_0) = false := bne_eq_false_iff_eq.mpr c3
  clear c3
  replace H := Option.bind_eq_some_iff.mp H
  obtain ⟨t362, A40, H⟩ := H
  replace H : (some t362) = some r := H
  have A4 := Aside0.mk A40
  clear A40
  obtain rfl := Option.some.inj H
  go_enter Try.func16, Try.ntmps16
  go_wp2_with (first | ((with_reducible refine gate_dst (N := 2) rfl ?_); refine box_event ?hg (N := 2) ?hd (cs := #[.int .i64 a0_0, .slice A0_1 l0_1.length c0_1]) (t := 31) ?hr ?_; (case hd => rfl); (case hg => rfl); (case hr => first | (go_simp; done) | (go_simp; rfl)); intro gb360 hg w5 hbox hb; have n0_ := Aside0.mk (below_step (by repeat (first | (with_reducible first | exact HB.out | apply below_alloc | apply pw_below_drewN | apply below_drew1) | exact HB.out)) hb); have n1_ := Aside0.mk (hbox); have n2_ := Aside0.mk ((by rw [hg]; exact (below_size (by repeat (first | (with_reducible first | exact HB.out | apply below_alloc | apply pw_below_drewN | apply below_drew1) | exact HB.out))) : w.heap.size ≤ gb360)); have n3_ := Aside0.mk ((by rw [hg]; exact (below_size (by repeat (first | (with_reducible first | exact HB.out | apply below_alloc | apply pw_below_drewN | apply below_drew1) | exact HB.out))) : w.heap.size ≤ gb360)); clear HB; have HB := n0_; have BK360 := n1_; have GW360 := n2_; have GE360 := n3_; clear n0_ n1_ n2_ n3_; clear hb hbox hg) | ((with_reducible refine gate_dst (N := 3) rfl ?_); refine box_event ?hg (N := 3) ?hd (cs := #[.int .i64 a1_0, .slice A1_1 l1_1.length c1_1]) (t := 31) ?hr ?_; (case hd => rfl); (case hg => rfl); (case hr => first | (go_simp; done) | (go_simp; rfl)); intro gb361 hg w6 hbox hb; have n0_ := Aside0.mk (blk_below (g := gb360) (o := .cells #[.int .i64 a0_0, .slice A0_1 l0_1.length c0_1] 31 (0, 0)) (by (with_reducible repeat (first | refine blk_drewN ?_ _ | refine blk_drew ?_ | refine blk_alloc ?_ _)); exact BK360.out) hb); have n1_ := Aside0.mk (below_step (by repeat (first | (with_reducible first | exact HB.out | apply below_alloc | apply pw_below_drewN | apply below_drew1 | refine below_set ?_ GE360.out) | exact HB.out)) hb); have n2_ := Aside0.mk (hbox); have n3_ := Aside0.mk ((by rw [hg]; exact (below_size (by repeat (first | (with_reducible first | exact HB.out | apply below_alloc | apply pw_below_drewN | apply below_drew1 | refine below_set ?_ GE360.out) | exact HB.out))) : w.heap.size ≤ gb361)); have n4_ := Aside0.mk ((by rw [hg]; exact (below_size (by repeat (first | (with_reducible first | exact HB.out | apply below_alloc | apply pw_below_drewN | apply below_drew1 | refine below_set ?_ GE360.out) | exact HB.out))) : w.heap.size ≤ gb361)); have n5_ := Aside0.mk ((by rw [hg]; exact Nat.ne_of_lt (blk_lt (g := gb360) (o := .cells #[.int .i64 a0_0, .slice A0_1 l0_1.length c0_1] 31 (0, 0)) (by (with_reducible repeat (first | refine blk_drewN ?_ _ | refine blk_drew ?_ | refine blk_alloc ?_ _)); exact BK360.out)) : gb360 ≠ gb361)); have n6_ := Aside0.mk ((by rw [hg]; exact Nat.ne_of_gt (blk_lt (g := gb360) (o := .cells #[.int .i64 a0_0, .slice A0_1 l0_1.length c0_1] 31 (0, 0)) (by (with_reducible repeat (first | refine blk_drewN ?_ _ | refine blk_drew ?_ | refine blk_alloc ?_ _)); exact BK360.out)) : gb361 ≠ gb360)); clear BK360; clear HB; have BK360 := n0_; have HB := n1_; have BK361 := n2_; have GW361 := n3_; have GE361 := n4_; have NB360_361 := n5_; have NB361_360 := n6_; clear n0_ n1_ n2_ n3_ n4_ n5_ n6_; clear hb hbox hg; have hnb7 := NB360_361.out; have hnc7 := NB361_360.out; have hcz8_0 : w6.cell? ⟨gb360, 0, none⟩ = some (.int .i64 a0_0) := (blk_cell BK360.out 0).trans rfl; have hcz8_1 : w6.cell? ⟨gb360, 1, none⟩ = some (.slice A0_1 l0_1.length c0_1) := (blk_cell BK360.out 1).trans rfl; have hfz8_0 := blk_frozen BK360.out 0; have hfz8_1 := blk_frozen BK360.out 1; have hcz9_0 : w6.cell? ⟨gb361, 0, none⟩ = some (.int .i64 a1_0) := (blk_cell BK361.out 0).trans rfl; have hcz9_1 : w6.cell? ⟨gb361, 1, none⟩ = some (.slice A1_1 l1_1.length c1_1) := (blk_cell BK361.out 1).trans rfl; have hfz9_0 := blk_frozen BK361.out 0; have hfz9_1 := blk_frozen BK361.out 1) | (go_at_call 44; (with_reducible refine (codewrightref09_SameRows.calls k _ _ l0_1 _ _ l1_1 t362 _ ?side1 ?side2 ?side3 ?side4 A4.out).mono ?_); (case side1 => repeat (first | exact (Kd.C_below HR0_1.out HB.out) | (with_reducible refine Kd.C_alloc ?_ _) | (with_reducible refine Kd.C_drewN ?_ _) | (with_reducible refine Kd.C_drew ?_))); (case side2 => exact HC0_1.out); (case side3 => repeat (first | exact (Kd.C_below HR1_1.out HB.out) | (with_reducible refine Kd.C_alloc ?_ _) | (with_reducible refine Kd.C_drewN ?_ _) | (with_reducible refine Kd.C_drew ?_))); (case side4 => exact HC1_1.out); rintro e w' ⟨rfl, ⟨nd, rfl⟩⟩))
  go_ret
  exact ⟨by first | rfl | (simp [errW_none, errW_some] <;> rfl) | (simp [*, errW_none, errW_some] <;> rfl), by repeat (first | (with_reducible first | exact HB.out | apply below_alloc | apply pw_below_drewN | apply below_drew1 | refine below_set ?_ GE360.out | refine below_set ?_ GE361.out) | exact HB.out)⟩
 ·rw [if_neg c3] at H
  have c3b0 : (a0_0 == a1_0) = false := beq_eq_false_iff_ne.mpr c3
  have c3b1 : (a0_0 != a1_0) = true := bne_iff_ne.mpr c3
  obtain rfl := Option.some.inj H
  go_enter Try.func16, Try.ntmps16
  go_wp2_with (first | ((with_reducible refine gate_dst (N := 2) rfl ?_); refine box_event ?hg (N := 2) ?hd (cs := #[.int .i64 a0_0, .slice A0_1 l0_1.length c0_1]) (t := 31) ?hr ?_; (case hd => rfl); (case hg => rfl); (case hr => first | (go_simp; done) | (go_simp; rfl)); intro gb360 hg w10 hbox hb; have n0_ := Aside0.mk (below_step (by repeat (first | (with_reducible first | exact HB.out | apply below_alloc | apply pw_below_drewN | apply below_drew1) | exact HB.out)) hb); have n1_ := Aside0.mk (hbox); have n2_ := Aside0.mk ((by rw [hg]; exact (below_size (by repeat (first | (with_reducible first | exact HB.out | apply below_alloc | apply pw_below_drewN | apply below_drew1) | exact HB.out))) : w.heap.size ≤ gb360)); have n3_ := Aside0.mk ((by rw [hg]; exact (below_size (by repeat (first | (with_reducible first | exact HB.out | apply below_alloc | apply pw_below_drewN | apply below_drew1) | exact HB.out))) : w.heap.size ≤ gb360)); clear HB; have HB := n0_; have BK360 := n1_; have GW360 := n2_; have GE360 := n3_; clear n0_ n1_ n2_ n3_; clear hb hbox hg) | ((with_reducible refine gate_dst (N := 3) rfl ?_); refine box_event ?hg (N := 3) ?hd (cs := #[.int .i64 a1_0, .slice A1_1 l1_1.length c1_1]) (t := 31) ?hr ?_; (case hd => rfl); (case hg => rfl); (case hr => first | (go_simp; done) | (go_simp; rfl)); intro gb361 hg w11 hbox hb; have n0_ := Aside0.mk (blk_below (g := gb360) (o := .cells #[.int .i64 a0_0, .slice A0_1 l0_1.length c0_1] 31 (0, 0)) (by (with_reducible repeat (first | refine blk_drewN ?_ _ | refine blk_drew ?_ | refine blk_alloc ?_ _)); exact BK360.out) hb); have n1_ := Aside0.mk (below_step (by repeat (first | (with_reducible first | exact HB.out | apply below_alloc | apply pw_below_drewN | apply below_drew1 | refine below_set ?_ GE360.out) | exact HB.out)) hb); have n2_ := Aside0.mk (hbox); have n3_ := Aside0.mk ((by rw [hg]; exact (below_size (by repeat (first | (with_reducible first | exact HB.out | apply below_alloc | apply pw_below_drewN | apply below_drew1 | refine below_set ?_ GE360.out) | exact HB.out))) : w.heap.size ≤ gb361)); have n4_ := Aside0.mk ((by rw [hg]; exact (below_size (by repeat (first | (with_reducible first | exact HB.out | apply below_alloc | apply pw_below_drewN | apply below_drew1 | refine below_set ?_ GE360.out) | exact HB.out))) : w.heap.size ≤ gb361)); have n5_ := Aside0.mk ((by rw [hg]; exact Nat.ne_of_lt (blk_lt (g := gb360) (o := .cells #[.int .i64 a0_0, .slice A0_1 l0_1.length c0_1] 31 (0, 0)) (by (with_reducible repeat (first | refine blk_drewN ?_ _ | refine blk_drew ?_ | refine blk_alloc ?_ _)); exact BK360.out)) : gb360 ≠ gb361)); have n6_ := Aside0.mk ((by rw [hg]; exact Nat.ne_of_gt (blk_lt (g := gb360) (o := .cells #[.int .i64 a0_0, .slice A0_1 l0_1.length c0_1] 31 (0, 0)) (by (with_reducible repeat (first | refine blk_drewN ?_ _ | refine blk_drew ?_ | refine blk_alloc ?_ _)); exact BK360.out)) : gb361 ≠ gb360)); clear BK360; clear HB; have BK360 := n0_; have HB := n1_; have BK361 := n2_; have GW361 := n3_; have GE361 := n4_; have NB360_361 := n5_; have NB361_360 := n6_; clear n0_ n1_ n2_ n3_ n4_ n5_ n6_; clear hb hbox hg; have hnb12 := NB360_361.out; have hnc12 := NB361_360.out; have hcz13_0 : w11.cell? ⟨gb360, 0, none⟩ = some (.int .i64 a0_0) := (blk_cell BK360.out 0).trans rfl; have hcz13_1 : w11.cell? ⟨gb360, 1, none⟩ = some (.slice A0_1 l0_1.length c0_1) := (blk_cell BK360.out 1).trans rfl; have hfz13_0 := blk_frozen BK360.out 0; have hfz13_1 := blk_frozen BK360.out 1; have hcz14_0 : w11.cell? ⟨gb361, 0, none⟩ = some (.int .i64 a1_0) := (blk_cell BK361.out 0).trans rfl; have hcz14_1 : w11.cell? ⟨gb361, 1, none⟩ = some (.slice A1_1 l1_1.length c1_1) := (blk_cell BK361.out 1).trans rfl; have hfz14_0 := blk_frozen BK361.out 0; have hfz14_1 := blk_frozen BK361.out 1))
  go_ret
  exact ⟨by first | rfl | (simp [errW_none, errW_some] <;> rfl) | (simp [*, errW_none, errW_some] <;> rfl), by repeat (first | (with_reducible first | exact HB.out | apply below_alloc | apply pw_below_drewN | apply below_drew1 | refine below_set ?_ GE360.out | refine below_set ?_ GE361.out) | exact HB.out)⟩
end Go.Proofs.Ytkifipakikbhcaa.Ref
namespace Go.Proofs.Ytkifipakikbhcaa.Hand
open Go.Proofs.Ytkifipakikbhcaa.Ref Go.Proofs.Ytkifipakikbhcaa.Pg
open Go.RowKit Go.Proofs.YtkifipakikbhcaaW.PrintWords Go.Proofs.YtkifipakikbhcaaW.PrintLast Go.Proofs.YtkifipakikbhcaaW.PrintMore
attribute [local go_sem ↓] Go.wp_at_zero Go.wp_at_succ
def srch (f : List Bool → Nat → Option (List Bool)) (inn : List Bool) : Nat → Nat → Option (List Bool)
 | 0, _ => none
 | n + 1, i => match f (inn.set i true) (i + 1) with
  | some r => some r
  | none => srch f inn n (i + 1)
def fromS (V : Nat) (ch : List (List Int)) : Nat → List Bool → Nat → Option (List Bool)
 | 0, inn, _ => if alone inn ch < 0 then some inn else none
 | s + 1, inn, i => srch (fromS V ch s) inn (V + 1 - (i + s + 1)) i
theorem eg57 : ∀ args w, (callFunc 57 args).run Try.prog w = .ok (.enter 57 args) w := enters_of Try.func57 (by kernel_rfl) rfl
structure SJ (w : World) (V : Nat) (A : Option Addr) (c : Nat) (ch : List (List Int)) (b1 b2 b3 gi ci : Nat) (W : World) (inn : List Bool) : Prop where
 c0 : W.cell? ⟨b1, 0, none⟩ = some (.int .i64 V)
 c1 : W.cell? ⟨b1, 1, none⟩ = some (.slice A ch.length c)
 c2 : W.cell? ⟨b2, 0, none⟩ = some (.slice (some ⟨gi, 0, none⟩) V ci)
 c3 : W.cell? ⟨b3, 0, none⟩ = some (.func (.func 57) #[] #[.pointer (some ⟨b1, 0, none⟩), .pointer (some ⟨b2, 0, none⟩), .pointer (some ⟨b3, 0, none⟩)])
 n1 : b1 ≠ gi
 n2 : b2 ≠ gi
 n3 : b3 ≠ gi
 len : inn.length = V
 own : Kd.R Kd.bool 4 W w.heap.size (fun _ => True) (.slice (some ⟨gi, 0, none⟩) V ci) inn
 below : Below w.heap.size w W
theorem SJ.step {w : World} {V : Nat} {A : Option Addr} {c : Nat} {ch : List (List Int)} {b1 b2 b3 gi ci : Nat} {W W' : World} {inn : List Bool} (h : SJ w V A c ch b1 b2 b3 gi ci W inn) (hb : Below W.heap.size W W') : SJ w V A c ch b1 b2 b3 gi ci W' inn :=
 ⟨cell_below h.c0 hb, cell_below h.c1 hb, cell_below h.c2 hb, cell_below h.c3 hb, h.n1, h.n2, h.n3, h.len, Kd.R_below h.own hb, below_step h.below hb⟩
theorem SJ.put {w : World} {V : Nat} {A : Option Addr} {c : Nat} {ch : List (List Int)} {b1 b2 b3 gi ci : Nat} {W : World} {inn : List Bool} (h : SJ w V A c ch b1 b2 b3 gi ci W inn) (i : Nat) (b : Bool) : SJ w V A c ch b1 b2 b3 gi ci (W.setCell ⟨gi, i, none⟩ (.bool b)) (inn.set i b) := by
 have ho : Kd.R Kd.bool 4 W w.heap.size (fun _ => True) (.slice (some ⟨gi, 0, none⟩) inn.length ci) inn := by rw [h.len]; exact h.own
 have hp := Kd.R_put ho (i : Int) b
 rw [Int.toNat_natCast] at hp
 refine ⟨cell_grown hp.2 h.c0 ?_, cell_grown hp.2 h.c1 ?_, cell_grown hp.2 h.c2 ?_, cell_grown hp.2 h.c3 ?_, h.n1, h.n2, h.n3, by rw [List.length_set]; exact h.len, by rw [← h.len]; exact hp.1, below_set h.below (Kd.R_base h.own gi rfl)⟩
 ·exact fun e => h.n1 (Option.some.inj e)
 ·exact fun e => h.n1 (Option.some.inj e)
 ·exact fun e => h.n2 (Option.some.inj e)
 ·exact fun e => h.n3 (Option.some.inj e)
theorem set_false {inn : List Bool} {i V : Nat} (hi : i < V) (hl : inn.length = V) (h : inn.getD i false = false) : inn.set i false = inn := by
 apply List.ext_getElem?
 intro j
 by_cases hj : i = j
 ·subst hj
  rw [List.getElem?_set_self (by omega)]
  rw [List.getD_eq_getElem?_getD, List.getElem?_eq_getElem (by omega)] at h
  rw [List.getElem?_eq_getElem (by omega)]
  simp at h; rw [h]
 ·rw [List.getElem?_set_ne hj]
def SPost (w : World) (V : Nat) (A : Option Addr) (c : Nat) (ch : List (List Int)) (b1 b2 b3 gi ci : Nat) (inn : List Bool) (o : Option (List Bool)) (e : Ending) (W' : World) : Prop :=
 match o with
 | some r => e = .returned (.bool true) ∧ SJ w V A c ch b1 b2 b3 gi ci W' r
 | none => e = .returned (.bool false) ∧ SJ w V A c ch b1 b2 b3 gi ci W' inn
theorem from_calls (w : World) (V : Nat) (A : Option Addr) (c : Nat) (ch : List (List Int)) (b1 b2 b3 gi ci : Nat) (hr : Kd.C (Kd.slice 3 (Kd.int .i64)) w A ch.length ch) (hc : ch.length ≤ c) (hch : ∀ l ∈ ch, ∀ i ∈ l, 0 ≤ i ∧ i < (V : Int)) (hcl : ch.length ≤ 256) (hV : V ≤ 64) :
  ∀ (s : Nat) (inn : List Bool) (i : Nat) (W : World), SJ w V A c ch b1 b2 b3 gi ci W inn → (∀ j, i ≤ j → inn.getD j false = false) → i ≤ V → s ≤ V →
  Calls Try.prog 57 #[.int .i64 i, .int .i64 s, .pointer (some ⟨b1, 0, none⟩), .pointer (some ⟨b2, 0, none⟩), .pointer (some ⟨b3, 0, none⟩)] W (SPost w V A c ch b1 b2 b3 gi ci inn (fromS V ch s inn i)) := by
 have HR := Aside0.mk hr
 have HC := Aside0.mk hc
 have HCH := Aside0.mk hch
 have HCL := Aside0.mk hcl
 have HV := Aside0.mk hV
 have hu31 := Try.underlying31
 clear hr hc hch hcl hV
 intro s
 induction s with
 | zero =>
  intro inn i W hJ hz hi hs
  have HJ := Aside0.mk hJ
  have hc0 := hJ.c0
  have hc1 := hJ.c1
  have hc2 := hJ.c2
  clear hJ hz hi hs
  have ha := alone_calls (V : Int) A c ch (some ⟨gi, 0, none⟩) ci inn W (Kd.C_below HR.out HJ.out.below) HC.out (Kd.R_reads' (show Kd.R Kd.bool 4 W w.heap.size (fun _ => True) (.slice (some ⟨gi, 0, none⟩) inn.length ci) inn by rw [HJ.out.len]; exact HJ.out.own)).2.2 (by have h := (Kd.R_reads' HJ.out.own).2.1; rw [HJ.out.len]; exact h) (by rw [HJ.out.len]; exact HCH.out) (Nat.le_trans HCL.out (by decide))
  rw [HJ.out.len] at ha
  have HA := Aside0.mk ha
  clear ha
  go_enter Try.func57, Try.ntmps57
  obtain ⟨al, hal⟩ : ∃ x, alone inn ch = x := ⟨_, rfl⟩
  rw [hal] at HA
  have HAL := Aside0.mk hal
  clear hal
  go_wp2_with (first | (go_at_call 49; (with_reducible refine HA.out.mono ?_); rintro e w2 ⟨rfl, hB⟩; have HB := Aside0.mk hB; clear hB))
  go_ret
  have hJ2 := HJ.out.step HB.out
  rw [fromS, HAL.out]
  by_cases h : al < 0
  ·rw [if_pos h, SPost]
   exact ⟨by simp [h], hJ2⟩
  ·rw [if_neg h, SPost]
   exact ⟨by simp [h], hJ2⟩
 | succ s ih =>
  intro inn i W hJ hz hi hs
  have HJ := Aside0.mk hJ
  have HZ := Aside0.mk hz
  have HI := Aside0.mk hi
  have HS := Aside0.mk hs
  have IH := Aside0.mk ih
  clear hJ hz hi hs ih
  have d0 : (((s + 1 : Nat) : Int) == 0) = false := by simp; omega
  obtain ⟨sz, hsz⟩ : ∃ x : Int, ((s + 1 : Nat) : Int) = x := ⟨_, rfl⟩
  rw [hsz] at d0 ⊢
  have HSZ := Aside0.mk hsz
  clear hsz
  go_enter Try.func57, Try.ntmps57
  go_wp2
  clear d0
  go_loopg [8] (V + 1 - i) (fun gk v8 w' => ∃ i' : Nat, v8 = .int .i64 i' ∧ Aside0 (i ≤ i' ∧ i' ≤ V + 1 ∧ gk = V + 1 - i' ∧ srch (fromS V ch s) inn (V + 1 - (i' + s + 1)) i' = fromS V ch (s + 1) inn i) ∧ Aside0 (SJ w V A c ch b1 b2 b3 gi ci w' inn))
  case atStart => exact ⟨i, rfl, ⟨Nat.le_refl _, by have := HI.out; omega, rfl, by rw [fromS]⟩, HJ⟩
  case round =>
   obtain ⟨i', rfl, HN, HJr⟩ := hrel
   have hc0 := HJr.out.c0
   have hc1 := HJr.out.c1
   have hc2 := HJr.out.c2
   have hc3 := HJr.out.c3
   have w1 : IntKind.i64.wrap ((i' : Int) + sz) = (i' : Int) + sz := (i64_w _).trans (by unfold wrap64; have := HN.out; have := HSZ.out; have := HS.out; have := HV.out; omega)
   by_cases hlt : (i' : Int) + sz ≤ (V : Int)
   ·have HLT := Aside0.mk hlt
    have hi1 : i' < V := by have := HSZ.out; omega
    obtain ⟨hcm, hfm⟩ := Kd.R_cell false (show Kd.R Kd.bool 4 wr w.heap.size (fun _ => True) (.slice (some ⟨gi, 0, none⟩) inn.length ci) inn by rw [HJr.out.len]; exact HJr.out.own) (i' : Int) (by omega) (by rw [HJr.out.len]; omega)
    rw [Int.toNat_natCast] at hcm hfm
    have HJ1 := Aside0.mk (HJr.out.put i' true)
    have hd0 := HJ1.out.c0
    have hd1 := HJ1.out.c1
    have hd2 := HJ1.out.c2
    have hd3 := HJ1.out.c3
    have w2 : IntKind.i64.wrap ((i' : Int) + 1) = (i' : Int) + 1 := (i64_w _).trans (by unfold wrap64; have := HV.out; omega)
    have w3 : IntKind.i64.wrap (sz - 1) = (s : Int) := (i64_w _).trans (by unfold wrap64; have := HSZ.out; have := HS.out; have := HV.out; omega)
    have HF := Aside0.mk (IH.out (inn.set i' true) (i' + 1) _ HJ1.out (by
     intro j hj
     rw [List.getD_eq_getElem?_getD, List.getElem?_set_ne (by omega), ← List.getD_eq_getElem?_getD]
     exact HZ.out j (by have := HN.out.1; omega)) (by omega) (by have := HS.out; omega))
    have eg := eg57
    have HI1 := Aside0.mk hi1
    have t3 := eq_true hi1
    rw [show ((i' + 1 : Nat) : Int) = (i' : Int) + 1 from by omega] at HF
    have t1 := eq_true hlt
    have t2 : decide ((i' : Int) + sz ≤ (V : Int)) = true := decide_eq_true hlt
    have hn1 : srch (fromS V ch s) inn (V + 1 - (i' + s + 1)) i' = match fromS V ch s (inn.set i' true) (i' + 1) with | some r => some r | none => srch (fromS V ch s) inn (V + 1 - (i' + 1 + s + 1)) (i' + 1) := by
     rw [show V + 1 - (i' + s + 1) = (V + 1 - (i' + 1 + s + 1)) + 1 from by have := HSZ.out; omega, srch]
    have HN1 := Aside0.mk hn1
    clear hn1
    cases hf : fromS V ch s (inn.set i' true) (i' + 1) with
    | some r =>
     rw [hf] at HF
     have HFF := Aside0.mk hf
     clear hf hlt hi1
     go_wp2_with (first | (go_at_fn 57; (with_reducible refine HF.out.mono ?_); rintro e w3 ⟨rfl, hJ⟩; have HJ3 := Aside0.mk hJ; clear hJ))
     go_ret
     have h : fromS V ch (s + 1) inn i = some r := by
      rw [← HN.out.2.2.2, HN1.out, HFF.out]
     rw [h]
     exact ⟨rfl, HJ3.out⟩
    | none =>
     rw [hf] at HF
     have HFF := Aside0.mk hf
     clear hf hlt hi1
     go_upto_region 9 with (first | (go_at_fn 57; (with_reducible refine HF.out.mono ?_); rintro e w3 ⟨rfl, hJ⟩; have HJ3 := Aside0.mk hJ; clear hJ))
     clear hd0 hd1 hd2 hd3 hc0 hc1 hc2 hc3 hcm hfm w2
     have hc2 := HJ3.out.c2
     obtain ⟨hcm, hfm⟩ := Kd.R_cell false (show Kd.R Kd.bool 4 w3 w.heap.size (fun _ => True) (.slice (some ⟨gi, 0, none⟩) (inn.set i' true).length ci) (inn.set i' true) by rw [HJ3.out.len]; exact HJ3.out.own) (i' : Int) (by omega) (by rw [HJ3.out.len]; have := HI1.out; omega)
     rw [Int.toNat_natCast] at hcm hfm
     have HJ4 := Aside0.mk (show SJ w V A c ch b1 b2 b3 gi ci (w3.setCell ⟨gi, i', none⟩ (.bool false)) inn by
      have h := HJ3.out.put i' false
      rw [List.set_set, set_false HI1.out HJr.out.len (HZ.out i' HN.out.1)] at h
      exact h)
     have w5 : IntKind.i64.wrap ((i' : Int) + 1) = (i' : Int) + 1 := (i64_w _).trans (by unfold wrap64; have := HV.out; have := HI1.out; omega)
     go_wp2
     go_roundg (V + 1 - (i' + 1))
     case measure => have := HN.out; have := HI1.out; omega
     case rel =>
      have h := HN.out
      have h2 := HI1.out
      refine ⟨i' + 1, ?_, ⟨by omega, by omega, rfl, ?_⟩, HJ4⟩
      ·exact congrArg _ (by omega)
      ·rw [← h.2.2.2, HN1.out, HFF.out]
   ·have t1 := eq_false hlt
    have t2 : decide ((i' : Int) + sz ≤ (V : Int)) = false := decide_eq_false hlt
    have HLT := Aside0.mk hlt
    clear hlt
    go_wp2
    go_ret
    have h : fromS V ch (s + 1) inn i = none := by
     rw [← HN.out.2.2.2, show V + 1 - (i' + s + 1) = 0 from by have := HSZ.out; have := HLT.out; omega, srch]
    rw [h]
    exact ⟨rfl, HJr.out⟩
end Go.Proofs.Ytkifipakikbhcaa.Hand
namespace Go.Proofs.Ytkifipakikbhcaa.Hand
open Go.Proofs.Ytkifipakikbhcaa.Ref Go.Proofs.Ytkifipakikbhcaa.Pg
open Go.RowKit Go.Proofs.YtkifipakikbhcaaW.PrintWords Go.Proofs.YtkifipakikbhcaaW.PrintLast Go.Proofs.YtkifipakikbhcaaW.PrintMore
attribute [local go_sem ↓] Go.wp_at_zero Go.wp_at_succ
def firstSize (V : Nat) (ch : List (List Int)) : Nat → Nat → Option (List Bool)
 | 0, _ => none
 | n + 1, s => match fromS V ch s (List.replicate V false) 0 with
  | some r => some r
  | none => firstSize V ch n (s + 1)
def peel_Smallest.f (V : Int) (ch : List (List Int)) : Option (List Int × Int) :=
 (peel_Check.f V ch).bind fun e => if e = 0 then (if V > 16 then some ([], 8) else match firstSize V.toNat ch V.toNat 1 with
  | some r => (peel_left.f 100 r).map fun l => (l, 0)
  | none => some ([], 11)) else some ([], e)
theorem setR_mem {n : Int} : ∀ {l : List Int} {p : Option Int}, setR n p l = true → ∀ x ∈ l, 0 ≤ x ∧ x < n
 | [], _, _, x, hx => by simp at hx
 | y :: l, p, h, x, hx => by
  rw [setR_cons] at h
  by_cases h1 : y < 0
  ·rw [if_pos h1] at h; simp at h
  ·rw [if_neg h1] at h
   by_cases h2 : y ≥ n
   ·rw [if_pos h2] at h; simp at h
   ·rw [if_neg h2] at h
    cases hs : setR n (some y) l with
    | true =>
     rcases List.mem_cons.1 hx with rfl | h4
     ·omega
     ·exact setR_mem hs x h4
    | false => rw [hs] at h; simp at h
theorem check_zero {V : Int} {ch : List (List Int)} (h : peel_Check.f V ch = some 0) : 1 ≤ V ∧ V ≤ 64 ∧ ch.length ≤ 256 ∧ ∀ l ∈ ch, setR V none l = true := by
 unfold peel_Check.f at h
 split at h
 ·have h := Option.some.inj h
  split at h
  ·simp at h
  ·split at h
   ·simp at h
   ·split at h
    ·simp at h
    ·split at h
     ·simp at h
     ·rename_i h1 h2 h3 h4
      refine ⟨by omega, by omega, by omega, fun l hl => ?_⟩
      have h5 : ¬ (∃ l ∈ ch, (!setR V none l) = true) := fun he => h4 (List.any_eq_true.2 he)
      cases hb : setR V none l with
      | true => rfl
      | false => exact absurd ⟨l, hl, by simp [hb]⟩ h5
 ·simp at h
theorem smallest_ok (V : Nat) (A0_1 : Option Addr) (c0_1 : Nat) (l0_1 : List (List Int)) (w : World) (hr0_1 : Kd.C (Kd.slice 3 (Kd.int .i64)) w A0_1 l0_1.length l0_1) (hc0_1 : l0_1.length ≤ c0_1) (hck : peel_Check.f V l0_1 = some 0) (hV : V ≤ 16)
  (o : Option (List Bool)) (ho : firstSize V l0_1 V 1 = o) (r1 : List Int) (r2 : Int) (hl : ∀ r, o = some r → r2 = 0 ∧ peel_left.f 100 r = some r1) (hnn : o = none → r2 = 11 ∧ r1 = []) :
  Calls Try.prog 26 #[.agg #[.int .i64 V, .slice A0_1 l0_1.length c0_1]] w fun e w' => ∃ v0_ : Value, e = .returned (.tuple #[v0_, .int .i64 r2]) ∧ Kd.R (Kd.int .i64) 3 w' w.heap.size (fun _ => True) v0_ r1 ∧ Below w.heap.size w w' := by
 have hu31 := Try.underlying31
 have hz := check_zero hck
 have HZ := Aside0.mk hz
 have HR := Aside0.mk hr0_1
 have HC := Aside0.mk hc0_1
 have HCK := Aside0.mk hck
 have HV := Aside0.mk hV
 have HO := Aside0.mk ho
 have HL := Aside0.mk hl
 have HNN := Aside0.mk hnn
 clear hr0_1 hc0_1 hck hV ho hl hz hnn
 go_enter Try.func26, Try.ntmps26
 go_upto_region 4 with (first | ((with_reducible refine gate_dst (N := 1) rfl ?_); refine box_event ?hg (N := 1) ?hd (cs := #[.int .i64 V, .slice A0_1 l0_1.length c0_1]) (t := 31) ?hr ?_; (case hd => rfl); (case hg => rfl); (case hr => first | (go_simp; done) | (go_simp; rfl)); intro gb hgb w1 hbox hb; have HGB := Aside0.mk (show w.heap.size ≤ gb by omega); have HBK := Aside0.mk hbox; have HB := Aside0.mk hb; clear hgb; have hcz0 : w1.cell? ⟨gb, 0, none⟩ = some (.int .i64 V) := (blk_cell hbox 0).trans rfl; have hcz1 : w1.cell? ⟨gb, 1, none⟩ = some (.slice A0_1 l0_1.length c0_1) := (blk_cell hbox 1).trans rfl; clear hbox hb) | (go_at_call 22; (with_reducible refine (peel_Check.calls (V : Int) A0_1 c0_1 l0_1 0 w1 (Kd.C_below HR.out HB.out) HC.out HCK.out).mono ?_); rintro e w2 ⟨rfl, hB⟩; have HB2 := Aside0.mk hB; replace hcz0 := cell_below hcz0 hB; replace hcz1 := cell_below hcz1 hB; have HBK2 := Aside0.mk (blk_grown HBK.out (grown_of_below hB none) (by simp)); clear hB))
 have hp : wrap64 (2 ^ min V 64) ≤ 65536 := by
  have h := HV.out
  rw [Nat.min_eq_left (by omega)]
  have h2 : ∀ v : Fin 17, wrap64 (2 ^ v.val) ≤ 65536 := by decide +kernel
  exact h2 ⟨V, by omega⟩
 have hp1 := eq_false (show ¬ 65536 < wrap64 (2 ^ min V 64) by omega)
 have hp2 : decide (65536 < wrap64 (2 ^ min V 64)) = false := decide_eq_false (by omega)
 have hp3 := eq_false (show ¬ 62 < (V : Int) by have := HV.out; omega)
 have hp4 : decide (62 < (V : Int)) = false := decide_eq_false (by have := HV.out; omega)
 clear hp
 go_upto_region 7 with (first | ((with_reducible refine gate_dst (N := 24) rfl ?_); refine Kd.R_make Kd.bool _ 4 rfl (N := 24) rfl 73 _ _ rfl (V : Int) rfl rfl Try.underlying73 (.bool false) 1 Go.Proofs.Ytkifipakikbhcaa.Pg.info4 rfl (by decide) (by omega) false (ok := fun _ => True) (okp := fun _ => True) rfl (fun _ hk => hk) trivial (by omega) (by have := HV.out; omega) (Below.refl _ _) (Nat.le_refl _) ?_; intro v24 w3 hM hb hg hn; rw [Int.toNat_natCast] at hM; obtain ⟨gi, ci, e24, hgi1, hgi2, -⟩ := Kd.R_form hM (by rw [List.length_replicate]; have := HZ.out.1; omega); rw [List.length_replicate] at e24; subst e24; have HGI := Aside0.mk (And.intro hgi1 hgi2); clear hgi1 hgi2; have HM := Aside0.mk hM; have HB3 := Aside0.mk hb; clear hM hb hg hn))
 clear hp1 hp2 hp3 hp4
 go_upto_region 9 with (fail)
 have hsj : SJ w V A0_1 c0_1 l0_1 gb w3.heap.size (w3.heap.size + 1) gi ci ((w3.alloc (Obj.cells #[Value.slice (some { block := gi, off := 0 }) V ci] 73)).alloc (Obj.cells #[Value.func (Fn.func 57) #[] #[Value.pointer (some { block := gb, off := 0 }), Value.pointer (some { block := w3.heap.size, off := 0 }), Value.pointer (some { block := w3.heap.size + 1, off := 0 })]] 80)) (List.replicate V false) := by
  have hb3 := HB3.out
  have hbb := below_alloc (below_alloc (Below.refl w3.heap.size w3) (Obj.cells #[Value.slice (some { block := gi, off := 0 }) V ci] 73)) (Obj.cells #[Value.func (Fn.func 57) #[] #[Value.pointer (some { block := gb, off := 0 }), Value.pointer (some { block := w3.heap.size, off := 0 }), Value.pointer (some { block := w3.heap.size + 1, off := 0 })]] 80)
  have hsz : (w3.alloc (Obj.cells #[Value.slice (some { block := gi, off := 0 }) V ci] 73)).heap.size = w3.heap.size + 1 := by first | rfl | exact Array.size_push _ | simp
  have hlt : gb < w2.heap.size := World.block_lt_of_cell? _ _ hcz0
  have hgi := HGI.out
  refine ⟨cell_below (cell_below hcz0 hb3) hbb, cell_below (cell_below hcz1 hb3) hbb, ?_, ?_, by omega, by omega, by omega, by simp, ?_, below_step (below_step (below_step HB.out HB2.out) hb3) hbb⟩
  ·exact cell_below ((blk_cell (heap_alloc_new w3 _) 0).trans rfl) (below_alloc (Below.refl _ _) _)
  ·have h := heap_alloc_new (w3.alloc (Obj.cells #[Value.slice (some { block := gi, off := 0 }) V ci] 73)) (Obj.cells #[Value.func (Fn.func 57) #[] #[Value.pointer (some { block := gb, off := 0 }), Value.pointer (some { block := w3.heap.size, off := 0 }), Value.pointer (some { block := w3.heap.size + 1, off := 0 })]] 80)
   rw [hsz] at h
   exact (blk_cell h 0).trans rfl
  ·exact Kd.R_alloc (Kd.R_alloc (Kd.R_lower HM.out (below_size (below_step HB.out HB2.out))) _) _
 have HSJ := Aside0.mk hsj
 generalize hw4 : ((w3.alloc (Obj.cells #[Value.slice (some { block := gi, off := 0 }) V ci] 73)).alloc (Obj.cells #[Value.func (Fn.func 57) #[] #[Value.pointer (some { block := gb, off := 0 }), Value.pointer (some { block := w3.heap.size, off := 0 }), Value.pointer (some { block := w3.heap.size + 1, off := 0 })]] 80)) = w4 at HSJ ⊢
 generalize w3.heap.size + 1 = b3 at HSJ ⊢
 generalize w3.heap.size = b2 at HSJ ⊢
 clear hw4 hsj hcz0 hcz1 HM HB3 HBK2 HB2 HBK HGI
 go_wp2
 have eg := eg57
 have HCH := Aside0.mk (show ∀ l ∈ l0_1, ∀ x ∈ l, 0 ≤ x ∧ x < (V : Int) from fun l hl x hx => setR_mem (HZ.out.2.2.2 l hl) x hx)
 go_loopg [7] V (fun gk v7 w' => ∃ s : Nat, v7 = .int .i64 s ∧ Aside0 (1 ≤ s ∧ s ≤ V + 1 ∧ gk = V + 1 - s ∧ firstSize V l0_1 (V + 1 - s) s = o) ∧ Aside0 (SJ w V A0_1 c0_1 l0_1 gb b2 b3 gi ci w' (List.replicate V false)))
 case atStart => exact ⟨1, rfl, ⟨Nat.le_refl _, by omega, by omega, HO.out⟩, HSJ⟩
 case round =>
  obtain ⟨s, rfl, HN, HJr⟩ := hrel
  have hc0 := HJr.out.c0
  have hc3 := HJr.out.c3
  by_cases hlt : s ≤ V
  ·have t1 : ((s : Int) ≤ (V : Int)) = True := eq_true (by omega)
   have t2 : decide ((s : Int) ≤ (V : Int)) = true := decide_eq_true (by omega)
   have t3 := eq_true hlt
   have HLT := Aside0.mk hlt
   have HF := Aside0.mk (from_calls w V A0_1 c0_1 l0_1 gb b2 b3 gi ci HR.out HC.out HCH.out HZ.out.2.2.1 (by have := HV.out; omega) s (List.replicate V false) 0 wr HJr.out (by intro j _; simp [List.getD_eq_getElem?_getD, List.getElem?_replicate]; split <;> rfl) (by omega) hlt)
   rw [show ((0 : Nat) : Int) = (0 : Int) from rfl] at HF
   have hn1 : firstSize V l0_1 (V + 1 - s) s = match fromS V l0_1 s (List.replicate V false) 0 with | some r => some r | none => firstSize V l0_1 (V + 1 - (s + 1)) (s + 1) := by
    rw [show V + 1 - s = (V + 1 - (s + 1)) + 1 from by omega, firstSize]
   have HN1 := Aside0.mk hn1
   clear hn1 hlt
   cases hf : fromS V l0_1 s (List.replicate V false) 0 with
   | some r =>
    rw [hf] at HF
    have ho : o = some r := by rw [← HN.out.2.2.2, HN1.out, hf]
    have HLL := Aside0.mk (HL.out r ho)
    clear hf ho
    go_upto_region 13 with (first | (go_at_fn 57; (with_reducible refine HF.out.mono ?_); rintro e w5 ⟨rfl, hJ⟩; have HJ3 := Aside0.mk hJ; clear hJ))
    have hd2 := HJ3.out.c2
    have hlf := peel_left.calls 100 (some ⟨gi, 0, none⟩) ci r r1 w5 (Kd.R_reads' (show Kd.R Kd.bool 4 w5 w.heap.size (fun _ => True) (.slice (some ⟨gi, 0, none⟩) r.length ci) r by rw [HJ3.out.len]; exact HJ3.out.own)).2.2 (by have h := (Kd.R_reads' HJ3.out.own).2.1; rw [HJ3.out.len]; exact h) HLL.out.2
    rw [HJ3.out.len] at hlf
    have HLF := Aside0.mk hlf
    clear hlf hc0 hc3
    go_wp2_with (first | (go_at_call 55; (with_reducible refine HLF.out.mono ?_); rintro e w6 ⟨v6, rfl, hR6, hB6⟩; have HR6 := Aside0.mk hR6; have HB6 := Aside0.mk hB6; clear hR6 hB6))
    go_ret2
    rw [HLL.out.1]
    exact ⟨_, rfl, Kd.R_lower HR6.out (below_size HJ3.out.below), below_step HJ3.out.below HB6.out⟩
   | none =>
    rw [hf] at HF
    have HFF := Aside0.mk hf
    clear hf
    go_wp2_with (first | (go_at_fn 57; (with_reducible refine HF.out.mono ?_); rintro e w5 ⟨rfl, hJ⟩; have HJ3 := Aside0.mk hJ; clear hJ))
    go_roundg (V + 1 - (s + 1))
    case measure => have := HN.out; have := HLT.out; omega
    case rel =>
     have h := HN.out
     have h2 := HLT.out
     refine ⟨s + 1, ?_, ⟨by omega, by omega, rfl, ?_⟩, HJ3⟩
     ·first | exact congrArg _ (by omega) | (rw [wrap64_succ' (n := 65) (by omega) (by have := HV.out; omega) (by omega)]; rfl)
     ·rw [← h.2.2.2, HN1.out, HFF.out]
  ·have t1 : ((s : Int) ≤ (V : Int)) = False := eq_false (by omega)
   have t2 : decide ((s : Int) ≤ (V : Int)) = false := decide_eq_false (by omega)
   have t3 := eq_false hlt
   have HLT := Aside0.mk hlt
   clear hlt
   go_wp2
   go_ret2
   have ho : o = none := by
    rw [← HN.out.2.2.2, show V + 1 - s = 0 from by have := HLT.out; omega, firstSize]
   obtain ⟨h1, h2⟩ := HNN.out ho
   subst h1 h2
   exact ⟨_, rfl, Kd.R_nil _ _ _ _ _, HJr.out.below⟩
theorem smallest_err (a0_0 : Int) (A0_1 : Option Addr) (c0_1 : Nat) (l0_1 : List (List Int)) (w : World) (hr0_1 : Kd.C (Kd.slice 3 (Kd.int .i64)) w A0_1 l0_1.length l0_1) (hc0_1 : l0_1.length ≤ c0_1) (er : Int) (hck : peel_Check.f a0_0 l0_1 = some er) (he : er ≠ 0) :
  Calls Try.prog 26 #[.agg #[.int .i64 a0_0, .slice A0_1 l0_1.length c0_1]] w fun e w' => ∃ v0_ : Value, e = .returned (.tuple #[v0_, .int .i64 er]) ∧ Kd.R (Kd.int .i64) 3 w' w.heap.size (fun _ => True) v0_ [] ∧ Below w.heap.size w w' := by
 have hu31 := Try.underlying31
 have HR := Aside0.mk hr0_1
 have HC := Aside0.mk hc0_1
 have HCK := Aside0.mk hck
 have t1 : (er != 0) = true := by simpa using he
 clear hr0_1 hc0_1 hck he
 go_enter Try.func26, Try.ntmps26
 go_wp2_with (first | ((with_reducible refine gate_dst (N := 1) rfl ?_); refine box_event ?hg (N := 1) ?hd (cs := #[.int .i64 a0_0, .slice A0_1 l0_1.length c0_1]) (t := 31) ?hr ?_; (case hd => rfl); (case hg => rfl); (case hr => first | (go_simp; done) | (go_simp; rfl)); intro gb hgb w1 hbox hb; have HGB := Aside0.mk (show w.heap.size ≤ gb by omega); have HBK := Aside0.mk hbox; have HB := Aside0.mk hb; clear hgb; have hcz0 : w1.cell? ⟨gb, 0, none⟩ = some (.int .i64 a0_0) := (blk_cell hbox 0).trans rfl; have hcz1 : w1.cell? ⟨gb, 1, none⟩ = some (.slice A0_1 l0_1.length c0_1) := (blk_cell hbox 1).trans rfl; clear hbox hb) | (go_at_call 22; (with_reducible refine (peel_Check.calls a0_0 A0_1 c0_1 l0_1 er w1 (Kd.C_below HR.out HB.out) HC.out HCK.out).mono ?_); rintro e w2 ⟨rfl, hB⟩; have HB2 := Aside0.mk hB; replace hcz0 := cell_below hcz0 hB; replace hcz1 := cell_below hcz1 hB; have HBK2 := Aside0.mk (blk_grown HBK.out (grown_of_below hB none) (by simp)); clear hB))
 go_ret2
 exact ⟨_, rfl, Kd.R_nil _ _ _ _ _, below_step HB.out HB2.out⟩
theorem smallest_big (V : Nat) (A0_1 : Option Addr) (c0_1 : Nat) (l0_1 : List (List Int)) (w : World) (hr0_1 : Kd.C (Kd.slice 3 (Kd.int .i64)) w A0_1 l0_1.length l0_1) (hc0_1 : l0_1.length ≤ c0_1) (hck : peel_Check.f V l0_1 = some 0) (hV : 16 < V) (hV2 : V ≤ 64) :
  Calls Try.prog 26 #[.agg #[.int .i64 V, .slice A0_1 l0_1.length c0_1]] w fun e w' => ∃ v0_ : Value, e = .returned (.tuple #[v0_, .int .i64 8]) ∧ Kd.R (Kd.int .i64) 3 w' w.heap.size (fun _ => True) v0_ [] ∧ Below w.heap.size w w' := by
 have hu31 := Try.underlying31
 have HR := Aside0.mk hr0_1
 have HC := Aside0.mk hc0_1
 have HCK := Aside0.mk hck
 have hall : ∀ v : Fin 65, 16 < v.val → v.val ≤ 62 → 65536 < wrap64 (2 ^ v.val) := by decide +kernel
 have hall2 : ∀ v : Fin 65, 62 < v.val → wrap64 (2 ^ v.val) ≤ 65536 := by decide +kernel
 have hm : min V 64 = V := Nat.min_eq_left hV2
 by_cases h : V ≤ 62
 ·have h1 := hall ⟨V, by omega⟩ hV h
  have hp1 := eq_true (show 65536 < wrap64 (2 ^ min V 64) by rw [hm]; exact h1)
  have hp2 : decide (65536 < wrap64 (2 ^ min V 64)) = true := decide_eq_true (by rw [hm]; exact h1)
  clear hr0_1 hc0_1 hck hV hV2 hall hall2 h h1 hm
  go_enter Try.func26, Try.ntmps26
  go_wp2_with (first | ((with_reducible refine gate_dst (N := 1) rfl ?_); refine box_event ?hg (N := 1) ?hd (cs := #[.int .i64 V, .slice A0_1 l0_1.length c0_1]) (t := 31) ?hr ?_; (case hd => rfl); (case hg => rfl); (case hr => first | (go_simp; done) | (go_simp; rfl)); intro gb hgb w1 hbox hb; have HGB := Aside0.mk (show w.heap.size ≤ gb by omega); have HBK := Aside0.mk hbox; have HB := Aside0.mk hb; clear hgb; have hcz0 : w1.cell? ⟨gb, 0, none⟩ = some (.int .i64 V) := (blk_cell hbox 0).trans rfl; have hcz1 : w1.cell? ⟨gb, 1, none⟩ = some (.slice A0_1 l0_1.length c0_1) := (blk_cell hbox 1).trans rfl; clear hbox hb) | (go_at_call 22; (with_reducible refine (peel_Check.calls (V : Int) A0_1 c0_1 l0_1 0 w1 (Kd.C_below HR.out HB.out) HC.out HCK.out).mono ?_); rintro e w2 ⟨rfl, hB⟩; have HB2 := Aside0.mk hB; replace hcz0 := cell_below hcz0 hB; replace hcz1 := cell_below hcz1 hB; have HBK2 := Aside0.mk (blk_grown HBK.out (grown_of_below hB none) (by simp)); clear hB))
  go_ret2
  exact ⟨_, rfl, Kd.R_nil _ _ _ _ _, below_step HB.out HB2.out⟩
 ·have h1 := hall2 ⟨V, by omega⟩ (by show 62 < V; omega)
  have hp1 := eq_false (show ¬ 65536 < wrap64 (2 ^ min V 64) by rw [hm]; show ¬ 65536 < wrap64 (2 ^ V); have h2 : wrap64 (2 ^ V) ≤ 65536 := h1; omega)
  have hp2 : decide (65536 < wrap64 (2 ^ min V 64)) = false := decide_eq_false (of_eq_false hp1)
  have hp3 := eq_true (show 62 < (V : Int) by omega)
  have hp4 : decide (62 < (V : Int)) = true := decide_eq_true (by omega)
  clear hr0_1 hc0_1 hck hV hV2 hall hall2 h h1 hm
  go_enter Try.func26, Try.ntmps26
  go_wp2_with (first | ((with_reducible refine gate_dst (N := 1) rfl ?_); refine box_event ?hg (N := 1) ?hd (cs := #[.int .i64 V, .slice A0_1 l0_1.length c0_1]) (t := 31) ?hr ?_; (case hd => rfl); (case hg => rfl); (case hr => first | (go_simp; done) | (go_simp; rfl)); intro gb hgb w1 hbox hb; have HGB := Aside0.mk (show w.heap.size ≤ gb by omega); have HBK := Aside0.mk hbox; have HB := Aside0.mk hb; clear hgb; have hcz0 : w1.cell? ⟨gb, 0, none⟩ = some (.int .i64 V) := (blk_cell hbox 0).trans rfl; have hcz1 : w1.cell? ⟨gb, 1, none⟩ = some (.slice A0_1 l0_1.length c0_1) := (blk_cell hbox 1).trans rfl; clear hbox hb) | (go_at_call 22; (with_reducible refine (peel_Check.calls (V : Int) A0_1 c0_1 l0_1 0 w1 (Kd.C_below HR.out HB.out) HC.out HCK.out).mono ?_); rintro e w2 ⟨rfl, hB⟩; have HB2 := Aside0.mk hB; replace hcz0 := cell_below hcz0 hB; replace hcz1 := cell_below hcz1 hB; have HBK2 := Aside0.mk (blk_grown HBK.out (grown_of_below hB none) (by simp)); clear hB))
  go_ret2
  exact ⟨_, rfl, Kd.R_nil _ _ _ _ _, below_step HB.out HB2.out⟩
theorem peel_Smallest.calls (a0_0 : Int) (A0_1 : Option Addr) (c0_1 : Nat) (l0_1 : List (List Int)) (r1 : List Int) (r2 : Int) (w : World) (hr0_1 : Kd.C (Kd.slice 3 (Kd.int .i64)) w A0_1 l0_1.length l0_1) (hc0_1 : l0_1.length ≤ c0_1) (h : peel_Smallest.f a0_0 l0_1 = some (r1, r2)) :
  Calls Try.prog 26 #[.agg #[.int .i64 a0_0, .slice A0_1 l0_1.length c0_1]] w fun e w' => ∃ v0_ : Value, e = .returned (.tuple #[v0_, .int .i64 r2]) ∧ Kd.R (Kd.int .i64) 3 w' w.heap.size (fun _ => True) v0_ r1 ∧ Below w.heap.size w w' := by
 unfold peel_Smallest.f at h
 obtain ⟨e, he, h⟩ := Option.bind_eq_some_iff.1 h
 by_cases h0 : e = 0
 ·rw [if_pos h0] at h
  subst h0
  have hz := check_zero he
  obtain ⟨V, rfl⟩ := Int.eq_ofNat_of_zero_le (show 0 ≤ a0_0 by omega)
  by_cases h1 : (V : Int) > 16
  ·rw [if_pos h1] at h
   have h := Option.some.inj h
   injection h with ha hb
   subst ha hb
   exact smallest_big V A0_1 c0_1 l0_1 w hr0_1 hc0_1 he (by omega) (by omega)
  ·rw [if_neg h1, Int.toNat_natCast] at h
   cases hf : firstSize V l0_1 V 1 with
   | some r =>
    rw [hf] at h
    obtain ⟨l, hl, hp⟩ := Option.map_eq_some_iff.1 h
    injection hp with ha hb
    subst ha hb
    exact smallest_ok V A0_1 c0_1 l0_1 w hr0_1 hc0_1 he (by omega) _ hf l 0 (fun r' hr' => by injection hr' with hr'; subst hr'; exact ⟨rfl, hl⟩) (fun hn => by simp at hn)
   | none =>
    rw [hf] at h
    have h := Option.some.inj h
    injection h with ha hb
    subst ha hb
    exact smallest_ok V A0_1 c0_1 l0_1 w hr0_1 hc0_1 he (by omega) _ hf [] 11 (fun r' hr' => by simp at hr') (fun _ => ⟨rfl, rfl⟩)
 ·rw [if_neg h0] at h
  have h := Option.some.inj h
  injection h with ha hb
  subst ha hb
  exact smallest_err a0_0 A0_1 c0_1 l0_1 w hr0_1 hc0_1 e he h0
end Go.Proofs.Ytkifipakikbhcaa.Hand
namespace Go.Proofs.Ytkifipakikbhcaa.La
open Go.Proofs.Ytkifipakikbhcaa.Ref Go.Proofs.Ytkifipakikbhcaa.Pg Go.Proofs.Ytkifipakikbhcaa.Pk Go.Proofs.Ytkifipakikbhcaa.Pm Go.Proofs.Ytkifipakikbhcaa.Hand
open Go.RowKit Go.Proofs.YtkifipakikbhcaaW.PrintWords Go.Proofs.YtkifipakikbhcaaW.PrintLast Go.Proofs.YtkifipakikbhcaaW.PrintMore
attribute [local go_sem] max2_int min2_int max_two min_two max_three min_three max_four min_four
def Fs (W : World) (bs : List (Nat × Array Value × Nat)) (is : List (Option Addr × List Int)) (rs : List (Option Addr × List (List Int))) : Prop :=
 (∀ p ∈ bs, W.heap[p.1]? = some (.cells p.2.1 p.2.2 (0, 0))) ∧ (∀ p ∈ is, Kd.C (Kd.int .i64) W p.1 p.2.length p.2) ∧ ∀ p ∈ rs, Kd.C (Kd.slice 3 (Kd.int .i64)) W p.1 p.2.length p.2
theorem Fs.below {W W' : World} {bs : List (Nat × Array Value × Nat)} {is : List (Option Addr × List Int)} {rs : List (Option Addr × List (List Int))} (h : Fs W bs is rs) (hb : Below W.heap.size W W') : Fs W' bs is rs :=
 ⟨fun p hp => blk_grown (h.1 p hp) (grown_of_below hb none) (by simp), fun p hp => Kd.C_below (h.2.1 p hp) hb, fun p hp => Kd.C_below (h.2.2 p hp) hb⟩
theorem Fs.start (W : World) : Fs W [] [] [] := ⟨fun _ h => by simp at h, fun _ h => by simp at h, fun _ h => by simp at h⟩
theorem Fs.addB {W : World} {bs : List (Nat × Array Value × Nat)} {is : List (Option Addr × List Int)} {rs : List (Option Addr × List (List Int))} (h : Fs W bs is rs) {g : Nat} {cs : Array Value} {t : Nat} (hx : W.heap[g]? = some (.cells cs t (0, 0))) : Fs W ((g, cs, t) :: bs) is rs :=
 ⟨fun p hp => (List.mem_cons.1 hp).elim (fun e => by subst e; exact hx) (fun hp => h.1 p hp), h.2⟩
theorem Fs.addI {W : World} {bs : List (Nat × Array Value × Nat)} {is : List (Option Addr × List Int)} {rs : List (Option Addr × List (List Int))} (h : Fs W bs is rs) {A : Option Addr} {l : List Int} (hx : Kd.C (Kd.int .i64) W A l.length l) : Fs W bs ((A, l) :: is) rs :=
 ⟨h.1, fun p hp => (List.mem_cons.1 hp).elim (fun e => by subst e; exact hx) (fun hp => h.2.1 p hp), h.2.2⟩
theorem Fs.addR {W : World} {bs : List (Nat × Array Value × Nat)} {is : List (Option Addr × List Int)} {rs : List (Option Addr × List (List Int))} (h : Fs W bs is rs) {A : Option Addr} {l : List (List Int)} (hx : Kd.C (Kd.slice 3 (Kd.int .i64)) W A l.length l) : Fs W bs is ((A, l) :: rs) :=
 ⟨h.1, h.2.1, fun p hp => (List.mem_cons.1 hp).elim (fun e => by subst e; exact hx) (fun hp => h.2.2 p hp)⟩
theorem Fs.b {W : World} {bs : List (Nat × Array Value × Nat)} {is : List (Option Addr × List Int)} {rs : List (Option Addr × List (List Int))} (h : Fs W bs is rs) {g : Nat} {cs : Array Value} {t : Nat} (i : Nat) (e : bs[i]? = some (g, cs, t)) : W.heap[g]? = some (.cells cs t (0, 0)) := h.1 _ (List.mem_of_getElem? e)
theorem Fs.i {W : World} {bs : List (Nat × Array Value × Nat)} {is : List (Option Addr × List Int)} {rs : List (Option Addr × List (List Int))} (h : Fs W bs is rs) {A : Option Addr} {l : List Int} (i : Nat) (e : is[i]? = some (A, l)) : Kd.C (Kd.int .i64) W A l.length l := h.2.1 _ (List.mem_of_getElem? e)
theorem Fs.r {W : World} {bs : List (Nat × Array Value × Nat)} {is : List (Option Addr × List Int)} {rs : List (Option Addr × List (List Int))} (h : Fs W bs is rs) {A : Option Addr} {l : List (List Int)} (i : Nat) (e : rs[i]? = some (A, l)) : Kd.C (Kd.slice 3 (Kd.int .i64)) W A l.length l := h.2.2 _ (List.mem_of_getElem? e)
theorem awake_walk (k kj8 : Nat) (y102 : List Int) (hy102 : y102 = (([1, 1, 0, 1, 0, 0, 0] : List Int))) (y105 : List Int) (hy105 : y105 = (([0, 1, 1, 0, 1, 0, 0] : List Int))) (y108 : List Int) (hy108 : y108 = (([0, 0, 1, 1, 0, 1, 0] : List Int))) (y111 : List Int) (hy111 : y111 = (([0, 0, 0, 1, 1, 0, 1] : List Int))) (y114 : List (List Int)) (hy114 : y114 = (([y102, y105, y108, y111] : List (List Int)))) (y118 : List Int) (hy118 : y118 = (([1, 1, 0, 0, 1, 0, 1] : List Int))) (t121 : Int) (t122 : List (List Int)) (t125 : Int) (A10 : peel_Graph.f k 2 1 ([] : List Int) 7 y114 = some (t121, t122, t125)) (t127 : Int) (t128 : Int) (A20 : peel_Girth.f k t121 t122 = some (t127, t128)) (t129 : List Int) (t132 : Int) (A30 : peel_Smallest.f t121 t122 = some (t129, t132)) (y133 : List Int) (hy133 : y133 = (([5, 6] : List Int))) (t137 : Int) (A40 : peel_Stopping.f k t121 t122 y133 = some (false, t137)) (y138 : List Int) (hy138 : y138 = (([0, 1, 0, 1, 1, 0, 1] : List Int))) (y141 : List Int) (hy141 : y141 = (([0, 3] : List Int))) (t144 : List Int) (t147 : List Int) (t150 : Int) (A50 : peel_Ok.f 2 1 ([] : List Int) 7 y114 y138 y141 = some (t144, t147, t150)) (y151 : List Int) (hy151 : y151 = (([0, 1, 4, 6] : List Int))) (t154 : List Int) (t157 : List Int) (t160 : Int) (A60 : peel_Ok.f 2 1 ([] : List Int) 7 y114 y118 y151 = some (t154, t157, t160)) (y161 : List Int) (hy161 : y161 = (([1, 0, 0, 0, 0, 0, 0] : List Int))) (t164 : List Int) (t167 : List Int) (t170 : Int) (A70 : peel_Ok.f 2 1 ([] : List Int) 7 y114 y161 ([] : List Int) = some (t164, t167, t170)) (y171 : List Int) (hy171 : y171 = (([0, 1, 2, 4] : List Int))) (t174 : List Int) (t177 : Int) (A80 : peel_Greatest.f k t121 t122 y171 = some (t174, t177)) (c75 : t125 = 0) (c76 : t128 = 0) (c77 : t132 = 0) (c78 : t137 = 0) (c79 : t150 = 0) (c80 : t160 = 0) (c81 : t170 = 12) (y178 : List Int) (hy178 : y178 = (([0, 1, 3] : List Int))) (y181 : List Int) (hy181 : y181 = (([1, 2, 4] : List Int))) (y184 : List Int) (hy184 : y184 = (([2, 3, 5] : List Int))) (y187 : List Int) (hy187 : y187 = (([3, 4, 6] : List Int))) (y190 : List (List Int)) (hy190 : y190 = (([y178, y181, y184, y187] : List (List Int)))) (A830 : codewrightref44_Same.f kj8 t121 t122 7 y190 = some true) (c85 : t127 = 6) (y194 : List Int) (hy194 : y194 = (([0, 1, 2, 5] : List Int))) (A860 : codewrightref09_SameInts.f kj8 t129 y194 = some true) (c112 : (t174.length : Int) = 0) (t198 : Int) (A1130 : peel_Check.f t121 t122 = some (t198)) (c114 : t198 = 0) (A1150 : codewrightref09_SameInts.f kj8 t144 y118 = some true) (c117 : (t147.length : Int) = 0) (y200 : List Int) (hy200 : y200 = (List.replicate 7 0)) (A1190 : codewrightref09_SameInts.f kj8 t154 y200 = some true) (y204 : List Int) (hy204 : y204 = (([0, 1, 4, 6] : List Int))) (A1210 : codewrightref09_SameInts.f kj8 t157 y204 = some true) (c82 : t177 = 0) (w : World) :
  Calls Try.prog 12 #[] w fun e w' => e = .returned (.bool true) ∧ Below w.heap.size w w' := by
 have hu24 := Try.underlying24
 have hu27 := Try.underlying27
 have hu31 := Try.underlying31
 have HB := Aside0.mk (Below.refl w.heap.size w)
 have Ny102 := Aside0.mk hy102
 clear hy102
 have Ny105 := Aside0.mk hy105
 clear hy105
 have Ny108 := Aside0.mk hy108
 clear hy108
 have Ny111 := Aside0.mk hy111
 clear hy111
 have Ny114 := Aside0.mk hy114
 clear hy114
 have Ny118 := Aside0.mk hy118
 clear hy118
 have A1 := Aside0.mk A10
 clear A10
 have A2 := Aside0.mk A20
 clear A20
 have A3 := Aside0.mk A30
 clear A30
 have Ny133 := Aside0.mk hy133
 clear hy133
 have A4 := Aside0.mk A40
 clear A40
 have Ny138 := Aside0.mk hy138
 clear hy138
 have Ny141 := Aside0.mk hy141
 clear hy141
 have A5 := Aside0.mk A50
 clear A50
 have Ny151 := Aside0.mk hy151
 clear hy151
 have A6 := Aside0.mk A60
 clear A60
 have Ny161 := Aside0.mk hy161
 clear hy161
 have A7 := Aside0.mk A70
 clear A70
 have Ny171 := Aside0.mk hy171
 clear hy171
 have A8 := Aside0.mk A80
 clear A80
 have Ny178 := Aside0.mk hy178
 clear hy178
 have Ny181 := Aside0.mk hy181
 clear hy181
 have Ny184 := Aside0.mk hy184
 clear hy184
 have Ny187 := Aside0.mk hy187
 clear hy187
 have Ny190 := Aside0.mk hy190
 clear hy190
 have A83 := Aside0.mk A830
 clear A830
 have Ny194 := Aside0.mk hy194
 clear hy194
 have A86 := Aside0.mk A860
 clear A860
 have A113 := Aside0.mk A1130
 clear A1130
 have A115 := Aside0.mk A1150
 clear A1150
 have c118b0 := eq_true (show 7 ≤ 35184372088832 by decide)
 have c118b1 : decide (7 ≤ 35184372088832) = true := by decide
 have Ny200 := Aside0.mk hy200
 clear hy200
 have A119 := Aside0.mk A1190
 clear A1190
 have Ny204 := Aside0.mk hy204
 clear hy204
 have A121 := Aside0.mk A1210
 clear A1210
 go_enter Try.func12, Try.ntmps12
 have HF := Aside0.mk (Fs.start w)
 go_upto_region 2 with (first | ((with_reducible refine gate_dst (N := 1) rfl ?_); (try (refine gate_guard (by rfl) ?_; dsimp only)); refine box_event ?hg (N := 1) ?hd (cs := #[.int .i64 0, .int .i64 0, .slice none 0 0]) (t := 24) ?hr ?_; (case hd => rfl); (case hg => rfl); (case hr => first | (go_simp; done) | (go_simp; rfl)); intro gb101 hg w11 hbox hb; have GWf := Aside0.mk (Nat.le_of_eq hg.symm); have HW := Aside0.mk hb; have BK := Aside0.mk hbox; clear hb hbox hg; have hzf0 : w11.cell? ⟨gb101, 0, none⟩ = some (.int .i64 0) := (blk_cell BK.out 0).trans rfl; have hff0 := blk_frozen BK.out 0; have hzf1 : w11.cell? ⟨gb101, 1, none⟩ = some (.int .i64 0) := (blk_cell BK.out 1).trans rfl; have hff1 := blk_frozen BK.out 1; have hzf2 : w11.cell? ⟨gb101, 2, none⟩ = some (.slice none 0 0) := (blk_cell BK.out 2).trans rfl; have hff2 := blk_frozen BK.out 2))
 have hk : ((((w11).setCell ⟨gb101, 0, none⟩ (.int .i64 2)).setCell ⟨gb101, 1, none⟩ (.int .i64 1)).setCell ⟨gb101, 2, none⟩ (.slice none 0 0)).heap[gb101]? = some (.cells #[.int .i64 2, .int .i64 1, .slice none 0 0] 24 (0, 0)) := blk_put (cs' := #[.int .i64 2, .int .i64 1, .slice none 0 0]) (blk_put (cs' := #[.int .i64 2, .int .i64 1, .slice none 0 0]) (blk_put (cs' := #[.int .i64 2, .int .i64 0, .slice none 0 0]) (BK.out) 0 _ rfl) 1 _ rfl) 2 _ rfl
 have hq : Below _ _ ((((w11).setCell ⟨gb101, 0, none⟩ (.int .i64 2)).setCell ⟨gb101, 1, none⟩ (.int .i64 1)).setCell ⟨gb101, 2, none⟩ (.slice none 0 0)) := below_set (below_set (below_set (HW.out) GWf.out) GWf.out) GWf.out
 clear hzf0 hff0 hzf1 hff1 hzf2 hff2
 replace HF := Aside0.mk ((HF.out.below hq).addB hk)
 replace HB := Aside0.mk (below_step HB.out hq)
 clear hk hq BK HW GWf
 generalize (((w11).setCell ⟨gb101, 0, none⟩ (.int .i64 2)).setCell ⟨gb101, 1, none⟩ (.int .i64 1)).setCell ⟨gb101, 2, none⟩ (.slice none 0 0) = w12 at HF HB ⊢
 go_upto_region 3 with (first | ((with_reducible refine gate_dst (N := 25) rfl ?_); (try (refine gate_guard (by rfl) ?_; dsimp only)); refine Kd.R_lit (Kd.int .i64) _ 3 ?hg (N := 25) ?hd (xs := ([1, 1, 0, 1, 0, 0, 0] : List Int)) (inner := [.int .i64 1, .int .i64 1, .int .i64 0, .int .i64 1, .int .i64 0, .int .i64 0, .int .i64 0]) (ok := fun _ => True) (okp := fun _ => True) ?hr ?hp (fun _ hk => hk) trivial (Below.refl _ _) (Nat.le_refl _) (by simp) ?_; (case hd => rfl); (case hg => rfl); (case hr => first | (go_simp; done) | (go_simp; rfl)); (case hp => exact (Reps.one (show Kd.M (Kd.int .i64) _ _ _ 1 [.int .i64 1] from rfl) (Reps.one (show Kd.M (Kd.int .i64) _ _ _ 1 [.int .i64 1] from rfl) (Reps.one (show Kd.M (Kd.int .i64) _ _ _ 0 [.int .i64 0] from rfl) (Reps.one (show Kd.M (Kd.int .i64) _ _ _ 1 [.int .i64 1] from rfl) (Reps.one (show Kd.M (Kd.int .i64) _ _ _ 0 [.int .i64 0] from rfl) (Reps.one (show Kd.M (Kd.int .i64) _ _ _ 0 [.int .i64 0] from rfl) (Reps.one (show Kd.M (Kd.int .i64) _ _ _ 0 [.int .i64 0] from rfl) (Reps.none _ _))))))))); intro v_ w13 ho hb hg_ hnew_; clear hg_ hnew_; (first | rw [← Ny102.out] at ho | (simp only [Int.reduceToNat] at ho; rw [← Ny102.out] at ho)); obtain ⟨Ay102, Cy102, e_⟩ := Kd.R_slice ho; subst e_; have HLy102 := Aside0.mk (Kd.R_reads' ho).2.1; replace HF := Aside0.mk ((HF.out.below hb).addI (Kd.R_reads' ho).2.2); replace HB := Aside0.mk (below_step HB.out hb); have HRy102 := Aside0.mk ho; clear hb ho) | ((with_reducible refine gate_dst (N := 26) rfl ?_); (try (refine gate_guard (by rfl) ?_; dsimp only)); refine Kd.R_lit (Kd.int .i64) _ 3 ?hg (N := 26) ?hd (xs := ([0, 1, 1, 0, 1, 0, 0] : List Int)) (inner := [.int .i64 0, .int .i64 1, .int .i64 1, .int .i64 0, .int .i64 1, .int .i64 0, .int .i64 0]) (ok := fun _ => True) (okp := fun _ => True) ?hr ?hp (fun _ hk => hk) trivial (Below.refl _ _) (Nat.le_refl _) (by simp) ?_; (case hd => rfl); (case hg => rfl); (case hr => first | (go_simp; done) | (go_simp; rfl)); (case hp => exact (Reps.one (show Kd.M (Kd.int .i64) _ _ _ 0 [.int .i64 0] from rfl) (Reps.one (show Kd.M (Kd.int .i64) _ _ _ 1 [.int .i64 1] from rfl) (Reps.one (show Kd.M (Kd.int .i64) _ _ _ 1 [.int .i64 1] from rfl) (Reps.one (show Kd.M (Kd.int .i64) _ _ _ 0 [.int .i64 0] from rfl) (Reps.one (show Kd.M (Kd.int .i64) _ _ _ 1 [.int .i64 1] from rfl) (Reps.one (show Kd.M (Kd.int .i64) _ _ _ 0 [.int .i64 0] from rfl) (Reps.one (show Kd.M (Kd.int .i64) _ _ _ 0 [.int .i64 0] from rfl) (Reps.none _ _))))))))); intro v_ w14 ho hb hg_ hnew_; clear hg_ hnew_; (first | rw [← Ny105.out] at ho | (simp only [Int.reduceToNat] at ho; rw [← Ny105.out] at ho)); obtain ⟨Ay105, Cy105, e_⟩ := Kd.R_slice ho; subst e_; have HLy105 := Aside0.mk (Kd.R_reads' ho).2.1; replace HF := Aside0.mk ((HF.out.below hb).addI (Kd.R_reads' ho).2.2); replace HB := Aside0.mk (below_step HB.out hb); replace HRy102 := Aside0.mk (Kd.R_below HRy102.out hb); have HRy105 := Aside0.mk ho; clear hb ho) | ((with_reducible refine gate_dst (N := 27) rfl ?_); (try (refine gate_guard (by rfl) ?_; dsimp only)); refine Kd.R_lit (Kd.int .i64) _ 3 ?hg (N := 27) ?hd (xs := ([0, 0, 1, 1, 0, 1, 0] : List Int)) (inner := [.int .i64 0, .int .i64 0, .int .i64 1, .int .i64 1, .int .i64 0, .int .i64 1, .int .i64 0]) (ok := fun _ => True) (okp := fun _ => True) ?hr ?hp (fun _ hk => hk) trivial (Below.refl _ _) (Nat.le_refl _) (by simp) ?_; (case hd => rfl); (case hg => rfl); (case hr => first | (go_simp; done) | (go_simp; rfl)); (case hp => exact (Reps.one (show Kd.M (Kd.int .i64) _ _ _ 0 [.int .i64 0] from rfl) (Reps.one (show Kd.M (Kd.int .i64) _ _ _ 0 [.int .i64 0] from rfl) (Reps.one (show Kd.M (Kd.int .i64) _ _ _ 1 [.int .i64 1] from rfl) (Reps.one (show Kd.M (Kd.int .i64) _ _ _ 1 [.int .i64 1] from rfl) (Reps.one (show Kd.M (Kd.int .i64) _ _ _ 0 [.int .i64 0] from rfl) (Reps.one (show Kd.M (Kd.int .i64) _ _ _ 1 [.int .i64 1] from rfl) (Reps.one (show Kd.M (Kd.int .i64) _ _ _ 0 [.int .i64 0] from rfl) (Reps.none _ _))))))))); intro v_ w15 ho hb hg_ hnew_; clear hg_ hnew_; (first | rw [← Ny108.out] at ho | (simp only [Int.reduceToNat] at ho; rw [← Ny108.out] at ho)); obtain ⟨Ay108, Cy108, e_⟩ := Kd.R_slice ho; subst e_; have HLy108 := Aside0.mk (Kd.R_reads' ho).2.1; replace HF := Aside0.mk ((HF.out.below hb).addI (Kd.R_reads' ho).2.2); replace HB := Aside0.mk (below_step HB.out hb); replace HRy102 := Aside0.mk (Kd.R_below HRy102.out hb); replace HRy105 := Aside0.mk (Kd.R_below HRy105.out hb); have HRy108 := Aside0.mk ho; clear hb ho) | ((with_reducible refine gate_dst (N := 28) rfl ?_); (try (refine gate_guard (by rfl) ?_; dsimp only)); refine Kd.R_lit (Kd.int .i64) _ 3 ?hg (N := 28) ?hd (xs := ([0, 0, 0, 1, 1, 0, 1] : List Int)) (inner := [.int .i64 0, .int .i64 0, .int .i64 0, .int .i64 1, .int .i64 1, .int .i64 0, .int .i64 1]) (ok := fun _ => True) (okp := fun _ => True) ?hr ?hp (fun _ hk => hk) trivial (Below.refl _ _) (Nat.le_refl _) (by simp) ?_; (case hd => rfl); (case hg => rfl); (case hr => first | (go_simp; done) | (go_simp; rfl)); (case hp => exact (Reps.one (show Kd.M (Kd.int .i64) _ _ _ 0 [.int .i64 0] from rfl) (Reps.one (show Kd.M (Kd.int .i64) _ _ _ 0 [.int .i64 0] from rfl) (Reps.one (show Kd.M (Kd.int .i64) _ _ _ 0 [.int .i64 0] from rfl) (Reps.one (show Kd.M (Kd.int .i64) _ _ _ 1 [.int .i64 1] from rfl) (Reps.one (show Kd.M (Kd.int .i64) _ _ _ 1 [.int .i64 1] from rfl) (Reps.one (show Kd.M (Kd.int .i64) _ _ _ 0 [.int .i64 0] from rfl) (Reps.one (show Kd.M (Kd.int .i64) _ _ _ 1 [.int .i64 1] from rfl) (Reps.none _ _))))))))); intro v_ w16 ho hb hg_ hnew_; clear hg_ hnew_; (first | rw [← Ny111.out] at ho | (simp only [Int.reduceToNat] at ho; rw [← Ny111.out] at ho)); obtain ⟨Ay111, Cy111, e_⟩ := Kd.R_slice ho; subst e_; have HLy111 := Aside0.mk (Kd.R_reads' ho).2.1; replace HF := Aside0.mk ((HF.out.below hb).addI (Kd.R_reads' ho).2.2); replace HB := Aside0.mk (below_step HB.out hb); replace HRy102 := Aside0.mk (Kd.R_below HRy102.out hb); replace HRy105 := Aside0.mk (Kd.R_below HRy105.out hb); replace HRy108 := Aside0.mk (Kd.R_below HRy108.out hb); have HRy111 := Aside0.mk ho; clear hb ho) | ((with_reducible refine gate_dst (N := 29) rfl ?_); (try (refine gate_guard (by rfl) ?_; dsimp only)); refine Kd.N_lit (Kd.slice 3 (Kd.int .i64)) _ 22 ?hg (N' := 29) ?hd (xs := ([y102, y105, y108, y111] : List (List Int))) (inner := [.slice Ay102 y102.length Cy102, .slice Ay105 y105.length Cy105, .slice Ay108 y108.length Cy108, .slice Ay111 y111.length Cy111]) (ok := fun _ => True) (okp := fun _ => True) ?hr ?hp (fun _ hk => hk) trivial (Below.refl _ _) (Nat.le_refl _) (by simp) ?_; (case hd => rfl); (case hg => rfl); (case hr => first | (go_simp; done) | (go_simp; rfl)); (case hp => exact (Reps.one (show Kd.FK (Kd.slice 3 (Kd.int .i64)) _ _ y102 [.slice Ay102 y102.length Cy102] from Kd.FK_slice_mk HLy102.out (Kd.R_F HRy102.out)) (Reps.one (show Kd.FK (Kd.slice 3 (Kd.int .i64)) _ _ y105 [.slice Ay105 y105.length Cy105] from Kd.FK_slice_mk HLy105.out (Kd.R_F HRy105.out)) (Reps.one (show Kd.FK (Kd.slice 3 (Kd.int .i64)) _ _ y108 [.slice Ay108 y108.length Cy108] from Kd.FK_slice_mk HLy108.out (Kd.R_F HRy108.out)) (Reps.one (show Kd.FK (Kd.slice 3 (Kd.int .i64)) _ _ y111 [.slice Ay111 y111.length Cy111] from Kd.FK_slice_mk HLy111.out (Kd.R_F HRy111.out)) (Reps.none _ _)))))); intro v_ w17 ho hb hg_ hnew_; clear hg_ hnew_; rw [← Ny114.out] at ho; obtain ⟨Ay114, Cy114, e_⟩ := Kd.N_slice ho; subst e_; have HLy114 := Aside0.mk (Kd.N_reads' ho).2.1; replace HF := Aside0.mk ((HF.out.below hb).addR (Kd.N_reads' ho).2.2); replace HB := Aside0.mk (below_step HB.out hb); clear HRy102 HRy105 HRy108 HRy111; clear hb ho) | ((with_reducible refine gate_dst (N := 2) rfl ?_); (try (refine gate_guard (by rfl) ?_; dsimp only)); refine box_event ?hg (N := 2) ?hd (cs := #[.int .i64 0, .slice none 0 0]) (t := 27) ?hr ?_; (case hd => rfl); (case hg => rfl); (case hr => first | (go_simp; done) | (go_simp; rfl)); intro gb117 hg w18 hbox hb; have GWh := Aside0.mk (Nat.le_of_eq hg.symm); have HW := Aside0.mk hb; have BK := Aside0.mk hbox; clear hb hbox hg; have hzh0 : w18.cell? ⟨gb117, 0, none⟩ = some (.int .i64 0) := (blk_cell BK.out 0).trans rfl; have hfh0 := blk_frozen BK.out 0; have hzh1 : w18.cell? ⟨gb117, 1, none⟩ = some (.slice none 0 0) := (blk_cell BK.out 1).trans rfl; have hfh1 := blk_frozen BK.out 1))
 have hk : (((w18).setCell ⟨gb117, 0, none⟩ (.int .i64 7)).setCell ⟨gb117, 1, none⟩ (.slice Ay114 y114.length Cy114)).heap[gb117]? = some (.cells #[.int .i64 7, .slice Ay114 y114.length Cy114] 27 (0, 0)) := blk_put (cs' := #[.int .i64 7, .slice Ay114 y114.length Cy114]) (blk_put (cs' := #[.int .i64 7, .slice none 0 0]) (BK.out) 0 _ rfl) 1 _ rfl
 have hq : Below _ _ (((w18).setCell ⟨gb117, 0, none⟩ (.int .i64 7)).setCell ⟨gb117, 1, none⟩ (.slice Ay114 y114.length Cy114)) := below_set (below_set (HW.out) GWh.out) GWh.out
 clear hzh0 hfh0 hzh1 hfh1
 replace HF := Aside0.mk ((HF.out.below hq).addB hk)
 replace HB := Aside0.mk (below_step HB.out hq)
 clear hk hq BK HW GWh
 generalize ((w18).setCell ⟨gb117, 0, none⟩ (.int .i64 7)).setCell ⟨gb117, 1, none⟩ (.slice Ay114 y114.length Cy114) = w19 at HF HB ⊢
 go_upto_region 4 with (first | ((with_reducible refine gate_dst (N := 31) rfl ?_); (try (refine gate_guard (by rfl) ?_; dsimp only)); refine Kd.R_lit (Kd.int .i64) _ 3 ?hg (N := 31) ?hd (xs := ([1, 1, 0, 0, 1, 0, 1] : List Int)) (inner := [.int .i64 1, .int .i64 1, .int .i64 0, .int .i64 0, .int .i64 1, .int .i64 0, .int .i64 1]) (ok := fun _ => True) (okp := fun _ => True) ?hr ?hp (fun _ hk => hk) trivial (Below.refl _ _) (Nat.le_refl _) (by simp) ?_; (case hd => rfl); (case hg => rfl); (case hr => first | (go_simp; done) | (go_simp; rfl)); (case hp => exact (Reps.one (show Kd.M (Kd.int .i64) _ _ _ 1 [.int .i64 1] from rfl) (Reps.one (show Kd.M (Kd.int .i64) _ _ _ 1 [.int .i64 1] from rfl) (Reps.one (show Kd.M (Kd.int .i64) _ _ _ 0 [.int .i64 0] from rfl) (Reps.one (show Kd.M (Kd.int .i64) _ _ _ 0 [.int .i64 0] from rfl) (Reps.one (show Kd.M (Kd.int .i64) _ _ _ 1 [.int .i64 1] from rfl) (Reps.one (show Kd.M (Kd.int .i64) _ _ _ 0 [.int .i64 0] from rfl) (Reps.one (show Kd.M (Kd.int .i64) _ _ _ 1 [.int .i64 1] from rfl) (Reps.none _ _))))))))); intro v_ w20 ho hb hg_ hnew_; clear hg_ hnew_; (first | rw [← Ny118.out] at ho | (simp only [Int.reduceToNat] at ho; rw [← Ny118.out] at ho)); obtain ⟨Ay118, Cy118, e_⟩ := Kd.R_slice ho; subst e_; have HLy118 := Aside0.mk (Kd.R_reads' ho).2.1; replace HF := Aside0.mk ((HF.out.below hb).addI (Kd.R_reads' ho).2.2); replace HB := Aside0.mk (below_step HB.out hb); clear hb ho))
 have hzf0 : w20.cell? ⟨gb101, 0, none⟩ = some (.int .i64 2) := (blk_cell (HF.out.b (g := gb101) (cs := #[.int .i64 2, .int .i64 1, .slice none 0 0]) (t := 24) 1 rfl) 0).trans rfl
 have hzf1 : w20.cell? ⟨gb101, 1, none⟩ = some (.int .i64 1) := (blk_cell (HF.out.b (g := gb101) (cs := #[.int .i64 2, .int .i64 1, .slice none 0 0]) (t := 24) 1 rfl) 1).trans rfl
 have hzf2 : w20.cell? ⟨gb101, 2, none⟩ = some (.slice none 0 0) := (blk_cell (HF.out.b (g := gb101) (cs := #[.int .i64 2, .int .i64 1, .slice none 0 0]) (t := 24) 1 rfl) 2).trans rfl
 have hzh0 : w20.cell? ⟨gb117, 0, none⟩ = some (.int .i64 7) := (blk_cell (HF.out.b (g := gb117) (cs := #[.int .i64 7, .slice Ay114 y114.length Cy114]) (t := 27) 0 rfl) 0).trans rfl
 have hzh1 : w20.cell? ⟨gb117, 1, none⟩ = some (.slice Ay114 y114.length Cy114) := (blk_cell (HF.out.b (g := gb117) (cs := #[.int .i64 7, .slice Ay114 y114.length Cy114]) (t := 27) 0 rfl) 1).trans rfl
 go_upto_region 5 with (first | (go_at_call 14; have hx1 := HF.out.r (A := Ay114) (l := y114) 0 rfl; (refine (peel_Graph.calls k 2 1 none 0 ([] : List Int) 7 Ay114 Cy114 y114 t121 t122 t125 _ (Kd.C_nil _ _) (Nat.le_refl _) hx1 HLy114.out A1.out).mono ?_); clear hx1; rintro e w21 ⟨va0, rfl, ho0, hb⟩; obtain ⟨At122, Ct122, e_⟩ := Kd.S_slice ho0; subst e_; have HLt122 := Aside0.mk (Kd.S_reads' ho0).2.1; replace HF := Aside0.mk ((HF.out.below hb).addR (Kd.S_reads' ho0).2.2); replace HB := Aside0.mk (below_step HB.out hb); clear hb ho0) | ((with_reducible refine gate_dst (N := 4) rfl ?_); (try (refine gate_guard (by rfl) ?_; dsimp only)); refine box_event ?hg (N := 4) ?hd (cs := #[.int .i64 0, .slice none 0 0]) (t := 31) ?hr ?_; (case hd => rfl); (case hg => rfl); (case hr => first | (go_simp; done) | (go_simp; rfl)); intro gb126 hg w22 hbox hb; have GWt := Aside0.mk (Nat.le_of_eq hg.symm); have HW := Aside0.mk hb; have BK := Aside0.mk hbox; clear hb hbox hg; have hzt0 : w22.cell? ⟨gb126, 0, none⟩ = some (.int .i64 0) := (blk_cell BK.out 0).trans rfl; have hft0 := blk_frozen BK.out 0; have hzt1 : w22.cell? ⟨gb126, 1, none⟩ = some (.slice none 0 0) := (blk_cell BK.out 1).trans rfl; have hft1 := blk_frozen BK.out 1))
 have hk : (((w22).setCell ⟨gb126, 0, none⟩ (.int .i64 t121)).setCell ⟨gb126, 1, none⟩ (.slice At122 t122.length Ct122)).heap[gb126]? = some (.cells #[.int .i64 t121, .slice At122 t122.length Ct122] 31 (0, 0)) := blk_put (cs' := #[.int .i64 t121, .slice At122 t122.length Ct122]) (blk_put (cs' := #[.int .i64 t121, .slice none 0 0]) (BK.out) 0 _ rfl) 1 _ rfl
 have hq : Below _ _ (((w22).setCell ⟨gb126, 0, none⟩ (.int .i64 t121)).setCell ⟨gb126, 1, none⟩ (.slice At122 t122.length Ct122)) := below_set (below_set (HW.out) GWt.out) GWt.out
 clear hzt0 hft0 hzt1 hft1
 replace HF := Aside0.mk ((HF.out.below hq).addB hk)
 replace HB := Aside0.mk (below_step HB.out hq)
 clear hk hq BK HW GWt
 generalize ((w22).setCell ⟨gb126, 0, none⟩ (.int .i64 t121)).setCell ⟨gb126, 1, none⟩ (.slice At122 t122.length Ct122) = w23 at HF HB ⊢
 (try clear hzf0 hzf1 hzf2 hzh0 hzh1)
 have hzt0 : w23.cell? ⟨gb126, 0, none⟩ = some (.int .i64 t121) := (blk_cell (HF.out.b (g := gb126) (cs := #[.int .i64 t121, .slice At122 t122.length Ct122]) (t := 31) 0 rfl) 0).trans rfl
 have hzt1 : w23.cell? ⟨gb126, 1, none⟩ = some (.slice At122 t122.length Ct122) := (blk_cell (HF.out.b (g := gb126) (cs := #[.int .i64 t121, .slice At122 t122.length Ct122]) (t := 31) 0 rfl) 1).trans rfl
 go_upto_region 6 with (first | (go_at_call 18; have hx1 := HF.out.r (A := At122) (l := t122) 0 rfl; (with_reducible refine (peel_Girth.calls k t121 _ _ t122 t127 t128 _ hx1 HLt122.out A2.out).mono ?_); clear hx1; rintro e w24 ⟨rfl, hb⟩; replace HF := Aside0.mk (HF.out.below hb); replace HB := Aside0.mk (below_step HB.out hb); clear hb; have hzt0 : w24.cell? ⟨gb126, 0, none⟩ = some (.int .i64 t121) := (blk_cell (HF.out.b (g := gb126) (cs := #[.int .i64 t121, .slice At122 t122.length Ct122]) (t := 31) 0 rfl) 0).trans rfl; have hzt1 : w24.cell? ⟨gb126, 1, none⟩ = some (.slice At122 t122.length Ct122) := (blk_cell (HF.out.b (g := gb126) (cs := #[.int .i64 t121, .slice At122 t122.length Ct122]) (t := 31) 0 rfl) 1).trans rfl))
 go_upto_region 7 with (first | (go_at_call 26; have hx1 := HF.out.r (A := At122) (l := t122) 0 rfl; (with_reducible refine (peel_Smallest.calls t121 _ _ t122 t129 t132 _ hx1 HLt122.out A3.out).mono ?_); clear hx1; rintro e w25 ⟨va0, rfl, ho0, hb⟩; obtain ⟨At129, Ct129, e_⟩ := Kd.R_slice ho0; subst e_; have HLt129 := Aside0.mk (Kd.R_reads' ho0).2.1; replace HF := Aside0.mk ((HF.out.below hb).addI (Kd.R_reads' ho0).2.2); replace HB := Aside0.mk (below_step HB.out hb); clear hb ho0; have hzt0 : w25.cell? ⟨gb126, 0, none⟩ = some (.int .i64 t121) := (blk_cell (HF.out.b (g := gb126) (cs := #[.int .i64 t121, .slice At122 t122.length Ct122]) (t := 31) 0 rfl) 0).trans rfl; have hzt1 : w25.cell? ⟨gb126, 1, none⟩ = some (.slice At122 t122.length Ct122) := (blk_cell (HF.out.b (g := gb126) (cs := #[.int .i64 t121, .slice At122 t122.length Ct122]) (t := 31) 0 rfl) 1).trans rfl))
 go_upto_region 8 with (first | ((with_reducible refine gate_dst (N := 50) rfl ?_); (try (refine gate_guard (by rfl) ?_; dsimp only)); refine Kd.R_lit (Kd.int .i64) _ 3 ?hg (N := 50) ?hd (xs := ([5, 6] : List Int)) (inner := [.int .i64 5, .int .i64 6]) (ok := fun _ => True) (okp := fun _ => True) ?hr ?hp (fun _ hk => hk) trivial (Below.refl _ _) (Nat.le_refl _) (by simp) ?_; (case hd => rfl); (case hg => rfl); (case hr => first | (go_simp; done) | (go_simp; rfl)); (case hp => exact (Reps.one (show Kd.M (Kd.int .i64) _ _ _ 5 [.int .i64 5] from rfl) (Reps.one (show Kd.M (Kd.int .i64) _ _ _ 6 [.int .i64 6] from rfl) (Reps.none _ _)))); intro v_ w26 ho hb hg_ hnew_; clear hg_ hnew_; (first | rw [← Ny133.out] at ho | (simp only [Int.reduceToNat] at ho; rw [← Ny133.out] at ho)); obtain ⟨Ay133, Cy133, e_⟩ := Kd.R_slice ho; subst e_; have HLy133 := Aside0.mk (Kd.R_reads' ho).2.1; replace HF := Aside0.mk ((HF.out.below hb).addI (Kd.R_reads' ho).2.2); replace HB := Aside0.mk (below_step HB.out hb); clear hb ho) | (go_at_call 20; have hx1 := HF.out.r (A := At122) (l := t122) 0 rfl; have hx2 := HF.out.i (A := Ay133) (l := y133) 0 rfl; (with_reducible refine (peel_Stopping.calls k t121 _ _ t122 _ _ y133 false t137 _ hx1 HLt122.out hx2 HLy133.out A4.out).mono ?_); clear hx1 hx2; rintro e w27 ⟨rfl, hb⟩; replace HF := Aside0.mk (HF.out.below hb); replace HB := Aside0.mk (below_step HB.out hb); clear hb; have hzf0 : w27.cell? ⟨gb101, 0, none⟩ = some (.int .i64 2) := (blk_cell (HF.out.b (g := gb101) (cs := #[.int .i64 2, .int .i64 1, .slice none 0 0]) (t := 24) 2 rfl) 0).trans rfl; have hzf1 : w27.cell? ⟨gb101, 1, none⟩ = some (.int .i64 1) := (blk_cell (HF.out.b (g := gb101) (cs := #[.int .i64 2, .int .i64 1, .slice none 0 0]) (t := 24) 2 rfl) 1).trans rfl; have hzf2 : w27.cell? ⟨gb101, 2, none⟩ = some (.slice none 0 0) := (blk_cell (HF.out.b (g := gb101) (cs := #[.int .i64 2, .int .i64 1, .slice none 0 0]) (t := 24) 2 rfl) 2).trans rfl; have hzh0 : w27.cell? ⟨gb117, 0, none⟩ = some (.int .i64 7) := (blk_cell (HF.out.b (g := gb117) (cs := #[.int .i64 7, .slice Ay114 y114.length Cy114]) (t := 27) 1 rfl) 0).trans rfl; have hzh1 : w27.cell? ⟨gb117, 1, none⟩ = some (.slice Ay114 y114.length Cy114) := (blk_cell (HF.out.b (g := gb117) (cs := #[.int .i64 7, .slice Ay114 y114.length Cy114]) (t := 27) 1 rfl) 1).trans rfl))
 go_upto_region 9 with (first | ((with_reducible refine gate_dst (N := 57) rfl ?_); (try (refine gate_guard (by rfl) ?_; dsimp only)); refine Kd.R_lit (Kd.int .i64) _ 3 ?hg (N := 57) ?hd (xs := ([0, 1, 0, 1, 1, 0, 1] : List Int)) (inner := [.int .i64 0, .int .i64 1, .int .i64 0, .int .i64 1, .int .i64 1, .int .i64 0, .int .i64 1]) (ok := fun _ => True) (okp := fun _ => True) ?hr ?hp (fun _ hk => hk) trivial (Below.refl _ _) (Nat.le_refl _) (by simp) ?_; (case hd => rfl); (case hg => rfl); (case hr => first | (go_simp; done) | (go_simp; rfl)); (case hp => exact (Reps.one (show Kd.M (Kd.int .i64) _ _ _ 0 [.int .i64 0] from rfl) (Reps.one (show Kd.M (Kd.int .i64) _ _ _ 1 [.int .i64 1] from rfl) (Reps.one (show Kd.M (Kd.int .i64) _ _ _ 0 [.int .i64 0] from rfl) (Reps.one (show Kd.M (Kd.int .i64) _ _ _ 1 [.int .i64 1] from rfl) (Reps.one (show Kd.M (Kd.int .i64) _ _ _ 1 [.int .i64 1] from rfl) (Reps.one (show Kd.M (Kd.int .i64) _ _ _ 0 [.int .i64 0] from rfl) (Reps.one (show Kd.M (Kd.int .i64) _ _ _ 1 [.int .i64 1] from rfl) (Reps.none _ _))))))))); intro v_ w28 ho hb hg_ hnew_; clear hg_ hnew_; (first | rw [← Ny138.out] at ho | (simp only [Int.reduceToNat] at ho; rw [← Ny138.out] at ho)); obtain ⟨Ay138, Cy138, e_⟩ := Kd.R_slice ho; subst e_; have HLy138 := Aside0.mk (Kd.R_reads' ho).2.1; replace HF := Aside0.mk ((HF.out.below hb).addI (Kd.R_reads' ho).2.2); replace HB := Aside0.mk (below_step HB.out hb); clear hb ho) | ((with_reducible refine gate_dst (N := 58) rfl ?_); (try (refine gate_guard (by rfl) ?_; dsimp only)); refine Kd.R_lit (Kd.int .i64) _ 3 ?hg (N := 58) ?hd (xs := ([0, 3] : List Int)) (inner := [.int .i64 0, .int .i64 3]) (ok := fun _ => True) (okp := fun _ => True) ?hr ?hp (fun _ hk => hk) trivial (Below.refl _ _) (Nat.le_refl _) (by simp) ?_; (case hd => rfl); (case hg => rfl); (case hr => first | (go_simp; done) | (go_simp; rfl)); (case hp => exact (Reps.one (show Kd.M (Kd.int .i64) _ _ _ 0 [.int .i64 0] from rfl) (Reps.one (show Kd.M (Kd.int .i64) _ _ _ 3 [.int .i64 3] from rfl) (Reps.none _ _)))); intro v_ w29 ho hb hg_ hnew_; clear hg_ hnew_; (first | rw [← Ny141.out] at ho | (simp only [Int.reduceToNat] at ho; rw [← Ny141.out] at ho)); obtain ⟨Ay141, Cy141, e_⟩ := Kd.R_slice ho; subst e_; have HLy141 := Aside0.mk (Kd.R_reads' ho).2.1; replace HF := Aside0.mk ((HF.out.below hb).addI (Kd.R_reads' ho).2.2); replace HB := Aside0.mk (below_step HB.out hb); clear hb ho) | (go_at_call 30; have hx1 := HF.out.r (A := Ay114) (l := y114) 1 rfl; have hx2 := HF.out.i (A := Ay138) (l := y138) 1 rfl; have hx3 := HF.out.i (A := Ay141) (l := y141) 0 rfl; (refine (peel_Ok.calls 2 1 none 0 ([] : List Int) 7 _ _ y114 _ _ y138 _ _ y141 t144 t147 t150 _ (Kd.C_nil _ _) (Nat.le_refl _) hx1 HLy114.out hx2 HLy138.out hx3 HLy141.out A5.out).mono ?_); clear hx1 hx2 hx3; rintro e w30 ⟨va0, va1, rfl, ho0, ho1, hb⟩; obtain ⟨At144, Ct144, e_⟩ := Kd.R_slice ho0; subst e_; have HLt144 := Aside0.mk (Kd.R_reads' ho0).2.1; obtain ⟨At147, Ct147, e_⟩ := Kd.R_slice ho1; subst e_; have HLt147 := Aside0.mk (Kd.R_reads' ho1).2.1; replace HF := Aside0.mk (((HF.out.below hb).addI (Kd.R_reads' ho0).2.2).addI (Kd.R_reads' ho1).2.2); replace HB := Aside0.mk (below_step HB.out hb); clear hb ho0 ho1; have hzf0 : w30.cell? ⟨gb101, 0, none⟩ = some (.int .i64 2) := (blk_cell (HF.out.b (g := gb101) (cs := #[.int .i64 2, .int .i64 1, .slice none 0 0]) (t := 24) 2 rfl) 0).trans rfl; have hzf1 : w30.cell? ⟨gb101, 1, none⟩ = some (.int .i64 1) := (blk_cell (HF.out.b (g := gb101) (cs := #[.int .i64 2, .int .i64 1, .slice none 0 0]) (t := 24) 2 rfl) 1).trans rfl; have hzf2 : w30.cell? ⟨gb101, 2, none⟩ = some (.slice none 0 0) := (blk_cell (HF.out.b (g := gb101) (cs := #[.int .i64 2, .int .i64 1, .slice none 0 0]) (t := 24) 2 rfl) 2).trans rfl; have hzh0 : w30.cell? ⟨gb117, 0, none⟩ = some (.int .i64 7) := (blk_cell (HF.out.b (g := gb117) (cs := #[.int .i64 7, .slice Ay114 y114.length Cy114]) (t := 27) 1 rfl) 0).trans rfl; have hzh1 : w30.cell? ⟨gb117, 1, none⟩ = some (.slice Ay114 y114.length Cy114) := (blk_cell (HF.out.b (g := gb117) (cs := #[.int .i64 7, .slice Ay114 y114.length Cy114]) (t := 27) 1 rfl) 1).trans rfl))
 go_upto_region 10 with (first | ((with_reducible refine gate_dst (N := 67) rfl ?_); (try (refine gate_guard (by rfl) ?_; dsimp only)); refine Kd.R_lit (Kd.int .i64) _ 3 ?hg (N := 67) ?hd (xs := ([0, 1, 4, 6] : List Int)) (inner := [.int .i64 0, .int .i64 1, .int .i64 4, .int .i64 6]) (ok := fun _ => True) (okp := fun _ => True) ?hr ?hp (fun _ hk => hk) trivial (Below.refl _ _) (Nat.le_refl _) (by simp) ?_; (case hd => rfl); (case hg => rfl); (case hr => first | (go_simp; done) | (go_simp; rfl)); (case hp => exact (Reps.one (show Kd.M (Kd.int .i64) _ _ _ 0 [.int .i64 0] from rfl) (Reps.one (show Kd.M (Kd.int .i64) _ _ _ 1 [.int .i64 1] from rfl) (Reps.one (show Kd.M (Kd.int .i64) _ _ _ 4 [.int .i64 4] from rfl) (Reps.one (show Kd.M (Kd.int .i64) _ _ _ 6 [.int .i64 6] from rfl) (Reps.none _ _)))))); intro v_ w31 ho hb hg_ hnew_; clear hg_ hnew_; (first | rw [← Ny151.out] at ho | (simp only [Int.reduceToNat] at ho; rw [← Ny151.out] at ho)); obtain ⟨Ay151, Cy151, e_⟩ := Kd.R_slice ho; subst e_; have HLy151 := Aside0.mk (Kd.R_reads' ho).2.1; replace HF := Aside0.mk ((HF.out.below hb).addI (Kd.R_reads' ho).2.2); replace HB := Aside0.mk (below_step HB.out hb); clear hb ho) | (go_at_call 30; have hx1 := HF.out.r (A := Ay114) (l := y114) 1 rfl; have hx2 := HF.out.i (A := Ay118) (l := y118) 7 rfl; have hx3 := HF.out.i (A := Ay151) (l := y151) 0 rfl; (refine (peel_Ok.calls 2 1 none 0 ([] : List Int) 7 _ _ y114 _ _ y118 _ _ y151 t154 t157 t160 _ (Kd.C_nil _ _) (Nat.le_refl _) hx1 HLy114.out hx2 HLy118.out hx3 HLy151.out A6.out).mono ?_); clear hx1 hx2 hx3; rintro e w32 ⟨va0, va1, rfl, ho0, ho1, hb⟩; obtain ⟨At154, Ct154, e_⟩ := Kd.R_slice ho0; subst e_; have HLt154 := Aside0.mk (Kd.R_reads' ho0).2.1; obtain ⟨At157, Ct157, e_⟩ := Kd.R_slice ho1; subst e_; have HLt157 := Aside0.mk (Kd.R_reads' ho1).2.1; replace HF := Aside0.mk (((HF.out.below hb).addI (Kd.R_reads' ho0).2.2).addI (Kd.R_reads' ho1).2.2); replace HB := Aside0.mk (below_step HB.out hb); clear hb ho0 ho1; have hzf0 : w32.cell? ⟨gb101, 0, none⟩ = some (.int .i64 2) := (blk_cell (HF.out.b (g := gb101) (cs := #[.int .i64 2, .int .i64 1, .slice none 0 0]) (t := 24) 2 rfl) 0).trans rfl; have hzf1 : w32.cell? ⟨gb101, 1, none⟩ = some (.int .i64 1) := (blk_cell (HF.out.b (g := gb101) (cs := #[.int .i64 2, .int .i64 1, .slice none 0 0]) (t := 24) 2 rfl) 1).trans rfl; have hzf2 : w32.cell? ⟨gb101, 2, none⟩ = some (.slice none 0 0) := (blk_cell (HF.out.b (g := gb101) (cs := #[.int .i64 2, .int .i64 1, .slice none 0 0]) (t := 24) 2 rfl) 2).trans rfl; have hzh0 : w32.cell? ⟨gb117, 0, none⟩ = some (.int .i64 7) := (blk_cell (HF.out.b (g := gb117) (cs := #[.int .i64 7, .slice Ay114 y114.length Cy114]) (t := 27) 1 rfl) 0).trans rfl; have hzh1 : w32.cell? ⟨gb117, 1, none⟩ = some (.slice Ay114 y114.length Cy114) := (blk_cell (HF.out.b (g := gb117) (cs := #[.int .i64 7, .slice Ay114 y114.length Cy114]) (t := 27) 1 rfl) 1).trans rfl))
 go_upto_region 11 with (first | ((with_reducible refine gate_dst (N := 75) rfl ?_); (try (refine gate_guard (by rfl) ?_; dsimp only)); refine Kd.R_lit (Kd.int .i64) _ 3 ?hg (N := 75) ?hd (xs := ([1, 0, 0, 0, 0, 0, 0] : List Int)) (inner := [.int .i64 1, .int .i64 0, .int .i64 0, .int .i64 0, .int .i64 0, .int .i64 0, .int .i64 0]) (ok := fun _ => True) (okp := fun _ => True) ?hr ?hp (fun _ hk => hk) trivial (Below.refl _ _) (Nat.le_refl _) (by simp) ?_; (case hd => rfl); (case hg => rfl); (case hr => first | (go_simp; done) | (go_simp; rfl)); (case hp => exact (Reps.one (show Kd.M (Kd.int .i64) _ _ _ 1 [.int .i64 1] from rfl) (Reps.one (show Kd.M (Kd.int .i64) _ _ _ 0 [.int .i64 0] from rfl) (Reps.one (show Kd.M (Kd.int .i64) _ _ _ 0 [.int .i64 0] from rfl) (Reps.one (show Kd.M (Kd.int .i64) _ _ _ 0 [.int .i64 0] from rfl) (Reps.one (show Kd.M (Kd.int .i64) _ _ _ 0 [.int .i64 0] from rfl) (Reps.one (show Kd.M (Kd.int .i64) _ _ _ 0 [.int .i64 0] from rfl) (Reps.one (show Kd.M (Kd.int .i64) _ _ _ 0 [.int .i64 0] from rfl) (Reps.none _ _))))))))); intro v_ w33 ho hb hg_ hnew_; clear hg_ hnew_; (first | rw [← Ny161.out] at ho | (simp only [Int.reduceToNat] at ho; rw [← Ny161.out] at ho)); obtain ⟨Ay161, Cy161, e_⟩ := Kd.R_slice ho; subst e_; have HLy161 := Aside0.mk (Kd.R_reads' ho).2.1; replace HF := Aside0.mk ((HF.out.below hb).addI (Kd.R_reads' ho).2.2); replace HB := Aside0.mk (below_step HB.out hb); clear hb ho) | (go_at_call 30; have hx1 := HF.out.r (A := Ay114) (l := y114) 1 rfl; have hx2 := HF.out.i (A := Ay161) (l := y161) 0 rfl; (refine (peel_Ok.calls 2 1 none 0 ([] : List Int) 7 _ _ y114 _ _ y161 none 0 ([] : List Int) t164 t167 t170 _ (Kd.C_nil _ _) (Nat.le_refl _) hx1 HLy114.out hx2 HLy161.out (Kd.C_nil _ _) (Nat.le_refl _) A7.out).mono ?_); clear hx1 hx2; rintro e w34 ⟨va0, va1, rfl, ho0, ho1, hb⟩; obtain ⟨At164, Ct164, e_⟩ := Kd.R_slice ho0; subst e_; have HLt164 := Aside0.mk (Kd.R_reads' ho0).2.1; obtain ⟨At167, Ct167, e_⟩ := Kd.R_slice ho1; subst e_; have HLt167 := Aside0.mk (Kd.R_reads' ho1).2.1; replace HF := Aside0.mk (((HF.out.below hb).addI (Kd.R_reads' ho0).2.2).addI (Kd.R_reads' ho1).2.2); replace HB := Aside0.mk (below_step HB.out hb); clear hb ho0 ho1; have hzt0 : w34.cell? ⟨gb126, 0, none⟩ = some (.int .i64 t121) := (blk_cell (HF.out.b (g := gb126) (cs := #[.int .i64 t121, .slice At122 t122.length Ct122]) (t := 31) 0 rfl) 0).trans rfl; have hzt1 : w34.cell? ⟨gb126, 1, none⟩ = some (.slice At122 t122.length Ct122) := (blk_cell (HF.out.b (g := gb126) (cs := #[.int .i64 t121, .slice At122 t122.length Ct122]) (t := 31) 0 rfl) 1).trans rfl))
 go_upto_region 12 with (first | ((with_reducible refine gate_dst (N := 82) rfl ?_); (try (refine gate_guard (by rfl) ?_; dsimp only)); refine Kd.R_lit (Kd.int .i64) _ 3 ?hg (N := 82) ?hd (xs := ([0, 1, 2, 4] : List Int)) (inner := [.int .i64 0, .int .i64 1, .int .i64 2, .int .i64 4]) (ok := fun _ => True) (okp := fun _ => True) ?hr ?hp (fun _ hk => hk) trivial (Below.refl _ _) (Nat.le_refl _) (by simp) ?_; (case hd => rfl); (case hg => rfl); (case hr => first | (go_simp; done) | (go_simp; rfl)); (case hp => exact (Reps.one (show Kd.M (Kd.int .i64) _ _ _ 0 [.int .i64 0] from rfl) (Reps.one (show Kd.M (Kd.int .i64) _ _ _ 1 [.int .i64 1] from rfl) (Reps.one (show Kd.M (Kd.int .i64) _ _ _ 2 [.int .i64 2] from rfl) (Reps.one (show Kd.M (Kd.int .i64) _ _ _ 4 [.int .i64 4] from rfl) (Reps.none _ _)))))); intro v_ w35 ho hb hg_ hnew_; clear hg_ hnew_; (first | rw [← Ny171.out] at ho | (simp only [Int.reduceToNat] at ho; rw [← Ny171.out] at ho)); obtain ⟨Ay171, Cy171, e_⟩ := Kd.R_slice ho; subst e_; have HLy171 := Aside0.mk (Kd.R_reads' ho).2.1; replace HF := Aside0.mk ((HF.out.below hb).addI (Kd.R_reads' ho).2.2); replace HB := Aside0.mk (below_step HB.out hb); clear hb ho) | (go_at_call 24; have hx1 := HF.out.r (A := At122) (l := t122) 0 rfl; have hx2 := HF.out.i (A := Ay171) (l := y171) 0 rfl; (with_reducible refine (peel_Greatest.calls k t121 _ _ t122 _ _ y171 t174 t177 _ hx1 HLt122.out hx2 HLy171.out A8.out).mono ?_); clear hx1 hx2; rintro e w36 ⟨va0, rfl, ho0, hb⟩; obtain ⟨At174, Ct174, e_⟩ := Kd.R_slice ho0; subst e_; have HLt174 := Aside0.mk (Kd.R_reads' ho0).2.1; replace HF := Aside0.mk ((HF.out.below hb).addI (Kd.R_reads' ho0).2.2); replace HB := Aside0.mk (below_step HB.out hb); clear hb ho0; have hzt0 : w36.cell? ⟨gb126, 0, none⟩ = some (.int .i64 t121) := (blk_cell (HF.out.b (g := gb126) (cs := #[.int .i64 t121, .slice At122 t122.length Ct122]) (t := 31) 0 rfl) 0).trans rfl; have hzt1 : w36.cell? ⟨gb126, 1, none⟩ = some (.slice At122 t122.length Ct122) := (blk_cell (HF.out.b (g := gb126) (cs := #[.int .i64 t121, .slice At122 t122.length Ct122]) (t := 31) 0 rfl) 1).trans rfl))
 have c75b0 : (t125 == 0) = true := beq_iff_eq.mpr c75
 have c75b1 : (t125 != 0) = false := bne_eq_false_iff_eq.mpr c75
 clear c75
 have c76b0 : (t128 == 0) = true := beq_iff_eq.mpr c76
 have c76b1 : (t128 != 0) = false := bne_eq_false_iff_eq.mpr c76
 clear c76
 have c77b0 : (t132 == 0) = true := beq_iff_eq.mpr c77
 have c77b1 : (t132 != 0) = false := bne_eq_false_iff_eq.mpr c77
 clear c77
 have c78b0 : (t137 == 0) = true := beq_iff_eq.mpr c78
 have c78b1 : (t137 != 0) = false := bne_eq_false_iff_eq.mpr c78
 clear c78
 have c79b0 : (t150 == 0) = true := beq_iff_eq.mpr c79
 have c79b1 : (t150 != 0) = false := bne_eq_false_iff_eq.mpr c79
 clear c79
 have c80b0 : (t160 == 0) = true := beq_iff_eq.mpr c80
 have c80b1 : (t160 != 0) = false := bne_eq_false_iff_eq.mpr c80
 clear c80
 have c81b0 : (t170 == 12) = true := beq_iff_eq.mpr c81
 have c81b1 : (t170 != 12) = false := bne_eq_false_iff_eq.mpr c81
 clear c81
 have c82b1 : (t177 != 0) = false := bne_eq_false_iff_eq.mpr c82
 clear c82
 (first | rw [c75b0] | (simp only [i64_w, i32_w]; rw [c75b0]) | skip)
 have c85b0 : (t127 == 6) = true := beq_iff_eq.mpr c85
 have c85b1 : (t127 != 6) = false := bne_eq_false_iff_eq.mpr c85
 clear c85
 have c112b0 : ((t174.length : Int) == 0) = true := beq_iff_eq.mpr c112
 have c112b1 : ((t174.length : Int) != 0) = false := bne_eq_false_iff_eq.mpr c112
 clear c112
 have c114b0 : (t198 == 0) = true := beq_iff_eq.mpr c114
 have c114b1 : (t198 != 0) = false := bne_eq_false_iff_eq.mpr c114
 clear c114
 have c117b0 : ((t147.length : Int) == 0) = true := beq_iff_eq.mpr c117
 have c117b1 : ((t147.length : Int) != 0) = false := bne_eq_false_iff_eq.mpr c117
 clear c117
 go_upto_region 14 with ((fail))
 go_upto_region 15 with (first | ((with_reducible refine gate_dst (N := 117) rfl ?_); (try (refine gate_guard (by rfl) ?_; dsimp only)); refine Kd.R_lit (Kd.int .i64) _ 3 ?hg (N := 117) ?hd (xs := ([0, 1, 3] : List Int)) (inner := [.int .i64 0, .int .i64 1, .int .i64 3]) (ok := fun _ => True) (okp := fun _ => True) ?hr ?hp (fun _ hk => hk) trivial (Below.refl _ _) (Nat.le_refl _) (by simp) ?_; (case hd => rfl); (case hg => rfl); (case hr => first | (go_simp; done) | (go_simp; rfl)); (case hp => exact (Reps.one (show Kd.M (Kd.int .i64) _ _ _ 0 [.int .i64 0] from rfl) (Reps.one (show Kd.M (Kd.int .i64) _ _ _ 1 [.int .i64 1] from rfl) (Reps.one (show Kd.M (Kd.int .i64) _ _ _ 3 [.int .i64 3] from rfl) (Reps.none _ _))))); intro v_ w37 ho hb hg_ hnew_; clear hg_ hnew_; (first | rw [← Ny178.out] at ho | (simp only [Int.reduceToNat] at ho; rw [← Ny178.out] at ho)); obtain ⟨Ay178, Cy178, e_⟩ := Kd.R_slice ho; subst e_; have HLy178 := Aside0.mk (Kd.R_reads' ho).2.1; replace HF := Aside0.mk ((HF.out.below hb).addI (Kd.R_reads' ho).2.2); replace HB := Aside0.mk (below_step HB.out hb); have HRy178 := Aside0.mk ho; clear hb ho) | ((with_reducible refine gate_dst (N := 118) rfl ?_); (try (refine gate_guard (by rfl) ?_; dsimp only)); refine Kd.R_lit (Kd.int .i64) _ 3 ?hg (N := 118) ?hd (xs := ([1, 2, 4] : List Int)) (inner := [.int .i64 1, .int .i64 2, .int .i64 4]) (ok := fun _ => True) (okp := fun _ => True) ?hr ?hp (fun _ hk => hk) trivial (Below.refl _ _) (Nat.le_refl _) (by simp) ?_; (case hd => rfl); (case hg => rfl); (case hr => first | (go_simp; done) | (go_simp; rfl)); (case hp => exact (Reps.one (show Kd.M (Kd.int .i64) _ _ _ 1 [.int .i64 1] from rfl) (Reps.one (show Kd.M (Kd.int .i64) _ _ _ 2 [.int .i64 2] from rfl) (Reps.one (show Kd.M (Kd.int .i64) _ _ _ 4 [.int .i64 4] from rfl) (Reps.none _ _))))); intro v_ w38 ho hb hg_ hnew_; clear hg_ hnew_; (first | rw [← Ny181.out] at ho | (simp only [Int.reduceToNat] at ho; rw [← Ny181.out] at ho)); obtain ⟨Ay181, Cy181, e_⟩ := Kd.R_slice ho; subst e_; have HLy181 := Aside0.mk (Kd.R_reads' ho).2.1; replace HF := Aside0.mk ((HF.out.below hb).addI (Kd.R_reads' ho).2.2); replace HB := Aside0.mk (below_step HB.out hb); replace HRy178 := Aside0.mk (Kd.R_below HRy178.out hb); have HRy181 := Aside0.mk ho; clear hb ho) | ((with_reducible refine gate_dst (N := 119) rfl ?_); (try (refine gate_guard (by rfl) ?_; dsimp only)); refine Kd.R_lit (Kd.int .i64) _ 3 ?hg (N := 119) ?hd (xs := ([2, 3, 5] : List Int)) (inner := [.int .i64 2, .int .i64 3, .int .i64 5]) (ok := fun _ => True) (okp := fun _ => True) ?hr ?hp (fun _ hk => hk) trivial (Below.refl _ _) (Nat.le_refl _) (by simp) ?_; (case hd => rfl); (case hg => rfl); (case hr => first | (go_simp; done) | (go_simp; rfl)); (case hp => exact (Reps.one (show Kd.M (Kd.int .i64) _ _ _ 2 [.int .i64 2] from rfl) (Reps.one (show Kd.M (Kd.int .i64) _ _ _ 3 [.int .i64 3] from rfl) (Reps.one (show Kd.M (Kd.int .i64) _ _ _ 5 [.int .i64 5] from rfl) (Reps.none _ _))))); intro v_ w39 ho hb hg_ hnew_; clear hg_ hnew_; (first | rw [← Ny184.out] at ho | (simp only [Int.reduceToNat] at ho; rw [← Ny184.out] at ho)); obtain ⟨Ay184, Cy184, e_⟩ := Kd.R_slice ho; subst e_; have HLy184 := Aside0.mk (Kd.R_reads' ho).2.1; replace HF := Aside0.mk ((HF.out.below hb).addI (Kd.R_reads' ho).2.2); replace HB := Aside0.mk (below_step HB.out hb); replace HRy178 := Aside0.mk (Kd.R_below HRy178.out hb); replace HRy181 := Aside0.mk (Kd.R_below HRy181.out hb); have HRy184 := Aside0.mk ho; clear hb ho) | ((with_reducible refine gate_dst (N := 120) rfl ?_); (try (refine gate_guard (by rfl) ?_; dsimp only)); refine Kd.R_lit (Kd.int .i64) _ 3 ?hg (N := 120) ?hd (xs := ([3, 4, 6] : List Int)) (inner := [.int .i64 3, .int .i64 4, .int .i64 6]) (ok := fun _ => True) (okp := fun _ => True) ?hr ?hp (fun _ hk => hk) trivial (Below.refl _ _) (Nat.le_refl _) (by simp) ?_; (case hd => rfl); (case hg => rfl); (case hr => first | (go_simp; done) | (go_simp; rfl)); (case hp => exact (Reps.one (show Kd.M (Kd.int .i64) _ _ _ 3 [.int .i64 3] from rfl) (Reps.one (show Kd.M (Kd.int .i64) _ _ _ 4 [.int .i64 4] from rfl) (Reps.one (show Kd.M (Kd.int .i64) _ _ _ 6 [.int .i64 6] from rfl) (Reps.none _ _))))); intro v_ w40 ho hb hg_ hnew_; clear hg_ hnew_; (first | rw [← Ny187.out] at ho | (simp only [Int.reduceToNat] at ho; rw [← Ny187.out] at ho)); obtain ⟨Ay187, Cy187, e_⟩ := Kd.R_slice ho; subst e_; have HLy187 := Aside0.mk (Kd.R_reads' ho).2.1; replace HF := Aside0.mk ((HF.out.below hb).addI (Kd.R_reads' ho).2.2); replace HB := Aside0.mk (below_step HB.out hb); replace HRy178 := Aside0.mk (Kd.R_below HRy178.out hb); replace HRy181 := Aside0.mk (Kd.R_below HRy181.out hb); replace HRy184 := Aside0.mk (Kd.R_below HRy184.out hb); have HRy187 := Aside0.mk ho; clear hb ho) | ((with_reducible refine gate_dst (N := 121) rfl ?_); (try (refine gate_guard (by rfl) ?_; dsimp only)); refine Kd.N_lit (Kd.slice 3 (Kd.int .i64)) _ 22 ?hg (N' := 121) ?hd (xs := ([y178, y181, y184, y187] : List (List Int))) (inner := [.slice Ay178 y178.length Cy178, .slice Ay181 y181.length Cy181, .slice Ay184 y184.length Cy184, .slice Ay187 y187.length Cy187]) (ok := fun _ => True) (okp := fun _ => True) ?hr ?hp (fun _ hk => hk) trivial (Below.refl _ _) (Nat.le_refl _) (by simp) ?_; (case hd => rfl); (case hg => rfl); (case hr => first | (go_simp; done) | (go_simp; rfl)); (case hp => exact (Reps.one (show Kd.FK (Kd.slice 3 (Kd.int .i64)) _ _ y178 [.slice Ay178 y178.length Cy178] from Kd.FK_slice_mk HLy178.out (Kd.R_F HRy178.out)) (Reps.one (show Kd.FK (Kd.slice 3 (Kd.int .i64)) _ _ y181 [.slice Ay181 y181.length Cy181] from Kd.FK_slice_mk HLy181.out (Kd.R_F HRy181.out)) (Reps.one (show Kd.FK (Kd.slice 3 (Kd.int .i64)) _ _ y184 [.slice Ay184 y184.length Cy184] from Kd.FK_slice_mk HLy184.out (Kd.R_F HRy184.out)) (Reps.one (show Kd.FK (Kd.slice 3 (Kd.int .i64)) _ _ y187 [.slice Ay187 y187.length Cy187] from Kd.FK_slice_mk HLy187.out (Kd.R_F HRy187.out)) (Reps.none _ _)))))); intro v_ w41 ho hb hg_ hnew_; clear hg_ hnew_; rw [← Ny190.out] at ho; obtain ⟨Ay190, Cy190, e_⟩ := Kd.N_slice ho; subst e_; have HLy190 := Aside0.mk (Kd.N_reads' ho).2.1; replace HF := Aside0.mk ((HF.out.below hb).addR (Kd.N_reads' ho).2.2); replace HB := Aside0.mk (below_step HB.out hb); clear HRy178 HRy181 HRy184 HRy187; clear hb ho) | (go_at_call 16; have hx1 := HF.out.r (A := At122) (l := t122) 1 rfl; have hx2 := HF.out.r (A := Ay190) (l := y190) 0 rfl; (with_reducible refine (codewrightref44_Same.calls kj8 t121 _ _ t122 7 _ _ y190 true _ hx1 HLt122.out hx2 HLy190.out A83.out).mono ?_); clear hx1 hx2; rintro e w42 ⟨rfl, hb⟩; replace HF := Aside0.mk (HF.out.below hb); replace HB := Aside0.mk (below_step HB.out hb); clear hb) | ((with_reducible refine gate_dst (N := 130) rfl ?_); (try (refine gate_guard (by rfl) ?_; dsimp only)); refine Kd.R_lit (Kd.int .i64) _ 3 ?hg (N := 130) ?hd (xs := ([0, 1, 2, 5] : List Int)) (inner := [.int .i64 0, .int .i64 1, .int .i64 2, .int .i64 5]) (ok := fun _ => True) (okp := fun _ => True) ?hr ?hp (fun _ hk => hk) trivial (Below.refl _ _) (Nat.le_refl _) (by simp) ?_; (case hd => rfl); (case hg => rfl); (case hr => first | (go_simp; done) | (go_simp; rfl)); (case hp => exact (Reps.one (show Kd.M (Kd.int .i64) _ _ _ 0 [.int .i64 0] from rfl) (Reps.one (show Kd.M (Kd.int .i64) _ _ _ 1 [.int .i64 1] from rfl) (Reps.one (show Kd.M (Kd.int .i64) _ _ _ 2 [.int .i64 2] from rfl) (Reps.one (show Kd.M (Kd.int .i64) _ _ _ 5 [.int .i64 5] from rfl) (Reps.none _ _)))))); intro v_ w43 ho hb hg_ hnew_; clear hg_ hnew_; (first | rw [← Ny194.out] at ho | (simp only [Int.reduceToNat] at ho; rw [← Ny194.out] at ho)); obtain ⟨Ay194, Cy194, e_⟩ := Kd.R_slice ho; subst e_; have HLy194 := Aside0.mk (Kd.R_reads' ho).2.1; replace HF := Aside0.mk ((HF.out.below hb).addI (Kd.R_reads' ho).2.2); replace HB := Aside0.mk (below_step HB.out hb); clear hb ho) | (go_at_call 28; have hx1 := HF.out.i (A := At129) (l := t129) 18 rfl; have hx2 := HF.out.i (A := Ay194) (l := y194) 0 rfl; (with_reducible refine (codewrightref09_SameInts.calls kj8 _ _ t129 _ _ y194 true _ hx1 HLt129.out hx2 HLy194.out A86.out).mono ?_); clear hx1 hx2; rintro e w' ⟨rfl, ⟨nd, rfl⟩⟩; replace HF := Aside0.mk (HF.out.below (pw_below_drewN (Below.refl _ _) nd)); replace HB := Aside0.mk (pw_below_drewN HB.out nd); generalize w43.drewN nd = w44 at HF HB ⊢; clear nd; have hzt0 : w44.cell? ⟨gb126, 0, none⟩ = some (.int .i64 t121) := (blk_cell (HF.out.b (g := gb126) (cs := #[.int .i64 t121, .slice At122 t122.length Ct122]) (t := 31) 0 rfl) 0).trans rfl; have hzt1 : w44.cell? ⟨gb126, 1, none⟩ = some (.slice At122 t122.length Ct122) := (blk_cell (HF.out.b (g := gb126) (cs := #[.int .i64 t121, .slice At122 t122.length Ct122]) (t := 31) 0 rfl) 1).trans rfl) | (go_at_call 22; have hx1 := HF.out.r (A := At122) (l := t122) 1 rfl; (with_reducible refine (peel_Check.calls t121 _ _ t122 t198 _ hx1 HLt122.out A113.out).mono ?_); clear hx1; rintro e w45 ⟨rfl, hb⟩; replace HF := Aside0.mk (HF.out.below hb); replace HB := Aside0.mk (below_step HB.out hb); clear hb))
 go_wp2_with (first | (go_at_call 28; have hx1 := HF.out.i (A := At144) (l := t144) 14 rfl; have hx2 := HF.out.i (A := Ay118) (l := y118) 19 rfl; (with_reducible refine (codewrightref09_SameInts.calls kj8 _ _ t144 _ _ y118 true _ hx1 HLt144.out hx2 HLy118.out A115.out).mono ?_); clear hx1 hx2; rintro e w' ⟨rfl, ⟨nd, rfl⟩⟩; replace HF := Aside0.mk (HF.out.below (pw_below_drewN (Below.refl _ _) nd)); replace HB := Aside0.mk (pw_below_drewN HB.out nd); generalize w45.drewN nd = w46 at HF HB ⊢; clear nd) | ((with_reducible refine gate_dst (N := 160) rfl ?_); (try (refine gate_guard (by rfl) ?_; dsimp only)); refine Kd.R_make (Kd.int .i64) _ 3 rfl (N := 160) rfl 22 _ _ rfl 7 rfl rfl Try.underlying22 (.int .i64 0) 8 info3 rfl (by decide) (by omega) 0 (ok := fun _ => True) (okp := fun _ => True) rfl (fun _ hk => hk) trivial (by omega) (by omega) (Below.refl _ _) (Nat.le_refl _) ?_; intro v_ w47 ho hb hg_ hnew_; clear hg_ hnew_; (first | rw [← Ny200.out] at ho | (simp only [Int.reduceToNat] at ho; rw [← Ny200.out] at ho)); obtain ⟨Ay200, Cy200, e_⟩ := Kd.R_slice ho; subst e_; have HLy200 := Aside0.mk (Kd.R_reads' ho).2.1; replace HF := Aside0.mk ((HF.out.below hb).addI (Kd.R_reads' ho).2.2); replace HB := Aside0.mk (below_step HB.out hb); clear hb ho) | (go_at_call 28; have hx1 := HF.out.i (A := At154) (l := t154) 12 rfl; have hx2 := HF.out.i (A := Ay200) (l := y200) 0 rfl; (with_reducible refine (codewrightref09_SameInts.calls kj8 _ _ t154 _ _ y200 true _ hx1 HLt154.out hx2 HLy200.out A119.out).mono ?_); clear hx1 hx2; rintro e w' ⟨rfl, ⟨nd, rfl⟩⟩; replace HF := Aside0.mk (HF.out.below (pw_below_drewN (Below.refl _ _) nd)); replace HB := Aside0.mk (pw_below_drewN HB.out nd); generalize w47.drewN nd = w48 at HF HB ⊢; clear nd) | ((with_reducible refine gate_dst (N := 165) rfl ?_); (try (refine gate_guard (by rfl) ?_; dsimp only)); refine Kd.R_lit (Kd.int .i64) _ 3 ?hg (N := 165) ?hd (xs := ([0, 1, 4, 6] : List Int)) (inner := [.int .i64 0, .int .i64 1, .int .i64 4, .int .i64 6]) (ok := fun _ => True) (okp := fun _ => True) ?hr ?hp (fun _ hk => hk) trivial (Below.refl _ _) (Nat.le_refl _) (by simp) ?_; (case hd => rfl); (case hg => rfl); (case hr => first | (go_simp; done) | (go_simp; rfl)); (case hp => exact (Reps.one (show Kd.M (Kd.int .i64) _ _ _ 0 [.int .i64 0] from rfl) (Reps.one (show Kd.M (Kd.int .i64) _ _ _ 1 [.int .i64 1] from rfl) (Reps.one (show Kd.M (Kd.int .i64) _ _ _ 4 [.int .i64 4] from rfl) (Reps.one (show Kd.M (Kd.int .i64) _ _ _ 6 [.int .i64 6] from rfl) (Reps.none _ _)))))); intro v_ w49 ho hb hg_ hnew_; clear hg_ hnew_; (first | rw [← Ny204.out] at ho | (simp only [Int.reduceToNat] at ho; rw [← Ny204.out] at ho)); obtain ⟨Ay204, Cy204, e_⟩ := Kd.R_slice ho; subst e_; have HLy204 := Aside0.mk (Kd.R_reads' ho).2.1; replace HF := Aside0.mk ((HF.out.below hb).addI (Kd.R_reads' ho).2.2); replace HB := Aside0.mk (below_step HB.out hb); clear hb ho) | (go_at_call 28; have hx1 := HF.out.i (A := At157) (l := t157) 12 rfl; have hx2 := HF.out.i (A := Ay204) (l := y204) 0 rfl; (with_reducible refine (codewrightref09_SameInts.calls kj8 _ _ t157 _ _ y204 true _ hx1 HLt157.out hx2 HLy204.out A121.out).mono ?_); clear hx1 hx2; rintro e w' ⟨rfl, ⟨nd, rfl⟩⟩; replace HF := Aside0.mk (HF.out.below (pw_below_drewN (Below.refl _ _) nd)); replace HB := Aside0.mk (pw_below_drewN HB.out nd); generalize w49.drewN nd = w50 at HF HB ⊢; clear nd))
 go_ret
 exact ⟨by first | rfl | (simp [*]; done), HB.out⟩
end Go.Proofs.Ytkifipakikbhcaa.La
namespace Go.Proofs.Ytkifipakikbhcaa.Hand
open Go.RowKit Go.Proofs.YtkifipakikbhcaaW.PrintWords Go.Proofs.YtkifipakikbhcaaW.PrintLast Go.Proofs.YtkifipakikbhcaaW.PrintMore
def codewrightlaw44_awake.f : Option Bool := some true
theorem codewrightlaw44_awake.calls (r : Bool) (w : World) (h : codewrightlaw44_awake.f = some r) :
  Calls Try.prog 12 #[] w fun e w' => e = .returned (.bool r) ∧ Below w.heap.size w w' := by
 have e : true = r := Option.some.inj h
 subst e
 exact La.awake_walk 4096 4096 ((([1, 1, 0, 1, 0, 0, 0] : List Int))) rfl ((([0, 1, 1, 0, 1, 0, 0] : List Int))) rfl ((([0, 0, 1, 1, 0, 1, 0] : List Int))) rfl ((([0, 0, 0, 1, 1, 0, 1] : List Int))) rfl ((([(([1, 1, 0, 1, 0, 0, 0] : List Int)), (([0, 1, 1, 0, 1, 0, 0] : List Int)), (([0, 0, 1, 1, 0, 1, 0] : List Int)), (([0, 0, 0, 1, 1, 0, 1] : List Int))] : List (List Int)))) rfl ((([1, 1, 0, 0, 1, 0, 1] : List Int))) rfl 7 [[0, 1, 3], [1, 2, 4], [2, 3, 5], [3, 4, 6]] 0 (by decide +kernel) 6 0 (by decide +kernel) [0, 1, 2, 5] 0 (by decide +kernel) ((([5, 6] : List Int))) rfl 0 (by decide +kernel) ((([0, 1, 0, 1, 1, 0, 1] : List Int))) rfl ((([0, 3] : List Int))) rfl [1, 1, 0, 0, 1, 0, 1] [] 0 (by decide +kernel) ((([0, 1, 4, 6] : List Int))) rfl [0, 0, 0, 0, 0, 0, 0] [0, 1, 4, 6] 0 (by decide +kernel) ((([1, 0, 0, 0, 0, 0, 0] : List Int))) rfl [] [] 12 (by decide +kernel) ((([0, 1, 2, 4] : List Int))) rfl [] 0 (by decide +kernel) rfl rfl rfl rfl rfl rfl rfl ((([0, 1, 3] : List Int))) rfl ((([1, 2, 4] : List Int))) rfl ((([2, 3, 5] : List Int))) rfl ((([3, 4, 6] : List Int))) rfl ((([(([0, 1, 3] : List Int)), (([1, 2, 4] : List Int)), (([2, 3, 5] : List Int)), (([3, 4, 6] : List Int))] : List (List Int)))) rfl (by decide +kernel) rfl ((([0, 1, 2, 5] : List Int))) rfl (by decide +kernel) rfl 0 (by decide +kernel) rfl (by decide +kernel) rfl ((List.replicate 7 0)) rfl (by decide +kernel) ((([0, 1, 4, 6] : List Int))) rfl (by decide +kernel) rfl w
end Go.Proofs.Ytkifipakikbhcaa.Hand
namespace Go.Proofs.Ytkifipakikbhcaa.Lc
open Go.Proofs.Ytkifipakikbhcaa.Ref Go.Proofs.Ytkifipakikbhcaa.Pg Go.Proofs.Ytkifipakikbhcaa.Pk Go.Proofs.Ytkifipakikbhcaa.Pm Go.Proofs.Ytkifipakikbhcaa.Hand
open Go.RowKit Go.Proofs.YtkifipakikbhcaaW.PrintWords Go.Proofs.YtkifipakikbhcaaW.PrintLast Go.Proofs.YtkifipakikbhcaaW.PrintMore
attribute [local go_sem] max2_int min2_int max_two min_two max_three min_three max_four min_four
def errW : Option Int → Value
 | none => .nilIface
 | some c => .iface 0 (.int .i64 c)
theorem errW_none : errW none = .nilIface := rfl
theorem errW_some (c : Int) : errW (some c) = .iface 0 (.int .i64 c) := rfl
theorem info3 : (Try.prog.info? 3).map (fun i => (i.zero, i.size, i.bytes)) = some (some (.int .i64 0), 1, 8) := by kernel_rfl
def rd_L1 (xs : List (List Int)) (i : Int) : (List Int) := xs.getD i.toNat ([] : List Int)
end Go.Proofs.Ytkifipakikbhcaa.Lc
namespace Go.Proofs.Ytkifipakikbhcaa.Ref
open Go.RowKit Go.Proofs.YtkifipakikbhcaaW.PrintWords Go.Proofs.YtkifipakikbhcaaW.PrintLast Go.Proofs.YtkifipakikbhcaaW.PrintMore
attribute [local go_sem] max2_int min2_int max_two min_two max_three min_three max_four min_four
def codewrightref10_Rising.l0 : Nat → List Int → Int → Int → Option (Bool)
 | 0, _, _, _ => none
 | k + 1, x0, x1, x5 => if x5 < (x0.length : Int) then (if 0 ≤ x5 then (if (rd x0 x5) < 0 then (some false) else (if (rd x0 x5) ≥ x1 then (some false) else (if x5 > 0 then (if 0 ≤ (wrap64 (x5 - 1)) then (if (wrap64 (x5 - 1)) < (x0.length : Int) then (if (rd x0 x5) ≤ (rd x0 (wrap64 (x5 - 1))) then (some false) else (codewrightref10_Rising.l0 k x0 x1 (wrap64 (x5 + 1)))) else (none)) else (none)) else (codewrightref10_Rising.l0 k x0 x1 (wrap64 (x5 + 1)))))) else (none)) else (some true)
def codewrightref10_Rising.f (k : Nat) (l0 : List Int) (a1 : Int) : Option (Bool) := codewrightref10_Rising.l0 k l0 a1 0
theorem codewrightref10_Rising.calls (k : Nat) (A0 : Option Addr) (c0 : Nat) (l0 : List Int) (a1 : Int) (r : Bool) (w : World) (hr0 : Kd.C (Kd.int .i64) w A0 l0.length l0) (hc0 : l0.length ≤ c0) (h : codewrightref10_Rising.f k l0 a1 = some r) :
  Calls Try.prog 37 #[.slice A0 l0.length c0, .int .i64 a1] w fun e w' => e = .returned (.bool r) ∧ Drawn0 w w' := by
 have HR0 := Aside0.mk hr0
 have HC0 := Aside0.mk hc0
 clear hr0 hc0
 have H : (codewrightref10_Rising.l0 k l0 a1 0) = some r := h
 clear h
 have H' := Aside0.mk H
 clear H
 go_enter Try.func37, Try.ntmps37
 go_wp2
 repeat (go_quiet (fail); try go_wp2)
 go_loopg [5] k (fun kq v5 w' => ∃ (x5_1 : Int), v5 = .int .i64 x5_1 ∧ Aside0 (codewrightref10_Rising.l0 kq l0 a1 x5_1 = some r) ∧ Aside0 (kq ≤ k) ∧ Drawn0 w w')
 case atStart => exact ⟨(0), (by first | rfl | (simp; done) | (simp [*]; done)), H', ⟨Nat.le_refl _⟩, by repeat (first | exact Drawn0.refl _ | apply Drawn0.step)⟩
 case round =>
  clear H'
  try clear p2
  obtain ⟨x5_1, rfl, HA, HK1, ⟨m1, rfl⟩⟩ := hrel
  cases gk with
  | zero => exact absurd HA.out (by simp [codewrightref10_Rising.l0])
  | succ k1 =>
   have H := HA.out
   clear HA
   simp only [codewrightref10_Rising.l0] at H
   by_cases c3 : x5_1 < (l0.length : Int)
   ·rw [if_pos c3] at H
    have c3b0 : decide (x5_1 < (l0.length : Int)) = true := decide_eq_true c3
    clear c3
    by_cases c4 : 0 ≤ x5_1
    ·rw [if_pos c4] at H
     have c4b0 : decide (0 ≤ x5_1) = true := decide_eq_true c4
     clear c4
     by_cases c5 : (rd l0 x5_1) < 0
     ·rw [if_pos c5] at H
      have c5b0 : decide ((rd l0 x5_1) < 0) = true := decide_eq_true c5
      clear c5
      obtain rfl := Option.some.inj H
      have p101 : 0 ≤ (x5_1 : Int) := of_decide_eq_true (by first | (with_reducible assumption) | assumption)
      have q101 : x5_1 < (l0.length : Int) := of_decide_eq_true (by first | (with_reducible assumption) | assumption)
      obtain ⟨ad101, e101, hx101_0⟩ := Kd.at_int HR0.out x5_1 p101 q101
      cases e101
      replace p101 := eq_true p101
      replace q101 := eq_true q101
      go_wp2
      repeat (go_quiet (fail); try go_wp2)
      go_ret
      exact ⟨by first | rfl | (simp; done) | (simp [*]; done), by repeat (first | exact Drawn0.refl _ | apply Drawn0.step)⟩
     ·rw [if_neg c5] at H
      have c5b0 : decide ((rd l0 x5_1) < 0) = false := decide_eq_false c5
      clear c5
      by_cases c6 : (rd l0 x5_1) ≥ a1
      ·rw [if_pos c6] at H
       have c6b0 : decide (a1 ≤ (rd l0 x5_1)) = true := decide_eq_true c6
       clear c6
       obtain rfl := Option.some.inj H
       have p101 : 0 ≤ (x5_1 : Int) := of_decide_eq_true (by first | (with_reducible assumption) | assumption)
       have q101 : x5_1 < (l0.length : Int) := of_decide_eq_true (by first | (with_reducible assumption) | assumption)
       obtain ⟨ad101, e101, hx101_0⟩ := Kd.at_int HR0.out x5_1 p101 q101
       cases e101
       replace p101 := eq_true p101
       replace q101 := eq_true q101
       have p102 : 0 ≤ (x5_1 : Int) := of_decide_eq_true (by first | (with_reducible assumption) | assumption)
       have q102 : x5_1 < (l0.length : Int) := of_decide_eq_true (by first | (with_reducible assumption) | assumption)
       obtain ⟨ad102, e102, hx102_0⟩ := Kd.at_int HR0.out x5_1 p102 q102
       obtain rfl : ad101 = ad102 := (by injection e102)
       replace p102 := eq_true p102
       replace q102 := eq_true q102
       go_wp2
       repeat (go_quiet (fail); try go_wp2)
       go_ret
       exact ⟨by first | rfl | (simp; done) | (simp [*]; done), by repeat (first | exact Drawn0.refl _ | apply Drawn0.step)⟩
      ·rw [if_neg c6] at H
       have c6b0 : decide (a1 ≤ (rd l0 x5_1)) = false := decide_eq_false c6
       clear c6
       by_cases c7 : x5_1 > 0
       ·rw [if_pos c7] at H
        have c7b0 : decide (0 < x5_1) = true := decide_eq_true c7
        clear c7
        obtain ⟨ji8, hji8⟩ : ∃ j_ : Int, (wrap64 (x5_1 - 1)) = j_ := ⟨_, rfl⟩
        replace H : (if 0 ≤ (ji8) then (if (ji8) < (l0.length : Int) then (if (rd l0 x5_1) ≤ (rd l0 (ji8)) then (some false) else (codewrightref10_Rising.l0 k1 l0 a1 (wrap64 (x5_1 + 1)))) else (none)) else (none)) = some r := by first | (rw [hji8] at H; exact H) | (simp only [hji8] at H ⊢; exact H)
        have hji8w : (IntKind.i64.wrap (x5_1 - 1)) = ji8 := (i64_w _).trans hji8
        by_cases c9 : 0 ≤ (ji8)
        ·rw [if_pos c9] at H
         have c9b0 : decide (0 ≤ (ji8)) = true := decide_eq_true c9
         clear c9
         by_cases c10 : (ji8) < (l0.length : Int)
         ·rw [if_pos c10] at H
          have c10b0 : decide ((ji8) < (l0.length : Int)) = true := decide_eq_true c10
          clear c10
          by_cases c11 : (rd l0 x5_1) ≤ (rd l0 (ji8))
          ·rw [if_pos c11] at H
           have c11b0 : decide ((rd l0 x5_1) ≤ (rd l0 (ji8))) = true := decide_eq_true c11
           clear c11
           obtain rfl := Option.some.inj H
           have p101 : 0 ≤ (x5_1 : Int) := of_decide_eq_true (by first | (with_reducible assumption) | assumption)
           have q101 : x5_1 < (l0.length : Int) := of_decide_eq_true (by first | (with_reducible assumption) | assumption)
           obtain ⟨ad101, e101, hx101_0⟩ := Kd.at_int HR0.out x5_1 p101 q101
           cases e101
           replace p101 := eq_true p101
           replace q101 := eq_true q101
           have p102 : 0 ≤ (x5_1 : Int) := of_decide_eq_true (by first | (with_reducible assumption) | assumption)
           have q102 : x5_1 < (l0.length : Int) := of_decide_eq_true (by first | (with_reducible assumption) | assumption)
           obtain ⟨ad102, e102, hx102_0⟩ := Kd.at_int HR0.out x5_1 p102 q102
           obtain rfl : ad101 = ad102 := (by injection e102)
           replace p102 := eq_true p102
           replace q102 := eq_true q102
           have p103 : 0 ≤ (x5_1 : Int) := of_decide_eq_true (by first | (with_reducible assumption) | assumption)
           have q103 : x5_1 < (l0.length : Int) := of_decide_eq_true (by first | (with_reducible assumption) | assumption)
           obtain ⟨ad103, e103, hx103_0⟩ := Kd.at_int HR0.out x5_1 p103 q103
           obtain rfl : ad101 = ad103 := (by injection e103)
           replace p103 := eq_true p103
           replace q103 := eq_true q103
           have p104 : 0 ≤ ((ji8) : Int) := of_decide_eq_true (by first | (with_reducible assumption) | assumption)
           have q104 : (ji8) < (l0.length : Int) := of_decide_eq_true (by first | (with_reducible assumption) | assumption)
           obtain ⟨ad104, e104, hx104_0⟩ := Kd.at_int HR0.out (ji8) p104 q104
           obtain rfl : ad101 = ad104 := (by injection e104)
           replace p104 := eq_true p104
           replace q104 := eq_true q104
           go_wp2
           repeat (go_quiet (fail); try go_wp2)
           go_ret
           exact ⟨by first | rfl | (simp; done) | (simp only [← hji8] <;> (first | rfl | simp)) | (simp [*]; done), by repeat (first | exact Drawn0.refl _ | apply Drawn0.step)⟩
          ·rw [if_neg c11] at H
           have c11b0 : decide ((rd l0 x5_1) ≤ (rd l0 (ji8))) = false := decide_eq_false c11
           clear c11
           have H' := Aside0.mk H
           clear H
           have p101 : 0 ≤ (x5_1 : Int) := of_decide_eq_true (by first | (with_reducible assumption) | assumption)
           have q101 : x5_1 < (l0.length : Int) := of_decide_eq_true (by first | (with_reducible assumption) | assumption)
           obtain ⟨ad101, e101, hx101_0⟩ := Kd.at_int HR0.out x5_1 p101 q101
           cases e101
           replace p101 := eq_true p101
           replace q101 := eq_true q101
           have p102 : 0 ≤ (x5_1 : Int) := of_decide_eq_true (by first | (with_reducible assumption) | assumption)
           have q102 : x5_1 < (l0.length : Int) := of_decide_eq_true (by first | (with_reducible assumption) | assumption)
           obtain ⟨ad102, e102, hx102_0⟩ := Kd.at_int HR0.out x5_1 p102 q102
           obtain rfl : ad101 = ad102 := (by injection e102)
           replace p102 := eq_true p102
           replace q102 := eq_true q102
           have p103 : 0 ≤ (x5_1 : Int) := of_decide_eq_true (by first | (with_reducible assumption) | assumption)
           have q103 : x5_1 < (l0.length : Int) := of_decide_eq_true (by first | (with_reducible assumption) | assumption)
           obtain ⟨ad103, e103, hx103_0⟩ := Kd.at_int HR0.out x5_1 p103 q103
           obtain rfl : ad101 = ad103 := (by injection e103)
           replace p103 := eq_true p103
           replace q103 := eq_true q103
           have p104 : 0 ≤ ((ji8) : Int) := of_decide_eq_true (by first | (with_reducible assumption) | assumption)
           have q104 : (ji8) < (l0.length : Int) := of_decide_eq_true (by first | (with_reducible assumption) | assumption)
           obtain ⟨ad104, e104, hx104_0⟩ := Kd.at_int HR0.out (ji8) p104 q104
           obtain rfl : ad101 = ad104 := (by injection e104)
           replace p104 := eq_true p104
           replace q104 := eq_true q104
           go_wp2
           repeat (go_quiet (fail); try go_wp2)
           go_roundg k1
           case measure => have := HK1.out; omega
           case rel => exact ⟨(wrap64 (x5_1 + 1)), (by first | rfl | (simp; done) | (simp [*]; done)), H', ⟨by have := HK1.out; omega⟩, by repeat (first | exact Drawn0.refl _ | apply Drawn0.step)⟩
         ·rw [if_neg c10] at H
          exact absurd H (by simp)
        ·rw [if_neg c9] at H
         exact absurd H (by simp)
       ·rw [if_neg c7] at H
        have c7b0 : decide (0 < x5_1) = false := decide_eq_false c7
        clear c7
        have H' := Aside0.mk H
        clear H
        have p101 : 0 ≤ (x5_1 : Int) := of_decide_eq_true (by first | (with_reducible assumption) | assumption)
        have q101 : x5_1 < (l0.length : Int) := of_decide_eq_true (by first | (with_reducible assumption) | assumption)
        obtain ⟨ad101, e101, hx101_0⟩ := Kd.at_int HR0.out x5_1 p101 q101
        cases e101
        replace p101 := eq_true p101
        replace q101 := eq_true q101
        have p102 : 0 ≤ (x5_1 : Int) := of_decide_eq_true (by first | (with_reducible assumption) | assumption)
        have q102 : x5_1 < (l0.length : Int) := of_decide_eq_true (by first | (with_reducible assumption) | assumption)
        obtain ⟨ad102, e102, hx102_0⟩ := Kd.at_int HR0.out x5_1 p102 q102
        obtain rfl : ad101 = ad102 := (by injection e102)
        replace p102 := eq_true p102
        replace q102 := eq_true q102
        go_wp2
        repeat (go_quiet (fail); try go_wp2)
        go_roundg k1
        case measure => have := HK1.out; omega
        case rel => exact ⟨(wrap64 (x5_1 + 1)), (by first | rfl | (simp; done) | (simp [*]; done)), H', ⟨by have := HK1.out; omega⟩, by repeat (first | exact Drawn0.refl _ | apply Drawn0.step)⟩
    ·rw [if_neg c4] at H
     exact absurd H (by simp)
   ·rw [if_neg c3] at H
    have c3b0 : decide (x5_1 < (l0.length : Int)) = false := decide_eq_false c3
    clear c3
    obtain rfl := Option.some.inj H
    go_wp2
    repeat (go_quiet (fail); try go_wp2)
    go_ret
    exact ⟨by first | rfl | (simp; done) | (simp [*]; done), by repeat (first | exact Drawn0.refl _ | apply Drawn0.step)⟩
end Go.Proofs.Ytkifipakikbhcaa.Ref
namespace Go.Proofs.Ytkifipakikbhcaa.Ref
open Go.RowKit Go.Proofs.YtkifipakikbhcaaW.PrintWords Go.Proofs.YtkifipakikbhcaaW.PrintLast Go.Proofs.YtkifipakikbhcaaW.PrintMore
attribute [local go_sem] max2_int min2_int max_two min_two max_three min_three max_four min_four
mutual
def codewrightref44_Check.j0 : Nat → Bool → Int → List (List Int) → Option (Int)
 | 0, _, _, _ => none
 | k + 1, x11, x106000, x106001 => if x11 = true then (some 4) else (if (x106001.length : Int) > 256 then (some 8) else (codewrightref44_Check.l0 k 0 x106000 x106001))
def codewrightref44_Check.l0 : Nat → Int → Int → List (List Int) → Option (Int)
 | 0, _, _, _ => none
 | k + 1, x3, x106000, x106001 => if x3 < (x106001.length : Int) then (if 0 ≤ x3 then ((codewrightref10_Rising.f k (rd_L1 x106001 x3) x106000).bind fun t107 => (if t107 = true then (codewrightref44_Check.l0 k (wrap64 (x3 + 1)) x106000 x106001) else (some 6))) else (none)) else (some 0)
end
def codewrightref44_Check.f (k : Nat) (a0_0 : Int) (l0_1 : List (List Int)) : Option (Int) := if a0_0 < 1 then (codewrightref44_Check.j0 k true a0_0 l0_1) else (codewrightref44_Check.j0 k (decide (a0_0 > 64)) a0_0 l0_1)
theorem codewrightref44_Check.calls (k : Nat) (a0_0 : Int) (A0_1 : Option Addr) (c0_1 : Nat) (l0_1 : List (List Int)) (r : Int) (w : World) (hr0_1 : Kd.C (Kd.slice 3 (Kd.int .i64)) w A0_1 l0_1.length l0_1) (hc0_1 : l0_1.length ≤ c0_1) (h : codewrightref44_Check.f k a0_0 l0_1 = some r) :
  Calls Try.prog 23 #[.agg #[.int .i64 a0_0, .slice A0_1 l0_1.length c0_1]] w fun e w' => e = .returned (.int .i64 r) ∧ Below w.heap.size w w' := by
 have hu31 := Try.underlying31
 have HR0_1 := Aside0.mk hr0_1
 have HC0_1 := Aside0.mk hc0_1
 clear hr0_1 hc0_1
 have HB := Aside0.mk (Below.refl w.heap.size w)
 have H : (if a0_0 < 1 then (codewrightref44_Check.j0 k true a0_0 l0_1) else (codewrightref44_Check.j0 k (decide (a0_0 > 64)) a0_0 l0_1)) = some r := h
 clear h
 have HC2 := Aside0.mk H
 clear H
 go_enter Try.func23, Try.ntmps23
 go_upto_region 1 with (first | ((with_reducible refine gate_dst (N := 1) rfl ?_); refine box_event ?hg (N := 1) ?hd (cs := #[.int .i64 a0_0, .slice A0_1 l0_1.length c0_1]) (t := 31) ?hr ?_; (case hd => rfl); (case hg => rfl); (case hr => first | (go_simp; done) | (go_simp; rfl)); intro gb105 hg w3 hbox hb; have n0_ := Aside0.mk (below_step (by repeat (first | (with_reducible first | exact HB.out | apply below_alloc | apply pw_below_drewN | apply below_drew1) | exact HB.out)) hb); have n1_ := Aside0.mk (hbox); have n2_ := Aside0.mk ((by rw [hg]; exact (below_size (by repeat (first | (with_reducible first | exact HB.out | apply below_alloc | apply pw_below_drewN | apply below_drew1) | exact HB.out))) : w.heap.size ≤ gb105)); have n3_ := Aside0.mk ((by rw [hg]; exact (below_size (by repeat (first | (with_reducible first | exact HB.out | apply below_alloc | apply pw_below_drewN | apply below_drew1) | exact HB.out))) : w.heap.size ≤ gb105)); clear HB; have HB := n0_; have BK105 := n1_; have GW105 := n2_; have GE105 := n3_; clear n0_ n1_ n2_ n3_; clear hb hbox hg))
 repeat (go_quiet (first | ((with_reducible refine gate_dst (N := 1) rfl ?_); refine box_event ?hg (N := 1) ?hd (cs := #[.int .i64 a0_0, .slice A0_1 l0_1.length c0_1]) (t := 31) ?hr ?_; (case hd => rfl); (case hg => rfl); (case hr => first | (go_simp; done) | (go_simp; rfl)); intro gb105 hg w3 hbox hb; have n0_ := Aside0.mk (below_step (by repeat (first | (with_reducible first | exact HB.out | apply below_alloc | apply pw_below_drewN | apply below_drew1) | exact HB.out)) hb); have n1_ := Aside0.mk (hbox); have n2_ := Aside0.mk ((by rw [hg]; exact (below_size (by repeat (first | (with_reducible first | exact HB.out | apply below_alloc | apply pw_below_drewN | apply below_drew1) | exact HB.out))) : w.heap.size ≤ gb105)); have n3_ := Aside0.mk ((by rw [hg]; exact (below_size (by repeat (first | (with_reducible first | exact HB.out | apply below_alloc | apply pw_below_drewN | apply below_drew1) | exact HB.out))) : w.heap.size ≤ gb105)); clear HB; have HB := n0_; have BK105 := n1_; have GW105 := n2_; have GE105 := n3_; clear n0_ n1_ n2_ n3_; clear hb hbox hg)); go_upto_region 1 with (first | ((with_reducible refine gate_dst (N := 1) rfl ?_); refine box_event ?hg (N := 1) ?hd (cs := #[.int .i64 a0_0, .slice A0_1 l0_1.length c0_1]) (t := 31) ?hr ?_; (case hd => rfl); (case hg => rfl); (case hr => first | (go_simp; done) | (go_simp; rfl)); intro gb105 hg w3 hbox hb; have n0_ := Aside0.mk (below_step (by repeat (first | (with_reducible first | exact HB.out | apply below_alloc | apply pw_below_drewN | apply below_drew1) | exact HB.out)) hb); have n1_ := Aside0.mk (hbox); have n2_ := Aside0.mk ((by rw [hg]; exact (below_size (by repeat (first | (with_reducible first | exact HB.out | apply below_alloc | apply pw_below_drewN | apply below_drew1) | exact HB.out))) : w.heap.size ≤ gb105)); have n3_ := Aside0.mk ((by rw [hg]; exact (below_size (by repeat (first | (with_reducible first | exact HB.out | apply below_alloc | apply pw_below_drewN | apply below_drew1) | exact HB.out))) : w.heap.size ≤ gb105)); clear HB; have HB := n0_; have BK105 := n1_; have GW105 := n2_; have GE105 := n3_; clear n0_ n1_ n2_ n3_; clear hb hbox hg)))
 (try simp only [Act.put, List.setIfInBounds_toArray, List.set_cons_zero, List.set_cons_succ])
 go_cut [11] (fun v11 wc => ∃ (kq : Nat) (x11_1 : Bool), v11 = .bool x11_1 ∧ Aside0 (codewrightref44_Check.j0 kq x11_1 a0_0 l0_1 = some r) ∧ Aside0 (kq ≤ k) ∧ Aside0 (wc.heap[gb105]? = some (.cells #[.int .i64 a0_0, (.slice A0_1 l0_1.length c0_1)] 31 (0, 0))) ∧ Aside0 (Below w.heap.size w wc))
 case first =>
  have H := HC2.out
  clear HC2
  by_cases c4 : a0_0 < 1
  ·rw [if_pos c4] at H
   have c4b0 : decide (a0_0 < 1) = true := decide_eq_true c4
   clear c4
   (first | rw [c4b0] | (simp only [i64_w, i32_w]; rw [c4b0]) | skip)
   have H' := Aside0.mk H
   clear H
   have hcz5_0 : w3.cell? ⟨gb105, 0, none⟩ = some (.int .i64 a0_0) := (blk_cell BK105.out 0).trans rfl
   have hcz5_1 : w3.cell? ⟨gb105, 1, none⟩ = some (.slice A0_1 l0_1.length c0_1) := (blk_cell BK105.out 1).trans rfl
   have hfz5_0 := blk_frozen BK105.out 0
   have hfz5_1 := blk_frozen BK105.out 1
   go_wp2
   repeat (go_quiet (fail); try go_wp2)
   go_meet
   case rel => exact ⟨_, (true), (by first | rfl | (simp; done) | (simp [*]; done)), H', ⟨by first | omega | exact Nat.le_refl _⟩, ⟨by (with_reducible repeat (first | refine blk_drewN ?_ _ | refine blk_drew ?_ | refine blk_alloc ?_ _)); exact BK105.out⟩, ⟨by repeat (first | (with_reducible first | exact HB.out | apply below_alloc | apply pw_below_drewN | apply below_drew1 | refine below_set ?_ GE105.out) | exact HB.out)⟩⟩
  ·rw [if_neg c4] at H
   have c4b0 : decide (a0_0 < 1) = false := decide_eq_false c4
   clear c4
   (first | rw [c4b0] | (simp only [i64_w, i32_w]; rw [c4b0]) | skip)
   have H' := Aside0.mk H
   clear H
   have hcz6_0 : w3.cell? ⟨gb105, 0, none⟩ = some (.int .i64 a0_0) := (blk_cell BK105.out 0).trans rfl
   have hcz6_1 : w3.cell? ⟨gb105, 1, none⟩ = some (.slice A0_1 l0_1.length c0_1) := (blk_cell BK105.out 1).trans rfl
   have hfz6_0 := blk_frozen BK105.out 0
   have hfz6_1 := blk_frozen BK105.out 1
   go_wp2
   repeat (go_quiet (fail); try go_wp2)
   go_meet
   case rel => exact ⟨_, (decide (a0_0 > 64)), (by first | rfl | (simp; done) | (simp [*]; done)), H', ⟨by first | omega | exact Nat.le_refl _⟩, ⟨by (with_reducible repeat (first | refine blk_drewN ?_ _ | refine blk_drew ?_ | refine blk_alloc ?_ _)); exact BK105.out⟩, ⟨by repeat (first | (with_reducible first | exact HB.out | apply below_alloc | apply pw_below_drewN | apply below_drew1 | refine below_set ?_ GE105.out) | exact HB.out)⟩⟩
 case rest =>
  clear HC2
  try clear c2
  try clear p2
  try clear c4
  try clear c4b0
  try clear hcz5_0
  try clear hcz5_1
  try clear hcz6_0
  try clear hcz6_1
  try clear hfz5_0
  try clear hfz5_1
  try clear hfz6_0
  try clear hfz6_1
  obtain ⟨kq, x11_1, rfl, HA, HJ1, BK105, HB⟩ := hcut
  cases kq with
  | zero => exact absurd HA.out (by simp [codewrightref44_Check.j0])
  | succ kj1 =>
   have H := HA.out
   clear HA
   simp only [codewrightref44_Check.j0] at H
   by_cases c7 : x11_1 = true
   ·subst c7
    have H1 : (some 4) = some r := by rw [if_pos rfl] at H; exact H
    clear H
    have H := H1
    clear H1
    obtain rfl := Option.some.inj H
    go_wp2
    repeat (go_quiet (fail); try go_wp2)
    go_ret
    exact ⟨by first | rfl | (simp [errW_none, errW_some] <;> rfl) | (simp [*, errW_none, errW_some] <;> rfl), by repeat (first | (with_reducible first | exact HB.out | apply below_alloc | apply pw_below_drewN | apply below_drew1 | refine below_set ?_ GE105.out) | exact HB.out)⟩
   ·replace c7 := Bool.eq_false_iff.mpr c7
    subst c7
    have H1 : (if (l0_1.length : Int) > 256 then (some 8) else (codewrightref44_Check.l0 kj1 0 a0_0 l0_1)) = some r := by rw [if_neg (show ¬ (false = true) by decide)] at H; exact H
    clear H
    have H := H1
    clear H1
    by_cases c8 : (l0_1.length : Int) > 256
    ·rw [if_pos c8] at H
     have c8b0 : decide (256 < (l0_1.length : Int)) = true := decide_eq_true c8
     have c8b1 : decide (256 < l0_1.length) = true := decide_eq_true (by omega)
     clear c8
     obtain rfl := Option.some.inj H
     have hcz9_0 : wc.cell? ⟨gb105, 0, none⟩ = some (.int .i64 a0_0) := (blk_cell BK105.out 0).trans rfl
     have hcz9_1 : wc.cell? ⟨gb105, 1, none⟩ = some (.slice A0_1 l0_1.length c0_1) := (blk_cell BK105.out 1).trans rfl
     have hfz9_0 := blk_frozen BK105.out 0
     have hfz9_1 := blk_frozen BK105.out 1
     go_wp2
     repeat (go_quiet (fail); try go_wp2)
     go_ret
     exact ⟨by first | rfl | (simp [errW_none, errW_some] <;> rfl) | (simp [*, errW_none, errW_some] <;> rfl), by repeat (first | (with_reducible first | exact HB.out | apply below_alloc | apply pw_below_drewN | apply below_drew1 | refine below_set ?_ GE105.out) | exact HB.out)⟩
    ·rw [if_neg c8] at H
     have c8b0 : decide (256 < (l0_1.length : Int)) = false := decide_eq_false c8
     have c8b1 : decide (256 < l0_1.length) = false := decide_eq_false (by omega)
     clear c8
     have H' := Aside0.mk H
     clear H
     have hcz10_0 : wc.cell? ⟨gb105, 0, none⟩ = some (.int .i64 a0_0) := (blk_cell BK105.out 0).trans rfl
     have hcz10_1 : wc.cell? ⟨gb105, 1, none⟩ = some (.slice A0_1 l0_1.length c0_1) := (blk_cell BK105.out 1).trans rfl
     have hfz10_0 := blk_frozen BK105.out 0
     have hfz10_1 := blk_frozen BK105.out 1
     go_wp2
     repeat (go_quiet (fail); try go_wp2)
     go_loopg [3] kj1 (fun kq v3 w' => ∃ (x3_2 : Int), v3 = .int .i64 x3_2 ∧ Aside0 (codewrightref44_Check.l0 kq x3_2 a0_0 l0_1 = some r) ∧ Aside0 (kq ≤ kj1) ∧ Aside0 (w'.heap[gb105]? = some (.cells #[.int .i64 a0_0, (.slice A0_1 l0_1.length c0_1)] 31 (0, 0))) ∧ Aside0 (Below w.heap.size w w'))
     case atStart => exact ⟨(0), (by first | rfl | (simp; done) | (simp [*]; done)), H', ⟨Nat.le_refl _⟩, ⟨by (with_reducible repeat (first | refine blk_drewN ?_ _ | refine blk_drew ?_ | refine blk_alloc ?_ _)); exact BK105.out⟩, ⟨by repeat (first | (with_reducible first | exact HB.out | apply below_alloc | apply pw_below_drewN | apply below_drew1 | refine below_set ?_ GE105.out) | exact HB.out)⟩⟩
     case round =>
      clear H'
      try clear c2
      try clear p2
      try clear c4
      try clear c4b0
      try clear c7
      try clear c8
      try clear c8b0
      try clear c8b1
      try clear hcz10_0
      try clear hcz10_1
      try clear hcz5_0
      try clear hcz5_1
      try clear hcz6_0
      try clear hcz6_1
      try clear hcz9_0
      try clear hcz9_1
      try clear hfz10_0
      try clear hfz10_1
      try clear hfz5_0
      try clear hfz5_1
      try clear hfz6_0
      try clear hfz6_1
      try clear hfz9_0
      try clear hfz9_1
      try clear p2
      obtain ⟨x3_2, rfl, HA, HK2, BK105, HB⟩ := hrel
      cases gk with
      | zero => exact absurd HA.out (by simp [codewrightref44_Check.l0])
      | succ k2 =>
       have H := HA.out
       clear HA
       simp only [codewrightref44_Check.l0] at H
       by_cases c11 : x3_2 < (l0_1.length : Int)
       ·rw [if_pos c11] at H
        have c11b0 : decide (x3_2 < (l0_1.length : Int)) = true := decide_eq_true c11
        clear c11
        by_cases c12 : 0 ≤ x3_2
        ·rw [if_pos c12] at H
         have c12b0 : decide (0 ≤ x3_2) = true := decide_eq_true c12
         clear c12
         replace H := Option.bind_eq_some_iff.mp H
         obtain ⟨t107, A130, H⟩ := H
         replace H : (if t107 = true then (codewrightref44_Check.l0 k2 (wrap64 (x3_2 + 1)) a0_0 l0_1) else (some 6)) = some r := H
         have A13 := Aside0.mk A130
         clear A130
         by_cases c14 : t107 = true
         ·subst c14
          have H1 : (codewrightref44_Check.l0 k2 (wrap64 (x3_2 + 1)) a0_0 l0_1) = some r := by rw [if_pos rfl] at H; exact H
          clear H
          have H := H1
          clear H1
          have H' := Aside0.mk H
          clear H
          have hcz15_0 : wr.cell? ⟨gb105, 0, none⟩ = some (.int .i64 a0_0) := (blk_cell BK105.out 0).trans rfl
          have hcz15_1 : wr.cell? ⟨gb105, 1, none⟩ = some (.slice A0_1 l0_1.length c0_1) := (blk_cell BK105.out 1).trans rfl
          have hfz15_0 := blk_frozen BK105.out 0
          have hfz15_1 := blk_frozen BK105.out 1
          have p106 : 0 ≤ (x3_2 : Int) := of_decide_eq_true (by first | (with_reducible assumption) | assumption)
          have q106 : x3_2 < (l0_1.length : Int) := of_decide_eq_true (by first | (with_reducible assumption) | assumption)
          obtain ⟨ad106, A106_0, c106_0, e106, hx106_0, hl106_0, hi106_0⟩ := at_L1 HR0_1.out x3_2 p106 q106
          cases e106
          replace hx106_0 := (HB.out.cell (World.block_lt_of_cell? w _ hx106_0)).trans hx106_0
          have HR106_0 := Aside0.mk hi106_0
          have HC106_0 := Aside0.mk hl106_0
          clear hi106_0 hl106_0
          replace p106 := eq_true p106
          replace q106 := eq_true q106
          go_wp2_with (first | (go_at_call 37; (with_reducible refine (codewrightref10_Rising.calls k2 _ _ (rd_L1 l0_1 x3_2) a0_0 true _ ?side1 ?side2 A13.out).mono ?_); (case side1 => repeat (first | exact (Kd.C_below HR106_0.out HB.out) | (with_reducible refine Kd.C_alloc ?_ _) | (with_reducible refine Kd.C_drewN ?_ _) | (with_reducible refine Kd.C_drew ?_))); (case side2 => exact HC106_0.out); rintro e w' ⟨rfl, ⟨nd, rfl⟩⟩; (try first | exact ⟨rfl, _, World.drewN_drewN _ _ _⟩ | exact ⟨rfl, _, Eq.trans (World.drewN_drewN _ _ _) (congrArg (World.drewN _) (Nat.add_assoc _ _ _))⟩)))
          repeat (go_quiet (first | (go_at_call 37; (with_reducible refine (codewrightref10_Rising.calls k2 _ _ (rd_L1 l0_1 x3_2) a0_0 true _ ?side1 ?side2 A13.out).mono ?_); (case side1 => repeat (first | exact (Kd.C_below HR106_0.out HB.out) | (with_reducible refine Kd.C_alloc ?_ _) | (with_reducible refine Kd.C_drewN ?_ _) | (with_reducible refine Kd.C_drew ?_))); (case side2 => exact HC106_0.out); rintro e w' ⟨rfl, ⟨nd, rfl⟩⟩; (try first | exact ⟨rfl, _, World.drewN_drewN _ _ _⟩ | exact ⟨rfl, _, Eq.trans (World.drewN_drewN _ _ _) (congrArg (World.drewN _) (Nat.add_assoc _ _ _))⟩))); try go_wp2_with (first | (go_at_call 37; (with_reducible refine (codewrightref10_Rising.calls k2 _ _ (rd_L1 l0_1 x3_2) a0_0 true _ ?side1 ?side2 A13.out).mono ?_); (case side1 => repeat (first | exact (Kd.C_below HR106_0.out HB.out) | (with_reducible refine Kd.C_alloc ?_ _) | (with_reducible refine Kd.C_drewN ?_ _) | (with_reducible refine Kd.C_drew ?_))); (case side2 => exact HC106_0.out); rintro e w' ⟨rfl, ⟨nd, rfl⟩⟩; (try first | exact ⟨rfl, _, World.drewN_drewN _ _ _⟩ | exact ⟨rfl, _, Eq.trans (World.drewN_drewN _ _ _) (congrArg (World.drewN _) (Nat.add_assoc _ _ _))⟩))))
          go_roundg k2
          case measure => have := HJ1.out; have := HK2.out; omega
          case rel => exact ⟨(wrap64 (x3_2 + 1)), (by first | rfl | (simp; done) | (simp [*]; done)), H', ⟨by have := HJ1.out; have := HK2.out; omega⟩, ⟨by (with_reducible repeat (first | refine blk_drewN ?_ _ | refine blk_drew ?_ | refine blk_alloc ?_ _)); exact BK105.out⟩, ⟨by repeat (first | (with_reducible first | exact HB.out | apply below_alloc | apply pw_below_drewN | apply below_drew1 | refine below_set ?_ GE105.out) | exact HB.out)⟩⟩
         ·replace c14 := Bool.eq_false_iff.mpr c14
          subst c14
          have H1 : (some 6) = some r := by rw [if_neg (show ¬ (false = true) by decide)] at H; exact H
          clear H
          have H := H1
          clear H1
          obtain rfl := Option.some.inj H
          have hcz16_0 : wr.cell? ⟨gb105, 0, none⟩ = some (.int .i64 a0_0) := (blk_cell BK105.out 0).trans rfl
          have hcz16_1 : wr.cell? ⟨gb105, 1, none⟩ = some (.slice A0_1 l0_1.length c0_1) := (blk_cell BK105.out 1).trans rfl
          have hfz16_0 := blk_frozen BK105.out 0
          have hfz16_1 := blk_frozen BK105.out 1
          have p106 : 0 ≤ (x3_2 : Int) := of_decide_eq_true (by first | (with_reducible assumption) | assumption)
          have q106 : x3_2 < (l0_1.length : Int) := of_decide_eq_true (by first | (with_reducible assumption) | assumption)
          obtain ⟨ad106, A106_0, c106_0, e106, hx106_0, hl106_0, hi106_0⟩ := at_L1 HR0_1.out x3_2 p106 q106
          cases e106
          replace hx106_0 := (HB.out.cell (World.block_lt_of_cell? w _ hx106_0)).trans hx106_0
          have HR106_0 := Aside0.mk hi106_0
          have HC106_0 := Aside0.mk hl106_0
          clear hi106_0 hl106_0
          replace p106 := eq_true p106
          replace q106 := eq_true q106
          go_wp2_with (first | (go_at_call 37; (with_reducible refine (codewrightref10_Rising.calls k2 _ _ (rd_L1 l0_1 x3_2) a0_0 false _ ?side1 ?side2 A13.out).mono ?_); (case side1 => repeat (first | exact (Kd.C_below HR106_0.out HB.out) | (with_reducible refine Kd.C_alloc ?_ _) | (with_reducible refine Kd.C_drewN ?_ _) | (with_reducible refine Kd.C_drew ?_))); (case side2 => exact HC106_0.out); rintro e w' ⟨rfl, ⟨nd, rfl⟩⟩; (try first | exact ⟨rfl, _, World.drewN_drewN _ _ _⟩ | exact ⟨rfl, _, Eq.trans (World.drewN_drewN _ _ _) (congrArg (World.drewN _) (Nat.add_assoc _ _ _))⟩)))
          repeat (go_quiet (first | (go_at_call 37; (with_reducible refine (codewrightref10_Rising.calls k2 _ _ (rd_L1 l0_1 x3_2) a0_0 false _ ?side1 ?side2 A13.out).mono ?_); (case side1 => repeat (first | exact (Kd.C_below HR106_0.out HB.out) | (with_reducible refine Kd.C_alloc ?_ _) | (with_reducible refine Kd.C_drewN ?_ _) | (with_reducible refine Kd.C_drew ?_))); (case side2 => exact HC106_0.out); rintro e w' ⟨rfl, ⟨nd, rfl⟩⟩; (try first | exact ⟨rfl, _, World.drewN_drewN _ _ _⟩ | exact ⟨rfl, _, Eq.trans (World.drewN_drewN _ _ _) (congrArg (World.drewN _) (Nat.add_assoc _ _ _))⟩))); try go_wp2_with (first | (go_at_call 37; (with_reducible refine (codewrightref10_Rising.calls k2 _ _ (rd_L1 l0_1 x3_2) a0_0 false _ ?side1 ?side2 A13.out).mono ?_); (case side1 => repeat (first | exact (Kd.C_below HR106_0.out HB.out) | (with_reducible refine Kd.C_alloc ?_ _) | (with_reducible refine Kd.C_drewN ?_ _) | (with_reducible refine Kd.C_drew ?_))); (case side2 => exact HC106_0.out); rintro e w' ⟨rfl, ⟨nd, rfl⟩⟩; (try first | exact ⟨rfl, _, World.drewN_drewN _ _ _⟩ | exact ⟨rfl, _, Eq.trans (World.drewN_drewN _ _ _) (congrArg (World.drewN _) (Nat.add_assoc _ _ _))⟩))))
          go_ret
          exact ⟨by first | rfl | (simp [errW_none, errW_some] <;> rfl) | (simp [*, errW_none, errW_some] <;> rfl), by repeat (first | (with_reducible first | exact HB.out | apply below_alloc | apply pw_below_drewN | apply below_drew1 | refine below_set ?_ GE105.out) | exact HB.out)⟩
        ·rw [if_neg c12] at H
         exact absurd H (by simp)
       ·rw [if_neg c11] at H
        have c11b0 : decide (x3_2 < (l0_1.length : Int)) = false := decide_eq_false c11
        clear c11
        obtain rfl := Option.some.inj H
        have hcz17_0 : wr.cell? ⟨gb105, 0, none⟩ = some (.int .i64 a0_0) := (blk_cell BK105.out 0).trans rfl
        have hcz17_1 : wr.cell? ⟨gb105, 1, none⟩ = some (.slice A0_1 l0_1.length c0_1) := (blk_cell BK105.out 1).trans rfl
        have hfz17_0 := blk_frozen BK105.out 0
        have hfz17_1 := blk_frozen BK105.out 1
        go_wp2
        repeat (go_quiet (fail); try go_wp2)
        go_ret
        exact ⟨by first | rfl | (simp [errW_none, errW_some] <;> rfl) | (simp [*, errW_none, errW_some] <;> rfl), by repeat (first | (with_reducible first | exact HB.out | apply below_alloc | apply pw_below_drewN | apply below_drew1 | refine below_set ?_ GE105.out) | exact HB.out)⟩
end Go.Proofs.Ytkifipakikbhcaa.Ref
namespace Go.Proofs.Ytkifipakikbhcaa.Ref
open Go.RowKit Go.Proofs.YtkifipakikbhcaaW.PrintWords Go.Proofs.YtkifipakikbhcaaW.PrintLast Go.Proofs.YtkifipakikbhcaaW.PrintMore
attribute [local go_sem] max2_int min2_int max_two min_two max_three min_three max_four min_four
mutual
def codewrightref09_Few.j0 : Nat → Int → Bool → Int → List (List Int) → Option (Bool)
 | 0, _, _, _, _ => none
 | k + 1, x1, x16, x364000, x364001 => if x16 = true then (some false) else (codewrightref09_Few.l0 k (wrap64 (x1 - (x364001.length : Int))) 0 x364000 x364001)
def codewrightref09_Few.l0 : Nat → Int → Int → Int → List (List Int) → Option (Bool)
 | 0, _, _, _, _ => none
 | k + 1, x5, x6, x364000, x364001 => if x6 < (x364001.length : Int) then (if 0 ≤ x6 then (if ((rd_L1 x364001 x6).length : Int) > x5 then (some false) else (codewrightref09_Few.l0 k (wrap64 (x5 - ((rd_L1 x364001 x6).length : Int))) (wrap64 (x6 + 1)) x364000 x364001)) else (none)) else (some true)
end
def codewrightref09_Few.f (k : Nat) (a0_0 : Int) (l0_1 : List (List Int)) (a1 : Int) : Option (Bool) := if a0_0 > 260 then (codewrightref09_Few.j0 k a1 true a0_0 l0_1) else (codewrightref09_Few.j0 k a1 (decide ((l0_1.length : Int) > a1)) a0_0 l0_1)
theorem codewrightref09_Few.calls (k : Nat) (a0_0 : Int) (A0_1 : Option Addr) (c0_1 : Nat) (l0_1 : List (List Int)) (a1 : Int) (r : Bool) (w : World) (hr0_1 : Kd.C (Kd.slice 3 (Kd.int .i64)) w A0_1 l0_1.length l0_1) (hc0_1 : l0_1.length ≤ c0_1) (h : codewrightref09_Few.f k a0_0 l0_1 a1 = some r) :
  Calls Try.prog 13 #[.agg #[.int .i64 a0_0, .slice A0_1 l0_1.length c0_1], .int .i64 a1] w fun e w' => e = .returned (.bool r) ∧ Below w.heap.size w w' := by
 have hu27 := Try.underlying27
 have HR0_1 := Aside0.mk hr0_1
 have HC0_1 := Aside0.mk hc0_1
 clear hr0_1 hc0_1
 have HB := Aside0.mk (Below.refl w.heap.size w)
 have H : (if a0_0 > 260 then (codewrightref09_Few.j0 k a1 true a0_0 l0_1) else (codewrightref09_Few.j0 k a1 (decide ((l0_1.length : Int) > a1)) a0_0 l0_1)) = some r := h
 clear h
 have HC3 := Aside0.mk H
 clear H
 go_enter Try.func13, Try.ntmps13
 go_upto_region 1 with (first | ((with_reducible refine gate_dst (N := 2) rfl ?_); (try (refine gate_guard (by rfl) ?_; dsimp only)); refine box_event ?hg (N := 2) ?hd (cs := #[.int .i64 a0_0, .slice A0_1 l0_1.length c0_1]) (t := 27) ?hr ?_; (case hd => rfl); (case hg => rfl); (case hr => first | (go_simp; done) | (go_simp; rfl)); intro gb363 hg w4 hbox hb; have n0_ := Aside0.mk (below_step (by repeat (first | (with_reducible first | exact HB.out | apply below_alloc | apply pw_below_drewN | apply below_drew1) | exact HB.out)) hb); have n1_ := Aside0.mk (hbox); have n2_ := Aside0.mk ((by rw [hg]; exact (below_size (by repeat (first | (with_reducible first | exact HB.out | apply below_alloc | apply pw_below_drewN | apply below_drew1) | exact HB.out))) : w.heap.size ≤ gb363)); have n3_ := Aside0.mk ((by rw [hg]; exact (below_size (by repeat (first | (with_reducible first | exact HB.out | apply below_alloc | apply pw_below_drewN | apply below_drew1) | exact HB.out))) : w.heap.size ≤ gb363)); clear HB; have HB := n0_; have BK363 := n1_; have GW363 := n2_; have GE363 := n3_; clear n0_ n1_ n2_ n3_; clear hb hbox hg))
 (try simp only [Act.put, List.setIfInBounds_toArray, List.set_cons_zero, List.set_cons_succ])
 go_cut [16] (fun v16 wc => ∃ (kq : Nat) (x16_2 : Bool), v16 = .bool x16_2 ∧ Aside0 (codewrightref09_Few.j0 kq a1 x16_2 a0_0 l0_1 = some r) ∧ Aside0 (kq ≤ k) ∧ Aside0 (wc.heap[gb363]? = some (.cells #[.int .i64 a0_0, (.slice A0_1 l0_1.length c0_1)] 27 (0, 0))) ∧ Aside0 (Below w.heap.size w wc))
 case first =>
  have H := HC3.out
  clear HC3
  by_cases c5 : a0_0 > 260
  ·rw [if_pos c5] at H
   have c5b0 : decide (260 < a0_0) = true := decide_eq_true c5
   clear c5
   (first | rw [c5b0] | (simp only [i64_w, i32_w]; rw [c5b0]) | skip)
   have H' := Aside0.mk H
   clear H
   have hcz6_0 : w4.cell? ⟨gb363, 0, none⟩ = some (.int .i64 a0_0) := (blk_cell BK363.out 0).trans rfl
   have hcz6_1 : w4.cell? ⟨gb363, 1, none⟩ = some (.slice A0_1 l0_1.length c0_1) := (blk_cell BK363.out 1).trans rfl
   have hfz6_0 := blk_frozen BK363.out 0
   have hfz6_1 := blk_frozen BK363.out 1
   go_wp2
   go_meet
   case rel => exact ⟨_, (true), (by first | rfl | (simp; done) | (simp [*]; done)), H', ⟨by first | omega | exact Nat.le_refl _⟩, ⟨by (with_reducible repeat (first | refine blk_drewN ?_ _ | refine blk_drew ?_ | refine blk_alloc ?_ _)); exact BK363.out⟩, ⟨by repeat (first | (with_reducible first | exact HB.out | apply below_alloc | apply pw_below_drewN | apply below_drew1 | refine below_set ?_ GE363.out) | exact HB.out)⟩⟩
  ·rw [if_neg c5] at H
   have c5b0 : decide (260 < a0_0) = false := decide_eq_false c5
   clear c5
   (first | rw [c5b0] | (simp only [i64_w, i32_w]; rw [c5b0]) | skip)
   have H' := Aside0.mk H
   clear H
   have hcz7_0 : w4.cell? ⟨gb363, 0, none⟩ = some (.int .i64 a0_0) := (blk_cell BK363.out 0).trans rfl
   have hcz7_1 : w4.cell? ⟨gb363, 1, none⟩ = some (.slice A0_1 l0_1.length c0_1) := (blk_cell BK363.out 1).trans rfl
   have hfz7_0 := blk_frozen BK363.out 0
   have hfz7_1 := blk_frozen BK363.out 1
   go_wp2
   go_meet
   case rel => exact ⟨_, (decide ((l0_1.length : Int) > a1)), (by first | rfl | (simp; done) | (simp [*]; done)), H', ⟨by first | omega | exact Nat.le_refl _⟩, ⟨by (with_reducible repeat (first | refine blk_drewN ?_ _ | refine blk_drew ?_ | refine blk_alloc ?_ _)); exact BK363.out⟩, ⟨by repeat (first | (with_reducible first | exact HB.out | apply below_alloc | apply pw_below_drewN | apply below_drew1 | refine below_set ?_ GE363.out) | exact HB.out)⟩⟩
 case rest =>
  clear HC3
  try clear c1
  try clear p2
  try clear c5
  try clear c5b0
  try clear hcz6_0
  try clear hcz6_1
  try clear hcz7_0
  try clear hcz7_1
  try clear hfz6_0
  try clear hfz6_1
  try clear hfz7_0
  try clear hfz7_1
  obtain ⟨kq, x16_2, rfl, HA, HJ2, BK363, HB⟩ := hcut
  cases kq with
  | zero => exact absurd HA.out (by simp [codewrightref09_Few.j0])
  | succ kj2 =>
   have H := HA.out
   clear HA
   simp only [codewrightref09_Few.j0] at H
   by_cases c8 : x16_2 = true
   ·subst c8
    have H1 : (some false) = some r := by rw [if_pos rfl] at H; exact H
    clear H
    have H := H1
    clear H1
    obtain rfl := Option.some.inj H
    go_wp2
    go_ret
    exact ⟨by first | rfl | (simp [errW_none, errW_some] <;> rfl) | (simp [*, errW_none, errW_some] <;> rfl), by repeat (first | (with_reducible first | exact HB.out | apply below_alloc | apply pw_below_drewN | apply below_drew1 | refine below_set ?_ GE363.out) | exact HB.out)⟩
   ·replace c8 := Bool.eq_false_iff.mpr c8
    subst c8
    have H1 : (codewrightref09_Few.l0 kj2 (wrap64 (a1 - (l0_1.length : Int))) 0 a0_0 l0_1) = some r := by rw [if_neg (show ¬ (false = true) by decide)] at H; exact H
    clear H
    have H := H1
    clear H1
    have H' := Aside0.mk H
    clear H
    have hcz9_0 : wc.cell? ⟨gb363, 0, none⟩ = some (.int .i64 a0_0) := (blk_cell BK363.out 0).trans rfl
    have hcz9_1 : wc.cell? ⟨gb363, 1, none⟩ = some (.slice A0_1 l0_1.length c0_1) := (blk_cell BK363.out 1).trans rfl
    have hfz9_0 := blk_frozen BK363.out 0
    have hfz9_1 := blk_frozen BK363.out 1
    go_wp2
    go_loopg [5, 6] kj2 (fun kq v5 v6 w' => ∃ (x5_2 : Int) (x6_2 : Int), v5 = .int .i64 x5_2 ∧ v6 = .int .i64 x6_2 ∧ Aside0 (codewrightref09_Few.l0 kq x5_2 x6_2 a0_0 l0_1 = some r) ∧ Aside0 (kq ≤ kj2) ∧ Aside0 (w'.heap[gb363]? = some (.cells #[.int .i64 a0_0, (.slice A0_1 l0_1.length c0_1)] 27 (0, 0))) ∧ Aside0 (Below w.heap.size w w'))
    case atStart => exact ⟨(wrap64 (a1 - (l0_1.length : Int))), (0), (by first | rfl | (simp; done) | (simp [*]; done)), (by first | rfl | (simp; done) | (simp [*]; done)), H', ⟨Nat.le_refl _⟩, ⟨by (with_reducible repeat (first | refine blk_drewN ?_ _ | refine blk_drew ?_ | refine blk_alloc ?_ _)); exact BK363.out⟩, ⟨by repeat (first | (with_reducible first | exact HB.out | apply below_alloc | apply pw_below_drewN | apply below_drew1 | refine below_set ?_ GE363.out) | exact HB.out)⟩⟩
    case round =>
     clear H'
     try clear c1
     try clear p2
     try clear c5
     try clear c5b0
     try clear p6
     try clear c8
     try clear hcz6_0
     try clear hcz6_1
     try clear hcz7_0
     try clear hcz7_1
     try clear hcz9_0
     try clear hcz9_1
     try clear hfz6_0
     try clear hfz6_1
     try clear hfz7_0
     try clear hfz7_1
     try clear hfz9_0
     try clear hfz9_1
     try clear p2
     obtain ⟨x5_2, x6_2, rfl, rfl, HA, HK2, BK363, HB⟩ := hrel
     cases gk with
     | zero => exact absurd HA.out (by simp [codewrightref09_Few.l0])
     | succ k2 =>
      have H := HA.out
      clear HA
      simp only [codewrightref09_Few.l0] at H
      by_cases c10 : x6_2 < (l0_1.length : Int)
      ·rw [if_pos c10] at H
       have c10b0 : decide (x6_2 < (l0_1.length : Int)) = true := decide_eq_true c10
       clear c10
       by_cases c11 : 0 ≤ x6_2
       ·rw [if_pos c11] at H
        have c11b0 : decide (0 ≤ x6_2) = true := decide_eq_true c11
        clear c11
        by_cases c12 : ((rd_L1 l0_1 x6_2).length : Int) > x5_2
        ·rw [if_pos c12] at H
         have c12b0 : decide (x5_2 < ((rd_L1 l0_1 x6_2).length : Int)) = true := decide_eq_true c12
         clear c12
         obtain rfl := Option.some.inj H
         have hcz13_0 : wr.cell? ⟨gb363, 0, none⟩ = some (.int .i64 a0_0) := (blk_cell BK363.out 0).trans rfl
         have hcz13_1 : wr.cell? ⟨gb363, 1, none⟩ = some (.slice A0_1 l0_1.length c0_1) := (blk_cell BK363.out 1).trans rfl
         have hfz13_0 := blk_frozen BK363.out 0
         have hfz13_1 := blk_frozen BK363.out 1
         have p364 : 0 ≤ (x6_2 : Int) := of_decide_eq_true (by first | (with_reducible assumption) | assumption)
         have q364 : x6_2 < (l0_1.length : Int) := of_decide_eq_true (by first | (with_reducible assumption) | assumption)
         obtain ⟨ad364, A364_0, c364_0, e364, hx364_0, hl364_0, hi364_0⟩ := at_L1 HR0_1.out x6_2 p364 q364
         cases e364
         replace hx364_0 := (HB.out.cell (World.block_lt_of_cell? w _ hx364_0)).trans hx364_0
         have HR364_0 := Aside0.mk hi364_0
         have HC364_0 := Aside0.mk hl364_0
         clear hi364_0 hl364_0
         replace p364 := eq_true p364
         replace q364 := eq_true q364
         go_wp2
         go_ret
         exact ⟨by first | rfl | (simp [errW_none, errW_some] <;> rfl) | (simp [*, errW_none, errW_some] <;> rfl), by repeat (first | (with_reducible first | exact HB.out | apply below_alloc | apply pw_below_drewN | apply below_drew1 | refine below_set ?_ GE363.out) | exact HB.out)⟩
        ·rw [if_neg c12] at H
         have c12b0 : decide (x5_2 < ((rd_L1 l0_1 x6_2).length : Int)) = false := decide_eq_false c12
         clear c12
         have H' := Aside0.mk H
         clear H
         have hcz14_0 : wr.cell? ⟨gb363, 0, none⟩ = some (.int .i64 a0_0) := (blk_cell BK363.out 0).trans rfl
         have hcz14_1 : wr.cell? ⟨gb363, 1, none⟩ = some (.slice A0_1 l0_1.length c0_1) := (blk_cell BK363.out 1).trans rfl
         have hfz14_0 := blk_frozen BK363.out 0
         have hfz14_1 := blk_frozen BK363.out 1
         have p364 : 0 ≤ (x6_2 : Int) := of_decide_eq_true (by first | (with_reducible assumption) | assumption)
         have q364 : x6_2 < (l0_1.length : Int) := of_decide_eq_true (by first | (with_reducible assumption) | assumption)
         obtain ⟨ad364, A364_0, c364_0, e364, hx364_0, hl364_0, hi364_0⟩ := at_L1 HR0_1.out x6_2 p364 q364
         cases e364
         replace hx364_0 := (HB.out.cell (World.block_lt_of_cell? w _ hx364_0)).trans hx364_0
         have HR364_0 := Aside0.mk hi364_0
         have HC364_0 := Aside0.mk hl364_0
         clear hi364_0 hl364_0
         replace p364 := eq_true p364
         replace q364 := eq_true q364
         have p365 : 0 ≤ (x6_2 : Int) := of_decide_eq_true (by first | (with_reducible assumption) | assumption)
         have q365 : x6_2 < (l0_1.length : Int) := of_decide_eq_true (by first | (with_reducible assumption) | assumption)
         obtain ⟨ad365, A365_0, c365_0, e365, hx365_0, hl365_0, hi365_0⟩ := at_L1 HR0_1.out x6_2 p365 q365
         obtain rfl : ad364 = ad365 := (by injection e365)
         replace hx365_0 := (HB.out.cell (World.block_lt_of_cell? w _ hx365_0)).trans hx365_0
         have HR365_0 := Aside0.mk hi365_0
         have HC365_0 := Aside0.mk hl365_0
         clear hi365_0 hl365_0
         replace p365 := eq_true p365
         replace q365 := eq_true q365
         have ea_ := Option.some.inj (hx364_0.symm.trans hx365_0)
         injection ea_ with ea_ en_ ec_
         subst ea_
         subst ec_
         clear en_
         go_wp2
         go_roundg k2
         case measure => have := HJ2.out; have := HK2.out; omega
         case rel => exact ⟨(wrap64 (x5_2 - ((rd_L1 l0_1 x6_2).length : Int))), (wrap64 (x6_2 + 1)), (by first | rfl | (simp; done) | (simp [*]; done)), (by first | rfl | (simp; done) | (simp [*]; done)), H', ⟨by have := HJ2.out; have := HK2.out; omega⟩, ⟨by (with_reducible repeat (first | refine blk_drewN ?_ _ | refine blk_drew ?_ | refine blk_alloc ?_ _)); exact BK363.out⟩, ⟨by repeat (first | (with_reducible first | exact HB.out | apply below_alloc | apply pw_below_drewN | apply below_drew1 | refine below_set ?_ GE363.out) | exact HB.out)⟩⟩
       ·rw [if_neg c11] at H
        exact absurd H (by simp)
      ·rw [if_neg c10] at H
       have c10b0 : decide (x6_2 < (l0_1.length : Int)) = false := decide_eq_false c10
       clear c10
       obtain rfl := Option.some.inj H
       have hcz15_0 : wr.cell? ⟨gb363, 0, none⟩ = some (.int .i64 a0_0) := (blk_cell BK363.out 0).trans rfl
       have hcz15_1 : wr.cell? ⟨gb363, 1, none⟩ = some (.slice A0_1 l0_1.length c0_1) := (blk_cell BK363.out 1).trans rfl
       have hfz15_0 := blk_frozen BK363.out 0
       have hfz15_1 := blk_frozen BK363.out 1
       go_wp2
       go_ret
       exact ⟨by first | rfl | (simp [errW_none, errW_some] <;> rfl) | (simp [*, errW_none, errW_some] <;> rfl), by repeat (first | (with_reducible first | exact HB.out | apply below_alloc | apply pw_below_drewN | apply below_drew1 | refine below_set ?_ GE363.out) | exact HB.out)⟩
end Go.Proofs.Ytkifipakikbhcaa.Ref
namespace Go.Proofs.Ytkifipakikbhcaa.Ref
open Go.RowKit Go.Proofs.YtkifipakikbhcaaW.PrintWords Go.Proofs.YtkifipakikbhcaaW.PrintLast Go.Proofs.YtkifipakikbhcaaW.PrintMore
attribute [local go_sem] max2_int min2_int max_two min_two max_three min_three max_four min_four
def codewrightref44_Few.f (k : Nat) (a0_0 : Int) (l0_1 : List (List Int)) : Option (Bool) := (codewrightref09_Few.f k 0 l0_1 300).bind fun t367 => (if t367 = true then (if a0_0 ≤ 10 then (some true) else (some (decide (a0_0 > 16)))) else (some false))
theorem codewrightref44_Few.calls (k : Nat) (a0_0 : Int) (A0_1 : Option Addr) (c0_1 : Nat) (l0_1 : List (List Int)) (r : Bool) (w : World) (hr0_1 : Kd.C (Kd.slice 3 (Kd.int .i64)) w A0_1 l0_1.length l0_1) (hc0_1 : l0_1.length ≤ c0_1) (h : codewrightref44_Few.f k a0_0 l0_1 = some r) :
  Calls Try.prog 17 #[.agg #[.int .i64 a0_0, .slice A0_1 l0_1.length c0_1]] w fun e w' => e = .returned (.bool r) ∧ Below w.heap.size w w' := by
 have hu31 := Try.underlying31
 have hu27 := Try.underlying27
 have HR0_1 := Aside0.mk hr0_1
 have HC0_1 := Aside0.mk hc0_1
 clear hr0_1 hc0_1
 have HB := Aside0.mk (Below.refl w.heap.size w)
 have H : ((codewrightref09_Few.f k 0 l0_1 300).bind fun t367 => (if t367 = true then (if a0_0 ≤ 10 then (some true) else (some (decide (a0_0 > 16)))) else (some false))) = some r := h
 clear h
 replace H := Option.bind_eq_some_iff.mp H
 obtain ⟨t367, A20, H⟩ := H
 replace H : (if t367 = true then (if a0_0 ≤ 10 then (some true) else (some (decide (a0_0 > 16)))) else (some false)) = some r := H
 have A2 := Aside0.mk A20
 clear A20
 by_cases c3 : t367 = true
 ·subst c3
  have H1 : (if a0_0 ≤ 10 then (some true) else (some (decide (a0_0 > 16)))) = some r := by rw [if_pos rfl] at H; exact H
  clear H
  have H := H1
  clear H1
  by_cases c4 : a0_0 ≤ 10
  ·rw [if_pos c4] at H
   have c4b0 : decide (a0_0 ≤ 10) = true := decide_eq_true c4
   clear c4
   obtain rfl := Option.some.inj H
   go_enter Try.func17, Try.ntmps17
   go_wp2_with (first | ((with_reducible refine gate_dst (N := 1) rfl ?_); refine box_event ?hg (N := 1) ?hd (cs := #[.int .i64 a0_0, .slice A0_1 l0_1.length c0_1]) (t := 31) ?hr ?_; (case hd => rfl); (case hg => rfl); (case hr => first | (go_simp; done) | (go_simp; rfl)); intro gb366 hg w5 hbox hb; have n0_ := Aside0.mk (below_step (by repeat (first | (with_reducible first | exact HB.out | apply below_alloc | apply pw_below_drewN | apply below_drew1) | exact HB.out)) hb); have n1_ := Aside0.mk (hbox); have n2_ := Aside0.mk ((by rw [hg]; exact (below_size (by repeat (first | (with_reducible first | exact HB.out | apply below_alloc | apply pw_below_drewN | apply below_drew1) | exact HB.out))) : w.heap.size ≤ gb366)); have n3_ := Aside0.mk ((by rw [hg]; exact (below_size (by repeat (first | (with_reducible first | exact HB.out | apply below_alloc | apply pw_below_drewN | apply below_drew1) | exact HB.out))) : w.heap.size ≤ gb366)); clear HB; have HB := n0_; have BK366 := n1_; have GW366 := n2_; have GE366 := n3_; clear n0_ n1_ n2_ n3_; clear hb hbox hg; have hcz6_0 : w5.cell? ⟨gb366, 0, none⟩ = some (.int .i64 a0_0) := (blk_cell BK366.out 0).trans rfl; have hcz6_1 : w5.cell? ⟨gb366, 1, none⟩ = some (.slice A0_1 l0_1.length c0_1) := (blk_cell BK366.out 1).trans rfl; have hfz6_0 := blk_frozen BK366.out 0; have hfz6_1 := blk_frozen BK366.out 1) | ((with_reducible refine gate_callee (f := 13) rfl ?_); refine goesL_ (some 6) rfl rfl Try.func13 (by kernel_rfl) rfl #[.agg #[.int .i64 0, .slice A0_1 l0_1.length c0_1], .int .i64 300] rfl (by (try simp only [List.map_toArray, List.map_cons, List.map_nil]); first | done | rfl | (simp only [List.length_drop, List.length_take]; rfl)) ?_; (with_reducible refine (codewrightref09_Few.calls k 0 _ _ l0_1 300 true _ ?side1 ?side2 A2.out).mono ?_); (case side1 => repeat (first | exact (Kd.C_below HR0_1.out HB.out) | (with_reducible refine Kd.C_alloc ?_ _) | (with_reducible refine Kd.C_drewN ?_ _) | (with_reducible refine Kd.C_drew ?_))); (case side2 => exact HC0_1.out); rintro e w7 ⟨rfl, hb⟩; refine ⟨_, rfl, ?_⟩; have n0_ := Aside0.mk (blk_below (g := gb366) (o := .cells #[.int .i64 a0_0, .slice A0_1 l0_1.length c0_1] 31 (0, 0)) (by (with_reducible repeat (first | refine blk_drewN ?_ _ | refine blk_drew ?_ | refine blk_alloc ?_ _)); exact BK366.out) hb); have n1_ := Aside0.mk (below_step (by repeat (first | (with_reducible first | exact HB.out | apply below_alloc | apply pw_below_drewN | apply below_drew1 | refine below_set ?_ GE366.out) | exact HB.out)) hb); clear BK366; clear HB; have BK366 := n0_; have HB := n1_; clear n0_ n1_; (try clear hb); (try clear hb2); (try clear hk); (try clear hi); have hcz8_0 : w7.cell? ⟨gb366, 0, none⟩ = some (.int .i64 a0_0) := (blk_cell BK366.out 0).trans rfl; have hcz8_1 : w7.cell? ⟨gb366, 1, none⟩ = some (.slice A0_1 l0_1.length c0_1) := (blk_cell BK366.out 1).trans rfl; have hfz8_0 := blk_frozen BK366.out 0; have hfz8_1 := blk_frozen BK366.out 1))
   go_ret
   exact ⟨by first | rfl | (simp [errW_none, errW_some] <;> rfl) | (simp [*, errW_none, errW_some] <;> rfl), by repeat (first | (with_reducible first | exact HB.out | apply below_alloc | apply pw_below_drewN | apply below_drew1 | refine below_set ?_ GE366.out) | exact HB.out)⟩
  ·rw [if_neg c4] at H
   have c4b0 : decide (a0_0 ≤ 10) = false := decide_eq_false c4
   clear c4
   obtain rfl := Option.some.inj H
   go_enter Try.func17, Try.ntmps17
   go_wp2_with (first | ((with_reducible refine gate_dst (N := 1) rfl ?_); refine box_event ?hg (N := 1) ?hd (cs := #[.int .i64 a0_0, .slice A0_1 l0_1.length c0_1]) (t := 31) ?hr ?_; (case hd => rfl); (case hg => rfl); (case hr => first | (go_simp; done) | (go_simp; rfl)); intro gb366 hg w9 hbox hb; have n0_ := Aside0.mk (below_step (by repeat (first | (with_reducible first | exact HB.out | apply below_alloc | apply pw_below_drewN | apply below_drew1) | exact HB.out)) hb); have n1_ := Aside0.mk (hbox); have n2_ := Aside0.mk ((by rw [hg]; exact (below_size (by repeat (first | (with_reducible first | exact HB.out | apply below_alloc | apply pw_below_drewN | apply below_drew1) | exact HB.out))) : w.heap.size ≤ gb366)); have n3_ := Aside0.mk ((by rw [hg]; exact (below_size (by repeat (first | (with_reducible first | exact HB.out | apply below_alloc | apply pw_below_drewN | apply below_drew1) | exact HB.out))) : w.heap.size ≤ gb366)); clear HB; have HB := n0_; have BK366 := n1_; have GW366 := n2_; have GE366 := n3_; clear n0_ n1_ n2_ n3_; clear hb hbox hg; have hcz10_0 : w9.cell? ⟨gb366, 0, none⟩ = some (.int .i64 a0_0) := (blk_cell BK366.out 0).trans rfl; have hcz10_1 : w9.cell? ⟨gb366, 1, none⟩ = some (.slice A0_1 l0_1.length c0_1) := (blk_cell BK366.out 1).trans rfl; have hfz10_0 := blk_frozen BK366.out 0; have hfz10_1 := blk_frozen BK366.out 1) | ((with_reducible refine gate_callee (f := 13) rfl ?_); refine goesL_ (some 6) rfl rfl Try.func13 (by kernel_rfl) rfl #[.agg #[.int .i64 0, .slice A0_1 l0_1.length c0_1], .int .i64 300] rfl (by (try simp only [List.map_toArray, List.map_cons, List.map_nil]); first | done | rfl | (simp only [List.length_drop, List.length_take]; rfl)) ?_; (with_reducible refine (codewrightref09_Few.calls k 0 _ _ l0_1 300 true _ ?side1 ?side2 A2.out).mono ?_); (case side1 => repeat (first | exact (Kd.C_below HR0_1.out HB.out) | (with_reducible refine Kd.C_alloc ?_ _) | (with_reducible refine Kd.C_drewN ?_ _) | (with_reducible refine Kd.C_drew ?_))); (case side2 => exact HC0_1.out); rintro e w11 ⟨rfl, hb⟩; refine ⟨_, rfl, ?_⟩; have n0_ := Aside0.mk (blk_below (g := gb366) (o := .cells #[.int .i64 a0_0, .slice A0_1 l0_1.length c0_1] 31 (0, 0)) (by (with_reducible repeat (first | refine blk_drewN ?_ _ | refine blk_drew ?_ | refine blk_alloc ?_ _)); exact BK366.out) hb); have n1_ := Aside0.mk (below_step (by repeat (first | (with_reducible first | exact HB.out | apply below_alloc | apply pw_below_drewN | apply below_drew1 | refine below_set ?_ GE366.out) | exact HB.out)) hb); clear BK366; clear HB; have BK366 := n0_; have HB := n1_; clear n0_ n1_; (try clear hb); (try clear hb2); (try clear hk); (try clear hi); have hcz12_0 : w11.cell? ⟨gb366, 0, none⟩ = some (.int .i64 a0_0) := (blk_cell BK366.out 0).trans rfl; have hcz12_1 : w11.cell? ⟨gb366, 1, none⟩ = some (.slice A0_1 l0_1.length c0_1) := (blk_cell BK366.out 1).trans rfl; have hfz12_0 := blk_frozen BK366.out 0; have hfz12_1 := blk_frozen BK366.out 1))
   go_ret
   exact ⟨by first | rfl | (simp [errW_none, errW_some] <;> rfl) | (simp [*, errW_none, errW_some] <;> rfl), by repeat (first | (with_reducible first | exact HB.out | apply below_alloc | apply pw_below_drewN | apply below_drew1 | refine below_set ?_ GE366.out) | exact HB.out)⟩
 ·replace c3 := Bool.eq_false_iff.mpr c3
  subst c3
  have H1 : (some false) = some r := by rw [if_neg (show ¬ (false = true) by decide)] at H; exact H
  clear H
  have H := H1
  clear H1
  obtain rfl := Option.some.inj H
  go_enter Try.func17, Try.ntmps17
  go_wp2_with (first | ((with_reducible refine gate_dst (N := 1) rfl ?_); refine box_event ?hg (N := 1) ?hd (cs := #[.int .i64 a0_0, .slice A0_1 l0_1.length c0_1]) (t := 31) ?hr ?_; (case hd => rfl); (case hg => rfl); (case hr => first | (go_simp; done) | (go_simp; rfl)); intro gb366 hg w13 hbox hb; have n0_ := Aside0.mk (below_step (by repeat (first | (with_reducible first | exact HB.out | apply below_alloc | apply pw_below_drewN | apply below_drew1) | exact HB.out)) hb); have n1_ := Aside0.mk (hbox); have n2_ := Aside0.mk ((by rw [hg]; exact (below_size (by repeat (first | (with_reducible first | exact HB.out | apply below_alloc | apply pw_below_drewN | apply below_drew1) | exact HB.out))) : w.heap.size ≤ gb366)); have n3_ := Aside0.mk ((by rw [hg]; exact (below_size (by repeat (first | (with_reducible first | exact HB.out | apply below_alloc | apply pw_below_drewN | apply below_drew1) | exact HB.out))) : w.heap.size ≤ gb366)); clear HB; have HB := n0_; have BK366 := n1_; have GW366 := n2_; have GE366 := n3_; clear n0_ n1_ n2_ n3_; clear hb hbox hg; have hcz14_0 : w13.cell? ⟨gb366, 0, none⟩ = some (.int .i64 a0_0) := (blk_cell BK366.out 0).trans rfl; have hcz14_1 : w13.cell? ⟨gb366, 1, none⟩ = some (.slice A0_1 l0_1.length c0_1) := (blk_cell BK366.out 1).trans rfl; have hfz14_0 := blk_frozen BK366.out 0; have hfz14_1 := blk_frozen BK366.out 1) | ((with_reducible refine gate_callee (f := 13) rfl ?_); refine goesL_ (some 6) rfl rfl Try.func13 (by kernel_rfl) rfl #[.agg #[.int .i64 0, .slice A0_1 l0_1.length c0_1], .int .i64 300] rfl (by (try simp only [List.map_toArray, List.map_cons, List.map_nil]); first | done | rfl | (simp only [List.length_drop, List.length_take]; rfl)) ?_; (with_reducible refine (codewrightref09_Few.calls k 0 _ _ l0_1 300 false _ ?side1 ?side2 A2.out).mono ?_); (case side1 => repeat (first | exact (Kd.C_below HR0_1.out HB.out) | (with_reducible refine Kd.C_alloc ?_ _) | (with_reducible refine Kd.C_drewN ?_ _) | (with_reducible refine Kd.C_drew ?_))); (case side2 => exact HC0_1.out); rintro e w15 ⟨rfl, hb⟩; refine ⟨_, rfl, ?_⟩; have n0_ := Aside0.mk (blk_below (g := gb366) (o := .cells #[.int .i64 a0_0, .slice A0_1 l0_1.length c0_1] 31 (0, 0)) (by (with_reducible repeat (first | refine blk_drewN ?_ _ | refine blk_drew ?_ | refine blk_alloc ?_ _)); exact BK366.out) hb); have n1_ := Aside0.mk (below_step (by repeat (first | (with_reducible first | exact HB.out | apply below_alloc | apply pw_below_drewN | apply below_drew1 | refine below_set ?_ GE366.out) | exact HB.out)) hb); clear BK366; clear HB; have BK366 := n0_; have HB := n1_; clear n0_ n1_; (try clear hb); (try clear hb2); (try clear hk); (try clear hi)))
  go_ret
  exact ⟨by first | rfl | (simp [errW_none, errW_some] <;> rfl) | (simp [*, errW_none, errW_some] <;> rfl), by repeat (first | (with_reducible first | exact HB.out | apply below_alloc | apply pw_below_drewN | apply below_drew1 | refine below_set ?_ GE366.out) | exact HB.out)⟩
end Go.Proofs.Ytkifipakikbhcaa.Ref
namespace Go.Proofs.Ytkifipakikbhcaa.Ref
open Go.RowKit Go.Proofs.YtkifipakikbhcaaW.PrintWords Go.Proofs.YtkifipakikbhcaaW.PrintLast Go.Proofs.YtkifipakikbhcaaW.PrintMore
attribute [local go_sem] max2_int min2_int max_two min_two max_three min_three max_four min_four
mutual
def codewrightlaw44_split.l0 : Nat → Int → Int → List Int → Int → Option (List Int)
 | 0, _, _, _, _ => none
 | k + 1, x0, x1, x5, x6 => if x6 < x1 then (codewrightlaw44_split.j1 k x0 x1 x5 x6 (decide (x6 < 32))) else (codewrightlaw44_split.j1 k x0 x1 x5 x6 false)
def codewrightlaw44_split.j1 : Nat → Int → Int → List Int → Int → Bool → Option (List Int)
 | 0, _, _, _, _, _ => none
 | k + 1, x0, x1, x5, x6, x13 => if x13 = true then (if 0 ≤ x6 then (if (Go.bits .and .u32 (shr .u32 x0 x6) 1) = 1 then (if x5.length < 17592186044416 then (codewrightlaw44_split.l0 k x0 x1 (x5 ++ [x6]) (wrap64 (x6 + 1))) else (none)) else (codewrightlaw44_split.l0 k x0 x1 x5 (wrap64 (x6 + 1)))) else (none)) else (some x5)
end
def codewrightlaw44_split.f (k : Nat) (a0 : Int) (a1 : Int) : Option (List Int) := codewrightlaw44_split.l0 k a0 a1 ([] : List Int) 0
theorem codewrightlaw44_split.calls (k : Nat) (a0 : Int) (a1 : Int) (r : List Int) (w : World) (h : codewrightlaw44_split.f k a0 a1 = some r) :
  Calls Try.prog 35 #[.int .u32 a0, .int .i64 a1] w fun e w' => ∃ v0_ : Value, e = .returned (v0_) ∧ Kd.R (Kd.int .i64) 3 w' w.heap.size (fun _ => True) v0_ r ∧ Below w.heap.size w w' := by
 have HB := Aside0.mk (Below.refl w.heap.size w)
 have H : (codewrightlaw44_split.l0 k a0 a1 ([] : List Int) 0) = some r := h
 clear h
 have H' := Aside0.mk H
 clear H
 go_enter Try.func35, Try.ntmps35
 go_wp2
 go_loopg [5, 6] k (fun kq v5 v6 w' => ∃ (x5_1 : List Int) (x6_1 : Int), v6 = .int .i64 x6_1 ∧ Aside0 (codewrightlaw44_split.l0 kq a0 a1 x5_1 x6_1 = some r) ∧ Aside0 (kq ≤ k) ∧ Aside0 (Kd.R (Kd.int .i64) 3 w' w.heap.size (fun _ => True) v5 x5_1) ∧ Aside0 (Below w.heap.size w w'))
 case atStart => exact ⟨(([] : List Int)), (0), (by first | rfl | (simp; done) | (simp [*]; done)), H', ⟨Nat.le_refl _⟩, ⟨by first | exact Kd.R_nil _ _ _ _ _ | exact Kd.N_nil _ _ _ _ _ | exact Kd.V_nil _ _ _ _ _ | exact Kd.Q_nil _ _ _ _ _ | exact Kd.S_nil _ _ _ _ _⟩, ⟨by repeat (first | (with_reducible first | exact HB.out | apply below_alloc | apply pw_below_drewN | apply below_drew1) | exact HB.out)⟩⟩
 case round =>
  clear H'
  try clear p2
  obtain ⟨x5_1, x6_1, rfl, HA, HK1, HO_5, HB⟩ := hrel
  cases gk with
  | zero => exact absurd HA.out (by simp [codewrightlaw44_split.l0])
  | succ k1 =>
   have H := HA.out
   clear HA
   simp only [codewrightlaw44_split.l0] at H
   have HC3 := Aside0.mk H
   clear H
   go_upto_region 3 with (fail)
   go_cut [13] (fun v13 wc => ∃ (kq : Nat) (x13_2 : Bool), v13 = .bool x13_2 ∧ Aside0 (codewrightlaw44_split.j1 kq a0 a1 x5_1 x6_1 x13_2 = some r) ∧ Aside0 (kq ≤ k1) ∧ Aside0 (Kd.R (Kd.int .i64) 3 wc w.heap.size (fun _ => True) u5 x5_1) ∧ Aside0 (Below w.heap.size w wc))
   case first =>
    have H := HC3.out
    clear HC3
    by_cases c4 : x6_1 < a1
    ·rw [if_pos c4] at H
     have c4b0 : decide (x6_1 < a1) = true := decide_eq_true c4
     clear c4
     (first | rw [c4b0] | (simp only [i64_w, i32_w]; rw [c4b0]) | skip)
     have H' := Aside0.mk H
     clear H
     go_wp2
     go_meet
     case rel => exact ⟨_, (decide (x6_1 < 32)), (by first | rfl | (simp; done) | (simp [*]; done)), H', ⟨by have := HK1.out; first | omega | exact Nat.le_refl _⟩, ⟨by (with_reducible repeat (first | apply Kd.R_alloc | apply Kd.R_drewN | apply Kd.R_drew)); exact HO_5.out⟩, ⟨by repeat (first | (with_reducible first | exact HB.out | apply below_alloc | apply pw_below_drewN | apply below_drew1) | exact HB.out)⟩⟩
    ·rw [if_neg c4] at H
     have c4b0 : decide (x6_1 < a1) = false := decide_eq_false c4
     clear c4
     (first | rw [c4b0] | (simp only [i64_w, i32_w]; rw [c4b0]) | skip)
     have H' := Aside0.mk H
     clear H
     go_wp2
     go_meet
     case rel => exact ⟨_, (false), (by first | rfl | (simp; done) | (simp [*]; done)), H', ⟨by have := HK1.out; first | omega | exact Nat.le_refl _⟩, ⟨by (with_reducible repeat (first | apply Kd.R_alloc | apply Kd.R_drewN | apply Kd.R_drew)); exact HO_5.out⟩, ⟨by repeat (first | (with_reducible first | exact HB.out | apply below_alloc | apply pw_below_drewN | apply below_drew1) | exact HB.out)⟩⟩
   case rest =>
    clear HC3
    try clear p2
    try clear c3
    try clear c4
    try clear c4b0
    try clear p2
    obtain ⟨kq, x13_2, rfl, HA, HJ2, HO_5, HB⟩ := hcut
    cases kq with
    | zero => exact absurd HA.out (by simp [codewrightlaw44_split.j1])
    | succ kj2 =>
     have H := HA.out
     clear HA
     simp only [codewrightlaw44_split.j1] at H
     by_cases c5 : x13_2 = true
     ·subst c5
      have H1 : (if 0 ≤ x6_1 then (if (Go.bits .and .u32 (shr .u32 a0 x6_1) 1) = 1 then (if x5_1.length < 17592186044416 then (codewrightlaw44_split.l0 kj2 a0 a1 (x5_1 ++ [x6_1]) (wrap64 (x6_1 + 1))) else (none)) else (codewrightlaw44_split.l0 kj2 a0 a1 x5_1 (wrap64 (x6_1 + 1)))) else (none)) = some r := by rw [if_pos rfl] at H; exact H
      clear H
      have H := H1
      clear H1
      by_cases c6 : 0 ≤ x6_1
      ·rw [if_pos c6] at H
       have c6b0 := eq_true c6
       have c6b1 : decide (0 ≤ x6_1) = true := decide_eq_true c6
       clear c6
       obtain ⟨ji7, hji7⟩ : ∃ j_ : Int, (shr .u32 a0 x6_1) = j_ := ⟨_, rfl⟩
       replace H : (if (Go.bits .and .u32 (ji7) 1) = 1 then (if x5_1.length < 17592186044416 then (codewrightlaw44_split.l0 kj2 a0 a1 (x5_1 ++ [x6_1]) (wrap64 (x6_1 + 1))) else (none)) else (codewrightlaw44_split.l0 kj2 a0 a1 x5_1 (wrap64 (x6_1 + 1)))) = some r := by first | (rw [hji7] at H; exact H) | (simp only [hji7] at H ⊢; exact H)
       have hji7_ : (a0 / 2 ^ min x6_1.toNat 32) = ji7 := hji7
       have hji7z : x6_1 ≤ 32 → (a0 / 2 ^ x6_1.toNat) = ji7 := shr_small hji7
       by_cases c8 : (Go.bits .and .u32 (ji7) 1) = 1
       ·rw [if_pos c8] at H
        have c8b0 : ((Go.bits .and .u32 (ji7) 1) == 1) = true := beq_iff_eq.mpr c8
        have c8b1 : ((Go.bits .and .u32 (ji7) 1) != 1) = false := bne_eq_false_iff_eq.mpr c8
        clear c8
        by_cases c9 : x5_1.length < 17592186044416
        ·rw [if_pos c9] at H
         have LMc9 := Aside0.mk c9
         clear c9
         obtain ⟨y384, hy384⟩ : ∃ y_ : List Int, y_ = (x5_1 ++ [x6_1]) := ⟨_, rfl⟩
         replace H : (codewrightlaw44_split.l0 kj2 a0 a1 y384 (wrap64 (x6_1 + 1))) = some r := by first | (rw [hy384]; with_reducible exact H) | (have H2_ := (Option.bind_some _ _).symm.trans H; rw [hy384]; with_reducible exact H2_) | (have H2_ := (Option.bind_some _ _).symm.trans H; with_reducible exact H2_) | with_reducible exact H | (rw [hy384]; exact H) | exact H
         have Ny384 := Aside0.mk hy384
         clear hy384
         have H' := Aside0.mk H
         clear H
         go_wp2_with (first | ((with_reducible refine gate_builtin (b := .append) (xs := #[.tmp 21, .tmp 23]) rfl ?_); at_builtin; refine Kd.R_append (Kd.int .i64) (w0 := w) w.heap.size rfl (.tmp 21) (.tmp 23) 22 3 (.int .i64 0) 8 rfl Try.underlying22 info3 rfl (by decide) (by omega) u5 x5_1 x6_1 [.int .i64 x6_1] (fun _ => True) (fun _ => False) rfl rfl ?aP (fun _ hk => hk.elim) ?aF ?aO ?aB ?aS ?aL ?_; (case aP => exact rfl); (case aB => exact (by repeat (first | (with_reducible first | exact HB.out | apply below_alloc | apply pw_below_drewN | apply below_drew1) | exact HB.out))); (case aF => exact (fun _ _ => trivial)); (case aO => exact (by (with_reducible repeat (first | apply Kd.R_alloc | apply Kd.R_drewN | apply Kd.R_drew)); exact HO_5.out)); (case aS => exact (below_size (by repeat (first | (with_reducible first | exact HB.out | apply below_alloc | apply pw_below_drewN | apply below_drew1) | exact HB.out)))); (case aL => have := LMc9.out; omega); intro v385 w10 ho hb hg hat; rw [← Ny384.out] at ho; have n0_ := Aside0.mk (hb); have n1_ := Aside0.mk (ho); clear HB; clear HO_5; have HB := n0_; have HO386 := n1_; clear n0_ n1_; clear ho hb hg hat))
         go_roundg kj2
         case measure => have := HK1.out; have := HJ2.out; omega
         case rel => exact ⟨(y384), (wrap64 (x6_1 + 1)), (by first | rfl | (simp; done) | (simp [*]; done)), H', ⟨by have := HK1.out; have := HJ2.out; omega⟩, ⟨by (with_reducible repeat (first | apply Kd.R_alloc | apply Kd.R_drewN | apply Kd.R_drew)); exact HO386.out⟩, ⟨by repeat (first | (with_reducible first | exact HB.out | apply below_alloc | apply pw_below_drewN | apply below_drew1) | exact HB.out)⟩⟩
        ·rw [if_neg c9] at H
         exact absurd H (by simp)
       ·rw [if_neg c8] at H
        have c8b0 : ((Go.bits .and .u32 (ji7) 1) == 1) = false := beq_eq_false_iff_ne.mpr c8
        have c8b1 : ((Go.bits .and .u32 (ji7) 1) != 1) = true := bne_iff_ne.mpr c8
        have H' := Aside0.mk H
        clear H
        go_wp2
        go_roundg kj2
        case measure => have := HK1.out; have := HJ2.out; omega
        case rel => exact ⟨(x5_1), (wrap64 (x6_1 + 1)), (by first | rfl | (simp; done) | (simp [*]; done)), H', ⟨by have := HK1.out; have := HJ2.out; omega⟩, ⟨by (with_reducible repeat (first | apply Kd.R_alloc | apply Kd.R_drewN | apply Kd.R_drew)); exact HO_5.out⟩, ⟨by repeat (first | (with_reducible first | exact HB.out | apply below_alloc | apply pw_below_drewN | apply below_drew1) | exact HB.out)⟩⟩
      ·rw [if_neg c6] at H
       exact absurd H (by simp)
     ·replace c5 := Bool.eq_false_iff.mpr c5
      subst c5
      have H1 : (some x5_1) = some r := by rw [if_neg (show ¬ (false = true) by decide)] at H; exact H
      clear H
      have H := H1
      clear H1
      obtain rfl := Option.some.inj H
      go_wp2
      go_ret
      exact ⟨_, by first | rfl | (simp [errW_none, errW_some] <;> rfl) | (simp [*, errW_none, errW_some] <;> rfl), by (with_reducible repeat (first | apply Kd.R_alloc | apply Kd.R_drewN | apply Kd.R_drew)); exact HO_5.out, by repeat (first | (with_reducible first | exact HB.out | apply below_alloc | apply pw_below_drewN | apply below_drew1) | exact HB.out)⟩
end Go.Proofs.Ytkifipakikbhcaa.Ref
namespace Go.Proofs.Ytkifipakikbhcaa.Ref
open Go.RowKit Go.Proofs.YtkifipakikbhcaaW.PrintWords Go.Proofs.YtkifipakikbhcaaW.PrintLast Go.Proofs.YtkifipakikbhcaaW.PrintMore
attribute [local go_sem] max2_int min2_int max_two min_two max_three min_three max_four min_four
def codewrightlaw44_member.l0 : Nat → Int → List Int → Int → Int → Option (Bool)
 | 0, _, _, _, _ => none
 | k + 1, x1, x7, x8, x9 => if x9 < x8 then (if 0 ≤ x9 then (if x9 < (x7.length : Int) then (if (rd x7 x9) = x1 then (some true) else (codewrightlaw44_member.l0 k x1 x7 x8 (wrap64 (x9 + 1)))) else (none)) else (none)) else (some false)
def codewrightlaw44_member.f (k : Nat) (l0 : List Int) (a1 : Int) : Option (Bool) := codewrightlaw44_member.l0 k a1 l0 (l0.length : Int) 0
theorem codewrightlaw44_member.calls (k : Nat) (A0 : Option Addr) (c0 : Nat) (l0 : List Int) (a1 : Int) (r : Bool) (w : World) (hr0 : Kd.C (Kd.int .i64) w A0 l0.length l0) (hc0 : l0.length ≤ c0) (h : codewrightlaw44_member.f k l0 a1 = some r) :
  Calls Try.prog 36 #[.slice A0 l0.length c0, .int .i64 a1] w fun e w' => e = .returned (.bool r) ∧ Drawn0 w w' := by
 have HR0 := Aside0.mk hr0
 have HC0 := Aside0.mk hc0
 clear hr0 hc0
 have H : (codewrightlaw44_member.l0 k a1 l0 (l0.length : Int) 0) = some r := h
 clear h
 have H' := Aside0.mk H
 clear H
 go_enter Try.func36, Try.ntmps36
 go_wp2
 go_loopg [9] k (fun kq v9 w' => ∃ (x9_1 : Int), v9 = .int .i64 x9_1 ∧ Aside0 (codewrightlaw44_member.l0 kq a1 l0 (l0.length : Int) x9_1 = some r) ∧ Aside0 (kq ≤ k) ∧ Drawn0 w w')
 case atStart => exact ⟨(0), (by first | rfl | (simp; done) | (simp [*]; done)), H', ⟨Nat.le_refl _⟩, by repeat (first | exact Drawn0.refl _ | apply Drawn0.step)⟩
 case round =>
  clear H'
  try clear p2
  obtain ⟨x9_1, rfl, HA, HK1, ⟨m1, rfl⟩⟩ := hrel
  cases gk with
  | zero => exact absurd HA.out (by simp [codewrightlaw44_member.l0])
  | succ k1 =>
   have H := HA.out
   clear HA
   simp only [codewrightlaw44_member.l0] at H
   by_cases c3 : x9_1 < (l0.length : Int)
   ·rw [if_pos c3] at H
    have c3b0 : decide (x9_1 < (l0.length : Int)) = true := decide_eq_true c3
    clear c3
    by_cases c4 : 0 ≤ x9_1
    ·rw [if_pos c4] at H
     have c4b0 : decide (0 ≤ x9_1) = true := decide_eq_true c4
     clear c4
     by_cases c5 : x9_1 < (l0.length : Int)
     ·rw [if_pos c5] at H
      have c5b0 : decide (x9_1 < (l0.length : Int)) = true := decide_eq_true c5
      clear c5
      by_cases c6 : (rd l0 x9_1) = a1
      ·rw [if_pos c6] at H
       have c6b0 : ((rd l0 x9_1) == a1) = true := beq_iff_eq.mpr c6
       have c6b1 : ((rd l0 x9_1) != a1) = false := bne_eq_false_iff_eq.mpr c6
       clear c6
       obtain rfl := Option.some.inj H
       have p387 : 0 ≤ (x9_1 : Int) := of_decide_eq_true (by first | (with_reducible assumption) | assumption)
       have q387 : x9_1 < (l0.length : Int) := of_decide_eq_true (by first | (with_reducible assumption) | assumption)
       obtain ⟨ad387, e387, hx387_0⟩ := Kd.at_int HR0.out x9_1 p387 q387
       cases e387
       replace p387 := eq_true p387
       replace q387 := eq_true q387
       go_wp2
       go_ret
       exact ⟨by first | rfl | (simp; done) | (simp [*]; done), by repeat (first | exact Drawn0.refl _ | apply Drawn0.step)⟩
      ·rw [if_neg c6] at H
       have c6b0 : ((rd l0 x9_1) == a1) = false := beq_eq_false_iff_ne.mpr c6
       have c6b1 : ((rd l0 x9_1) != a1) = true := bne_iff_ne.mpr c6
       have H' := Aside0.mk H
       clear H
       have p387 : 0 ≤ (x9_1 : Int) := of_decide_eq_true (by first | (with_reducible assumption) | assumption)
       have q387 : x9_1 < (l0.length : Int) := of_decide_eq_true (by first | (with_reducible assumption) | assumption)
       obtain ⟨ad387, e387, hx387_0⟩ := Kd.at_int HR0.out x9_1 p387 q387
       cases e387
       replace p387 := eq_true p387
       replace q387 := eq_true q387
       go_wp2
       go_roundg k1
       case measure => have := HK1.out; omega
       case rel => exact ⟨(wrap64 (x9_1 + 1)), (by first | rfl | (simp; done) | (simp [*]; done)), H', ⟨by have := HK1.out; omega⟩, by repeat (first | exact Drawn0.refl _ | apply Drawn0.step)⟩
     ·rw [if_neg c5] at H
      exact absurd H (by simp)
    ·rw [if_neg c4] at H
     exact absurd H (by simp)
   ·rw [if_neg c3] at H
    have c3b0 : decide (x9_1 < (l0.length : Int)) = false := decide_eq_false c3
    clear c3
    obtain rfl := Option.some.inj H
    go_wp2
    go_ret
    exact ⟨by first | rfl | (simp; done) | (simp [*]; done), by repeat (first | exact Drawn0.refl _ | apply Drawn0.step)⟩
end Go.Proofs.Ytkifipakikbhcaa.Ref
