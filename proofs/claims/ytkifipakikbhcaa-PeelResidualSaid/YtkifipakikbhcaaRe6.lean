/- Part 6 of the claim: what the law reaches, walked (merged by slim.py out of the texts in wip). -/
import Derived.Test.YtkifipakikbhcaaRe5
import Derived.Below
import Derived.ChangeOld
import Derived.Deep.Matrix
import Derived.Laws.IdiomArrays
import Derived.Lib.SmallJoins
import Derived.OpenShut
import Derived.ProofKit
import Derived.ShutString
import Derived.SizedLaws
import Derived.Test.YtkifipakikbhcaaRows
import Derived.WalkKit
set_option maxHeartbeats 8000000
set_option maxRecDepth 100000
set_option linter.unusedSimpArgs false
set_option linter.unusedVariables false
namespace Go.Proofs.Ytkifipakikbhcaa.Lc
open Ytkifipakikbhcaa.Ref Ytkifipakikbhcaa.Pg Ytkifipakikbhcaa.Pk Ytkifipakikbhcaa.Pm Ytkifipakikbhcaa.Hand
open Go.RowKit YtkifipakikbhcaaW.PrintWords YtkifipakikbhcaaW.PrintLast YtkifipakikbhcaaW.PrintMore
def l44_PeelResidual.j0 : Nat → Bool → Int → Int → List Int → Int → List (List Int) → List Int → List Int → Option (Bool)
 | 0, _, _, _, _, _, _, _, _ => none
 | k + 1, x48, x148000, x148001, x148002, x149000, x149001, x150000, x150001 => if x48 = true then ((l44_awake.f).bind fun t153 => (some t153)) else ((peel_Graph.f k x148000 x148001 x148002 x149000 x149001).bind fun bt154 => (if bt154.2.2 = 0 then ((peel_Peel.f x148000 x148001 x148002 x149000 x149001 x150000 x150001).bind fun bt160 => (if bt160.2.2 = 0 then ((peel_Greatest.f k bt154.1 bt154.2.1 x150001).bind fun bt167 => (if bt167.2 = 0 then ((r9_SameInts.f k bt160.2.1 bt167.1).bind fun t171 => (some t171)) else (some false))) else (some true))) else (some false)))
def l44_PeelResidual.f (k : Nat) (a0_0 : Int) (a0_1 : Int) (l0_2 : List Int) (a1_0 : Int) (l1_1 : List (List Int)) (l2_0 : List Int) (l2_1 : List Int) : Option (Bool) := (l44_awake.f).bind fun t150 => (if t150 = true then ((l44_few.f k a0_0 a0_1 l0_2 a1_0 l1_1).bind fun t151 => (if t151 = true then (if (l2_0.length : Int) > 100 then (l44_PeelResidual.j0 k true a0_0 a0_1 l0_2 a1_0 l1_1 l2_0 l2_1) else (if (l2_1.length : Int) > 100 then (l44_PeelResidual.j0 k true a0_0 a0_1 l0_2 a1_0 l1_1 l2_0 l2_1) else ((r9_Check.f k a0_0 a0_1 l0_2 a1_0 l1_1).bind fun t152 => (if t152 = 0 then (if a1_0 < 1 then (l44_PeelResidual.j0 k true a0_0 a0_1 l0_2 a1_0 l1_1 l2_0 l2_1) else (l44_PeelResidual.j0 k (decide (a1_0 > 64)) a0_0 a0_1 l0_2 a1_0 l1_1 l2_0 l2_1)) else (l44_PeelResidual.j0 k true a0_0 a0_1 l0_2 a1_0 l1_1 l2_0 l2_1))))) else (l44_PeelResidual.j0 k true a0_0 a0_1 l0_2 a1_0 l1_1 l2_0 l2_1))) else (l44_PeelResidual.j0 k true a0_0 a0_1 l0_2 a1_0 l1_1 l2_0 l2_1))
theorem l44_PeelResidual.calls (k : Nat) (a0_0 : Int) (a0_1 : Int) (A0_2 : Option Addr) (c0_2 : Nat) (l0_2 : List Int) (a1_0 : Int) (A1_1 : Option Addr) (c1_1 : Nat) (l1_1 : List (List Int)) (A2_0 : Option Addr) (c2_0 : Nat) (l2_0 : List Int) (A2_1 : Option Addr) (c2_1 : Nat) (l2_1 : List Int) (r : Bool) (hrt : r = true) (w : World) (hr0_2 : Kd.C (Kd.int .i64) w A0_2 l0_2.length l0_2) (hc0_2 : l0_2.length ≤ c0_2) (hr1_1 : Kd.C (Kd.slice 3 (Kd.int .i64)) w A1_1 l1_1.length l1_1) (hc1_1 : l1_1.length ≤ c1_1) (hr2_0 : Kd.C (Kd.int .i64) w A2_0 l2_0.length l2_0) (hc2_0 : l2_0.length ≤ c2_0) (hr2_1 : Kd.C (Kd.int .i64) w A2_1 l2_1.length l2_1) (hc2_1 : l2_1.length ≤ c2_1) (h : l44_PeelResidual.f k a0_0 a0_1 l0_2 a1_0 l1_1 l2_0 l2_1 = some r) :
  Calls Try.prog 6 #[.agg #[.int .i64 a0_0, .int .i64 a0_1, .slice A0_2 l0_2.length c0_2], .agg #[.int .i64 a1_0, .slice A1_1 l1_1.length c1_1], .agg #[.slice A2_0 l2_0.length c2_0, .slice A2_1 l2_1.length c2_1]] w fun e w' => e = .returned (.bool r) ∧ Below w.heap.size w w' := by
 have hu24 := Try.underlying24
 have hu27 := Try.underlying27
 have hu48 := Try.underlying48
 have hu31 := Try.underlying31
 have HR0_2 := ak hr0_2
 have HC0_2 := ak hc0_2
 clear hr0_2 hc0_2
 have HR1_1 := ak hr1_1
 have HC1_1 := ak hc1_1
 clear hr1_1 hc1_1
 have HR2_0 := ak hr2_0
 have HC2_0 := ak hc2_0
 clear hr2_0 hc2_0
 have HR2_1 := ak hr2_1
 have HC2_1 := ak hc2_1
 clear hr2_1 hc2_1
 have HB := ak (Below.refl w.heap.size w)
 have H : ((l44_awake.f).bind fun t150 => (if t150 = true then ((l44_few.f k a0_0 a0_1 l0_2 a1_0 l1_1).bind fun t151 => (if t151 = true then (if (l2_0.length : Int) > 100 then (l44_PeelResidual.j0 k true a0_0 a0_1 l0_2 a1_0 l1_1 l2_0 l2_1) else (if (l2_1.length : Int) > 100 then (l44_PeelResidual.j0 k true a0_0 a0_1 l0_2 a1_0 l1_1 l2_0 l2_1) else ((r9_Check.f k a0_0 a0_1 l0_2 a1_0 l1_1).bind fun t152 => (if t152 = 0 then (if a1_0 < 1 then (l44_PeelResidual.j0 k true a0_0 a0_1 l0_2 a1_0 l1_1 l2_0 l2_1) else (l44_PeelResidual.j0 k (decide (a1_0 > 64)) a0_0 a0_1 l0_2 a1_0 l1_1 l2_0 l2_1)) else (l44_PeelResidual.j0 k true a0_0 a0_1 l0_2 a1_0 l1_1 l2_0 l2_1))))) else (l44_PeelResidual.j0 k true a0_0 a0_1 l0_2 a1_0 l1_1 l2_0 l2_1))) else (l44_PeelResidual.j0 k true a0_0 a0_1 l0_2 a1_0 l1_1 l2_0 l2_1))) = some r := h
 clear h
 have HC4 := ak H
 clear H
 go_enter Try.func6, Try.ntmps6
 go_upto_region 1 with (first | ((with_reducible refine gate_dst (N := 3) rfl ?_); (try (refine gate_guard (by rfl) ?_; dsimp only)); refine box_event ?hg (N := 3) ?hd (cs := #[.int .i64 a0_0, .int .i64 a0_1, .slice A0_2 l0_2.length c0_2]) (t := 24) ?hr ?_; (case hd => rfl); (case hg => rfl); (case hr => first | (go_simp; done) | (go_simp; rfl)); intro gb147 hg w5 hbox hb; have n0_ := ak (bsp HB.out hb); have n1_ := ak (hbox); have n2_ := ak ((by rw [hg]; exact (bsz HB.out) : w.heap.size ≤ gb147)); have n3_ := ak ((by rw [hg]; exact (bsz HB.out) : w.heap.size ≤ gb147)); clear HB; have HB := n0_; have BK147 := n1_; have GW147 := n2_; have GE147 := n3_; clear n0_ n1_ n2_ n3_; clear hb hbox hg) | ((with_reducible refine gate_dst (N := 4) rfl ?_); (try (refine gate_guard (by rfl) ?_; dsimp only)); refine box_event ?hg (N := 4) ?hd (cs := #[.int .i64 a1_0, .slice A1_1 l1_1.length c1_1]) (t := 27) ?hr ?_; (case hd => rfl); (case hg => rfl); (case hr => first | (go_simp; done) | (go_simp; rfl)); intro gb148 hg w6 hbox hb; have n0_ := ak (kbe BK147.out hb); have n1_ := ak (bsp HB.out hb); have n2_ := ak (hbox); have n3_ := ak ((by rw [hg]; exact (bsz HB.out) : w.heap.size ≤ gb148)); have n4_ := ak ((by rw [hg]; exact (bsz HB.out) : w.heap.size ≤ gb148)); have n5_ := ak ((by rw [hg]; exact Nat.ne_of_lt (klt BK147.out) : gb147 ≠ gb148)); have n6_ := ak ((by rw [hg]; exact Nat.ne_of_gt (klt BK147.out) : gb148 ≠ gb147)); clear BK147 HB; have BK147 := n0_; have HB := n1_; have BK148 := n2_; have GW148 := n3_; have GE148 := n4_; have NB147_148 := n5_; have NB148_147 := n6_; clear n0_ n1_ n2_ n3_ n4_ n5_ n6_; clear hb hbox hg) | ((with_reducible refine gate_dst (N := 5) rfl ?_); (try (refine gate_guard (by rfl) ?_; dsimp only)); refine box_event ?hg (N := 5) ?hd (cs := #[.slice A2_0 l2_0.length c2_0, .slice A2_1 l2_1.length c2_1]) (t := 48) ?hr ?_; (case hd => rfl); (case hg => rfl); (case hr => first | (go_simp; done) | (go_simp; rfl)); intro gb149 hg w7 hbox hb; have n0_ := ak (kbe BK147.out hb); have n1_ := ak (kbe BK148.out hb); have n2_ := ak (bsp HB.out hb); have n3_ := ak (hbox); have n4_ := ak ((by rw [hg]; exact (bsz HB.out) : w.heap.size ≤ gb149)); have n5_ := ak ((by rw [hg]; exact (bsz HB.out) : w.heap.size ≤ gb149)); have n6_ := ak ((by rw [hg]; exact Nat.ne_of_lt (klt BK147.out) : gb147 ≠ gb149)); have n7_ := ak ((by rw [hg]; exact Nat.ne_of_gt (klt BK147.out) : gb149 ≠ gb147)); have n8_ := ak ((by rw [hg]; exact Nat.ne_of_lt (klt BK148.out) : gb148 ≠ gb149)); have n9_ := ak ((by rw [hg]; exact Nat.ne_of_gt (klt BK148.out) : gb149 ≠ gb148)); clear BK147 BK148 HB; have BK147 := n0_; have BK148 := n1_; have HB := n2_; have BK149 := n3_; have GW149 := n4_; have GE149 := n5_; have NB147_149 := n6_; have NB149_147 := n7_; have NB148_149 := n8_; have NB149_148 := n9_; clear n0_ n1_ n2_ n3_ n4_ n5_ n6_ n7_ n8_ n9_; clear hb hbox hg))
 (try simp only [Act.put, sia, scz, scs])
 go_cut [48] (fun v48 wc => ∃ (kq : Nat) (x48_3 : Bool), v48 = .bool x48_3 ∧ Aside0 (l44_PeelResidual.j0 kq x48_3 a0_0 a0_1 l0_2 a1_0 l1_1 l2_0 l2_1 = some r) ∧ Aside0 (kq ≤ k) ∧ Aside0 (wc.heap[gb147]? = some (.cells #[.int .i64 a0_0, .int .i64 a0_1, (.slice A0_2 l0_2.length c0_2)] 24 (0, 0))) ∧ Aside0 (wc.heap[gb148]? = some (.cells #[.int .i64 a1_0, (.slice A1_1 l1_1.length c1_1)] 27 (0, 0))) ∧ Aside0 (wc.heap[gb149]? = some (.cells #[(.slice A2_0 l2_0.length c2_0), (.slice A2_1 l2_1.length c2_1)] 48 (0, 0))) ∧ Aside0 (Below w.heap.size w wc))
 case first =>
  have H := HC4.out
  clear HC4
  replace H := Option.bind_eq_some_iff.mp H
  obtain ⟨t150, A80, H⟩ := H
  replace H : (if t150 = true then ((l44_few.f k a0_0 a0_1 l0_2 a1_0 l1_1).bind fun t151 => (if t151 = true then (if (l2_0.length : Int) > 100 then (l44_PeelResidual.j0 k true a0_0 a0_1 l0_2 a1_0 l1_1 l2_0 l2_1) else (if (l2_1.length : Int) > 100 then (l44_PeelResidual.j0 k true a0_0 a0_1 l0_2 a1_0 l1_1 l2_0 l2_1) else ((r9_Check.f k a0_0 a0_1 l0_2 a1_0 l1_1).bind fun t152 => (if t152 = 0 then (if a1_0 < 1 then (l44_PeelResidual.j0 k true a0_0 a0_1 l0_2 a1_0 l1_1 l2_0 l2_1) else (l44_PeelResidual.j0 k (decide (a1_0 > 64)) a0_0 a0_1 l0_2 a1_0 l1_1 l2_0 l2_1)) else (l44_PeelResidual.j0 k true a0_0 a0_1 l0_2 a1_0 l1_1 l2_0 l2_1))))) else (l44_PeelResidual.j0 k true a0_0 a0_1 l0_2 a1_0 l1_1 l2_0 l2_1))) else (l44_PeelResidual.j0 k true a0_0 a0_1 l0_2 a1_0 l1_1 l2_0 l2_1)) = some r := H
  have A8 := ak A80
  clear A80
  by_cases c9 : t150 = true
  ·subst c9
   have H1 : ((l44_few.f k a0_0 a0_1 l0_2 a1_0 l1_1).bind fun t151 => (if t151 = true then (if (l2_0.length : Int) > 100 then (l44_PeelResidual.j0 k true a0_0 a0_1 l0_2 a1_0 l1_1 l2_0 l2_1) else (if (l2_1.length : Int) > 100 then (l44_PeelResidual.j0 k true a0_0 a0_1 l0_2 a1_0 l1_1 l2_0 l2_1) else ((r9_Check.f k a0_0 a0_1 l0_2 a1_0 l1_1).bind fun t152 => (if t152 = 0 then (if a1_0 < 1 then (l44_PeelResidual.j0 k true a0_0 a0_1 l0_2 a1_0 l1_1 l2_0 l2_1) else (l44_PeelResidual.j0 k (decide (a1_0 > 64)) a0_0 a0_1 l0_2 a1_0 l1_1 l2_0 l2_1)) else (l44_PeelResidual.j0 k true a0_0 a0_1 l0_2 a1_0 l1_1 l2_0 l2_1))))) else (l44_PeelResidual.j0 k true a0_0 a0_1 l0_2 a1_0 l1_1 l2_0 l2_1))) = some r := by rw [if_pos rfl] at H; exact H
   clear H
   have H := H1
   clear H1
   replace H := Option.bind_eq_some_iff.mp H
   obtain ⟨t151, A100, H⟩ := H
   replace H : (if t151 = true then (if (l2_0.length : Int) > 100 then (l44_PeelResidual.j0 k true a0_0 a0_1 l0_2 a1_0 l1_1 l2_0 l2_1) else (if (l2_1.length : Int) > 100 then (l44_PeelResidual.j0 k true a0_0 a0_1 l0_2 a1_0 l1_1 l2_0 l2_1) else ((r9_Check.f k a0_0 a0_1 l0_2 a1_0 l1_1).bind fun t152 => (if t152 = 0 then (if a1_0 < 1 then (l44_PeelResidual.j0 k true a0_0 a0_1 l0_2 a1_0 l1_1 l2_0 l2_1) else (l44_PeelResidual.j0 k (decide (a1_0 > 64)) a0_0 a0_1 l0_2 a1_0 l1_1 l2_0 l2_1)) else (l44_PeelResidual.j0 k true a0_0 a0_1 l0_2 a1_0 l1_1 l2_0 l2_1))))) else (l44_PeelResidual.j0 k true a0_0 a0_1 l0_2 a1_0 l1_1 l2_0 l2_1)) = some r := H
   have A10 := ak A100
   clear A100
   by_cases c11 : t151 = true
   ·subst c11
    have H1 : (if (l2_0.length : Int) > 100 then (l44_PeelResidual.j0 k true a0_0 a0_1 l0_2 a1_0 l1_1 l2_0 l2_1) else (if (l2_1.length : Int) > 100 then (l44_PeelResidual.j0 k true a0_0 a0_1 l0_2 a1_0 l1_1 l2_0 l2_1) else ((r9_Check.f k a0_0 a0_1 l0_2 a1_0 l1_1).bind fun t152 => (if t152 = 0 then (if a1_0 < 1 then (l44_PeelResidual.j0 k true a0_0 a0_1 l0_2 a1_0 l1_1 l2_0 l2_1) else (l44_PeelResidual.j0 k (decide (a1_0 > 64)) a0_0 a0_1 l0_2 a1_0 l1_1 l2_0 l2_1)) else (l44_PeelResidual.j0 k true a0_0 a0_1 l0_2 a1_0 l1_1 l2_0 l2_1))))) = some r := by rw [if_pos rfl] at H; exact H
    clear H
    have H := H1
    clear H1
    by_cases c12 : (l2_0.length : Int) > 100
    ·rw [if_pos c12] at H
     have c12b0 : decide (100 < (l2_0.length : Int)) = true := decide_eq_true c12
     have c12b1 : decide (100 < l2_0.length) = true := decide_eq_true (by omega)
     clear c12
     (first | rw [c12b0] | (simp only [i64_w, i32_w]; rw [c12b0]) | skip)
     have H' := ak H
     clear H
     go_wp2_with (first | ((with_reducible refine gate_callee (f := 12) rfl ?_); refine goesL_ (some 13) rfl rfl Try.func12 (by kernel_rfl) rfl #[] rfl (by (try simp only [List.map_toArray, List.map_cons, List.map_nil]); first | done | rfl) ?_; (with_reducible refine (l44_awake.calls  true _ A8.out).mono ?_); rintro e w13 ⟨rfl, hb⟩; refine ⟨_, rfl, ?_⟩; have n0_ := ak (kbe BK147.out hb); have n1_ := ak (kbe BK148.out hb); have n2_ := ak (kbe BK149.out hb); have n3_ := ak (bsp HB.out hb); clear BK147 BK148 BK149 HB; have BK147 := n0_; have BK148 := n1_; have BK149 := n2_; have HB := n3_; clear n0_ n1_ n2_ n3_; have hnb14 := NB147_148.out; have hnc14 := NB148_147.out; have hnb15 := NB147_149.out; have hnc15 := NB149_147.out; have hcz16_0 : w13.cell? ⟨gb147, 0, none⟩ = some (.int .i64 a0_0) := (kce BK147.out 0).trans rfl; have hcz16_1 : w13.cell? ⟨gb147, 1, none⟩ = some (.int .i64 a0_1) := (kce BK147.out 1).trans rfl; have hcz16_2 : w13.cell? ⟨gb147, 2, none⟩ = some (.slice A0_2 l0_2.length c0_2) := (kce BK147.out 2).trans rfl; have hnb17 := NB148_149.out; have hnc17 := NB149_148.out; have hcz18_0 : w13.cell? ⟨gb148, 0, none⟩ = some (.int .i64 a1_0) := (kce BK148.out 0).trans rfl; have hcz18_1 : w13.cell? ⟨gb148, 1, none⟩ = some (.slice A1_1 l1_1.length c1_1) := (kce BK148.out 1).trans rfl) | (go_at_call 29; (with_reducible refine (l44_few.calls k a0_0 a0_1 _ _ l0_2 a1_0 _ _ l1_1 true _ ?side1 ?side2 ?side3 ?side4 A10.out).mono ?_); (case side1 => repeat (first | exact (Kd.C_below HR0_2.out HB.out) | (with_reducible refine Kd.C_alloc ?_ _) | (with_reducible refine Kd.C_drewN ?_ _) | (with_reducible refine Kd.C_drew ?_))); (case side2 => exact HC0_2.out); (case side3 => repeat (first | exact (Kd.C_below HR1_1.out HB.out) | (with_reducible refine Kd.C_alloc ?_ _) | (with_reducible refine Kd.C_drewN ?_ _) | (with_reducible refine Kd.C_drew ?_))); (case side4 => exact HC1_1.out); rintro e w19 ⟨rfl, hb⟩; have n0_ := ak (kbe BK147.out hb); have n1_ := ak (kbe BK148.out hb); have n2_ := ak (kbe BK149.out hb); have n3_ := ak (bsp HB.out hb); clear BK147 BK148 BK149 HB; have BK147 := n0_; have BK148 := n1_; have BK149 := n2_; have HB := n3_; clear n0_ n1_ n2_ n3_; have hcz20_0 : w19.cell? ⟨gb149, 0, none⟩ = some (.slice A2_0 l2_0.length c2_0) := (kce BK149.out 0).trans rfl; have hcz20_1 : w19.cell? ⟨gb149, 1, none⟩ = some (.slice A2_1 l2_1.length c2_1) := (kce BK149.out 1).trans rfl))
     go_meet
     case rel => exact ⟨_, (true), (by first | rfl | (simp; done) | (simp [*]; done)), H', ⟨by first | omega | exact Nat.le_refl _⟩, ⟨by (with_reducible repeat (first | refine kdn ?_ _ | refine kdr ?_ | refine kal ?_ _)); exact BK147.out⟩, ⟨by (with_reducible repeat (first | refine kdn ?_ _ | refine kdr ?_ | refine kal ?_ _)); exact BK148.out⟩, ⟨by (with_reducible repeat (first | refine kdn ?_ _ | refine kdr ?_ | refine kal ?_ _)); exact BK149.out⟩, ⟨by repeat (first | (with_reducible first | exact HB.out | apply bal | apply pbn | apply bd1 | refine bst ?_ GE147.out | refine bst ?_ GE148.out | refine bst ?_ GE149.out) | exact HB.out)⟩⟩
    ·rw [if_neg c12] at H
     have c12b0 : decide (100 < (l2_0.length : Int)) = false := decide_eq_false c12
     have c12b1 : decide (100 < l2_0.length) = false := decide_eq_false (by omega)
     clear c12
     (first | rw [c12b0] | (simp only [i64_w, i32_w]; rw [c12b0]) | skip)
     by_cases c21 : (l2_1.length : Int) > 100
     ·rw [if_pos c21] at H
      have c21b0 : decide (100 < (l2_1.length : Int)) = true := decide_eq_true c21
      have c21b1 : decide (100 < l2_1.length) = true := decide_eq_true (by omega)
      clear c21
      have H' := ak H
      clear H
      go_wp2_with (first | ((with_reducible refine gate_callee (f := 12) rfl ?_); refine goesL_ (some 13) rfl rfl Try.func12 (by kernel_rfl) rfl #[] rfl (by (try simp only [List.map_toArray, List.map_cons, List.map_nil]); first | done | rfl) ?_; (with_reducible refine (l44_awake.calls  true _ A8.out).mono ?_); rintro e w22 ⟨rfl, hb⟩; refine ⟨_, rfl, ?_⟩; have n0_ := ak (kbe BK147.out hb); have n1_ := ak (kbe BK148.out hb); have n2_ := ak (kbe BK149.out hb); have n3_ := ak (bsp HB.out hb); clear BK147 BK148 BK149 HB; have BK147 := n0_; have BK148 := n1_; have BK149 := n2_; have HB := n3_; clear n0_ n1_ n2_ n3_; have hnb23 := NB147_148.out; have hnc23 := NB148_147.out; have hnb24 := NB147_149.out; have hnc24 := NB149_147.out; have hcz25_0 : w22.cell? ⟨gb147, 0, none⟩ = some (.int .i64 a0_0) := (kce BK147.out 0).trans rfl; have hcz25_1 : w22.cell? ⟨gb147, 1, none⟩ = some (.int .i64 a0_1) := (kce BK147.out 1).trans rfl; have hcz25_2 : w22.cell? ⟨gb147, 2, none⟩ = some (.slice A0_2 l0_2.length c0_2) := (kce BK147.out 2).trans rfl; have hnb26 := NB148_149.out; have hnc26 := NB149_148.out; have hcz27_0 : w22.cell? ⟨gb148, 0, none⟩ = some (.int .i64 a1_0) := (kce BK148.out 0).trans rfl; have hcz27_1 : w22.cell? ⟨gb148, 1, none⟩ = some (.slice A1_1 l1_1.length c1_1) := (kce BK148.out 1).trans rfl) | (go_at_call 29; (with_reducible refine (l44_few.calls k a0_0 a0_1 _ _ l0_2 a1_0 _ _ l1_1 true _ ?side1 ?side2 ?side3 ?side4 A10.out).mono ?_); (case side1 => repeat (first | exact (Kd.C_below HR0_2.out HB.out) | (with_reducible refine Kd.C_alloc ?_ _) | (with_reducible refine Kd.C_drewN ?_ _) | (with_reducible refine Kd.C_drew ?_))); (case side2 => exact HC0_2.out); (case side3 => repeat (first | exact (Kd.C_below HR1_1.out HB.out) | (with_reducible refine Kd.C_alloc ?_ _) | (with_reducible refine Kd.C_drewN ?_ _) | (with_reducible refine Kd.C_drew ?_))); (case side4 => exact HC1_1.out); rintro e w28 ⟨rfl, hb⟩; have n0_ := ak (kbe BK147.out hb); have n1_ := ak (kbe BK148.out hb); have n2_ := ak (kbe BK149.out hb); have n3_ := ak (bsp HB.out hb); clear BK147 BK148 BK149 HB; have BK147 := n0_; have BK148 := n1_; have BK149 := n2_; have HB := n3_; clear n0_ n1_ n2_ n3_; have hcz29_0 : w28.cell? ⟨gb149, 0, none⟩ = some (.slice A2_0 l2_0.length c2_0) := (kce BK149.out 0).trans rfl; have hcz29_1 : w28.cell? ⟨gb149, 1, none⟩ = some (.slice A2_1 l2_1.length c2_1) := (kce BK149.out 1).trans rfl))
      go_meet
      case rel => exact ⟨_, (true), (by first | rfl | (simp; done) | (simp [*]; done)), H', ⟨by first | omega | exact Nat.le_refl _⟩, ⟨by (with_reducible repeat (first | refine kdn ?_ _ | refine kdr ?_ | refine kal ?_ _)); exact BK147.out⟩, ⟨by (with_reducible repeat (first | refine kdn ?_ _ | refine kdr ?_ | refine kal ?_ _)); exact BK148.out⟩, ⟨by (with_reducible repeat (first | refine kdn ?_ _ | refine kdr ?_ | refine kal ?_ _)); exact BK149.out⟩, ⟨by repeat (first | (with_reducible first | exact HB.out | apply bal | apply pbn | apply bd1 | refine bst ?_ GE147.out | refine bst ?_ GE148.out | refine bst ?_ GE149.out) | exact HB.out)⟩⟩
     ·rw [if_neg c21] at H
      have c21b0 : decide (100 < (l2_1.length : Int)) = false := decide_eq_false c21
      have c21b1 : decide (100 < l2_1.length) = false := decide_eq_false (by omega)
      clear c21
      replace H := Option.bind_eq_some_iff.mp H
      obtain ⟨t152, A300, H⟩ := H
      replace H : (if t152 = 0 then (if a1_0 < 1 then (l44_PeelResidual.j0 k true a0_0 a0_1 l0_2 a1_0 l1_1 l2_0 l2_1) else (l44_PeelResidual.j0 k (decide (a1_0 > 64)) a0_0 a0_1 l0_2 a1_0 l1_1 l2_0 l2_1)) else (l44_PeelResidual.j0 k true a0_0 a0_1 l0_2 a1_0 l1_1 l2_0 l2_1)) = some r := H
      have A30 := ak A300
      clear A300
      by_cases c31 : t152 = 0
      ·rw [if_pos c31] at H
       have c31b0 : (t152 == 0) = true := beq_iff_eq.mpr c31
       have c31b1 : (t152 != 0) = false := bne_eq_false_iff_eq.mpr c31
       clear c31
       by_cases c32 : a1_0 < 1
       ·rw [if_pos c32] at H
        have c32b0 : decide (a1_0 < 1) = true := decide_eq_true c32
        clear c32
        have H' := ak H
        clear H
        go_wp2_with (first | ((with_reducible refine gate_callee (f := 12) rfl ?_); refine goesL_ (some 13) rfl rfl Try.func12 (by kernel_rfl) rfl #[] rfl (by (try simp only [List.map_toArray, List.map_cons, List.map_nil]); first | done | rfl) ?_; (with_reducible refine (l44_awake.calls  true _ A8.out).mono ?_); rintro e w33 ⟨rfl, hb⟩; refine ⟨_, rfl, ?_⟩; have n0_ := ak (kbe BK147.out hb); have n1_ := ak (kbe BK148.out hb); have n2_ := ak (kbe BK149.out hb); have n3_ := ak (bsp HB.out hb); clear BK147 BK148 BK149 HB; have BK147 := n0_; have BK148 := n1_; have BK149 := n2_; have HB := n3_; clear n0_ n1_ n2_ n3_; have hnb34 := NB147_148.out; have hnc34 := NB148_147.out; have hnb35 := NB147_149.out; have hnc35 := NB149_147.out; have hcz36_0 : w33.cell? ⟨gb147, 0, none⟩ = some (.int .i64 a0_0) := (kce BK147.out 0).trans rfl; have hcz36_1 : w33.cell? ⟨gb147, 1, none⟩ = some (.int .i64 a0_1) := (kce BK147.out 1).trans rfl; have hcz36_2 : w33.cell? ⟨gb147, 2, none⟩ = some (.slice A0_2 l0_2.length c0_2) := (kce BK147.out 2).trans rfl; have hnb37 := NB148_149.out; have hnc37 := NB149_148.out; have hcz38_0 : w33.cell? ⟨gb148, 0, none⟩ = some (.int .i64 a1_0) := (kce BK148.out 0).trans rfl; have hcz38_1 : w33.cell? ⟨gb148, 1, none⟩ = some (.slice A1_1 l1_1.length c1_1) := (kce BK148.out 1).trans rfl) | (go_at_call 29; (with_reducible refine (l44_few.calls k a0_0 a0_1 _ _ l0_2 a1_0 _ _ l1_1 true _ ?side1 ?side2 ?side3 ?side4 A10.out).mono ?_); (case side1 => repeat (first | exact (Kd.C_below HR0_2.out HB.out) | (with_reducible refine Kd.C_alloc ?_ _) | (with_reducible refine Kd.C_drewN ?_ _) | (with_reducible refine Kd.C_drew ?_))); (case side2 => exact HC0_2.out); (case side3 => repeat (first | exact (Kd.C_below HR1_1.out HB.out) | (with_reducible refine Kd.C_alloc ?_ _) | (with_reducible refine Kd.C_drewN ?_ _) | (with_reducible refine Kd.C_drew ?_))); (case side4 => exact HC1_1.out); rintro e w39 ⟨rfl, hb⟩; have n0_ := ak (kbe BK147.out hb); have n1_ := ak (kbe BK148.out hb); have n2_ := ak (kbe BK149.out hb); have n3_ := ak (bsp HB.out hb); clear BK147 BK148 BK149 HB; have BK147 := n0_; have BK148 := n1_; have BK149 := n2_; have HB := n3_; clear n0_ n1_ n2_ n3_; have hcz40_0 : w39.cell? ⟨gb149, 0, none⟩ = some (.slice A2_0 l2_0.length c2_0) := (kce BK149.out 0).trans rfl; have hcz40_1 : w39.cell? ⟨gb149, 1, none⟩ = some (.slice A2_1 l2_1.length c2_1) := (kce BK149.out 1).trans rfl; have hcz41_0 : w39.cell? ⟨gb147, 0, none⟩ = some (.int .i64 a0_0) := (kce BK147.out 0).trans rfl; have hcz41_1 : w39.cell? ⟨gb147, 1, none⟩ = some (.int .i64 a0_1) := (kce BK147.out 1).trans rfl; have hcz41_2 : w39.cell? ⟨gb147, 2, none⟩ = some (.slice A0_2 l0_2.length c0_2) := (kce BK147.out 2).trans rfl; have hcz42_0 : w39.cell? ⟨gb148, 0, none⟩ = some (.int .i64 a1_0) := (kce BK148.out 0).trans rfl; have hcz42_1 : w39.cell? ⟨gb148, 1, none⟩ = some (.slice A1_1 l1_1.length c1_1) := (kce BK148.out 1).trans rfl) | (go_at_call 32; (with_reducible refine (r9_Check.calls k a0_0 a0_1 _ _ l0_2 a1_0 _ _ l1_1 t152 _ ?side1 ?side2 ?side3 ?side4 A30.out).mono ?_); (case side1 => repeat (first | exact (Kd.C_below HR0_2.out HB.out) | (with_reducible refine Kd.C_alloc ?_ _) | (with_reducible refine Kd.C_drewN ?_ _) | (with_reducible refine Kd.C_drew ?_))); (case side2 => exact HC0_2.out); (case side3 => repeat (first | exact (Kd.C_below HR1_1.out HB.out) | (with_reducible refine Kd.C_alloc ?_ _) | (with_reducible refine Kd.C_drewN ?_ _) | (with_reducible refine Kd.C_drew ?_))); (case side4 => exact HC1_1.out); rintro e w43 ⟨rfl, hb⟩; have n0_ := ak (kbe BK147.out hb); have n1_ := ak (kbe BK148.out hb); have n2_ := ak (kbe BK149.out hb); have n3_ := ak (bsp HB.out hb); clear BK147 BK148 BK149 HB; have BK147 := n0_; have BK148 := n1_; have BK149 := n2_; have HB := n3_; clear n0_ n1_ n2_ n3_; have hcz44_0 : w43.cell? ⟨gb148, 0, none⟩ = some (.int .i64 a1_0) := (kce BK148.out 0).trans rfl; have hcz44_1 : w43.cell? ⟨gb148, 1, none⟩ = some (.slice A1_1 l1_1.length c1_1) := (kce BK148.out 1).trans rfl))
        go_meet
        case rel => exact ⟨_, (true), (by first | rfl | (simp; done) | (simp [*]; done)), H', ⟨by first | omega | exact Nat.le_refl _⟩, ⟨by (with_reducible repeat (first | refine kdn ?_ _ | refine kdr ?_ | refine kal ?_ _)); exact BK147.out⟩, ⟨by (with_reducible repeat (first | refine kdn ?_ _ | refine kdr ?_ | refine kal ?_ _)); exact BK148.out⟩, ⟨by (with_reducible repeat (first | refine kdn ?_ _ | refine kdr ?_ | refine kal ?_ _)); exact BK149.out⟩, ⟨by repeat (first | (with_reducible first | exact HB.out | apply bal | apply pbn | apply bd1 | refine bst ?_ GE147.out | refine bst ?_ GE148.out | refine bst ?_ GE149.out) | exact HB.out)⟩⟩
       ·rw [if_neg c32] at H
        have c32b0 : decide (a1_0 < 1) = false := decide_eq_false c32
        clear c32
        have H' := ak H
        clear H
        go_wp2_with (first | ((with_reducible refine gate_callee (f := 12) rfl ?_); refine goesL_ (some 13) rfl rfl Try.func12 (by kernel_rfl) rfl #[] rfl (by (try simp only [List.map_toArray, List.map_cons, List.map_nil]); first | done | rfl) ?_; (with_reducible refine (l44_awake.calls  true _ A8.out).mono ?_); rintro e w45 ⟨rfl, hb⟩; refine ⟨_, rfl, ?_⟩; have n0_ := ak (kbe BK147.out hb); have n1_ := ak (kbe BK148.out hb); have n2_ := ak (kbe BK149.out hb); have n3_ := ak (bsp HB.out hb); clear BK147 BK148 BK149 HB; have BK147 := n0_; have BK148 := n1_; have BK149 := n2_; have HB := n3_; clear n0_ n1_ n2_ n3_; have hnb46 := NB147_148.out; have hnc46 := NB148_147.out; have hnb47 := NB147_149.out; have hnc47 := NB149_147.out; have hcz48_0 : w45.cell? ⟨gb147, 0, none⟩ = some (.int .i64 a0_0) := (kce BK147.out 0).trans rfl; have hcz48_1 : w45.cell? ⟨gb147, 1, none⟩ = some (.int .i64 a0_1) := (kce BK147.out 1).trans rfl; have hcz48_2 : w45.cell? ⟨gb147, 2, none⟩ = some (.slice A0_2 l0_2.length c0_2) := (kce BK147.out 2).trans rfl; have hnb49 := NB148_149.out; have hnc49 := NB149_148.out; have hcz50_0 : w45.cell? ⟨gb148, 0, none⟩ = some (.int .i64 a1_0) := (kce BK148.out 0).trans rfl; have hcz50_1 : w45.cell? ⟨gb148, 1, none⟩ = some (.slice A1_1 l1_1.length c1_1) := (kce BK148.out 1).trans rfl) | (go_at_call 29; (with_reducible refine (l44_few.calls k a0_0 a0_1 _ _ l0_2 a1_0 _ _ l1_1 true _ ?side1 ?side2 ?side3 ?side4 A10.out).mono ?_); (case side1 => repeat (first | exact (Kd.C_below HR0_2.out HB.out) | (with_reducible refine Kd.C_alloc ?_ _) | (with_reducible refine Kd.C_drewN ?_ _) | (with_reducible refine Kd.C_drew ?_))); (case side2 => exact HC0_2.out); (case side3 => repeat (first | exact (Kd.C_below HR1_1.out HB.out) | (with_reducible refine Kd.C_alloc ?_ _) | (with_reducible refine Kd.C_drewN ?_ _) | (with_reducible refine Kd.C_drew ?_))); (case side4 => exact HC1_1.out); rintro e w51 ⟨rfl, hb⟩; have n0_ := ak (kbe BK147.out hb); have n1_ := ak (kbe BK148.out hb); have n2_ := ak (kbe BK149.out hb); have n3_ := ak (bsp HB.out hb); clear BK147 BK148 BK149 HB; have BK147 := n0_; have BK148 := n1_; have BK149 := n2_; have HB := n3_; clear n0_ n1_ n2_ n3_; have hcz52_0 : w51.cell? ⟨gb149, 0, none⟩ = some (.slice A2_0 l2_0.length c2_0) := (kce BK149.out 0).trans rfl; have hcz52_1 : w51.cell? ⟨gb149, 1, none⟩ = some (.slice A2_1 l2_1.length c2_1) := (kce BK149.out 1).trans rfl; have hcz53_0 : w51.cell? ⟨gb147, 0, none⟩ = some (.int .i64 a0_0) := (kce BK147.out 0).trans rfl; have hcz53_1 : w51.cell? ⟨gb147, 1, none⟩ = some (.int .i64 a0_1) := (kce BK147.out 1).trans rfl; have hcz53_2 : w51.cell? ⟨gb147, 2, none⟩ = some (.slice A0_2 l0_2.length c0_2) := (kce BK147.out 2).trans rfl; have hcz54_0 : w51.cell? ⟨gb148, 0, none⟩ = some (.int .i64 a1_0) := (kce BK148.out 0).trans rfl; have hcz54_1 : w51.cell? ⟨gb148, 1, none⟩ = some (.slice A1_1 l1_1.length c1_1) := (kce BK148.out 1).trans rfl) | (go_at_call 32; (with_reducible refine (r9_Check.calls k a0_0 a0_1 _ _ l0_2 a1_0 _ _ l1_1 t152 _ ?side1 ?side2 ?side3 ?side4 A30.out).mono ?_); (case side1 => repeat (first | exact (Kd.C_below HR0_2.out HB.out) | (with_reducible refine Kd.C_alloc ?_ _) | (with_reducible refine Kd.C_drewN ?_ _) | (with_reducible refine Kd.C_drew ?_))); (case side2 => exact HC0_2.out); (case side3 => repeat (first | exact (Kd.C_below HR1_1.out HB.out) | (with_reducible refine Kd.C_alloc ?_ _) | (with_reducible refine Kd.C_drewN ?_ _) | (with_reducible refine Kd.C_drew ?_))); (case side4 => exact HC1_1.out); rintro e w55 ⟨rfl, hb⟩; have n0_ := ak (kbe BK147.out hb); have n1_ := ak (kbe BK148.out hb); have n2_ := ak (kbe BK149.out hb); have n3_ := ak (bsp HB.out hb); clear BK147 BK148 BK149 HB; have BK147 := n0_; have BK148 := n1_; have BK149 := n2_; have HB := n3_; clear n0_ n1_ n2_ n3_; have hcz56_0 : w55.cell? ⟨gb148, 0, none⟩ = some (.int .i64 a1_0) := (kce BK148.out 0).trans rfl; have hcz56_1 : w55.cell? ⟨gb148, 1, none⟩ = some (.slice A1_1 l1_1.length c1_1) := (kce BK148.out 1).trans rfl))
        go_meet
        case rel => exact ⟨_, (decide (a1_0 > 64)), (by first | rfl | (simp; done) | (simp [*]; done)), H', ⟨by first | omega | exact Nat.le_refl _⟩, ⟨by (with_reducible repeat (first | refine kdn ?_ _ | refine kdr ?_ | refine kal ?_ _)); exact BK147.out⟩, ⟨by (with_reducible repeat (first | refine kdn ?_ _ | refine kdr ?_ | refine kal ?_ _)); exact BK148.out⟩, ⟨by (with_reducible repeat (first | refine kdn ?_ _ | refine kdr ?_ | refine kal ?_ _)); exact BK149.out⟩, ⟨by repeat (first | (with_reducible first | exact HB.out | apply bal | apply pbn | apply bd1 | refine bst ?_ GE147.out | refine bst ?_ GE148.out | refine bst ?_ GE149.out) | exact HB.out)⟩⟩
      ·rw [if_neg c31] at H
       have c31b0 : (t152 == 0) = false := beq_eq_false_iff_ne.mpr c31
       have c31b1 : (t152 != 0) = true := bne_iff_ne.mpr c31
       have H' := ak H
       clear H
       go_wp2_with (first | ((with_reducible refine gate_callee (f := 12) rfl ?_); refine goesL_ (some 13) rfl rfl Try.func12 (by kernel_rfl) rfl #[] rfl (by (try simp only [List.map_toArray, List.map_cons, List.map_nil]); first | done | rfl) ?_; (with_reducible refine (l44_awake.calls  true _ A8.out).mono ?_); rintro e w57 ⟨rfl, hb⟩; refine ⟨_, rfl, ?_⟩; have n0_ := ak (kbe BK147.out hb); have n1_ := ak (kbe BK148.out hb); have n2_ := ak (kbe BK149.out hb); have n3_ := ak (bsp HB.out hb); clear BK147 BK148 BK149 HB; have BK147 := n0_; have BK148 := n1_; have BK149 := n2_; have HB := n3_; clear n0_ n1_ n2_ n3_; have hnb58 := NB147_148.out; have hnc58 := NB148_147.out; have hnb59 := NB147_149.out; have hnc59 := NB149_147.out; have hcz60_0 : w57.cell? ⟨gb147, 0, none⟩ = some (.int .i64 a0_0) := (kce BK147.out 0).trans rfl; have hcz60_1 : w57.cell? ⟨gb147, 1, none⟩ = some (.int .i64 a0_1) := (kce BK147.out 1).trans rfl; have hcz60_2 : w57.cell? ⟨gb147, 2, none⟩ = some (.slice A0_2 l0_2.length c0_2) := (kce BK147.out 2).trans rfl; have hnb61 := NB148_149.out; have hnc61 := NB149_148.out; have hcz62_0 : w57.cell? ⟨gb148, 0, none⟩ = some (.int .i64 a1_0) := (kce BK148.out 0).trans rfl; have hcz62_1 : w57.cell? ⟨gb148, 1, none⟩ = some (.slice A1_1 l1_1.length c1_1) := (kce BK148.out 1).trans rfl) | (go_at_call 29; (with_reducible refine (l44_few.calls k a0_0 a0_1 _ _ l0_2 a1_0 _ _ l1_1 true _ ?side1 ?side2 ?side3 ?side4 A10.out).mono ?_); (case side1 => repeat (first | exact (Kd.C_below HR0_2.out HB.out) | (with_reducible refine Kd.C_alloc ?_ _) | (with_reducible refine Kd.C_drewN ?_ _) | (with_reducible refine Kd.C_drew ?_))); (case side2 => exact HC0_2.out); (case side3 => repeat (first | exact (Kd.C_below HR1_1.out HB.out) | (with_reducible refine Kd.C_alloc ?_ _) | (with_reducible refine Kd.C_drewN ?_ _) | (with_reducible refine Kd.C_drew ?_))); (case side4 => exact HC1_1.out); rintro e w63 ⟨rfl, hb⟩; have n0_ := ak (kbe BK147.out hb); have n1_ := ak (kbe BK148.out hb); have n2_ := ak (kbe BK149.out hb); have n3_ := ak (bsp HB.out hb); clear BK147 BK148 BK149 HB; have BK147 := n0_; have BK148 := n1_; have BK149 := n2_; have HB := n3_; clear n0_ n1_ n2_ n3_; have hcz64_0 : w63.cell? ⟨gb149, 0, none⟩ = some (.slice A2_0 l2_0.length c2_0) := (kce BK149.out 0).trans rfl; have hcz64_1 : w63.cell? ⟨gb149, 1, none⟩ = some (.slice A2_1 l2_1.length c2_1) := (kce BK149.out 1).trans rfl; have hcz65_0 : w63.cell? ⟨gb147, 0, none⟩ = some (.int .i64 a0_0) := (kce BK147.out 0).trans rfl; have hcz65_1 : w63.cell? ⟨gb147, 1, none⟩ = some (.int .i64 a0_1) := (kce BK147.out 1).trans rfl; have hcz65_2 : w63.cell? ⟨gb147, 2, none⟩ = some (.slice A0_2 l0_2.length c0_2) := (kce BK147.out 2).trans rfl; have hcz66_0 : w63.cell? ⟨gb148, 0, none⟩ = some (.int .i64 a1_0) := (kce BK148.out 0).trans rfl; have hcz66_1 : w63.cell? ⟨gb148, 1, none⟩ = some (.slice A1_1 l1_1.length c1_1) := (kce BK148.out 1).trans rfl) | (go_at_call 32; (with_reducible refine (r9_Check.calls k a0_0 a0_1 _ _ l0_2 a1_0 _ _ l1_1 t152 _ ?side1 ?side2 ?side3 ?side4 A30.out).mono ?_); (case side1 => repeat (first | exact (Kd.C_below HR0_2.out HB.out) | (with_reducible refine Kd.C_alloc ?_ _) | (with_reducible refine Kd.C_drewN ?_ _) | (with_reducible refine Kd.C_drew ?_))); (case side2 => exact HC0_2.out); (case side3 => repeat (first | exact (Kd.C_below HR1_1.out HB.out) | (with_reducible refine Kd.C_alloc ?_ _) | (with_reducible refine Kd.C_drewN ?_ _) | (with_reducible refine Kd.C_drew ?_))); (case side4 => exact HC1_1.out); rintro e w67 ⟨rfl, hb⟩; have n0_ := ak (kbe BK147.out hb); have n1_ := ak (kbe BK148.out hb); have n2_ := ak (kbe BK149.out hb); have n3_ := ak (bsp HB.out hb); clear BK147 BK148 BK149 HB; have BK147 := n0_; have BK148 := n1_; have BK149 := n2_; have HB := n3_; clear n0_ n1_ n2_ n3_; (try clear hb); (try clear hb2); (try clear hk); (try clear hi)))
       go_meet
       case rel => exact ⟨_, (true), (by first | rfl | (simp; done) | (simp [*]; done)), H', ⟨by first | omega | exact Nat.le_refl _⟩, ⟨by (with_reducible repeat (first | refine kdn ?_ _ | refine kdr ?_ | refine kal ?_ _)); exact BK147.out⟩, ⟨by (with_reducible repeat (first | refine kdn ?_ _ | refine kdr ?_ | refine kal ?_ _)); exact BK148.out⟩, ⟨by (with_reducible repeat (first | refine kdn ?_ _ | refine kdr ?_ | refine kal ?_ _)); exact BK149.out⟩, ⟨by repeat (first | (with_reducible first | exact HB.out | apply bal | apply pbn | apply bd1 | refine bst ?_ GE147.out | refine bst ?_ GE148.out | refine bst ?_ GE149.out) | exact HB.out)⟩⟩
   ·replace c11 := Bool.eq_false_iff.mpr c11
    subst c11
    have H1 : (l44_PeelResidual.j0 k true a0_0 a0_1 l0_2 a1_0 l1_1 l2_0 l2_1) = some r := by rw [if_neg (show ¬ (false = true) by decide)] at H; exact H
    clear H
    have H := H1
    clear H1
    have H' := ak H
    clear H
    go_wp2_with (first | ((with_reducible refine gate_callee (f := 12) rfl ?_); refine goesL_ (some 13) rfl rfl Try.func12 (by kernel_rfl) rfl #[] rfl (by (try simp only [List.map_toArray, List.map_cons, List.map_nil]); first | done | rfl) ?_; (with_reducible refine (l44_awake.calls  true _ A8.out).mono ?_); rintro e w68 ⟨rfl, hb⟩; refine ⟨_, rfl, ?_⟩; have n0_ := ak (kbe BK147.out hb); have n1_ := ak (kbe BK148.out hb); have n2_ := ak (kbe BK149.out hb); have n3_ := ak (bsp HB.out hb); clear BK147 BK148 BK149 HB; have BK147 := n0_; have BK148 := n1_; have BK149 := n2_; have HB := n3_; clear n0_ n1_ n2_ n3_; have hnb69 := NB147_148.out; have hnc69 := NB148_147.out; have hnb70 := NB147_149.out; have hnc70 := NB149_147.out; have hcz71_0 : w68.cell? ⟨gb147, 0, none⟩ = some (.int .i64 a0_0) := (kce BK147.out 0).trans rfl; have hcz71_1 : w68.cell? ⟨gb147, 1, none⟩ = some (.int .i64 a0_1) := (kce BK147.out 1).trans rfl; have hcz71_2 : w68.cell? ⟨gb147, 2, none⟩ = some (.slice A0_2 l0_2.length c0_2) := (kce BK147.out 2).trans rfl; have hnb72 := NB148_149.out; have hnc72 := NB149_148.out; have hcz73_0 : w68.cell? ⟨gb148, 0, none⟩ = some (.int .i64 a1_0) := (kce BK148.out 0).trans rfl; have hcz73_1 : w68.cell? ⟨gb148, 1, none⟩ = some (.slice A1_1 l1_1.length c1_1) := (kce BK148.out 1).trans rfl) | (go_at_call 29; (with_reducible refine (l44_few.calls k a0_0 a0_1 _ _ l0_2 a1_0 _ _ l1_1 false _ ?side1 ?side2 ?side3 ?side4 A10.out).mono ?_); (case side1 => repeat (first | exact (Kd.C_below HR0_2.out HB.out) | (with_reducible refine Kd.C_alloc ?_ _) | (with_reducible refine Kd.C_drewN ?_ _) | (with_reducible refine Kd.C_drew ?_))); (case side2 => exact HC0_2.out); (case side3 => repeat (first | exact (Kd.C_below HR1_1.out HB.out) | (with_reducible refine Kd.C_alloc ?_ _) | (with_reducible refine Kd.C_drewN ?_ _) | (with_reducible refine Kd.C_drew ?_))); (case side4 => exact HC1_1.out); rintro e w74 ⟨rfl, hb⟩; have n0_ := ak (kbe BK147.out hb); have n1_ := ak (kbe BK148.out hb); have n2_ := ak (kbe BK149.out hb); have n3_ := ak (bsp HB.out hb); clear BK147 BK148 BK149 HB; have BK147 := n0_; have BK148 := n1_; have BK149 := n2_; have HB := n3_; clear n0_ n1_ n2_ n3_; (try clear hb); (try clear hb2); (try clear hk); (try clear hi)))
    go_meet
    case rel => exact ⟨_, (true), (by first | rfl | (simp; done) | (simp [*]; done)), H', ⟨by first | omega | exact Nat.le_refl _⟩, ⟨by (with_reducible repeat (first | refine kdn ?_ _ | refine kdr ?_ | refine kal ?_ _)); exact BK147.out⟩, ⟨by (with_reducible repeat (first | refine kdn ?_ _ | refine kdr ?_ | refine kal ?_ _)); exact BK148.out⟩, ⟨by (with_reducible repeat (first | refine kdn ?_ _ | refine kdr ?_ | refine kal ?_ _)); exact BK149.out⟩, ⟨by repeat (first | (with_reducible first | exact HB.out | apply bal | apply pbn | apply bd1 | refine bst ?_ GE147.out | refine bst ?_ GE148.out | refine bst ?_ GE149.out) | exact HB.out)⟩⟩
  ·replace c9 := Bool.eq_false_iff.mpr c9
   subst c9
   have H1 : (l44_PeelResidual.j0 k true a0_0 a0_1 l0_2 a1_0 l1_1 l2_0 l2_1) = some r := by rw [if_neg (show ¬ (false = true) by decide)] at H; exact H
   clear H
   have H := H1
   clear H1
   have H' := ak H
   clear H
   go_wp2_with (first | ((with_reducible refine gate_callee (f := 12) rfl ?_); refine goesL_ (some 13) rfl rfl Try.func12 (by kernel_rfl) rfl #[] rfl (by (try simp only [List.map_toArray, List.map_cons, List.map_nil]); first | done | rfl) ?_; (with_reducible refine (l44_awake.calls  false _ A8.out).mono ?_); rintro e w75 ⟨rfl, hb⟩; refine ⟨_, rfl, ?_⟩; have n0_ := ak (kbe BK147.out hb); have n1_ := ak (kbe BK148.out hb); have n2_ := ak (kbe BK149.out hb); have n3_ := ak (bsp HB.out hb); clear BK147 BK148 BK149 HB; have BK147 := n0_; have BK148 := n1_; have BK149 := n2_; have HB := n3_; clear n0_ n1_ n2_ n3_; (try clear hb); (try clear hb2); (try clear hk); (try clear hi)))
   go_meet
   case rel => exact ⟨_, (true), (by first | rfl | (simp; done) | (simp [*]; done)), H', ⟨by first | omega | exact Nat.le_refl _⟩, ⟨by (with_reducible repeat (first | refine kdn ?_ _ | refine kdr ?_ | refine kal ?_ _)); exact BK147.out⟩, ⟨by (with_reducible repeat (first | refine kdn ?_ _ | refine kdr ?_ | refine kal ?_ _)); exact BK148.out⟩, ⟨by (with_reducible repeat (first | refine kdn ?_ _ | refine kdr ?_ | refine kal ?_ _)); exact BK149.out⟩, ⟨by repeat (first | (with_reducible first | exact HB.out | apply bal | apply pbn | apply bd1 | refine bst ?_ GE147.out | refine bst ?_ GE148.out | refine bst ?_ GE149.out) | exact HB.out)⟩⟩
 case rest =>
  clear HC4
  obtain ⟨kq, x48_3, rfl, HA, HJ3, BK147, BK148, BK149, HB⟩ := hcut
  cases kq with
  | zero => exact absurd HA.out (by simp [l44_PeelResidual.j0])
  | succ kj3 =>
   have H := HA.out
   clear HA
   simp only [l44_PeelResidual.j0] at H
   by_cases c76 : x48_3 = true
   ·subst c76
    have H1 : ((l44_awake.f).bind fun t153 => (some t153)) = some r := by rw [if_pos rfl] at H; exact H
    clear H
    have H := H1
    clear H1
    replace H := Option.bind_eq_some_iff.mp H
    obtain ⟨t153, A770, H⟩ := H
    replace H : (some t153) = some r := H
    have A77 := ak A770
    clear A770
    obtain rfl := Option.some.inj H
    go_wp2_with (first | ((with_reducible refine gate_callee (f := 12) rfl ?_); refine goesL_ (some 49) rfl rfl Try.func12 (by kernel_rfl) rfl #[] rfl (by (try simp only [List.map_toArray, List.map_cons, List.map_nil]); first | done | rfl) ?_; (with_reducible refine (l44_awake.calls  t153 _ A77.out).mono ?_); rintro e w78 ⟨rfl, hb⟩; refine ⟨_, rfl, ?_⟩; have n0_ := ak (kbe BK147.out hb); have n1_ := ak (kbe BK148.out hb); have n2_ := ak (kbe BK149.out hb); have n3_ := ak (bsp HB.out hb); clear BK147 BK148 BK149 HB; have BK147 := n0_; have BK148 := n1_; have BK149 := n2_; have HB := n3_; clear n0_ n1_ n2_ n3_; (try clear hb); (try clear hb2); (try clear hk); (try clear hi)))
    go_ret
    exact ⟨by first | rfl | (simp <;> rfl) | (simp [*] <;> rfl), by repeat (first | (with_reducible first | exact HB.out | apply bal | apply pbn | apply bd1 | refine bst ?_ GE147.out | refine bst ?_ GE148.out | refine bst ?_ GE149.out) | exact HB.out)⟩
   ·replace c76 := Bool.eq_false_iff.mpr c76
    subst c76
    have H1 : ((peel_Graph.f kj3 a0_0 a0_1 l0_2 a1_0 l1_1).bind fun bt154 => (if bt154.2.2 = 0 then ((peel_Peel.f a0_0 a0_1 l0_2 a1_0 l1_1 l2_0 l2_1).bind fun bt160 => (if bt160.2.2 = 0 then ((peel_Greatest.f kj3 bt154.1 bt154.2.1 l2_1).bind fun bt167 => (if bt167.2 = 0 then ((r9_SameInts.f kj3 bt160.2.1 bt167.1).bind fun t171 => (some t171)) else (some false))) else (some true))) else (some false))) = some r := by rw [if_neg (show ¬ (false = true) by decide)] at H; exact H
    clear H
    have H := H1
    clear H1
    replace H := Option.bind_eq_some_iff.mp H
    obtain ⟨⟨t154, t155, t158⟩, A790, H⟩ := H
    replace H : (if t158 = 0 then ((peel_Peel.f a0_0 a0_1 l0_2 a1_0 l1_1 l2_0 l2_1).bind fun bt160 => (if bt160.2.2 = 0 then ((peel_Greatest.f kj3 t154 t155 l2_1).bind fun bt167 => (if bt167.2 = 0 then ((r9_SameInts.f kj3 bt160.2.1 bt167.1).bind fun t171 => (some t171)) else (some false))) else (some true))) else (some false)) = some r := H
    have A79 := ak A790
    clear A790
    by_cases c80 : t158 = 0
    ·rw [if_pos c80] at H
     have c80b0 : (t158 == 0) = true := beq_iff_eq.mpr c80
     have c80b1 : (t158 != 0) = false := bne_eq_false_iff_eq.mpr c80
     clear c80
     replace H := Option.bind_eq_some_iff.mp H
     obtain ⟨⟨t160, t163, t166⟩, A810, H⟩ := H
     replace H : (if t166 = 0 then ((peel_Greatest.f kj3 t154 t155 l2_1).bind fun bt167 => (if bt167.2 = 0 then ((r9_SameInts.f kj3 t163 bt167.1).bind fun t171 => (some t171)) else (some false))) else (some true)) = some r := H
     have A81 := ak A810
     clear A810
     by_cases c82 : t166 = 0
     ·rw [if_pos c82] at H
      have c82b0 : (t166 == 0) = true := beq_iff_eq.mpr c82
      have c82b1 : (t166 != 0) = false := bne_eq_false_iff_eq.mpr c82
      clear c82
      replace H := Option.bind_eq_some_iff.mp H
      obtain ⟨⟨t167, t170⟩, A830, H⟩ := H
      replace H : (if t170 = 0 then ((r9_SameInts.f kj3 t163 t167).bind fun t171 => (some t171)) else (some false)) = some r := H
      have A83 := ak A830
      clear A830
      by_cases c84 : t170 = 0
      ·rw [if_pos c84] at H
       have c84b0 : (t170 == 0) = true := beq_iff_eq.mpr c84
       have c84b1 : (t170 != 0) = false := bne_eq_false_iff_eq.mpr c84
       clear c84
       replace H := Option.bind_eq_some_iff.mp H
       obtain ⟨t171, A850, H⟩ := H
       replace H : (some t171) = some r := H
       have A85 := ak A850
       clear A850
       obtain rfl := Option.some.inj H
       have hnb86 := NB147_148.out
       have hnc86 := NB148_147.out
       have hnb87 := NB147_149.out
       have hnc87 := NB149_147.out
       have hcz88_0 : wc.cell? ⟨gb147, 0, none⟩ = some (.int .i64 a0_0) := (kce BK147.out 0).trans rfl
       have hcz88_1 : wc.cell? ⟨gb147, 1, none⟩ = some (.int .i64 a0_1) := (kce BK147.out 1).trans rfl
       have hcz88_2 : wc.cell? ⟨gb147, 2, none⟩ = some (.slice A0_2 l0_2.length c0_2) := (kce BK147.out 2).trans rfl
       have hfz88_0 := kfz BK147.out 0
       have hfz88_1 := kfz BK147.out 1
       have hfz88_2 := kfz BK147.out 2
       have hnb89 := NB148_149.out
       have hnc89 := NB149_148.out
       have hcz90_0 : wc.cell? ⟨gb148, 0, none⟩ = some (.int .i64 a1_0) := (kce BK148.out 0).trans rfl
       have hcz90_1 : wc.cell? ⟨gb148, 1, none⟩ = some (.slice A1_1 l1_1.length c1_1) := (kce BK148.out 1).trans rfl
       have hfz90_0 := kfz BK148.out 0
       have hfz90_1 := kfz BK148.out 1
       go_wp2_with (first | ((with_reducible refine gate_callee (f := 14) rfl ?_); refine goesL_ (some 53) rfl rfl Try.func14 (by kernel_rfl) rfl #[.agg #[.int .i64 a0_0, .int .i64 a0_1, .slice A0_2 l0_2.length c0_2], .agg #[.int .i64 a1_0, .slice A1_1 l1_1.length c1_1]] rfl (by (try simp only [List.map_toArray, List.map_cons, List.map_nil]); first | done | rfl | (simp only [List.length_drop, List.length_take]; rfl)) ?_; (with_reducible refine (peel_Graph.calls kj3 a0_0 a0_1 _ _ l0_2 a1_0 _ _ l1_1 t154 t155 t158 _ ?side1 ?side2 ?side3 ?side4 A79.out).mono ?_); (case side1 => repeat (first | exact (Kd.C_below HR0_2.out HB.out) | (with_reducible refine Kd.C_alloc ?_ _) | (with_reducible refine Kd.C_drewN ?_ _) | (with_reducible refine Kd.C_drew ?_))); (case side2 => exact HC0_2.out); (case side3 => repeat (first | exact (Kd.C_below HR1_1.out HB.out) | (with_reducible refine Kd.C_alloc ?_ _) | (with_reducible refine Kd.C_drewN ?_ _) | (with_reducible refine Kd.C_drew ?_))); (case side4 => exact HC1_1.out); rintro e w91 ⟨v156, rfl, ho0, hb⟩; refine ⟨_, rfl, ?_⟩; have n0_ := ak (Kd.S_lower ho0 (bsz (by repeat (first | (with_reducible first | exact HB.out | apply bal | apply pbn | apply bd1 | refine bst ?_ GE147.out | refine bst ?_ GE148.out | refine bst ?_ GE149.out) | exact HB.out)))); have n1_ := ak (kbe (g := gb147) (o := .cells #[.int .i64 a0_0, .int .i64 a0_1, .slice A0_2 l0_2.length c0_2] 24 (0, 0)) (by (with_reducible repeat (first | refine kdn ?_ _ | refine kdr ?_ | refine kal ?_ _)); exact BK147.out) hb); have n2_ := ak (kbe (g := gb148) (o := .cells #[.int .i64 a1_0, .slice A1_1 l1_1.length c1_1] 27 (0, 0)) (by (with_reducible repeat (first | refine kdn ?_ _ | refine kdr ?_ | refine kal ?_ _)); exact BK148.out) hb); have n3_ := ak (kbe (g := gb149) (o := .cells #[.slice A2_0 l2_0.length c2_0, .slice A2_1 l2_1.length c2_1] 48 (0, 0)) (by (with_reducible repeat (first | refine kdn ?_ _ | refine kdr ?_ | refine kal ?_ _)); exact BK149.out) hb); have n4_ := ak (bsp (by repeat (first | (with_reducible first | exact HB.out | apply bal | apply pbn | apply bd1 | refine bst ?_ GE147.out | refine bst ?_ GE148.out | refine bst ?_ GE149.out) | exact HB.out)) hb); clear BK147 BK148 BK149 HB; have HO157 := n0_; have BK147 := n1_; have BK148 := n2_; have BK149 := n3_; have HB := n4_; clear n0_ n1_ n2_ n3_ n4_; (try clear hb); (try clear hb2); (try clear hk); (try clear hi); (try clear ho0)) | ((with_reducible refine gate_dst (N := 7) rfl ?_); (try (refine gate_guard (by rfl) ?_; dsimp only)); refine box_event ?hg (N := 7) ?hd (cs := #[.int .i64 0, .slice none 0 0]) (t := 31) ?hr ?_; (case hd => rfl); (case hg => rfl); (case hr => first | (go_simp; done) | (go_simp; rfl)); intro gb159 hg w92 hbox hb; have n0_ := ak (Kd.S_below (by (with_reducible repeat (first | apply Kd.S_alloc | apply Kd.S_drewN | apply Kd.S_drew)); exact HO157.out) hb); have n1_ := ak (kbe (g := gb147) (o := .cells #[.int .i64 a0_0, .int .i64 a0_1, .slice A0_2 l0_2.length c0_2] 24 (0, 0)) (by (with_reducible repeat (first | refine kdn ?_ _ | refine kdr ?_ | refine kal ?_ _)); exact BK147.out) hb); have n2_ := ak (kbe (g := gb148) (o := .cells #[.int .i64 a1_0, .slice A1_1 l1_1.length c1_1] 27 (0, 0)) (by (with_reducible repeat (first | refine kdn ?_ _ | refine kdr ?_ | refine kal ?_ _)); exact BK148.out) hb); have n3_ := ak (kbe (g := gb149) (o := .cells #[.slice A2_0 l2_0.length c2_0, .slice A2_1 l2_1.length c2_1] 48 (0, 0)) (by (with_reducible repeat (first | refine kdn ?_ _ | refine kdr ?_ | refine kal ?_ _)); exact BK149.out) hb); have n4_ := ak (bsp (by repeat (first | (with_reducible first | exact HB.out | apply bal | apply pbn | apply bd1 | refine bst ?_ GE147.out | refine bst ?_ GE148.out | refine bst ?_ GE149.out) | exact HB.out)) hb); have n5_ := ak (hbox); have n6_ := ak ((by rw [hg]; exact (bsz (by repeat (first | (with_reducible first | exact HB.out | apply bal | apply pbn | apply bd1 | refine bst ?_ GE147.out | refine bst ?_ GE148.out | refine bst ?_ GE149.out) | exact HB.out))) : w.heap.size ≤ gb159)); have n7_ := ak ((by rw [hg]; exact (bsz (by repeat (first | (with_reducible first | exact HB.out | apply bal | apply pbn | apply bd1 | refine bst ?_ GE147.out | refine bst ?_ GE148.out | refine bst ?_ GE149.out) | exact HB.out))) : w.heap.size ≤ gb159)); have n8_ := ak ((by rw [hg]; exact Nat.ne_of_lt (klt (g := gb147) (o := .cells #[.int .i64 a0_0, .int .i64 a0_1, .slice A0_2 l0_2.length c0_2] 24 (0, 0)) (by (with_reducible repeat (first | refine kdn ?_ _ | refine kdr ?_ | refine kal ?_ _)); exact BK147.out)) : gb147 ≠ gb159)); have n9_ := ak ((by rw [hg]; exact Nat.ne_of_gt (klt (g := gb147) (o := .cells #[.int .i64 a0_0, .int .i64 a0_1, .slice A0_2 l0_2.length c0_2] 24 (0, 0)) (by (with_reducible repeat (first | refine kdn ?_ _ | refine kdr ?_ | refine kal ?_ _)); exact BK147.out)) : gb159 ≠ gb147)); have n10_ := ak ((by rw [hg]; exact Nat.ne_of_lt (klt (g := gb148) (o := .cells #[.int .i64 a1_0, .slice A1_1 l1_1.length c1_1] 27 (0, 0)) (by (with_reducible repeat (first | refine kdn ?_ _ | refine kdr ?_ | refine kal ?_ _)); exact BK148.out)) : gb148 ≠ gb159)); have n11_ := ak ((by rw [hg]; exact Nat.ne_of_gt (klt (g := gb148) (o := .cells #[.int .i64 a1_0, .slice A1_1 l1_1.length c1_1] 27 (0, 0)) (by (with_reducible repeat (first | refine kdn ?_ _ | refine kdr ?_ | refine kal ?_ _)); exact BK148.out)) : gb159 ≠ gb148)); have n12_ := ak ((by rw [hg]; exact Nat.ne_of_lt (klt (g := gb149) (o := .cells #[.slice A2_0 l2_0.length c2_0, .slice A2_1 l2_1.length c2_1] 48 (0, 0)) (by (with_reducible repeat (first | refine kdn ?_ _ | refine kdr ?_ | refine kal ?_ _)); exact BK149.out)) : gb149 ≠ gb159)); have n13_ := ak ((by rw [hg]; exact Nat.ne_of_gt (klt (g := gb149) (o := .cells #[.slice A2_0 l2_0.length c2_0, .slice A2_1 l2_1.length c2_1] 48 (0, 0)) (by (with_reducible repeat (first | refine kdn ?_ _ | refine kdr ?_ | refine kal ?_ _)); exact BK149.out)) : gb159 ≠ gb149)); clear HO157 BK147 BK148 BK149 HB; have HO157 := n0_; have BK147 := n1_; have BK148 := n2_; have BK149 := n3_; have HB := n4_; have BK159 := n5_; have GW159 := n6_; have GE159 := n7_; have NB147_159 := n8_; have NB159_147 := n9_; have NB148_159 := n10_; have NB159_148 := n11_; have NB149_159 := n12_; have NB159_149 := n13_; clear n0_ n1_ n2_ n3_ n4_ n5_ n6_ n7_ n8_ n9_ n10_ n11_ n12_ n13_; clear hb hbox hg; have hnb93 := NB159_147.out; have hnc93 := NB147_159.out; have hnb94 := NB159_148.out; have hnc94 := NB148_159.out; have hnb95 := NB159_149.out; have hnc95 := NB149_159.out; have hcz96_0 : w92.cell? ⟨gb159, 0, none⟩ = some (.int .i64 0) := (kce BK159.out 0).trans rfl; have hcz96_1 : w92.cell? ⟨gb159, 1, none⟩ = some (.slice none 0 0) := (kce BK159.out 1).trans rfl; have hfz96_0 := kfz BK159.out 0; have hfz96_1 := kfz BK159.out 1; obtain ⟨Ao97, co97, eo97⟩ := Kd.S_slice HO157.out; subst eo97; have hcz98_0 : w92.cell? ⟨gb147, 0, none⟩ = some (.int .i64 a0_0) := (kce BK147.out 0).trans rfl; have hcz98_1 : w92.cell? ⟨gb147, 1, none⟩ = some (.int .i64 a0_1) := (kce BK147.out 1).trans rfl; have hcz98_2 : w92.cell? ⟨gb147, 2, none⟩ = some (.slice A0_2 l0_2.length c0_2) := (kce BK147.out 2).trans rfl; have hfz98_0 := kfz BK147.out 0; have hfz98_1 := kfz BK147.out 1; have hfz98_2 := kfz BK147.out 2; have hcz99_0 : w92.cell? ⟨gb148, 0, none⟩ = some (.int .i64 a1_0) := (kce BK148.out 0).trans rfl; have hcz99_1 : w92.cell? ⟨gb148, 1, none⟩ = some (.slice A1_1 l1_1.length c1_1) := (kce BK148.out 1).trans rfl; have hfz99_0 := kfz BK148.out 0; have hfz99_1 := kfz BK148.out 1; have hcz100_0 : w92.cell? ⟨gb149, 0, none⟩ = some (.slice A2_0 l2_0.length c2_0) := (kce BK149.out 0).trans rfl; have hcz100_1 : w92.cell? ⟨gb149, 1, none⟩ = some (.slice A2_1 l2_1.length c2_1) := (kce BK149.out 1).trans rfl; have hfz100_0 := kfz BK149.out 0; have hfz100_1 := kfz BK149.out 1) | ((with_reducible refine gate_callee (f := 30) rfl ?_); refine goesL_ (some 65) rfl rfl Try.func30 (by kernel_rfl) rfl #[.agg #[.int .i64 a0_0, .int .i64 a0_1, .slice A0_2 l0_2.length c0_2], .agg #[.int .i64 a1_0, .slice A1_1 l1_1.length c1_1], .slice A2_0 l2_0.length c2_0, .slice A2_1 l2_1.length c2_1] rfl (by (try simp only [List.map_toArray, List.map_cons, List.map_nil]); first | done | rfl | (simp only [List.length_drop, List.length_take]; rfl)) ?_; (with_reducible refine (peel_Peel.calls a0_0 a0_1 _ _ l0_2 a1_0 _ _ l1_1 _ _ l2_0 _ _ l2_1 t160 t163 t166 _ ?side1 ?side2 ?side3 ?side4 ?side5 ?side6 ?side7 ?side8 A81.out).mono ?_); (case side1 => exact Kd.C_below HR0_2.out (by repeat (first | (with_reducible first | exact HB.out | apply bal | apply pbn | apply bd1 | refine bst ?_ GE147.out | refine bst ?_ GE148.out | refine bst ?_ GE149.out | refine bst ?_ GE159.out) | exact HB.out))); (case side2 => exact HC0_2.out); (case side3 => exact Kd.C_below HR1_1.out (by repeat (first | (with_reducible first | exact HB.out | apply bal | apply pbn | apply bd1 | refine bst ?_ GE147.out | refine bst ?_ GE148.out | refine bst ?_ GE149.out | refine bst ?_ GE159.out) | exact HB.out))); (case side4 => exact HC1_1.out); (case side5 => exact Kd.C_below HR2_0.out (by repeat (first | (with_reducible first | exact HB.out | apply bal | apply pbn | apply bd1 | refine bst ?_ GE147.out | refine bst ?_ GE148.out | refine bst ?_ GE149.out | refine bst ?_ GE159.out) | exact HB.out))); (case side6 => exact HC2_0.out); (case side7 => exact Kd.C_below HR2_1.out (by repeat (first | (with_reducible first | exact HB.out | apply bal | apply pbn | apply bd1 | refine bst ?_ GE147.out | refine bst ?_ GE148.out | refine bst ?_ GE149.out | refine bst ?_ GE159.out) | exact HB.out))); (case side8 => exact HC2_1.out); rintro e w101 ⟨v161, v164, rfl, ho0, ho1, hb⟩; refine ⟨_, rfl, ?_⟩; have n0_ := ak (Kd.S_mono (Kd.S_told (Kd.S_told (Kd.S_old (by (with_reducible repeat (first | apply Kd.S_alloc | apply Kd.S_drewN | apply Kd.S_drew)); exact (Kd.S_mono (Kd.S_far (p := ⟨gb159, 1, none⟩) (Kd.S_far (p := ⟨gb159, 0, none⟩) (Kd.S_types HO157.out BK159.out (by decide)) (fun _ hk => hk.2) (.int .i64 t154)) (fun _ hk => hk.2) (.slice Ao97 t155.length co97)) (fun _ h_ => h_.1))) hb) (Kd.R_base ho0)) (Kd.R_base ho1)) (fun _ h_ => h_.1)); have n1_ := ak (Kd.R_lower ho0 (bsz (by repeat (first | (with_reducible first | exact HB.out | apply bal | apply pbn | apply bd1 | refine bst ?_ GE147.out | refine bst ?_ GE148.out | refine bst ?_ GE149.out | refine bst ?_ GE159.out) | exact HB.out)))); have n2_ := ak (Kd.R_lower ho1 (bsz (by repeat (first | (with_reducible first | exact HB.out | apply bal | apply pbn | apply bd1 | refine bst ?_ GE147.out | refine bst ?_ GE148.out | refine bst ?_ GE149.out | refine bst ?_ GE159.out) | exact HB.out)))); have n3_ := ak (kbe (g := gb147) (o := .cells #[.int .i64 a0_0, .int .i64 a0_1, .slice A0_2 l0_2.length c0_2] 24 (0, 0)) (by (with_reducible repeat (first | refine kdn ?_ _ | refine kdr ?_ | refine kal ?_ _)); refine blk_far ?_ NB147_159.out _; (with_reducible repeat (first | refine kdn ?_ _ | refine kdr ?_ | refine kal ?_ _)); refine blk_far ?_ NB147_159.out _; (with_reducible repeat (first | refine kdn ?_ _ | refine kdr ?_ | refine kal ?_ _)); exact BK147.out) hb); have n4_ := ak (kbe (g := gb148) (o := .cells #[.int .i64 a1_0, .slice A1_1 l1_1.length c1_1] 27 (0, 0)) (by (with_reducible repeat (first | refine kdn ?_ _ | refine kdr ?_ | refine kal ?_ _)); refine blk_far ?_ NB148_159.out _; (with_reducible repeat (first | refine kdn ?_ _ | refine kdr ?_ | refine kal ?_ _)); refine blk_far ?_ NB148_159.out _; (with_reducible repeat (first | refine kdn ?_ _ | refine kdr ?_ | refine kal ?_ _)); exact BK148.out) hb); have n5_ := ak (kbe (g := gb149) (o := .cells #[.slice A2_0 l2_0.length c2_0, .slice A2_1 l2_1.length c2_1] 48 (0, 0)) (by (with_reducible repeat (first | refine kdn ?_ _ | refine kdr ?_ | refine kal ?_ _)); refine blk_far ?_ NB149_159.out _; (with_reducible repeat (first | refine kdn ?_ _ | refine kdr ?_ | refine kal ?_ _)); refine blk_far ?_ NB149_159.out _; (with_reducible repeat (first | refine kdn ?_ _ | refine kdr ?_ | refine kal ?_ _)); exact BK149.out) hb); have n6_ := ak (kbe (g := gb159) (o := .cells #[.int .i64 t154, .slice Ao97 t155.length co97] 31 (0, 0)) (by (with_reducible repeat (first | refine kdn ?_ _ | refine kdr ?_ | refine kal ?_ _)); refine blk_put (cs := #[.int .i64 t154, .slice none 0 0]) ?_ 1 _ rfl; (with_reducible repeat (first | refine kdn ?_ _ | refine kdr ?_ | refine kal ?_ _)); refine blk_put (cs := #[.int .i64 0, .slice none 0 0]) ?_ 0 _ rfl; (with_reducible repeat (first | refine kdn ?_ _ | refine kdr ?_ | refine kal ?_ _)); exact BK159.out) hb); have n7_ := ak (bsp (by repeat (first | (with_reducible first | exact HB.out | apply bal | apply pbn | apply bd1 | refine bst ?_ GE147.out | refine bst ?_ GE148.out | refine bst ?_ GE149.out | refine bst ?_ GE159.out) | exact HB.out)) hb); clear HO157 BK147 BK148 BK149 BK159 HB; have HO157 := n0_; have HO162 := n1_; have HO165 := n2_; have BK147 := n3_; have BK148 := n4_; have BK149 := n5_; have BK159 := n6_; have HB := n7_; clear n0_ n1_ n2_ n3_ n4_ n5_ n6_ n7_; (try clear hb); (try clear hb2); (try clear hk); (try clear hi); (try clear ho0); (try clear ho1); have hcz102_0 : w101.cell? ⟨gb159, 0, none⟩ = some (.int .i64 t154) := (kce BK159.out 0).trans rfl; have hcz102_1 : w101.cell? ⟨gb159, 1, none⟩ = some (.slice Ao97 t155.length co97) := (kce BK159.out 1).trans rfl; have hfz102_0 := kfz BK159.out 0; have hfz102_1 := kfz BK159.out 1; have hcz103_0 : w101.cell? ⟨gb149, 0, none⟩ = some (.slice A2_0 l2_0.length c2_0) := (kce BK149.out 0).trans rfl; have hcz103_1 : w101.cell? ⟨gb149, 1, none⟩ = some (.slice A2_1 l2_1.length c2_1) := (kce BK149.out 1).trans rfl; have hfz103_0 := kfz BK149.out 0; have hfz103_1 := kfz BK149.out 1) | ((with_reducible refine gate_callee (f := 24) rfl ?_); refine goesL_ (some 75) rfl rfl Try.func24 (by kernel_rfl) rfl #[.agg #[.int .i64 t154, .slice Ao97 t155.length co97], .slice A2_1 l2_1.length c2_1] rfl (by (try simp only [List.map_toArray, List.map_cons, List.map_nil]); first | done | rfl | (simp only [List.length_drop, List.length_take]; rfl)) ?_; (with_reducible refine (peel_Greatest.calls kj3 t154 _ _ t155 _ _ l2_1 t167 t170 _ ?side1 ?side2 ?side3 ?side4 A83.out).mono ?_); (case side1 => repeat (first | exact (Kd.S_reads' HO157.out).2.2 | (with_reducible refine Kd.C_alloc ?_ _) | (with_reducible refine Kd.C_drewN ?_ _) | (with_reducible refine Kd.C_drew ?_))); (case side2 => exact (Kd.S_reads' HO157.out).2.1); (case side3 => repeat (first | exact (Kd.C_below HR2_1.out HB.out) | (with_reducible refine Kd.C_alloc ?_ _) | (with_reducible refine Kd.C_drewN ?_ _) | (with_reducible refine Kd.C_drew ?_))); (case side4 => exact HC2_1.out); rintro e w104 ⟨v168, rfl, ho0, hb⟩; refine ⟨_, rfl, ?_⟩; have n0_ := ak (Kd.S_elder' (by (with_reducible repeat (first | apply Kd.S_alloc | apply Kd.S_drewN | apply Kd.S_drew)); exact HO157.out) (Kd.R_base ho0) hb); have n1_ := ak (Kd.R_elder' (by (with_reducible repeat (first | apply Kd.R_alloc | apply Kd.R_drewN | apply Kd.R_drew)); exact HO162.out) (Kd.R_base ho0) hb); have n2_ := ak (Kd.R_elder' (by (with_reducible repeat (first | apply Kd.R_alloc | apply Kd.R_drewN | apply Kd.R_drew)); exact HO165.out) (Kd.R_base ho0) hb); have n3_ := ak (Kd.R_lower (Kd.R_new' (Kd.R_new' ho0 (Kd.R_lt (by (with_reducible repeat (first | apply Kd.R_alloc | apply Kd.R_drewN | apply Kd.R_drew)); exact HO162.out))) (Kd.R_lt (by (with_reducible repeat (first | apply Kd.R_alloc | apply Kd.R_drewN | apply Kd.R_drew)); exact HO165.out))) (bsz (by repeat (first | (with_reducible first | exact HB.out | apply bal | apply pbn | apply bd1 | refine bst ?_ GE147.out | refine bst ?_ GE148.out | refine bst ?_ GE149.out | refine bst ?_ GE159.out) | exact HB.out)))); have n4_ := ak (kbe (g := gb147) (o := .cells #[.int .i64 a0_0, .int .i64 a0_1, .slice A0_2 l0_2.length c0_2] 24 (0, 0)) (by (with_reducible repeat (first | refine kdn ?_ _ | refine kdr ?_ | refine kal ?_ _)); exact BK147.out) hb); have n5_ := ak (kbe (g := gb148) (o := .cells #[.int .i64 a1_0, .slice A1_1 l1_1.length c1_1] 27 (0, 0)) (by (with_reducible repeat (first | refine kdn ?_ _ | refine kdr ?_ | refine kal ?_ _)); exact BK148.out) hb); have n6_ := ak (kbe (g := gb149) (o := .cells #[.slice A2_0 l2_0.length c2_0, .slice A2_1 l2_1.length c2_1] 48 (0, 0)) (by (with_reducible repeat (first | refine kdn ?_ _ | refine kdr ?_ | refine kal ?_ _)); exact BK149.out) hb); have n7_ := ak (kbe (g := gb159) (o := .cells #[.int .i64 t154, .slice Ao97 t155.length co97] 31 (0, 0)) (by (with_reducible repeat (first | refine kdn ?_ _ | refine kdr ?_ | refine kal ?_ _)); exact BK159.out) hb); have n8_ := ak (bsp (by repeat (first | (with_reducible first | exact HB.out | apply bal | apply pbn | apply bd1 | refine bst ?_ GE147.out | refine bst ?_ GE148.out | refine bst ?_ GE149.out | refine bst ?_ GE159.out) | exact HB.out)) hb); clear HO157 HO162 HO165 BK147 BK148 BK149 BK159 HB; have HO157 := n0_; have HO162 := n1_; have HO165 := n2_; have HO169 := n3_; have BK147 := n4_; have BK148 := n5_; have BK149 := n6_; have BK159 := n7_; have HB := n8_; clear n0_ n1_ n2_ n3_ n4_ n5_ n6_ n7_ n8_; (try clear hb); (try clear hb2); (try clear hk); (try clear hi); (try clear ho0); obtain ⟨Ao105, co105, eo105⟩ := Kd.R_slice HO165.out; subst eo105; obtain ⟨Ao106, co106, eo106⟩ := Kd.R_slice HO169.out; subst eo106) | (go_at_call 28; (with_reducible refine (r9_SameInts.calls kj3 _ _ t163 _ _ t167 t171 _ ?side1 ?side2 ?side3 ?side4 A85.out).mono ?_); (case side1 => repeat (first | exact (Kd.R_reads' HO165.out).2.2 | (with_reducible refine Kd.C_alloc ?_ _) | (with_reducible refine Kd.C_drewN ?_ _) | (with_reducible refine Kd.C_drew ?_))); (case side2 => exact (Kd.R_reads' HO165.out).2.1); (case side3 => repeat (first | exact (Kd.R_reads' HO169.out).2.2 | (with_reducible refine Kd.C_alloc ?_ _) | (with_reducible refine Kd.C_drewN ?_ _) | (with_reducible refine Kd.C_drew ?_))); (case side4 => exact (Kd.R_reads' HO169.out).2.1); rintro e w' ⟨rfl, ⟨nd, rfl⟩⟩))
       go_ret
       exact ⟨by first | rfl | (simp <;> rfl) | (simp [*] <;> rfl), by repeat (first | (with_reducible first | exact HB.out | apply bal | apply pbn | apply bd1 | refine bst ?_ GE147.out | refine bst ?_ GE148.out | refine bst ?_ GE149.out | refine bst ?_ GE159.out) | exact HB.out)⟩
      ·rw [if_neg c84] at H
       have c84b0 : (t170 == 0) = false := beq_eq_false_iff_ne.mpr c84
       have c84b1 : (t170 != 0) = true := bne_iff_ne.mpr c84
       exact absurd ((Option.some.inj H).trans hrt) (by decide)
     ·rw [if_neg c82] at H
      have c82b0 : (t166 == 0) = false := beq_eq_false_iff_ne.mpr c82
      have c82b1 : (t166 != 0) = true := bne_iff_ne.mpr c82
      obtain rfl := Option.some.inj H
      have hnb126 := NB147_148.out
      have hnc126 := NB148_147.out
      have hnb127 := NB147_149.out
      have hnc127 := NB149_147.out
      have hcz128_0 : wc.cell? ⟨gb147, 0, none⟩ = some (.int .i64 a0_0) := (kce BK147.out 0).trans rfl
      have hcz128_1 : wc.cell? ⟨gb147, 1, none⟩ = some (.int .i64 a0_1) := (kce BK147.out 1).trans rfl
      have hcz128_2 : wc.cell? ⟨gb147, 2, none⟩ = some (.slice A0_2 l0_2.length c0_2) := (kce BK147.out 2).trans rfl
      have hfz128_0 := kfz BK147.out 0
      have hfz128_1 := kfz BK147.out 1
      have hfz128_2 := kfz BK147.out 2
      have hnb129 := NB148_149.out
      have hnc129 := NB149_148.out
      have hcz130_0 : wc.cell? ⟨gb148, 0, none⟩ = some (.int .i64 a1_0) := (kce BK148.out 0).trans rfl
      have hcz130_1 : wc.cell? ⟨gb148, 1, none⟩ = some (.slice A1_1 l1_1.length c1_1) := (kce BK148.out 1).trans rfl
      have hfz130_0 := kfz BK148.out 0
      have hfz130_1 := kfz BK148.out 1
      go_wp2_with (first | ((with_reducible refine gate_callee (f := 14) rfl ?_); refine goesL_ (some 53) rfl rfl Try.func14 (by kernel_rfl) rfl #[.agg #[.int .i64 a0_0, .int .i64 a0_1, .slice A0_2 l0_2.length c0_2], .agg #[.int .i64 a1_0, .slice A1_1 l1_1.length c1_1]] rfl (by (try simp only [List.map_toArray, List.map_cons, List.map_nil]); first | done | rfl | (simp only [List.length_drop, List.length_take]; rfl)) ?_; (with_reducible refine (peel_Graph.calls kj3 a0_0 a0_1 _ _ l0_2 a1_0 _ _ l1_1 t154 t155 t158 _ ?side1 ?side2 ?side3 ?side4 A79.out).mono ?_); (case side1 => repeat (first | exact (Kd.C_below HR0_2.out HB.out) | (with_reducible refine Kd.C_alloc ?_ _) | (with_reducible refine Kd.C_drewN ?_ _) | (with_reducible refine Kd.C_drew ?_))); (case side2 => exact HC0_2.out); (case side3 => repeat (first | exact (Kd.C_below HR1_1.out HB.out) | (with_reducible refine Kd.C_alloc ?_ _) | (with_reducible refine Kd.C_drewN ?_ _) | (with_reducible refine Kd.C_drew ?_))); (case side4 => exact HC1_1.out); rintro e w131 ⟨v156, rfl, ho0, hb⟩; refine ⟨_, rfl, ?_⟩; have n0_ := ak (Kd.S_lower ho0 (bsz (by repeat (first | (with_reducible first | exact HB.out | apply bal | apply pbn | apply bd1 | refine bst ?_ GE147.out | refine bst ?_ GE148.out | refine bst ?_ GE149.out) | exact HB.out)))); have n1_ := ak (kbe (g := gb147) (o := .cells #[.int .i64 a0_0, .int .i64 a0_1, .slice A0_2 l0_2.length c0_2] 24 (0, 0)) (by (with_reducible repeat (first | refine kdn ?_ _ | refine kdr ?_ | refine kal ?_ _)); exact BK147.out) hb); have n2_ := ak (kbe (g := gb148) (o := .cells #[.int .i64 a1_0, .slice A1_1 l1_1.length c1_1] 27 (0, 0)) (by (with_reducible repeat (first | refine kdn ?_ _ | refine kdr ?_ | refine kal ?_ _)); exact BK148.out) hb); have n3_ := ak (kbe (g := gb149) (o := .cells #[.slice A2_0 l2_0.length c2_0, .slice A2_1 l2_1.length c2_1] 48 (0, 0)) (by (with_reducible repeat (first | refine kdn ?_ _ | refine kdr ?_ | refine kal ?_ _)); exact BK149.out) hb); have n4_ := ak (bsp (by repeat (first | (with_reducible first | exact HB.out | apply bal | apply pbn | apply bd1 | refine bst ?_ GE147.out | refine bst ?_ GE148.out | refine bst ?_ GE149.out) | exact HB.out)) hb); clear BK147 BK148 BK149 HB; have HO157 := n0_; have BK147 := n1_; have BK148 := n2_; have BK149 := n3_; have HB := n4_; clear n0_ n1_ n2_ n3_ n4_; (try clear hb); (try clear hb2); (try clear hk); (try clear hi); (try clear ho0)) | ((with_reducible refine gate_dst (N := 7) rfl ?_); (try (refine gate_guard (by rfl) ?_; dsimp only)); refine box_event ?hg (N := 7) ?hd (cs := #[.int .i64 0, .slice none 0 0]) (t := 31) ?hr ?_; (case hd => rfl); (case hg => rfl); (case hr => first | (go_simp; done) | (go_simp; rfl)); intro gb159 hg w132 hbox hb; have n0_ := ak (Kd.S_below (by (with_reducible repeat (first | apply Kd.S_alloc | apply Kd.S_drewN | apply Kd.S_drew)); exact HO157.out) hb); have n1_ := ak (kbe (g := gb147) (o := .cells #[.int .i64 a0_0, .int .i64 a0_1, .slice A0_2 l0_2.length c0_2] 24 (0, 0)) (by (with_reducible repeat (first | refine kdn ?_ _ | refine kdr ?_ | refine kal ?_ _)); exact BK147.out) hb); have n2_ := ak (kbe (g := gb148) (o := .cells #[.int .i64 a1_0, .slice A1_1 l1_1.length c1_1] 27 (0, 0)) (by (with_reducible repeat (first | refine kdn ?_ _ | refine kdr ?_ | refine kal ?_ _)); exact BK148.out) hb); have n3_ := ak (kbe (g := gb149) (o := .cells #[.slice A2_0 l2_0.length c2_0, .slice A2_1 l2_1.length c2_1] 48 (0, 0)) (by (with_reducible repeat (first | refine kdn ?_ _ | refine kdr ?_ | refine kal ?_ _)); exact BK149.out) hb); have n4_ := ak (bsp (by repeat (first | (with_reducible first | exact HB.out | apply bal | apply pbn | apply bd1 | refine bst ?_ GE147.out | refine bst ?_ GE148.out | refine bst ?_ GE149.out) | exact HB.out)) hb); have n5_ := ak (hbox); have n6_ := ak ((by rw [hg]; exact (bsz (by repeat (first | (with_reducible first | exact HB.out | apply bal | apply pbn | apply bd1 | refine bst ?_ GE147.out | refine bst ?_ GE148.out | refine bst ?_ GE149.out) | exact HB.out))) : w.heap.size ≤ gb159)); have n7_ := ak ((by rw [hg]; exact (bsz (by repeat (first | (with_reducible first | exact HB.out | apply bal | apply pbn | apply bd1 | refine bst ?_ GE147.out | refine bst ?_ GE148.out | refine bst ?_ GE149.out) | exact HB.out))) : w.heap.size ≤ gb159)); have n8_ := ak ((by rw [hg]; exact Nat.ne_of_lt (klt (g := gb147) (o := .cells #[.int .i64 a0_0, .int .i64 a0_1, .slice A0_2 l0_2.length c0_2] 24 (0, 0)) (by (with_reducible repeat (first | refine kdn ?_ _ | refine kdr ?_ | refine kal ?_ _)); exact BK147.out)) : gb147 ≠ gb159)); have n9_ := ak ((by rw [hg]; exact Nat.ne_of_gt (klt (g := gb147) (o := .cells #[.int .i64 a0_0, .int .i64 a0_1, .slice A0_2 l0_2.length c0_2] 24 (0, 0)) (by (with_reducible repeat (first | refine kdn ?_ _ | refine kdr ?_ | refine kal ?_ _)); exact BK147.out)) : gb159 ≠ gb147)); have n10_ := ak ((by rw [hg]; exact Nat.ne_of_lt (klt (g := gb148) (o := .cells #[.int .i64 a1_0, .slice A1_1 l1_1.length c1_1] 27 (0, 0)) (by (with_reducible repeat (first | refine kdn ?_ _ | refine kdr ?_ | refine kal ?_ _)); exact BK148.out)) : gb148 ≠ gb159)); have n11_ := ak ((by rw [hg]; exact Nat.ne_of_gt (klt (g := gb148) (o := .cells #[.int .i64 a1_0, .slice A1_1 l1_1.length c1_1] 27 (0, 0)) (by (with_reducible repeat (first | refine kdn ?_ _ | refine kdr ?_ | refine kal ?_ _)); exact BK148.out)) : gb159 ≠ gb148)); have n12_ := ak ((by rw [hg]; exact Nat.ne_of_lt (klt (g := gb149) (o := .cells #[.slice A2_0 l2_0.length c2_0, .slice A2_1 l2_1.length c2_1] 48 (0, 0)) (by (with_reducible repeat (first | refine kdn ?_ _ | refine kdr ?_ | refine kal ?_ _)); exact BK149.out)) : gb149 ≠ gb159)); have n13_ := ak ((by rw [hg]; exact Nat.ne_of_gt (klt (g := gb149) (o := .cells #[.slice A2_0 l2_0.length c2_0, .slice A2_1 l2_1.length c2_1] 48 (0, 0)) (by (with_reducible repeat (first | refine kdn ?_ _ | refine kdr ?_ | refine kal ?_ _)); exact BK149.out)) : gb159 ≠ gb149)); clear HO157 BK147 BK148 BK149 HB; have HO157 := n0_; have BK147 := n1_; have BK148 := n2_; have BK149 := n3_; have HB := n4_; have BK159 := n5_; have GW159 := n6_; have GE159 := n7_; have NB147_159 := n8_; have NB159_147 := n9_; have NB148_159 := n10_; have NB159_148 := n11_; have NB149_159 := n12_; have NB159_149 := n13_; clear n0_ n1_ n2_ n3_ n4_ n5_ n6_ n7_ n8_ n9_ n10_ n11_ n12_ n13_; clear hb hbox hg; have hnb133 := NB159_147.out; have hnc133 := NB147_159.out; have hnb134 := NB159_148.out; have hnc134 := NB148_159.out; have hnb135 := NB159_149.out; have hnc135 := NB149_159.out; have hcz136_0 : w132.cell? ⟨gb159, 0, none⟩ = some (.int .i64 0) := (kce BK159.out 0).trans rfl; have hcz136_1 : w132.cell? ⟨gb159, 1, none⟩ = some (.slice none 0 0) := (kce BK159.out 1).trans rfl; have hfz136_0 := kfz BK159.out 0; have hfz136_1 := kfz BK159.out 1; obtain ⟨Ao137, co137, eo137⟩ := Kd.S_slice HO157.out; subst eo137; have hcz138_0 : w132.cell? ⟨gb147, 0, none⟩ = some (.int .i64 a0_0) := (kce BK147.out 0).trans rfl; have hcz138_1 : w132.cell? ⟨gb147, 1, none⟩ = some (.int .i64 a0_1) := (kce BK147.out 1).trans rfl; have hcz138_2 : w132.cell? ⟨gb147, 2, none⟩ = some (.slice A0_2 l0_2.length c0_2) := (kce BK147.out 2).trans rfl; have hfz138_0 := kfz BK147.out 0; have hfz138_1 := kfz BK147.out 1; have hfz138_2 := kfz BK147.out 2; have hcz139_0 : w132.cell? ⟨gb148, 0, none⟩ = some (.int .i64 a1_0) := (kce BK148.out 0).trans rfl; have hcz139_1 : w132.cell? ⟨gb148, 1, none⟩ = some (.slice A1_1 l1_1.length c1_1) := (kce BK148.out 1).trans rfl; have hfz139_0 := kfz BK148.out 0; have hfz139_1 := kfz BK148.out 1; have hcz140_0 : w132.cell? ⟨gb149, 0, none⟩ = some (.slice A2_0 l2_0.length c2_0) := (kce BK149.out 0).trans rfl; have hcz140_1 : w132.cell? ⟨gb149, 1, none⟩ = some (.slice A2_1 l2_1.length c2_1) := (kce BK149.out 1).trans rfl; have hfz140_0 := kfz BK149.out 0; have hfz140_1 := kfz BK149.out 1) | ((with_reducible refine gate_callee (f := 30) rfl ?_); refine goesL_ (some 65) rfl rfl Try.func30 (by kernel_rfl) rfl #[.agg #[.int .i64 a0_0, .int .i64 a0_1, .slice A0_2 l0_2.length c0_2], .agg #[.int .i64 a1_0, .slice A1_1 l1_1.length c1_1], .slice A2_0 l2_0.length c2_0, .slice A2_1 l2_1.length c2_1] rfl (by (try simp only [List.map_toArray, List.map_cons, List.map_nil]); first | done | rfl | (simp only [List.length_drop, List.length_take]; rfl)) ?_; (with_reducible refine (peel_Peel.calls a0_0 a0_1 _ _ l0_2 a1_0 _ _ l1_1 _ _ l2_0 _ _ l2_1 t160 t163 t166 _ ?side1 ?side2 ?side3 ?side4 ?side5 ?side6 ?side7 ?side8 A81.out).mono ?_); (case side1 => exact Kd.C_below HR0_2.out (by repeat (first | (with_reducible first | exact HB.out | apply bal | apply pbn | apply bd1 | refine bst ?_ GE147.out | refine bst ?_ GE148.out | refine bst ?_ GE149.out | refine bst ?_ GE159.out) | exact HB.out))); (case side2 => exact HC0_2.out); (case side3 => exact Kd.C_below HR1_1.out (by repeat (first | (with_reducible first | exact HB.out | apply bal | apply pbn | apply bd1 | refine bst ?_ GE147.out | refine bst ?_ GE148.out | refine bst ?_ GE149.out | refine bst ?_ GE159.out) | exact HB.out))); (case side4 => exact HC1_1.out); (case side5 => exact Kd.C_below HR2_0.out (by repeat (first | (with_reducible first | exact HB.out | apply bal | apply pbn | apply bd1 | refine bst ?_ GE147.out | refine bst ?_ GE148.out | refine bst ?_ GE149.out | refine bst ?_ GE159.out) | exact HB.out))); (case side6 => exact HC2_0.out); (case side7 => exact Kd.C_below HR2_1.out (by repeat (first | (with_reducible first | exact HB.out | apply bal | apply pbn | apply bd1 | refine bst ?_ GE147.out | refine bst ?_ GE148.out | refine bst ?_ GE149.out | refine bst ?_ GE159.out) | exact HB.out))); (case side8 => exact HC2_1.out); rintro e w141 ⟨v161, v164, rfl, ho0, ho1, hb⟩; refine ⟨_, rfl, ?_⟩; have n0_ := ak (Kd.S_mono (Kd.S_told (Kd.S_told (Kd.S_old (by (with_reducible repeat (first | apply Kd.S_alloc | apply Kd.S_drewN | apply Kd.S_drew)); exact (Kd.S_mono (Kd.S_far (p := ⟨gb159, 1, none⟩) (Kd.S_far (p := ⟨gb159, 0, none⟩) (Kd.S_types HO157.out BK159.out (by decide)) (fun _ hk => hk.2) (.int .i64 t154)) (fun _ hk => hk.2) (.slice Ao137 t155.length co137)) (fun _ h_ => h_.1))) hb) (Kd.R_base ho0)) (Kd.R_base ho1)) (fun _ h_ => h_.1)); have n1_ := ak (Kd.R_lower ho0 (bsz (by repeat (first | (with_reducible first | exact HB.out | apply bal | apply pbn | apply bd1 | refine bst ?_ GE147.out | refine bst ?_ GE148.out | refine bst ?_ GE149.out | refine bst ?_ GE159.out) | exact HB.out)))); have n2_ := ak (Kd.R_lower ho1 (bsz (by repeat (first | (with_reducible first | exact HB.out | apply bal | apply pbn | apply bd1 | refine bst ?_ GE147.out | refine bst ?_ GE148.out | refine bst ?_ GE149.out | refine bst ?_ GE159.out) | exact HB.out)))); have n3_ := ak (kbe (g := gb147) (o := .cells #[.int .i64 a0_0, .int .i64 a0_1, .slice A0_2 l0_2.length c0_2] 24 (0, 0)) (by (with_reducible repeat (first | refine kdn ?_ _ | refine kdr ?_ | refine kal ?_ _)); refine blk_far ?_ NB147_159.out _; (with_reducible repeat (first | refine kdn ?_ _ | refine kdr ?_ | refine kal ?_ _)); refine blk_far ?_ NB147_159.out _; (with_reducible repeat (first | refine kdn ?_ _ | refine kdr ?_ | refine kal ?_ _)); exact BK147.out) hb); have n4_ := ak (kbe (g := gb148) (o := .cells #[.int .i64 a1_0, .slice A1_1 l1_1.length c1_1] 27 (0, 0)) (by (with_reducible repeat (first | refine kdn ?_ _ | refine kdr ?_ | refine kal ?_ _)); refine blk_far ?_ NB148_159.out _; (with_reducible repeat (first | refine kdn ?_ _ | refine kdr ?_ | refine kal ?_ _)); refine blk_far ?_ NB148_159.out _; (with_reducible repeat (first | refine kdn ?_ _ | refine kdr ?_ | refine kal ?_ _)); exact BK148.out) hb); have n5_ := ak (kbe (g := gb149) (o := .cells #[.slice A2_0 l2_0.length c2_0, .slice A2_1 l2_1.length c2_1] 48 (0, 0)) (by (with_reducible repeat (first | refine kdn ?_ _ | refine kdr ?_ | refine kal ?_ _)); refine blk_far ?_ NB149_159.out _; (with_reducible repeat (first | refine kdn ?_ _ | refine kdr ?_ | refine kal ?_ _)); refine blk_far ?_ NB149_159.out _; (with_reducible repeat (first | refine kdn ?_ _ | refine kdr ?_ | refine kal ?_ _)); exact BK149.out) hb); have n6_ := ak (kbe (g := gb159) (o := .cells #[.int .i64 t154, .slice Ao137 t155.length co137] 31 (0, 0)) (by (with_reducible repeat (first | refine kdn ?_ _ | refine kdr ?_ | refine kal ?_ _)); refine blk_put (cs := #[.int .i64 t154, .slice none 0 0]) ?_ 1 _ rfl; (with_reducible repeat (first | refine kdn ?_ _ | refine kdr ?_ | refine kal ?_ _)); refine blk_put (cs := #[.int .i64 0, .slice none 0 0]) ?_ 0 _ rfl; (with_reducible repeat (first | refine kdn ?_ _ | refine kdr ?_ | refine kal ?_ _)); exact BK159.out) hb); have n7_ := ak (bsp (by repeat (first | (with_reducible first | exact HB.out | apply bal | apply pbn | apply bd1 | refine bst ?_ GE147.out | refine bst ?_ GE148.out | refine bst ?_ GE149.out | refine bst ?_ GE159.out) | exact HB.out)) hb); clear HO157 BK147 BK148 BK149 BK159 HB; have HO157 := n0_; have HO162 := n1_; have HO165 := n2_; have BK147 := n3_; have BK148 := n4_; have BK149 := n5_; have BK159 := n6_; have HB := n7_; clear n0_ n1_ n2_ n3_ n4_ n5_ n6_ n7_; (try clear hb); (try clear hb2); (try clear hk); (try clear hi); (try clear ho0); (try clear ho1)))
      go_ret
      exact ⟨by first | rfl | (simp <;> rfl) | (simp [*] <;> rfl), by repeat (first | (with_reducible first | exact HB.out | apply bal | apply pbn | apply bd1 | refine bst ?_ GE147.out | refine bst ?_ GE148.out | refine bst ?_ GE149.out | refine bst ?_ GE159.out) | exact HB.out)⟩
    ·rw [if_neg c80] at H
     have c80b0 : (t158 == 0) = false := beq_eq_false_iff_ne.mpr c80
     have c80b1 : (t158 != 0) = true := bne_iff_ne.mpr c80
     exact absurd ((Option.some.inj H).trans hrt) (by decide)
end Go.Proofs.Ytkifipakikbhcaa.Lc
namespace Go.Proofs.Ytkifipakikbhcaa.Hand
def StopP (inn : List Bool) (ch : List (List Int)) : Prop := ∀ l ∈ ch, l.countP (inAt inn) ≠ 1
theorem aloneRow_pos (inn : List Bool) : ∀ (l : List Int) (o : Int), 0 ≤ o → aloneRow inn l o = if l.countP (inAt inn) = 0 then some o else none
 | [], o, h => by simp [aloneRow]
 | i :: l, o, h => by
  rw [aloneRow, List.countP_cons]
  by_cases hi : inAt inn i = true
  ·rw [if_pos hi, if_pos h, if_neg (by simp [hi])]
  ·rw [if_neg hi, aloneRow_pos inn l o h]; simp [hi]
theorem aloneRow_neg (inn : List Bool) : ∀ (l : List Int) (o : Int), o < 0 → (∀ i ∈ l, 0 ≤ i) →
  (l.countP (inAt inn) = 0 → aloneRow inn l o = some o) ∧ (l.countP (inAt inn) = 1 → ∃ i ∈ l, inAt inn i = true ∧ aloneRow inn l o = some i) ∧ (2 ≤ l.countP (inAt inn) → aloneRow inn l o = none)
 | [], o, h, hl => by simp [aloneRow]
 | i :: l, o, h, hl => by
  have ih := aloneRow_neg inn l o h (fun j hj => hl j (List.mem_cons_of_mem _ hj))
  have h0 := hl i (List.mem_cons_self ..)
  rw [aloneRow, List.countP_cons]
  by_cases hi : inAt inn i = true
  ·rw [if_pos hi, if_neg (show ¬ 0 ≤ o by omega), aloneRow_pos inn l i h0]
   simp only [hi, if_true]
   refine ⟨by omega, fun h1 => ⟨i, List.mem_cons_self .., hi, ?_⟩, fun h2 => ?_⟩
   ·rw [if_pos (by omega)]
   ·rw [if_neg (by omega)]
  ·rw [if_neg hi]
   simp only [hi]
   refine ⟨fun h1 => ih.1 (by simpa using h1), fun h1 => ?_, fun h1 => ih.2.2 (by simpa using h1)⟩
   obtain ⟨j, hj, h2⟩ := ih.2.1 (by simpa using h1)
   exact ⟨j, List.mem_cons_of_mem _ hj, h2⟩
theorem alone_spec (inn : List Bool) : ∀ (ch : List (List Int)), (∀ l ∈ ch, ∀ i ∈ l, 0 ≤ i) →
  (StopP inn ch → alone inn ch = -1) ∧ (¬ StopP inn ch → 0 ≤ alone inn ch ∧ ∃ l ∈ ch, alone inn ch ∈ l ∧ inAt inn (alone inn ch) = true ∧ l.countP (inAt inn) = 1)
 | [], _ => by simp [StopP, alone]
 | l :: ls, h => by
  have ih := alone_spec inn ls (fun x hx => h x (List.mem_cons_of_mem _ hx))
  have hr := aloneRow_neg inn l (-1) (by omega) (h l (List.mem_cons_self ..))
  by_cases h1 : l.countP (inAt inn) = 1
  ·obtain ⟨i, hi, hin, e⟩ := hr.2.1 h1
   have h0 := h l (List.mem_cons_self ..) i hi
   have e2 : alone inn (l :: ls) = i := by rw [alone, e]; simp only [if_pos h0]
   rw [e2]
   exact ⟨fun hs => absurd h1 (hs l (List.mem_cons_self ..)), fun _ => ⟨h0, l, List.mem_cons_self .., hi, hin, h1⟩⟩
  ·have e2 : alone inn (l :: ls) = alone inn ls := by
    rw [alone]
    by_cases h2 : l.countP (inAt inn) = 0
    ·rw [hr.1 h2]; rfl
    ·rw [hr.2.2 (by omega)]
   rw [e2]
   refine ⟨fun hs => ih.1 (fun x hx => hs x (List.mem_cons_of_mem _ hx)), fun hs => ?_⟩
   obtain ⟨h3, x, hx, h4⟩ := ih.2 (fun hs2 => hs (fun x hx => by
    rcases List.mem_cons.1 hx with rfl | hx
    ·exact h1
    ·exact hs2 x hx))
   exact ⟨h3, x, List.mem_cons_of_mem _ hx, h4⟩
theorem alone_neg {inn : List Bool} {ch : List (List Int)} (h : ∀ l ∈ ch, ∀ i ∈ l, 0 ≤ i) : alone inn ch < 0 ↔ StopP inn ch := by
 have := alone_spec inn ch h
 by_cases hs : StopP inn ch
 ·simp [hs, this.1 hs]
 ·simp only [hs, iff_false]; have := (this.2 hs).1; omega
def leftR : List Bool → Nat → List Int
 | [], _ => []
 | b :: bs, i => if b = true then (i : Int) :: leftR bs (i + 1) else leftR bs (i + 1)
theorem leftR_mem : ∀ (bs : List Bool) (i : Nat) (x : Int), x ∈ leftR bs i ↔ ∃ k : Nat, bs[k]? = some true ∧ x = ((i + k : Nat) : Int)
 | [], i, x => by simp [leftR]
 | b :: bs, i, x => by
  rw [leftR]
  have ih := leftR_mem bs (i + 1) x
  constructor
  ·intro h
   by_cases hb : b = true
   ·rw [if_pos hb] at h
    rcases List.mem_cons.1 h with rfl | h
    ·exact ⟨0, by simp [hb], by simp⟩
    ·obtain ⟨k, hk, e⟩ := ih.1 h
     exact ⟨k + 1, by simpa using hk, by rw [e]; congr 1; omega⟩
   ·rw [if_neg hb] at h
    obtain ⟨k, hk, e⟩ := ih.1 h
    exact ⟨k + 1, by simpa using hk, by rw [e]; congr 1; omega⟩
  ·rintro ⟨k, hk, e⟩
   cases k with
   | zero =>
    have hb : b = true := by simpa using hk
    rw [if_pos hb, e]; simp
   | succ k =>
    have := ih.2 ⟨k, by simpa using hk, by rw [e]; congr 1; omega⟩
    by_cases hb : b = true
    ·rw [if_pos hb]; exact List.mem_cons_of_mem _ this
    ·rw [if_neg hb]; exact this
theorem leftR_length : ∀ (bs : List Bool) (i : Nat), (leftR bs i).length = bs.count true
 | [], i => by simp [leftR]
 | b :: bs, i => by
  rw [leftR, List.count_cons]
  by_cases hb : b = true
  ·rw [if_pos hb, List.length_cons, leftR_length]; simp [hb]
  ·rw [if_neg hb, leftR_length]; simp [hb]
theorem leftR_set : ∀ (bs : List Bool) (i : Nat) (V : Int) (p : Option Int), (i : Int) + bs.length ≤ V → (∀ y, p = some y → y < i) → setR V p (leftR bs i) = true
 | [], i, V, p, _, _ => by cases p <;> rfl
 | b :: bs, i, V, p, h, hp => by
  rw [leftR]
  simp only [List.length_cons] at h
  by_cases hb : b = true
  ·rw [if_pos hb, setR_cons, if_neg (by omega), if_neg (by omega)]
   have ih := leftR_set bs (i + 1) V (some (i : Int)) (by push_cast; omega) (fun y e => by cases e; push_cast; omega)
   cases p with
   | none => simpa using ih
   | some y =>
    have hy := hp y rfl
    have hm : decide ((i : Int) ≤ y) = false := decide_eq_false (by omega)
    simp only [hm, Bool.false_eq_true, if_false]
    exact ih
  ·rw [if_neg hb]
   exact leftR_set bs (i + 1) V p (by push_cast; omega) (fun y e => by have := hp y e; push_cast; omega)
def maskR : List Int → List Bool → List Bool
 | [], o => o
 | i :: l, o => maskR l (o.set i.toNat true)
theorem maskR_length : ∀ (l : List Int) (o : List Bool), (maskR l o).length = o.length
 | [], o => rfl
 | i :: l, o => by rw [maskR, maskR_length, List.length_set]
theorem maskR_get : ∀ (l : List Int) (o : List Bool) (k : Nat), k < o.length → (maskR l o)[k]? = some (o.getD k false || l.any fun i => decide (i.toNat = k))
 | [], o, k, h => by simp [maskR, List.getD_eq_getElem?_getD, List.getElem?_eq_getElem h]
 | i :: l, o, k, h => by
  rw [maskR, maskR_get l _ k (by rw [List.length_set]; exact h), List.any_cons]
  by_cases e : i.toNat = k
  ·subst e; simp [List.getD_eq_getElem?_getD, List.getElem?_set_self h]
  ·simp [List.getD_eq_getElem?_getD, List.getElem?_set_ne e, e]
theorem maskR_left (m : List Bool) (n : Nat) (h : m.length = n) : maskR (leftR m 0) (List.replicate n false) = m := by
 apply List.ext_getElem?
 intro k
 by_cases hk : k < n
 ·rw [maskR_get _ _ k (by rw [List.length_replicate]; exact hk)]
  have h0 : (List.replicate n false).getD k false = false := by rw [List.getD_eq_getElem?_getD, List.getElem?_replicate, if_pos hk]; rfl
  rw [h0, Bool.false_or, List.getElem?_eq_getElem (by omega)]
  congr 1
  cases hb : m[k] with
  | true =>
   rw [List.any_eq_true]
   exact ⟨(k : Int), (leftR_mem m 0 k).2 ⟨k, by rw [List.getElem?_eq_getElem (by omega), hb], by simp⟩, by simp⟩
  | false =>
   rw [List.any_eq_false]
   intro x hx
   obtain ⟨j, hj, e⟩ := (leftR_mem m 0 x).1 hx
   intro he
   have he := of_decide_eq_true he
   have : j = k := by omega
   subst this
   rw [List.getElem?_eq_getElem (by omega), hb] at hj
   simp at hj
 ·rw [List.getElem?_eq_none (by rw [maskR_length, List.length_replicate]; omega), List.getElem?_eq_none (by omega)]
theorem count_set : ∀ (l : List Bool) (i : Nat), i < l.length → l.getD i false = false → (l.set i true).count true = l.count true + 1
 | [], i, h, _ => by simp at h
 | b :: l, 0, _, h => by
  have hb : b = false := by simpa using h
  subst hb; simp
 | b :: l, i + 1, h, h2 => by
  have := count_set l i (by simpa using h) (by simpa using h2)
  simp only [List.set_cons_succ, List.count_cons, this]; omega
theorem rep_getD (V j : Nat) : (List.replicate V false).getD j false = false := by
 rw [List.getD_eq_getElem?_getD, List.getElem?_replicate]; split <;> rfl
def coreGo (ch : List (List Int)) : Nat → List Bool → Option (List Bool)
 | 0, _ => none
 | n + 1, inn => if alone inn ch < 0 then some inn else coreGo ch n (inn.set (alone inn ch).toNat false)
theorem count_clear : ∀ (l : List Bool) (i : Nat), l.getD i false = true → (l.set i false).count true + 1 = l.count true
 | [], i, h => by simp at h
 | b :: l, 0, h => by
  have hb : b = true := by simpa using h
  subst hb; simp
 | b :: l, i + 1, h => by
  have := count_clear l i (by simpa using h)
  simp only [List.set_cons_succ, List.count_cons]; omega
theorem getD_clear (l : List Bool) (i j : Nat) : (l.set i false).getD j false = if i = j then false else l.getD j false := by
 simp only [List.getD_eq_getElem?_getD]
 by_cases e : i = j
 ·subst e
  rw [if_pos rfl]
  by_cases h : i < l.length
  ·rw [List.getElem?_set_self h]; rfl
  ·rw [List.getElem?_eq_none (by rw [List.length_set]; omega)]; rfl
 ·rw [List.getElem?_set_ne e, if_neg e]
theorem core_law {ch : List (List Int)} (hch : ∀ l ∈ ch, ∀ i ∈ l, 0 ≤ i) : ∀ (n : Nat) (inn : List Bool), inn.count true < n →
  ∃ r, coreGo ch n inn = some r ∧ r.length = inn.length ∧ StopP r ch ∧ (∀ i : Int, inAt r i = true → inAt inn i = true) ∧ ∀ x : List Bool, StopP x ch → (∀ i : Int, 0 ≤ i → inAt x i = true → inAt inn i = true) → ∀ i : Int, 0 ≤ i → inAt x i = true → inAt r i = true
 | 0, inn, h => by omega
 | n + 1, inn, h => by
  rw [coreGo]
  by_cases ha : alone inn ch < 0
  ·rw [if_pos ha]
   exact ⟨inn, rfl, rfl, (alone_neg hch).1 ha, fun i hi => hi, fun x _ hx => hx⟩
  ·rw [if_neg ha]
   have hs : ¬ StopP inn ch := fun hs => ha ((alone_neg hch).2 hs)
   obtain ⟨h0, l, hl, hol, hin, hcl⟩ := (alone_spec inn ch hch).2 hs
   have hc := count_clear inn (alone inn ch).toNat hin
   obtain ⟨r, h1, h2, h3, h4, h5⟩ := core_law hch n (inn.set (alone inn ch).toNat false) (by omega)
   have hsub : ∀ i : Int, inAt (inn.set (alone inn ch).toNat false) i = true → inAt inn i = true := by
    intro i hi
    unfold inAt at hi ⊢
    rw [getD_clear] at hi
    split at hi
    ·simp at hi
    ·exact hi
   refine ⟨r, h1, by rw [h2, List.length_set], h3, fun i hi => hsub i (h4 i hi), fun x hx hxi => h5 x hx (fun i hi0 hi => ?_)⟩
   have hii := hxi i hi0 hi
   unfold inAt
   rw [getD_clear]
   by_cases e : (alone inn ch).toNat = i.toNat
   ·exfalso
    have e2 : alone inn ch = i := by omega
    have hle : l.countP (inAt x) ≤ 1 := by
     rw [← hcl, List.countP_eq_length_filter, List.countP_eq_length_filter]
     have : ∀ (l : List Int), (∀ j ∈ l, 0 ≤ j) → (l.filter (inAt x)).length ≤ (l.filter (inAt inn)).length := by
      intro l
      induction l with
      | nil => intro _; simp
      | cons j l ih =>
       intro hj
       have ih := ih (fun k hk => hj k (List.mem_cons_of_mem _ hk))
       rw [List.filter_cons, List.filter_cons]
       by_cases hp : inAt x j = true
       ·rw [if_pos hp, if_pos (hxi j (hj j (List.mem_cons_self ..)) hp)]; simp; exact ih
       ·rw [if_neg hp]; split <;> simp <;> omega
     exact this l (hch l hl)
    have hge : 0 < l.countP (inAt x) := List.countP_pos_iff.2 ⟨alone inn ch, hol, by rw [e2]; exact hi⟩
    exact hx l hl (by omega)
   ·rw [if_neg e]; exact hii
end Go.Proofs.Ytkifipakikbhcaa.Hand
namespace Go.Proofs.Ytkifipakikbhcaa.Hand
open Ytkifipakikbhcaa.Ref Ytkifipakikbhcaa.Pg
open Ytkifipakikbhcaa.Pk (peel_Stopping.f peel_Greatest.f)
open Go.RowKit YtkifipakikbhcaaW.PrintWords YtkifipakikbhcaaW.PrintLast YtkifipakikbhcaaW.PrintMore
theorem w64_succ {i n : Nat} (h : i < n) (hn : n ≤ 4611686018427387904) : wrap64 ((i : Int) + 1) = ((i + 1 : Nat) : Int) := by unfold wrap64; omega
theorem set_fk {l : List Int} {n : Int} {k : Nat} (hl : l.length ≤ 4611686018427387904) (hk : l.length < k) : peel_set.f k l n = some (setR n none l) := by
 have := set_l0 l n hl l.length k 0 (by omega) (by omega) hk
 rw [if_pos rfl, List.drop_zero] at this
 exact this
theorem few_l0 (c : Int) (ls : List (List Int)) (B : Nat) (hB : B ≤ 1000) : ∀ (m k i : Nat) (x : Int), m = ls.length - i → i ≤ ls.length → ls.length ≤ B → x ≤ B → -1000000000 ≤ x → m < k → (∀ l ∈ ls.take i, l.length ≤ B) →
  ∃ b, r9_Few.l0 k x (i : Int) c ls = some b ∧ (b = true → ∀ l ∈ ls, l.length ≤ B) := by
 intro m
 induction m with
 | zero =>
  intro k i x hm hi hls hx hx2 hk ht
  obtain ⟨k, rfl⟩ : ∃ k', k = k' + 1 := ⟨k - 1, by omega⟩
  refine ⟨true, by rw [r9_Few.l0, if_neg (by omega)], fun _ l hl => ht l ?_⟩
  rw [List.take_of_length_le (by omega)]; exact hl
 | succ m ih =>
  intro k i x hm hi hls hx hx2 hk ht
  obtain ⟨k, rfl⟩ : ∃ k', k = k' + 1 := ⟨k - 1, by omega⟩
  have h : i < ls.length := by omega
  by_cases h1 : ((rd_L1 ls (i : Int)).length : Int) > x
  ·exact ⟨false, by rw [r9_Few.l0, if_pos (by omega), if_pos (by omega), if_pos h1], by simp⟩
  ·have hw : wrap64 (x - ((rd_L1 ls (i : Int)).length : Int)) = x - ((rd_L1 ls (i : Int)).length : Int) := by unfold wrap64; omega
   obtain ⟨b, hb, h2⟩ := ih k (i + 1) (x - ((rd_L1 ls (i : Int)).length : Int)) (by omega) (by omega) hls (by omega) (by omega) (by omega) (by
    intro l hl
    rw [List.take_add_one] at hl
    rcases List.mem_append.1 hl with hl | hl
    ·exact ht l hl
    ·have e : ls[i]? = some (rd_L1 ls (i : Int)) := by
      have h2 : (ls.drop i)[0]? = some (rd_L1 ls (i : Int)) := by rw [rows_drop h]; rfl
      rw [List.getElem?_drop, Nat.add_zero] at h2
      exact h2
     rw [e] at hl
     have : l = rd_L1 ls (i : Int) := by simpa using hl
     rw [this]; omega)
   exact ⟨b, by rw [r9_Few.l0, if_pos (by omega), if_pos (by omega), if_neg h1, hw, w64_succ h (by omega)]; exact hb, h2⟩
theorem few_f (c : Int) (ls : List (List Int)) (B k : Nat) (hB : B ≤ 1000) (hk : B + 2 < k) :
  ∃ b, r9_Few.f k c ls (B : Int) = some b ∧ (b = true → c ≤ 260 ∧ ls.length ≤ B ∧ ∀ l ∈ ls, l.length ≤ B) := by
 obtain ⟨k, rfl⟩ : ∃ k', k = k' + 1 := ⟨k - 1, by omega⟩
 unfold r9_Few.f
 by_cases h1 : c > 260
 ·exact ⟨false, by rw [if_pos h1, r9_Few.j0, if_pos rfl], by simp⟩
 ·rw [if_neg h1, r9_Few.j0]
  by_cases h2 : (ls.length : Int) > (B : Int)
  ·exact ⟨false, by rw [if_pos (decide_eq_true h2)], by simp⟩
  ·rw [if_neg (by simp; omega)]
   have hw : wrap64 ((B : Int) - (ls.length : Int)) = (B : Int) - (ls.length : Int) := by unfold wrap64; omega
   rw [hw]
   obtain ⟨b, hb, h3⟩ := few_l0 c ls B hB ls.length k 0 ((B : Int) - (ls.length : Int)) (by omega) (by omega) (by omega) (by omega) (by omega) (by omega) (by simp)
   exact ⟨b, hb, fun hbt => ⟨by omega, by omega, h3 hbt⟩⟩
theorem mask_l0 (l : List Int) (n : Nat) (hl : l.length ≤ 4611686018427387904) (hr : ∀ x ∈ l, 0 ≤ x ∧ x < (n : Int)) : ∀ (d k i : Nat) (o : List Bool), d = l.length - i → i ≤ l.length → d < k → o.length = n →
  peel_mask.l0 k o l (l.length : Int) (i : Int) = some (maskR (l.drop i) o) := by
 intro d
 induction d with
 | zero =>
  intro k i o hd hi hk ho
  obtain ⟨k, rfl⟩ : ∃ k', k = k' + 1 := ⟨k - 1, by omega⟩
  have h : i = l.length := by omega
  rw [peel_mask.l0, if_neg (by omega), h, List.drop_length, maskR]
 | succ d ih =>
  intro k i o hd hi hk ho
  obtain ⟨k, rfl⟩ : ∃ k', k = k' + 1 := ⟨k - 1, by omega⟩
  have h : i < l.length := by omega
  have hm := hr _ (rd_memInt (l := l) (i := (i : Int)) (by omega) (by omega))
  rw [peel_mask.l0, if_pos (by omega), if_pos (by omega), if_pos (by omega), if_pos hm.1, if_pos (by omega), rd_drop h, maskR, w64_succ h hl]
  exact ih k (i + 1) _ (by omega) (by omega) (by omega) (by rw [List.length_set]; exact ho)
theorem mask_f {l : List Int} {V k : Nat} {ch : List (List Int)} (hV : V ≤ 64) (hl : l.length ≤ 4611686018427387904) (hr : ∀ x ∈ l, 0 ≤ x ∧ x < (V : Int)) (hk : l.length < k) : peel_mask.f k (V : Int) ch l = some (maskR l (List.replicate V false)) := by
 unfold peel_mask.f
 rw [if_pos (by omega), if_pos (by omega), Int.toNat_natCast]
 have := mask_l0 l V hl hr l.length k 0 (List.replicate V false) (by omega) (by omega) hk (List.length_replicate ..)
 rw [List.drop_zero] at this
 exact this
theorem bool_drop {l : List Bool} {i : Nat} (h : i < l.length) : l.drop i = rdOf false l (i : Int) :: l.drop (i + 1) := by
 have := drop_cons (d := false) (i := (i : Int)) (l := l) (by omega) (by omega)
 rw [Int.toNat_natCast, show ((i : Int) + 1).toNat = i + 1 from by omega] at this
 exact this
theorem left_l0 (l : List Bool) (hl : l.length ≤ 1000000) : ∀ (d k i : Nat) (acc : List Int), d = l.length - i → i ≤ l.length → d < k → acc.length ≤ i →
  peel_left.l0 k acc l (l.length : Int) (i : Int) = some (acc ++ leftR (l.drop i) i) := by
 intro d
 induction d with
 | zero =>
  intro k i acc hd hi hk ha
  obtain ⟨k, rfl⟩ : ∃ k', k = k' + 1 := ⟨k - 1, by omega⟩
  have h : i = l.length := by omega
  rw [peel_left.l0, if_neg (by omega), h, List.drop_length, leftR, List.append_nil]
 | succ d ih =>
  intro k i acc hd hi hk ha
  obtain ⟨k, rfl⟩ : ∃ k', k = k' + 1 := ⟨k - 1, by omega⟩
  have h : i < l.length := by omega
  rw [peel_left.l0, if_pos (by omega), if_pos (by omega), if_pos (by omega), bool_drop h, leftR, w64_succ h (by omega)]
  by_cases hb : rdOf false l (i : Int) = true
  ·rw [if_pos hb, if_pos (by omega), if_pos hb, ih k (i + 1) _ (by omega) (by omega) (by omega) (by simp; omega)]
   simp
  ·rw [if_neg hb, if_neg hb, ih k (i + 1) _ (by omega) (by omega) (by omega) (by omega)]
theorem left_f {l : List Bool} {k : Nat} (hl : l.length ≤ 1000000) (hk : l.length < k) : peel_left.f k l = some (leftR l 0) := by
 have := left_l0 l hl l.length k 0 [] (by omega) (by omega) hk (by simp)
 rw [List.drop_zero, List.nil_append] at this
 exact this
theorem leftR_mem0 {m : List Bool} {x : Int} (h : x ∈ leftR m 0) : 0 ≤ x ∧ x < (m.length : Int) := by
 obtain ⟨k, hk, e⟩ := (leftR_mem m 0 x).1 h
 have := (List.getElem?_eq_some_iff.1 hk).1
 omega
theorem graph_ok {V : Int} {ch : List (List Int)} (h : peel_Check.f V ch = some 0) : ∃ n : Nat, V = n ∧ 1 ≤ n ∧ n ≤ 64 ∧ ch.length ≤ 256 ∧ (∀ l ∈ ch, setR n none l = true) ∧ ∀ l ∈ ch, ∀ i ∈ l, 0 ≤ i ∧ i < (n : Int) := by
 obtain ⟨h1, h2, h3, h4⟩ := check_zero h
 refine ⟨V.toNat, by omega, by omega, by omega, h3, ?_, fun l hl i hi => ?_⟩
 ·rw [Int.toNat_of_nonneg (by omega)]; exact h4
 ·rw [Int.toNat_of_nonneg (by omega)]; exact setR_mem (h4 l hl) i hi
theorem alone_f {V : Int} {ch : List (List Int)} {m : List Bool} (hc : ch.length ≤ 256) (h : ∀ l ∈ ch, ∀ i ∈ l, 0 ≤ i ∧ i < (m.length : Int)) : peel_alone.f V ch m = some (alone m ch) := by
 unfold peel_alone.f
 rw [if_pos (List.all_eq_true.2 fun l hl => List.all_eq_true.2 fun i hi => decide_eq_true (h l hl i hi)), if_pos (by omega)]
end Go.Proofs.Ytkifipakikbhcaa.Hand
namespace Go.Proofs.Ytkifipakikbhcaa.Hand
open Ytkifipakikbhcaa.Ref
open Ytkifipakikbhcaa.Pg (field_powers.f field_powers.l0)
open Go.RowKit YtkifipakikbhcaaW.PrintWords YtkifipakikbhcaaW.PrintLast YtkifipakikbhcaaW.PrintMore
def Dgt (P : Int) (l : List Int) : Prop := ∀ x ∈ l, 0 ≤ x ∧ x < P
theorem tmod_range {x P : Int} (hx : 0 ≤ x) (hP : 0 < P) : 0 ≤ Int.tmod x P ∧ Int.tmod x P < P := ⟨Int.tmod_nonneg _ hx, Int.tmod_lt_of_pos _ hP⟩
theorem tdiv_range {x P : Int} (hx : 0 ≤ x) (hP : 1 ≤ P) : 0 ≤ Int.tdiv x P ∧ Int.tdiv x P ≤ x := by
 rw [Int.tdiv_eq_ediv_of_nonneg hx]
 exact ⟨Int.ediv_nonneg hx (by omega), Int.ediv_le_self _ hx⟩
theorem w64_id {x : Int} (h0 : 0 ≤ x) (h1 : x ≤ 4611686018427387904) : wrap64 x = x := by unfold wrap64; omega
theorem Dgt.set {P : Int} {l : List Int} (h : Dgt P l) (i : Nat) {x : Int} (hx : 0 ≤ x ∧ x < P) : Dgt P (l.set i x) := by
 intro y hy
 rcases List.mem_or_eq_of_mem_set hy with h1 | h1
 ·exact h y h1
 ·rw [h1]; exact hx
theorem Dgt.rep {P : Int} (hP : 0 < P) (n : Nat) : Dgt P (List.replicate n 0) := by
 intro y hy; rw [List.eq_of_mem_replicate hy]; omega
theorem Dgt.rd {P : Int} {l : List Int} (h : Dgt P l) (hP : 0 < P) (i : Int) : 0 ≤ rd l i ∧ rd l i < P := by
 show 0 ≤ l.getD i.toNat 0 ∧ l.getD i.toNat 0 < P
 rw [List.getD_eq_getElem?_getD]
 cases hi : l[i.toNat]? with
 | none => exact ⟨Int.le_refl _, hP⟩
 | some y => exact h y (List.mem_of_getElem? hi)
theorem digits_l0 {P : Int} (hP : 2 ≤ P) (n : Nat) (hn : n ≤ 8) : ∀ (d k i : Nat) (x : Int) (o : List Int), d = n - i → i ≤ n → d < k → o.length = n → Dgt P o → 0 ≤ x → x ≤ 4611686018427387904 →
  ∃ l, field_digitsOf.l0 k x P o (n : Int) (i : Int) = some l ∧ l.length = n ∧ Dgt P l := by
 intro d
 induction d with
 | zero =>
  intro k i x o hd hi hk ho hD h0 h1
  obtain ⟨k, rfl⟩ : ∃ k', k = k' + 1 := ⟨k - 1, by omega⟩
  exact ⟨o, by rw [field_digitsOf.l0, if_neg (by omega)], ho, hD⟩
 | succ d ih =>
  intro k i x o hd hi hk ho hD h0 h1
  obtain ⟨k, rfl⟩ : ∃ k', k = k' + 1 := ⟨k - 1, by omega⟩
  have hq := tdiv_range h0 (show 1 ≤ P by omega)
  have hw : wrap64 (Int.tdiv x P) = Int.tdiv x P := w64_id hq.1 (by omega)
  obtain ⟨l, e, h2, h3⟩ := ih k (i + 1) (Int.tdiv x P) (o.set i (Int.tmod x P)) (by omega) (by omega) (by omega) (by rw [List.length_set]; exact ho) (hD.set i (tmod_range h0 (by omega))) hq.1 (by omega)
  refine ⟨l, ?_, h2, h3⟩
  rw [field_digitsOf.l0, if_pos (by omega), if_neg (by omega), if_pos (by omega), if_pos (by omega), hw, Int.toNat_natCast, w64_succ (n := 9) (by omega) (by omega)]
  exact e
theorem digits_f {P : Int} (hP : 2 ≤ P) (n k : Nat) (hn : n ≤ 8) (hk : 8 < k) {x : Int} (h0 : 0 ≤ x) (h1 : x ≤ 256) : ∃ l, field_digitsOf.f k x P (n : Int) = some l ∧ l.length = n ∧ Dgt P l := by
 obtain ⟨l, e, h2, h3⟩ := digits_l0 hP n hn n k 0 x (List.replicate n 0) (by omega) (by omega) (by omega) (List.length_replicate ..) (Dgt.rep (by omega) n) h0 (by omega)
 refine ⟨l, ?_, h2, h3⟩
 unfold field_digitsOf.f
 rw [if_pos (by omega), if_pos (by omega), Int.toNat_natCast, Option.bind_some, List.length_replicate]
 exact e
theorem pow_mono {P : Int} (hP : 2 ≤ P) {a b : Nat} (h : a ≤ b) : P ^ a ≤ P ^ b := by
 induction b with
 | zero => rw [show a = 0 by omega]; exact Int.le_refl _
 | succ b ih =>
  by_cases e : a = b + 1
  ·rw [e]; exact Int.le_refl _
  ·have h1 := ih (by omega)
   have h2 : 0 ≤ P ^ b := Int.pow_nonneg (by omega)
   rw [Int.pow_succ]
   have h3 : P ^ b * 1 ≤ P ^ b * P := Int.mul_le_mul_of_nonneg_left (by omega) h2
   rw [Int.mul_one] at h3
   omega
theorem value_l0 {P : Int} (hP : 2 ≤ P) (l : List Int) (hl : l.length ≤ 8) (hD : Dgt P l) (hpow : P ^ l.length ≤ 256) : ∀ (d k : Nat) (acc : Int), d ≤ l.length → d < k → 0 ≤ acc → acc + 1 ≤ P ^ (l.length - d) →
  ∃ v, field_valueOf.l0 k l P acc ((d : Int) - 1) = some v ∧ 0 ≤ v ∧ v < P ^ l.length := by
 intro d
 induction d with
 | zero =>
  intro k acc hd hk h0 h1
  obtain ⟨k, rfl⟩ : ∃ k', k = k' + 1 := ⟨k - 1, by omega⟩
  refine ⟨acc, by rw [field_valueOf.l0, if_neg (by omega)], h0, ?_⟩
  rw [Nat.sub_zero] at h1; omega
 | succ d ih =>
  intro k acc hd hk h0 h1
  obtain ⟨k, rfl⟩ : ∃ k', k = k' + 1 := ⟨k - 1, by omega⟩
  have hr := hD.rd (by omega) ((d : Int))
  have hm : (acc + 1) * P ≤ P ^ (l.length - (d + 1)) * P := Int.mul_le_mul_of_nonneg_right h1 (by omega)
  have he : P ^ (l.length - (d + 1)) * P = P ^ (l.length - d) := by rw [← Int.pow_succ]; congr 1; omega
  rw [he, Int.add_mul, Int.one_mul] at hm
  have hle : P ^ (l.length - d) ≤ P ^ l.length := pow_mono hP (by omega)
  have hnn : 0 ≤ acc * P := Int.mul_nonneg h0 (by omega)
  obtain ⟨v, e, h2, h3⟩ := ih k (acc * P + rd l (d : Int)) (by omega) (by omega) (by omega) (by omega)
  refine ⟨v, ?_, h2, h3⟩
  rw [field_valueOf.l0, show ((d + 1 : Nat) : Int) - 1 = (d : Int) by omega, if_pos (by omega), if_pos (by omega), if_pos (by omega), w64_id hnn (by omega), w64_id (by omega) (by omega)]
  rw [show wrap64 ((d : Int) - 1) = (d : Int) - 1 by unfold wrap64; omega]
  exact e
theorem value_f {P : Int} (hP : 2 ≤ P) (l : List Int) (k : Nat) (hl : l.length ≤ 8) (hl1 : 1 ≤ l.length) (hD : Dgt P l) (hpow : P ^ l.length ≤ 256) (hk : 8 < k) : ∃ v, field_valueOf.f k l P = some v ∧ 0 ≤ v ∧ v < P ^ l.length := by
 obtain ⟨v, e, h⟩ := value_l0 hP l hl hD hpow l.length k 0 (by omega) (by omega) (by omega) (by rw [Nat.sub_self, Int.pow_zero]; omega)
 refine ⟨v, ?_, h⟩
 unfold field_valueOf.f
 rw [show wrap64 ((l.length : Int) - 1) = (l.length : Int) - 1 by unfold wrap64; omega]
 exact e
theorem cell_range {P : Int} (hP : 2 ≤ P) (hP2 : P ≤ 256) {N : Nat} {md a sh : List Int} {bi top : Int} (hmd : Dgt P md) (ha : Dgt P a) (hs : Dgt P sh) (hb : 0 ≤ bi ∧ bi < P) (ht : 0 ≤ top ∧ top < P) (j : Int) :
  0 ≤ mulCell P N md a bi top sh j ∧ mulCell P N md a bi top sh j < P := by
 unfold mulCell
 have h1 := hs.rd (show 0 < P by omega) j
 have h2 := ha.rd (show 0 < P by omega) j
 have h3 : 0 ≤ lowc N md j ∧ lowc N md j < P := by
  unfold lowc; split
  ·exact hmd.rd (by omega) j
  ·omega
 have m1 : (P - top) * lowc N md j ≤ 256 * 256 := Int.mul_le_mul (by omega) (by omega) (by omega) (by omega)
 have n1 : 0 ≤ (P - top) * lowc N md j := Int.mul_nonneg (by omega) (by omega)
 have m2 : bi * rd a j ≤ 256 * 256 := Int.mul_le_mul (by omega) (by omega) (by omega) (by omega)
 have n2 : 0 ≤ bi * rd a j := Int.mul_nonneg (by omega) (by omega)
 rw [w64_id (x := P - top) (by omega) (by omega), w64_id n1 (by omega), w64_id n2 (by omega), w64_id (x := rd sh j + _) (by omega) (by omega), w64_id (by omega) (by omega)]
 exact tmod_range (by omega) (by omega)
theorem mulL_range {P : Int} (hP : 2 ≤ P) (hP2 : P ≤ 256) {N : Nat} {md a b : List Int} (hmd : Dgt P md) (ha : Dgt P a) (hb : Dgt P b) : ∀ (i : Nat) (o : List Int), o.length = N → Dgt P o → (mulL P N md a b i o).length = N ∧ Dgt P (mulL P N md a b i o)
 | 0, o, h, hD => ⟨h, hD⟩
 | i + 1, o, h, hD => by
  rw [mulL]
  refine mulL_range hP hP2 hmd ha hb i _ (by unfold mulRnd; simp) ?_
  unfold mulRnd
  intro x hx
  obtain ⟨j, _, e⟩ := List.mem_map.1 hx
  rw [← e]
  refine cell_range hP hP2 hmd ha ?_ (hb.rd (by omega) _) (hD.rd (by omega) _) _
  intro y hy
  rcases List.mem_cons.1 hy with rfl | hy
  ·omega
  ·exact hD y hy
theorem multiply_f {P : Int} {M k : Nat} {md : List Int} (hP : 2 ≤ P) (hP2 : P ≤ 256) (hM : 1 ≤ M) (hM2 : M ≤ 8) (hmd : Dgt P md) (hml : 1 < M → md.length = M) (hpow : P ^ M ≤ 256) (hk : 8 < k) {x y : Int} (hx : 0 ≤ x ∧ x ≤ 256) (hy : 0 ≤ y ∧ y ≤ 256) :
  ∃ v, field_multiply.f k P (M : Int) md x y = some v ∧ 0 ≤ v ∧ v < P ^ M := by
 obtain ⟨a, ea, la, da⟩ := digits_f hP M k hM2 hk hx.1 hx.2
 obtain ⟨b, eb, lb, db⟩ := digits_f hP M k hM2 hk hy.1 hy.2
 obtain ⟨lr, dr⟩ := mulL_range hP hP2 hmd da db M (List.replicate M 0) (List.length_replicate ..) (Dgt.rep (by omega) M)
 obtain ⟨v, ev, h⟩ := value_f hP (mulL P M md a b M (List.replicate M 0)) k (by omega) (by omega) dr (by rw [lr]; exact hpow) hk
 rw [lr] at h
 refine ⟨v, ?_, h⟩
 unfold field_multiply.f
 rw [if_pos ⟨by omega, by omega, fun h1 => by have := hml (by omega); omega, by omega⟩, ea, Option.bind_some, eb, Option.bind_some, if_pos ⟨by omega, by omega⟩, Int.toNat_natCast]
 exact ev
theorem powers_l0 {P : Int} {M : Nat} {md : List Int} (hP : 2 ≤ P) (hP2 : P ≤ 256) (hM : 1 ≤ M) (hM2 : M ≤ 8) (hmd : Dgt P md) (hml : 1 < M → md.length = M) {q : Nat} (hq : P ^ M = q) (hq2 : q ≤ 256) {x : Int} (hx : 0 ≤ x ∧ x < q) :
  ∀ (d k : Nat) (acc : List Int) (seen : List Bool) (z : Int), seen.length = q → q ≤ seen.count true + d → d + 20 < k → acc.length + d ≤ 300 → (∀ y ∈ acc, 0 ≤ y ∧ y < (q : Int)) → 0 ≤ z ∧ z < q →
  ∃ l, field_powers.l0 k x acc seen z P (M : Int) md = some l ∧ ∀ y ∈ l, 0 ≤ y ∧ y < (q : Int) := by
 intro d
 induction d with
 | zero =>
  intro k acc seen z hs hc hk ha hr hz
  obtain ⟨k, rfl⟩ : ∃ k', k = k' + 1 := ⟨k - 1, by omega⟩
  refine ⟨acc, ?_, hr⟩
  have hall : seen.count true = seen.length := by have : seen.count true ≤ seen.length := List.count_le_length; omega
  rw [List.count_eq_length] at hall
  have hb : rdOf false seen z = true := by
   have hlt : z.toNat < seen.length := by omega
   show seen.getD z.toNat false = true
   rw [List.getD_eq_getElem?_getD, List.getElem?_eq_getElem hlt]
   exact (hall _ (List.getElem_mem hlt)).symm
  rw [field_powers.l0]
  by_cases h0 : z = 0
  ·rw [if_pos h0]
  ·rw [if_neg h0, if_pos hz.1, if_pos (by omega), if_pos hb]
 | succ d ih =>
  intro k acc seen z hs hc hk ha hr hz
  obtain ⟨k, rfl⟩ : ∃ k', k = k' + 1 := ⟨k - 1, by omega⟩
  rw [field_powers.l0]
  by_cases h0 : z = 0
  ·rw [if_pos h0]; exact ⟨acc, rfl, hr⟩
  ·rw [if_neg h0, if_pos hz.1, if_pos (by omega)]
   by_cases hb : rdOf false seen z = true
   ·rw [if_pos hb]; exact ⟨acc, rfl, hr⟩
   ·obtain ⟨v, ev, hv⟩ := multiply_f (k := k) hP hP2 hM hM2 hmd hml (by omega) (by omega) (x := z) (y := x) (by omega) (by omega)
    rw [if_neg hb, if_pos (by omega), ev, Option.bind_some]
    have hcs := count_set seen z.toNat (by omega) (Bool.eq_false_iff.2 hb)
    exact ih k (acc ++ [z]) _ v (by rw [List.length_set]; exact hs) (by omega) (by omega) (by simp; omega) (fun y hy => by
     rcases List.mem_append.1 hy with hy | hy
     ·exact hr y hy
     ·rw [List.mem_singleton.1 hy]; exact hz) (by omega)
theorem powers_f {P : Int} {M : Nat} {md : List Int} (hP : 2 ≤ P) (hP2 : P ≤ 256) (hM : 1 ≤ M) (hM2 : M ≤ 8) (hmd : Dgt P md) (hml : 1 < M → md.length = M) {q : Nat} (hq : P ^ M = q) (hq2 : q ≤ 256) (hq1 : 2 ≤ q) {x : Int} (hx : 0 ≤ x ∧ x < q) :
  ∃ l, field_powers.f 4096 P (M : Int) md (q : Int) x = some l ∧ ∀ y ∈ l, 0 ≤ y ∧ y < (q : Int) := by
 obtain ⟨l, e, h⟩ := powers_l0 hP hP2 hM hM2 hmd hml hq hq2 hx q 4096 [1] ((List.replicate q false).set 1 true) x (by simp) (by omega) (by omega) (by simp; omega) (fun y hy => by rw [List.mem_singleton.1 hy]; omega) hx
 refine ⟨l, ?_, h⟩
 unfold field_powers.f
 rw [if_pos (by omega), if_pos (by omega), Int.toNat_natCast, Option.bind_some, if_pos (by rw [List.length_replicate]; omega)]
 exact e
theorem newAll_true {P : Int} {M : Nat} {md : List Int} (hP : 2 ≤ P) (hP2 : P ≤ 256) (hM : 1 ≤ M) (hM2 : M ≤ 8) (hmd : Dgt P md) (hml : 1 < M → md.length = M) {q : Nat} (hq : P ^ M = q) (hq2 : q ≤ 256) (hq1 : 2 ≤ q) : newAll P (M : Int) md (q : Int) = true := by
 unfold newAll
 rw [Int.toNat_natCast, List.all_eq_true]
 intro i hi
 have hi := List.mem_range.1 hi
 obtain ⟨l, e, h⟩ := powers_f hP hP2 hM hM2 hmd hml hq hq2 hq1 (x := (i : Int)) (by omega)
 have hp : pwN P (M : Int) md (q : Int) (i : Int) = l := by unfold pwN; rw [e]; rfl
 rw [e, hp]
 have hrd : 0 ≤ rd l ((q : Int) - 2) ∧ rd l ((q : Int) - 2) < (q : Int) := Dgt.rd (P := (q : Int)) h (by omega) _
 obtain ⟨v, ev, _⟩ := multiply_f (k := 4096) hP hP2 hM hM2 hmd hml (by omega) (by omega) (x := rd l ((q : Int) - 2)) (y := (i : Int)) (by omega) (by omega)
 rw [ev]
 simp
end Go.Proofs.Ytkifipakikbhcaa.Hand
namespace Go.Proofs.Ytkifipakikbhcaa.Hand
open Ytkifipakikbhcaa.Ref
open Go.RowKit YtkifipakikbhcaaW.PrintWords YtkifipakikbhcaaW.PrintLast YtkifipakikbhcaaW.PrintMore
def tuples (p : Nat) : Nat → List (List Int)
 | 0 => [[]]
 | m + 1 => (tuples p m).flatMap fun l => (List.range p).map fun (x : Nat) => (x : Int) :: l
theorem mem_tuples {p : Nat} : ∀ {m : Nat} {l : List Int}, l.length = m → Dgt (p : Int) l → l ∈ tuples p m
 | 0, l, h, _ => by rw [List.length_eq_zero_iff.1 h, tuples]; exact List.mem_singleton.2 rfl
 | m + 1, [], h, _ => by simp at h
 | m + 1, x :: l, h, hD => by
  rw [tuples, List.mem_flatMap]
  have hx := hD x (List.mem_cons_self ..)
  exact ⟨l, mem_tuples (by simpa using h) (fun y hy => hD y (List.mem_cons_of_mem _ hy)), List.mem_map.2 ⟨x.toNat, List.mem_range.2 (by omega), by rw [Int.toNat_of_nonneg hx.1]⟩⟩
def fieldG (P M : Int) (md : List Int) (q : Nat) : Bool :=
 decide (field_shape.f 4096 P M md = some true) && decide (field_order.f 4096 P M = some (q : Int)) && (match exN P M md q with | [] => false | x :: e => decide (((x :: e).length : Int) = (q : Int) - 1) && (x :: e).all fun y => decide (0 ≤ y ∧ y < (q : Int)))
def irrOk (p m : Nat) : Bool := (tuples p m).all fun md => match r4_irreducible.f 300 md p with | some b => !b || fieldG p m md (p ^ m) | none => false
def prOk (p : Nat) : Bool := match r4_prime.f 300 (p : Int) with | some b => !b || fieldG p 1 [] p | none => false
def ordOk (p m : Nat) : Bool := match r4_Order.f 20 p m [] with | some q => decide (q = 0) || decide (32 < q) || (decide (p ≤ 32) && decide (m ≤ 5) && decide (q = ((p ^ m : Nat) : Int)) && decide (2 ≤ p) && decide (1 ≤ m)) | none => false
theorem ords : ((List.range 257).all fun p => (List.range 9).all fun m => ordOk p m) = true := by decide +kernel
theorem prs : ((List.range 33).all fun p => decide (p < 2) || prOk p) = true := by decide +kernel
theorem irr2 : (irrOk 2 2 && irrOk 2 3 && irrOk 2 4 && irrOk 3 2 && irrOk 3 3 && irrOk 5 2) = true := by decide +kernel
theorem irr32 : irrOk 2 5 = true := by decide +kernel
theorem lift {α : Type} {f : Nat → Option α} (h : ∀ k, LeO (f k) (f (k + 1))) {k k' : Nat} (hk : k ≤ k') {r : α} (e : f k = some r) : f k' = some r := by
 induction k' with
 | zero => rw [show k = 0 by omega] at e; exact e
 | succ n ih =>
  by_cases h1 : k = n + 1
  ·rw [← h1]; exact e
  ·exact h n r (ih (by omega))
theorem order_l0_md (md : List Int) (P M : Int) : ∀ (k : Nat) (x i : Int), r4_Order.l0 k x i P M md = r4_Order.l0 k x i P M []
 | 0, x, i => by rw [r4_Order.l0, r4_Order.l0]
 | k + 1, x, i => by rw [r4_Order.l0, r4_Order.l0, order_l0_md md P M k]
theorem order_md (k : Nat) (P M : Int) (md : List Int) : r4_Order.f k P M md = r4_Order.f k P M [] := by
 unfold r4_Order.f
 cases k with
 | zero => simp only [r4_Order.j0]
 | succ k => simp only [r4_Order.j0, order_l0_md md P M k]
theorem order_total (P M : Int) (md : List Int) {k : Nat} (hk : 20 ≤ k) :
  ∃ q, r4_Order.f k P M md = some q ∧ (q = 0 ∨ 32 < q ∨ ∃ p m : Nat, P = p ∧ M = m ∧ 2 ≤ p ∧ p ≤ 32 ∧ 1 ≤ m ∧ m ≤ 5 ∧ q = ((p ^ m : Nat) : Int)) := by
 rw [order_md]
 obtain ⟨k, rfl⟩ : ∃ k', k = k' + 2 := ⟨k - 2, by omega⟩
 by_cases h1 : P < 2
 ·exact ⟨0, by unfold r4_Order.f; rw [if_pos h1, r4_Order.j0, if_pos rfl], Or.inl rfl⟩
 by_cases h2 : M < 1
 ·exact ⟨0, by unfold r4_Order.f; rw [if_neg h1, if_pos h2, r4_Order.j0, if_pos rfl], Or.inl rfl⟩
 by_cases h3 : M > 8
 ·exact ⟨0, by unfold r4_Order.f; rw [if_neg h1, if_neg h2, r4_Order.j0, if_pos (decide_eq_true h3)], Or.inl rfl⟩
 by_cases h4 : P > 256
 ·refine ⟨0, ?_, Or.inl rfl⟩
  unfold r4_Order.f
  have he : (256 : Int) / P = 0 := Int.ediv_eq_zero_of_lt (by omega) (by omega)
  rw [if_neg h1, if_neg h2, r4_Order.j0, if_neg (by simp; omega), r4_Order.l0, if_pos (by omega), if_neg (by omega), he, if_pos (by unfold wrap64; decide)]
 ·obtain ⟨p, rfl⟩ := Int.eq_ofNat_of_zero_le (show 0 ≤ P by omega)
  obtain ⟨m, rfl⟩ := Int.eq_ofNat_of_zero_le (show 0 ≤ M by omega)
  have h := List.all_eq_true.1 (List.all_eq_true.1 ords p (List.mem_range.2 (by omega))) m (List.mem_range.2 (by omega))
  unfold ordOk at h
  cases hq : r4_Order.f 20 (p : Int) (m : Int) [] with
  | none => rw [hq] at h; simp at h
  | some q =>
   rw [hq] at h
   refine ⟨q, lift (fun k => r4_Order.mono _ _ _ k) hk hq, ?_⟩
   simp only [Bool.or_eq_true, Bool.and_eq_true, decide_eq_true_eq] at h
   rcases h with (h | h) | h
   ·exact Or.inl h
   ·exact Or.inr (Or.inl h)
   ·exact Or.inr (Or.inr ⟨p, m, rfl, rfl, h.1.2, h.1.1.1.1, h.2, h.1.1.1.2, h.1.1.2⟩)
structure IsFld (P M : Int) (md : List Int) (q : Nat) (ex : List Int) (lg : List Int) : Prop where
 make : newO P M md = some (some ((q : Int), ex, lg))
 q2 : 2 ≤ q
 q32 : q ≤ 32
 P2 : 2 ≤ P
 exl : (ex.length : Int) = (q : Int) - 1
 lgl : lg.length = q
 lgr : ∀ x ∈ lg, 0 ≤ x ∧ x ≤ (q : Int) - 1
theorem logL_range {n : Int} : ∀ (e : List Int) (i : Nat) (l : List Int), (∀ x ∈ l, 0 ≤ x ∧ x ≤ n) → (i : Int) + e.length ≤ n + 1 → ∀ x ∈ logL e i l, 0 ≤ x ∧ x ≤ n
 | [], i, l, h, _ => h
 | y :: e, i, l, h, hi => by
  rw [logL]
  simp only [List.length_cons] at hi
  refine logL_range e (i + 1) _ ?_ (by push_cast at hi ⊢; omega)
  intro x hx
  rcases List.mem_or_eq_of_mem_set hx with h1 | h1
  ·exact h x h1
  ·rw [h1]; push_cast at hi; omega
theorem fieldG_isFld {p m q : Nat} {md : List Int} (hp : 2 ≤ p) (hp2 : p ≤ 32) (hm : 1 ≤ m) (hm2 : m ≤ 5) (hq : q = p ^ m) (hq32 : q ≤ 32) (hq2 : 2 ≤ q) (hD : Dgt (p : Int) md) (hl : 1 < m → md.length = m) (hl2 : md.length ≤ 8) (h : fieldG p m md q = true) :
  ∃ ex lg, IsFld (p : Int) (m : Int) md q ex lg := by
 unfold fieldG at h
 simp only [Bool.and_eq_true, decide_eq_true_eq] at h
 obtain ⟨⟨h1, h2⟩, h3⟩ := h
 have hpow : (p : Int) ^ m = (q : Int) := by rw [hq]; push_cast; rfl
 have hna := newAll_true (P := (p : Int)) (M := m) (md := md) (by omega) (by omega) hm (by omega) hD hl hpow (by omega) hq2
 cases he : exN (p : Int) (m : Int) md (q : Int) with
 | nil => rw [he] at h3; simp at h3
 | cons y e =>
  rw [he] at h3
  simp only [Bool.and_eq_true, decide_eq_true_eq] at h3
  obtain ⟨h4, h5⟩ := h3
  refine ⟨y :: e, logL (y :: e) 0 (List.replicate q 0), ?_, hq2, hq32, by omega, h4, by rw [logL_length, List.length_replicate], ?_⟩
  ·unfold newO
   rw [h1, Option.bind_some, if_pos rfl, h2, Option.bind_some, if_pos ⟨by omega, by omega, hl2⟩, if_pos hna, he, if_neg (by simp), if_pos ⟨h5, by omega⟩, Int.toNat_natCast]
  ·refine logL_range (n := (q : Int) - 1) (y :: e) 0 _ (fun x hx => by rw [List.eq_of_mem_replicate hx]; omega) (by omega)
theorem check_l0 {p m : Nat} {md : List Int} (hl : md.length = m) (hm : m ≤ 8) : ∀ (d k i : Nat), d = m - i → i ≤ m → d + 301 < k → (∀ j : Nat, j < i → 0 ≤ rd md (j : Int) ∧ rd md (j : Int) < (p : Int)) →
  r4_Check.l0 k (i : Int) (p : Int) (m : Int) md = some 1 ∨ (Dgt (p : Int) md ∧ ∃ k', 300 ≤ k' ∧ r4_Check.l0 k (i : Int) (p : Int) (m : Int) md = (r4_irreducible.f k' md (p : Int)).bind fun t => if t = true then some 0 else some 1) := by
 intro d
 induction d with
 | zero =>
  intro k i hd hi hk hr
  obtain ⟨k, rfl⟩ : ∃ k', k = k' + 1 := ⟨k - 1, by omega⟩
  refine Or.inr ⟨?_, k, by omega, by rw [r4_Check.l0, if_neg (by omega)]⟩
  intro x hx
  obtain ⟨j, hj, e⟩ := List.getElem_of_mem hx
  have h := hr j (by omega)
  have e2 : rd md (j : Int) = x := by
   show md.getD ((j : Int)).toNat 0 = x
   rw [Int.toNat_natCast, List.getD_eq_getElem?_getD, List.getElem?_eq_getElem hj, e]; rfl
  rw [e2] at h; exact h
 | succ d ih =>
  intro k i hd hi hk hr
  obtain ⟨k, rfl⟩ : ∃ k', k = k' + 1 := ⟨k - 1, by omega⟩
  rw [r4_Check.l0, if_pos (by omega), if_pos (by omega), if_pos (by omega)]
  by_cases h1 : rd md (i : Int) < 0
  ·rw [if_pos h1]; exact Or.inl rfl
  ·rw [if_neg h1]
   by_cases h2 : rd md (i : Int) ≥ (p : Int)
   ·rw [if_pos h2]; exact Or.inl rfl
   ·rw [if_neg h2, w64_succ (n := 9) (by omega) (by omega)]
    exact ih k (i + 1) (by omega) (by omega) (by omega) (fun j hj => by
     by_cases e : j = i
     ·rw [e]; omega
     ·exact hr j (by omega))
theorem prime4 : r4_prime.f 300 4 = some false := by decide +kernel
theorem irr_all {p m : Nat} (hp : 2 ≤ p) (hm : 2 ≤ m) (hm2 : m ≤ 5) (h32 : p ^ m ≤ 32) (h4 : p ≠ 4) : irrOk p m = true := by
 have hi := irr2
 simp only [Bool.and_eq_true] at hi
 have hp2 : p ^ 2 ≤ p ^ m := Nat.pow_le_pow_right (by omega) hm
 have hp6 : p < 6 := by
  by_cases h : p < 6
  ·exact h
  ·have : 6 ^ 2 ≤ p ^ 2 := Nat.pow_le_pow_left (by omega) 2
   omega
 have c : p = 2 ∨ p = 3 ∨ p = 5 := by omega
 have d : m = 2 ∨ m = 3 ∨ m = 4 ∨ m = 5 := by omega
 rcases c with rfl | rfl | rfl <;> rcases d with rfl | rfl | rfl | rfl <;> first | exact irr32 | (exact hi.1.1.1.1.1) | (exact hi.1.1.1.1.2) | (exact hi.1.1.1.2) | (exact hi.1.1.2) | (exact hi.1.2) | (exact hi.2) | (exact absurd h32 (by decide))
theorem check4 {p m : Nat} {md : List Int} (hp : 2 ≤ p) (hp2 : p ≤ 32) (hm : 1 ≤ m) (hm2 : m ≤ 5) (h32 : p ^ m ≤ 32) {k : Nat} (hk : 400 ≤ k) (ho : r4_Order.f k (p : Int) (m : Int) md = some ((p ^ m : Nat) : Int)) :
  ∃ e, r4_Check.f k (p : Int) (m : Int) md = some e ∧ (e = 0 → ∃ ex lg, IsFld (p : Int) (m : Int) md (p ^ m) ex lg) := by
 have hq2 : 2 ≤ p ^ m := Nat.le_trans hp (Nat.le_trans (by rw [Nat.pow_one]; omega) (Nat.pow_le_pow_right (by omega) hm : p ^ 1 ≤ p ^ m))
 have hpr := List.all_eq_true.1 prs p (List.mem_range.2 (by omega))
 rw [decide_eq_false (by omega), Bool.false_or] at hpr
 unfold prOk at hpr
 obtain ⟨k, rfl⟩ : ∃ k', k = k' + 1 := ⟨k - 1, by omega⟩
 unfold r4_Check.f
 rw [ho, Option.bind_some, if_neg (by omega)]
 cases hb : r4_prime.f 300 (p : Int) with
 | none => rw [hb] at hpr; simp at hpr
 | some b =>
  rw [hb] at hpr
  rw [lift (fun k => r4_prime.mono _ k) (by omega : 300 ≤ k + 1) hb, Option.bind_some, r4_Check.j0]
  cases b with
  | false => exact ⟨1, by simp, by simp⟩
  | true =>
   rw [if_neg (by simp)]
   simp only [Bool.not_true, Bool.false_or] at hpr
   by_cases h1 : (m : Int) = 1
   ·rw [if_pos h1]
    have hm1 : m = 1 := by omega
    subst hm1
    by_cases h2 : (md.length : Int) = 0
    ·have hmd : md = [] := List.length_eq_zero_iff.1 (by omega)
     subst hmd
     refine ⟨0, by rw [if_pos h2], fun _ => ?_⟩
     exact fieldG_isFld hp hp2 hm hm2 rfl h32 hq2 (fun x hx => by simp at hx) (fun h => by omega) (by simp) (by rw [Nat.pow_one]; exact hpr)
    ·exact ⟨1, by rw [if_neg h2], by simp⟩
   ·rw [if_neg h1]
    by_cases h2 : (md.length : Int) = (m : Int)
    ·rw [if_pos h2]
     have hl : md.length = m := by omega
     have h4 : p ≠ 4 := by
      rintro rfl
      rw [show ((4 : Nat) : Int) = 4 from rfl, prime4] at hb
      simp at hb
     rcases check_l0 (p := p) hl (by omega) m k 0 (by omega) (by omega) (by omega) (fun j hj => by omega) with h | ⟨hD, k', hk', h⟩
     ·exact ⟨1, h, by simp⟩
     ·have ht := List.all_eq_true.1 (irr_all hp (by omega) hm2 h32 h4) md (mem_tuples hl hD)
      cases hi : r4_irreducible.f 300 md (p : Int) with
      | none => rw [hi] at ht; simp at ht
      | some t =>
       rw [hi] at ht
       have hi' := lift (f := fun k => r4_irreducible.f k md (p : Int)) (fun k => r4_irreducible.mono _ _ k) hk' hi
       rw [hi', Option.bind_some] at h
       cases t with
       | false => exact ⟨1, by rw [if_neg (by simp)] at h; exact h, by simp⟩
       | true =>
        rw [if_pos rfl] at h
        exact ⟨0, h, fun _ => fieldG_isFld hp hp2 hm hm2 rfl h32 hq2 hD (fun _ => hl) (by omega) (by simpa using ht)⟩
    ·exact ⟨1, by rw [if_neg h2], by simp⟩
theorem check4_total (P M : Int) (md : List Int) {k : Nat} (hk : 400 ≤ k) {q : Int} (ho : r4_Order.f k P M md = some q) (hq : q ≤ 32) :
  ∃ e, r4_Check.f k P M md = some e ∧ (e = 0 → ∃ (n : Nat) (ex lg : List Int), q = n ∧ IsFld P M md n ex lg) := by
 obtain ⟨q', e, h⟩ := order_total P M md (k := k) (by omega)
 rw [ho] at e
 have e := Option.some.inj e
 subst e
 rcases h with h | h | ⟨p, m, rfl, rfl, h1, h2, h3, h4, h5⟩
 ·obtain ⟨k, rfl⟩ : ∃ k', k = k' + 1 := ⟨k - 1, by omega⟩
  exact ⟨1, by unfold r4_Check.f; rw [ho, Option.bind_some, if_pos h, r4_Check.j0, if_pos rfl], by simp⟩
 ·omega
 ·obtain ⟨e, he, h6⟩ := check4 (md := md) h1 h2 h3 h4 (by omega) hk (by rw [ho, h5])
  exact ⟨e, he, fun h0 => by obtain ⟨ex, lg, hf⟩ := h6 h0; exact ⟨p ^ m, ex, lg, h5, hf⟩⟩
theorem entries9_l0 {P M : Int} {md : List Int} {q : Int} (ho : ∀ k, 20 ≤ k → r4_Order.f k P M md = some q) (l : List Int) (hl : l.length ≤ 1000000) : ∀ (d k i : Nat), d = l.length - i → i ≤ l.length → d + 20 < k →
  r9_Entries.l0 k l (i : Int) P M md = some (entR q (l.drop i)) := by
 intro d
 induction d with
 | zero =>
  intro k i hd hi hk
  obtain ⟨k, rfl⟩ : ∃ k', k = k' + 1 := ⟨k - 1, by omega⟩
  have h : i = l.length := by omega
  rw [r9_Entries.l0, if_neg (by omega), h, List.drop_length, entR]
 | succ d ih =>
  intro k i hd hi hk
  obtain ⟨k, rfl⟩ : ∃ k', k = k' + 1 := ⟨k - 1, by omega⟩
  have h : i < l.length := by omega
  have hn := ih k (i + 1) (by omega) (by omega) (by omega)
  rw [r9_Entries.l0, if_pos (by omega), if_pos (by omega), rd_drop h, entR, w64_succ (n := 1000000) (by omega) (by omega), hn]
  unfold r4_Is.f
  by_cases h1 : rd l (i : Int) ≥ 0
  ·rw [if_pos h1, ho k (by omega), Option.bind_some, Option.bind_some]
   by_cases h2 : rd l (i : Int) < q
   ·rw [if_pos (decide_eq_true h2), if_pos ⟨h1, h2⟩]
   ·rw [if_neg (by simp; omega), if_neg (fun h => h2 h.2)]
  ·rw [if_neg h1, Option.bind_some, if_neg (by simp), if_neg (fun h => h1 h.1)]
theorem entries9_f {P M : Int} {md : List Int} {q : Int} (ho : ∀ k, 20 ≤ k → r4_Order.f k P M md = some q) {l : List Int} {k : Nat} (hl : l.length ≤ 1000000) (hk : l.length + 20 < k) :
  r9_Entries.f k P M md l = some (entR q l) := by
 have := entries9_l0 ho l hl l.length k 0 (by omega) (by omega) (by omega)
 rw [List.drop_zero] at this
 exact this
theorem check9_l1 {P M : Int} {md : List Int} {q cols : Int} (ho : ∀ k, 20 ≤ k → r4_Order.f k P M md = some q) (rows : List (List Int)) (hr : rows.length ≤ 1000) (hr2 : ∀ l ∈ rows, l.length ≤ 1000) : ∀ (d k i : Nat), d = rows.length - i → i ≤ rows.length → d + 1021 < k →
  r9_Check.l1 k (i : Int) P M md cols rows = some (entM q (rows.drop i)) := by
 intro d
 induction d with
 | zero =>
  intro k i hd hi hk
  obtain ⟨k, rfl⟩ : ∃ k', k = k' + 1 := ⟨k - 1, by omega⟩
  have h : i = rows.length := by omega
  rw [r9_Check.l1, if_neg (by omega), h, List.drop_length, entM]
 | succ d ih =>
  intro k i hd hi hk
  obtain ⟨k, rfl⟩ : ∃ k', k = k' + 1 := ⟨k - 1, by omega⟩
  have h : i < rows.length := by omega
  have hmem : rd_L1 rows (i : Int) ∈ rows := rd_memRow (by omega) (by omega)
  have hn := ih k (i + 1) (by omega) (by omega) (by omega)
  have hln := hr2 _ hmem
  rw [r9_Check.l1, if_pos (by omega), if_pos (by omega), entries9_f ho (by omega) (by omega), Option.bind_some, rows_drop h, entM, w64_succ (n := 1000) (by omega) (by omega), hn]
  by_cases h0 : entR q (rd_L1 rows (i : Int)) = 0
  ·rw [if_pos h0, if_pos h0]
  ·rw [if_neg h0, if_neg h0]
theorem check9_l0 {P M : Int} {md : List Int} {q cols : Int} (ho : ∀ k, 20 ≤ k → r4_Order.f k P M md = some q) (rows : List (List Int)) (hr : rows.length ≤ 1000) (hr2 : ∀ l ∈ rows, l.length ≤ 1000) : ∀ (d k i : Nat), d = rows.length - i → i ≤ rows.length → d + 2100 < k →
  r9_Check.l0 k (i : Int) P M md cols rows = some (if lenR cols (rows.drop i) = true then entM q rows else 3) := by
 intro d
 induction d with
 | zero =>
  intro k i hd hi hk
  obtain ⟨k, rfl⟩ : ∃ k', k = k' + 1 := ⟨k - 1, by omega⟩
  have h : i = rows.length := by omega
  have := check9_l1 (cols := cols) ho rows hr hr2 rows.length k 0 (by omega) (by omega) (by omega)
  rw [List.drop_zero] at this
  rw [r9_Check.l0, if_neg (by omega), h, List.drop_length, lenR, if_pos rfl]
  exact this
 | succ d ih =>
  intro k i hd hi hk
  obtain ⟨k, rfl⟩ : ∃ k', k = k' + 1 := ⟨k - 1, by omega⟩
  have h : i < rows.length := by omega
  have hn := ih k (i + 1) (by omega) (by omega) (by omega)
  rw [r9_Check.l0, if_pos (by omega), if_pos (by omega), rows_drop h, lenR, w64_succ (n := 1000) (by omega) (by omega), hn]
  by_cases h0 : ((rd_L1 rows (i : Int)).length : Int) = cols
  ·rw [if_pos h0, if_pos h0]
  ·rw [if_neg h0, if_neg h0]; simp
theorem check9_total {P M : Int} {md : List Int} {cols : Int} {rows : List (List Int)} {k : Nat} (hk : 4000 ≤ k) {q : Int} (ho : ∀ k, 20 ≤ k → r4_Order.f k P M md = some q) (hq : q ≤ 32) (hr : rows.length ≤ 200) (hr2 : ∀ l ∈ rows, l.length ≤ 1000) :
  ∃ e, r9_Check.f k P M md cols rows = some e ∧ (e = 0 → ∃ (n : Nat) (ex lg : List Int), q = n ∧ IsFld P M md n ex lg ∧ checkM n cols rows = 0) := by
 obtain ⟨e, he, hf⟩ := check4_total P M md (k := k) (by omega) (ho k (by omega)) hq
 unfold r9_Check.f
 rw [he, Option.bind_some]
 by_cases h0 : e = 0
 ·rw [if_pos h0]
  obtain ⟨n, ex, lg, e1, e2⟩ := hf h0
  obtain ⟨k, rfl⟩ : ∃ k', k = k' + 1 := ⟨k - 1, by omega⟩
  by_cases h1 : cols < 0
  ·exact ⟨3, by rw [if_pos h1, r9_Check.j0, if_pos rfl], by simp⟩
  rw [if_neg h1]
  by_cases h2 : cols > 256
  ·exact ⟨3, by rw [if_pos h2, r9_Check.j0, if_pos rfl], by simp⟩
  rw [if_neg h2, r9_Check.j0, if_neg (by simp; omega)]
  have := check9_l0 (cols := cols) ho rows (by omega) hr2 rows.length k 0 (by omega) (by omega) (by omega)
  rw [List.drop_zero] at this
  refine ⟨_, this, fun hz => ⟨n, ex, lg, e1, e2, ?_⟩⟩
  unfold checkM
  rw [if_neg (by omega), ← e1]
  exact hz
 ·rw [if_neg h0]; exact ⟨e, rfl, fun h => absurd h h0⟩
end Go.Proofs.Ytkifipakikbhcaa.Hand
namespace Go.Proofs.Ytkifipakikbhcaa.Hand
open Ytkifipakikbhcaa.Ref Ytkifipakikbhcaa.Pg
open Ytkifipakikbhcaa.Pk (peel_Stopping.f peel_Greatest.f peel_Greatest.l0)
open Go.RowKit YtkifipakikbhcaaW.PrintWords YtkifipakikbhcaaW.PrintLast YtkifipakikbhcaaW.PrintMore
theorem greatest_l0 {n : Nat} {ch : List (List Int)} (hn : n ≤ 64) (hc : ch.length ≤ 256) (h5 : ∀ l ∈ ch, ∀ i ∈ l, 0 ≤ i ∧ i < (n : Int)) : ∀ (d k : Nat) (inn : List Bool), inn.length = n → inn.count true < d → d + 70 < k →
  peel_Greatest.l0 k inn (alone inn ch) (n : Int) ch = (coreGo ch d inn).map fun r => (leftR r 0, 0)
 | 0, k, inn, hl, hcn, hk => by omega
 | d + 1, k, inn, hl, hcn, hk => by
  obtain ⟨k, rfl⟩ : ∃ k', k = k' + 1 := ⟨k - 1, by omega⟩
  have hch : ∀ l ∈ ch, ∀ i ∈ l, 0 ≤ i := fun l hl i hi => (h5 l hl i hi).1
  rw [peel_Greatest.l0, coreGo]
  by_cases ha : alone inn ch < 0
  ·rw [if_neg (by omega), if_pos ha, left_f (by omega) (by omega)]
   rfl
  ·have hlt : alone inn ch < (n : Int) := alone_lt inn n (by omega) ch h5
   have hs : ¬ StopP inn ch := fun hs => ha ((alone_neg hch).2 hs)
   obtain ⟨h0, l, hl2, hol, hin, hcl⟩ := (alone_spec inn ch hch).2 hs
   have hcc := count_clear inn (alone inn ch).toNat hin
   rw [if_pos (by omega), if_pos (by omega), if_pos (by omega), if_neg ha, Option.bind_some]
   rw [alone_f hc (by rw [List.length_set, hl]; exact h5), Option.bind_some]
   exact greatest_l0 hn hc h5 d k _ (by rw [List.length_set]; exact hl) (by omega) (by omega)
theorem greatest_f {n k : Nat} {ch : List (List Int)} {m : List Bool} (h : peel_Check.f (n : Int) ch = some 0) (hm : m.length = n) (hk : 200 < k) :
  ∃ r : List Bool, coreGo ch (n + 1) m = some r ∧ peel_Greatest.f k (n : Int) ch (leftR m 0) = some (leftR r 0, 0) ∧ r.length = n ∧ StopP r ch ∧ (∀ i : Int, inAt r i = true → inAt m i = true) ∧ ∀ x : List Bool, StopP x ch → (∀ i : Int, 0 ≤ i → inAt x i = true → inAt m i = true) → ∀ i : Int, 0 ≤ i → inAt x i = true → inAt r i = true := by
 obtain ⟨n', e, h1, h2, h3, h4, h5⟩ := graph_ok h
 have e : n = n' := by omega
 subst e
 have hch : ∀ l ∈ ch, ∀ i ∈ l, 0 ≤ i := fun l hl i hi => (h5 l hl i hi).1
 have hct : m.count true ≤ n := by rw [← hm]; exact List.count_le_length
 have hlen : (leftR m 0).length ≤ n := by rw [leftR_length]; exact hct
 obtain ⟨r, e1, e2, e3, e4, e5⟩ := core_law hch (n + 1) m (by omega)
 refine ⟨r, e1, ?_, by rw [e2, hm], e3, e4, e5⟩
 unfold peel_Greatest.f
 rw [h, Option.bind_some, if_pos rfl, set_fk (by omega) (by omega), Option.bind_some, leftR_set m 0 n none (by omega) (by simp), if_pos rfl, mask_f h2 (by omega) (fun x hx => by rw [← hm]; exact leftR_mem0 hx) (by omega), Option.bind_some, maskR_left m n hm, alone_f h3 (by rw [hm]; exact h5), Option.bind_some, greatest_l0 h2 h3 h5 (n + 1) k m hm (by omega) (by omega), e1]
 rfl
end Go.Proofs.Ytkifipakikbhcaa.Hand
namespace Go.Proofs.Ytkifipakikbhcaa.Hand
open Ytkifipakikbhcaa.Ref
open Ytkifipakikbhcaa.Pm (peel_Graph.f peel_Graph.j0 peel_Graph.l0 peel_Graph.l1)
open Ytkifipakikbhcaa.Gf (field_GF_Is.f field_GF_in.f field_GF_Inv.f field_GF_Mul.f field_GF_Div.f field_GF_Add.f field_GF_Add.l0 field_GF_Dot.f field_GF_Dot.l0 field_GF_Neg.f field_GF_Neg.l0)
open Go.RowKit YtkifipakikbhcaaW.PrintWords YtkifipakikbhcaaW.PrintLast YtkifipakikbhcaaW.PrintMore
section
variable {P M : Int} {md : List Int} {q : Nat} {ex lg : List Int}
theorem in_f (hF : IsFld P M md q ex lg) (a : Int) : ∃ a', field_GF_in.f P M md q ex lg a = some (a', P, M, (q : Int)) ∧ 0 ≤ a' ∧ a' < (q : Int) := by
 have := hF.q2
 unfold field_GF_in.f field_GF_Is.f
 by_cases h : a ≥ 0
 ·rw [if_pos h, Option.bind_some]
  by_cases h2 : a < (q : Int)
  ·exact ⟨a, by rw [if_pos (decide_eq_true h2)], h, h2⟩
  ·exact ⟨0, by rw [if_neg (by simp; omega)], by omega, by omega⟩
 ·rw [if_neg h, Option.bind_some, if_neg (by simp)]
  exact ⟨0, rfl, by omega, by omega⟩
theorem tmod_lt' {x n : Int} (hx : 0 ≤ x) (hn : 0 < n) : 0 ≤ Int.tmod x n ∧ Int.tmod x n < n := tmod_range hx hn
theorem lg_rd (hF : IsFld P M md q ex lg) (a : Int) : 0 ≤ rd lg a ∧ rd lg a ≤ (q : Int) - 1 := by
 have := hF.q2
 show 0 ≤ lg.getD a.toNat 0 ∧ lg.getD a.toNat 0 ≤ (q : Int) - 1
 rw [List.getD_eq_getElem?_getD]
 cases h : lg[a.toNat]? with
 | none => exact ⟨Int.le_refl _, by show (0 : Int) ≤ _; omega⟩
 | some y => exact hF.lgr y (List.mem_of_getElem? h)
theorem mul_f (hF : IsFld P M md q ex lg) (a b : Int) : ∃ c, field_GF_Mul.f P M md q ex lg a b = some (c, P, M, (q : Int)) := by
 have h2 := hF.q2
 have h32 := hF.q32
 have hl := hF.lgl
 have hx := hF.exl
 obtain ⟨a', ea, ha⟩ := in_f hF a
 obtain ⟨b', eb, hb⟩ := in_f hF b
 unfold field_GF_Mul.f
 rw [ea, Option.bind_some]
 simp only []
 rw [eb, Option.bind_some]
 simp only []
 by_cases h0 : a' = 0
 ·exact ⟨0, by rw [if_pos h0]⟩
 by_cases h1 : b' = 0
 ·exact ⟨0, by rw [if_neg h0, if_pos h1]⟩
 have ra := lg_rd hF a'
 have rb := lg_rd hF b'
 have hw : wrap64 ((q : Int) - 1) = (q : Int) - 1 := w64_id (by omega) (by omega)
 have hs : wrap64 (rd lg a' + rd lg b') = rd lg a' + rd lg b' := w64_id (by omega) (by omega)
 have ht := tmod_lt' (x := rd lg a' + rd lg b') (n := (q : Int) - 1) (by omega) (by omega)
 rw [if_neg h0, if_neg h1, if_pos ha.1, if_pos (by omega), if_pos hb.1, if_pos (by omega), hw, if_neg (by omega), hs, if_pos ht.1, if_pos (by omega)]
 exact ⟨_, rfl⟩
theorem inv_f (hF : IsFld P M md q ex lg) (a : Int) : ∃ c e, field_GF_Inv.f P M md q ex lg a = some (c, e, P, M, (q : Int)) := by
 have h2 := hF.q2
 have h32 := hF.q32
 have hl := hF.lgl
 have hx := hF.exl
 obtain ⟨a', ea, ha⟩ := in_f hF a
 unfold field_GF_Inv.f
 rw [ea, Option.bind_some]
 simp only []
 by_cases h0 : a' = 0
 ·exact ⟨0, 7, by rw [if_pos h0]⟩
 have ra := lg_rd hF a'
 have hw : wrap64 ((q : Int) - 1) = (q : Int) - 1 := w64_id (by omega) (by omega)
 have hs : wrap64 ((q : Int) - 1 - rd lg a') = (q : Int) - 1 - rd lg a' := w64_id (by omega) (by omega)
 have ht := tmod_lt' (x := (q : Int) - 1 - rd lg a') (n := (q : Int) - 1) (by omega) (by omega)
 rw [if_neg h0, if_pos ha.1, if_pos (by omega), hw, if_neg (by omega), hs, if_pos ht.1, if_pos (by omega)]
 exact ⟨_, _, rfl⟩
theorem div_f (hF : IsFld P M md q ex lg) (a b : Int) : ∃ c e, field_GF_Div.f P M md q ex lg a b = some (c, e, P, M, (q : Int)) := by
 obtain ⟨c, e, he⟩ := inv_f hF b
 obtain ⟨d, hd⟩ := mul_f hF a c
 unfold field_GF_Div.f
 rw [he, Option.bind_some]
 simp only []
 by_cases h0 : e = 0
 ·rw [if_pos h0, hd, Option.bind_some]; exact ⟨_, _, rfl⟩
 ·rw [if_neg h0]; exact ⟨_, _, rfl⟩
theorem tdiv_lt {x P : Int} (hx : 0 < x) (hP : 2 ≤ P) : 0 ≤ Int.tdiv x P ∧ Int.tdiv x P < x := by
 rw [Int.tdiv_eq_ediv_of_nonneg (by omega)]
 refine ⟨Int.ediv_nonneg (by omega) (by omega), ?_⟩
 exact Int.ediv_lt_self_of_pos_of_ne_one hx (by omega)
theorem add_l0 (hP : 2 ≤ P) : ∀ (s k : Nat) (x y u v : Int), 0 ≤ x → 0 ≤ y → x ≤ 1000 → y ≤ 1000 → x + y ≤ s → s < k → ∃ c, field_GF_Add.l0 k x y u v P M md q ex lg = some (c, P, M, (q : Int))
 | s, 0, x, y, u, v, _, _, _, _, _, h => by omega
 | s, k + 1, x, y, u, v, hx, hy, hx2, hy2, hs, hk => by
  rw [field_GF_Add.l0]
  have d1 := tdiv_range hx (show 1 ≤ P by omega)
  have d2 := tdiv_range hy (show 1 ≤ P by omega)
  have w1 : wrap64 (Int.tdiv x P) = Int.tdiv x P := w64_id d1.1 (by omega)
  have w2 : wrap64 (Int.tdiv y P) = Int.tdiv y P := w64_id d2.1 (by omega)
  by_cases h1 : x > 0
  ·have d3 := tdiv_lt h1 hP
   rw [if_pos h1, if_neg (by omega), w1, w2]
   exact add_l0 hP (s - 1) k _ _ _ _ d1.1 d2.1 (by omega) (by omega) (by omega) (by omega)
  ·rw [if_neg h1]
   by_cases h2 : y > 0
   ·have d3 := tdiv_lt h2 hP
    rw [if_pos h2, if_neg (by omega), w1, w2]
    exact add_l0 hP (s - 1) k _ _ _ _ d1.1 d2.1 (by omega) (by omega) (by omega) (by omega)
   ·rw [if_neg h2]; exact ⟨_, rfl⟩
theorem add_f (hF : IsFld P M md q ex lg) (a b : Int) {k : Nat} (hk : 70 < k) : ∃ c, field_GF_Add.f k P M md q ex lg a b = some (c, P, M, (q : Int)) := by
 have h32 := hF.q32
 obtain ⟨a', ea, ha⟩ := in_f hF a
 obtain ⟨b', eb, hb⟩ := in_f hF b
 unfold field_GF_Add.f
 rw [ea, Option.bind_some]
 simp only []
 rw [eb, Option.bind_some]
 simp only []
 by_cases h : P = 2
 ·rw [if_pos h]; exact ⟨_, rfl⟩
 ·rw [if_neg h]
  exact add_l0 hF.P2 64 k a' b' 0 1 ha.1 hb.1 (by omega) (by omega) (by omega) (by omega)
theorem neg_l0 (hP : 2 ≤ P) : ∀ (s k : Nat) (x u v : Int), 0 ≤ x → x ≤ 1000 → x ≤ s → s < k → ∃ c, field_GF_Neg.l0 k x u v P M md q ex lg = some (c, P, M, (q : Int))
 | s, 0, x, u, v, _, _, _, h => by omega
 | s, k + 1, x, u, v, hx, hx2, hs, hk => by
  rw [field_GF_Neg.l0]
  have d1 := tdiv_range hx (show 1 ≤ P by omega)
  have w1 : wrap64 (Int.tdiv x P) = Int.tdiv x P := w64_id d1.1 (by omega)
  by_cases h1 : x > 0
  ·have d3 := tdiv_lt h1 hP
   rw [if_pos h1, if_neg (by omega), w1]
   exact neg_l0 hP (s - 1) k _ _ _ d1.1 (by omega) (by omega) (by omega)
  ·rw [if_neg h1]; exact ⟨_, rfl⟩
theorem neg_f (hF : IsFld P M md q ex lg) (a : Int) : ∃ c, field_GF_Neg.f 4096 P M md q ex lg a = some (c, P, M, (q : Int)) := by
 have h32 := hF.q32
 obtain ⟨a', ea, ha⟩ := in_f hF a
 unfold field_GF_Neg.f
 rw [ea, Option.bind_some]
 simp only []
 exact neg_l0 hF.P2 32 4096 a' 0 1 ha.1 (by omega) (by omega) (by omega)
theorem dot_l0 (hF : IsFld P M md q ex lg) (a b : List Int) (n : Nat) (ha : n ≤ a.length) (hb : n ≤ b.length) (hn : n ≤ 1000) : ∀ (d k i : Nat) (acc : Int), d = n - i → i ≤ n → d + 80 < k →
  ∃ c, field_GF_Dot.l0 k a b acc (n : Int) (i : Int) P M md q ex lg = some (c, P, M, (q : Int)) := by
 intro d
 induction d with
 | zero =>
  intro k i acc hd hi hk
  obtain ⟨k, rfl⟩ : ∃ k', k = k' + 1 := ⟨k - 1, by omega⟩
  exact ⟨acc, by rw [field_GF_Dot.l0, if_neg (by omega)]⟩
 | succ d ih =>
  intro k i acc hd hi hk
  obtain ⟨k, rfl⟩ : ∃ k', k = k' + 1 := ⟨k - 1, by omega⟩
  obtain ⟨c, hc⟩ := mul_f hF (rd a (i : Int)) (rd b (i : Int))
  obtain ⟨e, he⟩ := add_f hF acc c (k := k) (by omega)
  obtain ⟨z, hz⟩ := ih k (i + 1) e (by omega) (by omega) (by omega)
  refine ⟨z, ?_⟩
  rw [field_GF_Dot.l0, if_pos (by omega), if_pos (by omega), if_pos (by omega), if_pos (by omega), hc, Option.bind_some]
  simp only []
  rw [he, Option.bind_some]
  simp only []
  rw [w64_succ (n := 1000) (by omega) (by omega)]
  exact hz
theorem gDot_total (hF : IsFld P M md q ex lg) (a b : List Int) (h : a.length = b.length) (hn : a.length ≤ 1000) : ∃ d, gDot ⟨P, M, md, q, ex, lg⟩ a b = some d := by
 obtain ⟨c, hc⟩ := dot_l0 hF a b a.length (by omega) (by omega) hn a.length 4096 0 0 (by omega) (by omega) (by omega)
 refine ⟨c, ?_⟩
 unfold gDot field_GF_Dot.f
 have hm : mn (a.length : Int) (b.length : Int) = (a.length : Int) := by unfold mn; rw [h]; simp
 simp only [hm]
 have hc' : field_GF_Dot.l0 4096 a b 0 (a.length : Int) 0 P M md q ex lg = some (c, P, M, (q : Int)) := hc
 rw [hc', Option.bind_some, if_pos rfl]
theorem gDiv_total (hF : IsFld P M md q ex lg) (a b : Int) : ∃ d, gDiv ⟨P, M, md, q, ex, lg⟩ a b = some d := by
 obtain ⟨c, e, hc⟩ := div_f hF a b
 refine ⟨c, ?_⟩
 unfold gDiv
 simp only [hc, Option.bind_some]
 rw [if_pos trivial]
theorem gNeg_total (hF : IsFld P M md q ex lg) (a : Int) : ∃ d, gNeg ⟨P, M, md, q, ex, lg⟩ a = some d := by
 obtain ⟨c, hc⟩ := neg_f hF a
 refine ⟨c, ?_⟩
 unfold gNeg
 simp only [hc, Option.bind_some]
 rw [if_pos trivial]
end
end Go.Proofs.Ytkifipakikbhcaa.Hand
namespace Go.Proofs.Ytkifipakikbhcaa.Hand
open Ytkifipakikbhcaa.Ref
open Ytkifipakikbhcaa.Pg (peel_set.f peel_mask.f peel_left.f)
open Ytkifipakikbhcaa.Pm (peel_Graph.f peel_Graph.j0 peel_Graph.l0 peel_Graph.l1)
open Go.RowKit YtkifipakikbhcaaW.PrintWords YtkifipakikbhcaaW.PrintLast YtkifipakikbhcaaW.PrintMore
def marks (r : List Int) : List Bool := r.map fun x => decide (x ≠ 0)
def supp (r : List Int) : List Int := leftR (marks r) 0
theorem marks_length (r : List Int) : (marks r).length = r.length := by unfold marks; simp
theorem graph_l1 (r : List Int) (rows : List (List Int)) (V : Int) (n : Int) (i : Nat) (out : List (List Int)) (hr : r.length ≤ 1000) (ho : out.length ≤ 1000) (hi : i ≤ 1000) : ∀ (d k j : Nat) (acc : List Int), d = r.length - j → j ≤ r.length → d < k → acc.length ≤ j →
  peel_Graph.l1 k acc rows n (i : Int) r (r.length : Int) (j : Int) V out = peel_Graph.l0 (k - d - 1) rows n ((i + 1 : Nat) : Int) V (out ++ [acc ++ leftR ((marks r).drop j) j]) := by
 intro d
 induction d with
 | zero =>
  intro k j acc hd hj hk ha
  obtain ⟨k, rfl⟩ : ∃ k', k = k' + 1 := ⟨k - 1, by omega⟩
  have e : j = r.length := by omega
  rw [peel_Graph.l1, if_neg (by omega), if_pos (by omega), w64_succ (n := 1001) (by omega) (by omega), e, ← marks_length r, List.drop_length, leftR, List.append_nil]
  rfl
 | succ d ih =>
  intro k j acc hd hj hk ha
  obtain ⟨k, rfl⟩ : ∃ k', k = k' + 1 := ⟨k - 1, by omega⟩
  have hlt : j < r.length := by omega
  have hm : (marks r).drop j = decide (rd r (j : Int) ≠ 0) :: (marks r).drop (j + 1) := by
   unfold marks
   rw [← List.map_drop, rd_drop hlt, List.map_cons, List.map_drop]
  rw [peel_Graph.l1, if_pos (by omega), if_pos (by omega), if_pos (by omega), hm, leftR, w64_succ (n := 1001) (by omega) (by omega), show k + 1 - (d + 1) - 1 = k - d - 1 by omega]
  by_cases h0 : rd r (j : Int) = 0
  ·rw [if_pos h0, if_neg (by simp [h0])]
   exact ih k (j + 1) acc (by omega) (by omega) (by omega) (by omega)
  ·rw [if_neg h0, if_pos (by omega), if_pos (by simp [h0])]
   have := ih k (j + 1) (acc ++ [(j : Int)]) (by omega) (by omega) (by omega) (by simp; omega)
   rw [this]
   congr 2
   simp
theorem graph_l0 (rows : List (List Int)) (V : Int) (c : Nat) (hr : rows.length ≤ 1000) (hc : c ≤ 1000) (hl : ∀ r ∈ rows, r.length = c) : ∀ (d k i : Nat) (out : List (List Int)), d = rows.length - i → i ≤ rows.length → d * (c + 2) < k → out.length = i →
  peel_Graph.l0 k rows (rows.length : Int) (i : Int) V out = some (V, out ++ (rows.drop i).map supp, 0) := by
 intro d
 induction d with
 | zero =>
  intro k i out hd hi hk ho
  obtain ⟨k, rfl⟩ : ∃ k', k = k' + 1 := ⟨k - 1, by omega⟩
  rw [peel_Graph.l0, if_neg (by omega), show i = rows.length by omega, List.drop_length, List.map_nil, List.append_nil]
 | succ d ih =>
  intro k i out hd hi hk ho
  obtain ⟨k, rfl⟩ : ∃ k', k = k' + 1 := ⟨k - 1, by omega⟩
  have hlt : i < rows.length := by omega
  have hln := hl _ (rd_memRow (l := rows) (i := (i : Int)) (by omega) (by omega))
  rw [Nat.succ_mul] at hk
  have e1 : peel_Graph.l1 k [] rows (rows.length : Int) (i : Int) (Pm.rd_L1 rows (i : Int)) ((Pm.rd_L1 rows (i : Int)).length : Int) 0 V out = _ := graph_l1 (rd_L1 rows (i : Int)) rows V (rows.length : Int) i out (by omega) (by omega) (by omega) (rd_L1 rows (i : Int)).length k 0 [] (by omega) (by omega) (by omega) (by simp)
  rw [peel_Graph.l0, if_pos (by omega), if_pos (by omega), if_pos (by omega), e1, ih _ (i + 1) _ (by omega) (by omega) (by omega) (by simp [ho]), rows_drop hlt, List.map_cons, List.drop_zero, List.nil_append]
  simp [supp]
theorem graph_f {P M : Int} {md : List Int} {rows : List (List Int)} {c k : Nat} (hk : 4096 ≤ k) (h : matrix_Check.f P M md (c : Int) rows = some 0) (hc : 1 ≤ c) (hc2 : c ≤ 16) (hr : rows.length ≤ 200) (hl : ∀ r ∈ rows, r.length = c) :
  peel_Graph.f k P M md (c : Int) rows = some ((c : Int), rows.map supp, 0) := by
 obtain ⟨k, rfl⟩ : ∃ k', k = k' + 1 := ⟨k - 1, by omega⟩
 unfold peel_Graph.f
 rw [h, Option.bind_some, if_pos rfl, if_neg (by omega), peel_Graph.j0, if_neg (by simp; omega)]
 have hb : rows.length * (c + 2) ≤ 200 * 18 := Nat.mul_le_mul hr (by omega)
 have := graph_l0 rows (c : Int) c (by omega) (by omega) hl rows.length k 0 [] (by omega) (by omega) (by omega) rfl
 rw [List.drop_zero, List.nil_append] at this
 exact this
theorem supp_ok {r : List Int} {c : Nat} (h : r.length = c) : setR (c : Int) none (supp r) = true := leftR_set (marks r) 0 c none (by rw [marks_length]; omega) (by simp)
theorem supp_len {r : List Int} {c : Nat} (h : r.length = c) : (supp r).length ≤ c := by
 unfold supp; rw [leftR_length, ← h, ← marks_length r]; exact List.count_le_length
theorem graph_check {rows : List (List Int)} {c : Nat} (hc : 1 ≤ c) (hc2 : c ≤ 16) (hr : rows.length ≤ 200) (hl : ∀ r ∈ rows, r.length = c) : peel_Check.f (c : Int) (rows.map supp) = some 0 := by
 unfold peel_Check.f
 rw [if_pos (List.all_eq_true.2 fun l h => by
  obtain ⟨r, hr2, rfl⟩ := List.mem_map.1 h
  exact decide_eq_true (by have := supp_len (hl r hr2); omega)), if_neg (by omega), if_neg (by omega), if_neg (by rw [List.length_map]; omega), if_neg]
 rw [List.any_eq_true]
 rintro ⟨l, h, h2⟩
 obtain ⟨r, hr2, rfl⟩ := List.mem_map.1 h
 rw [supp_ok (hl r hr2)] at h2
 simp at h2
theorem setR_gt {n : Int} : ∀ {l : List Int} {y : Int}, setR n (some y) l = true → ∀ z ∈ l, y < z
 | [], _, _, z, hz => by simp at hz
 | x :: l, y, h, z, hz => by
  rw [setR_cons] at h
  by_cases h1 : x < 0
  ·rw [if_pos h1] at h; simp at h
  rw [if_neg h1] at h
  by_cases h2 : x ≥ n
  ·rw [if_pos h2] at h; simp at h
  rw [if_neg h2] at h
  by_cases h3 : x ≤ y
  ·simp [h3] at h
  ·simp only [h3, decide_false, Bool.false_eq_true, if_false] at h
   rcases List.mem_cons.1 hz with rfl | hz
   ·omega
   ·have := setR_gt h z hz; omega
theorem setR_tail {n : Int} {p : Option Int} {x : Int} {l : List Int} (h : setR n p (x :: l) = true) : setR n (some x) l = true := by
 rw [setR_cons] at h
 by_cases h1 : x < 0
 ·rw [if_pos h1] at h; simp at h
 rw [if_neg h1] at h
 by_cases h2 : x ≥ n
 ·rw [if_pos h2] at h; simp at h
 rw [if_neg h2] at h
 cases p with
 | none => simpa using h
 | some y => simp at h; exact h.2
theorem asc_eq {n : Int} : ∀ (l1 l2 : List Int) (p : Option Int), setR n p l1 = true → setR n p l2 = true → (∀ x, x ∈ l1 ↔ x ∈ l2) → l1 = l2
 | [], [], _, _, _, _ => rfl
 | [], y :: l2, _, _, _, h => by have := (h y).2 (List.mem_cons_self ..); simp at this
 | x :: l1, [], _, _, _, h => by have := (h x).1 (List.mem_cons_self ..); simp at this
 | x :: l1, y :: l2, p, h1, h2, h => by
  have t1 := setR_tail h1
  have t2 := setR_tail h2
  have hxy : x = y := by
   rcases List.mem_cons.1 ((h x).1 (List.mem_cons_self ..)) with e | e
   ·exact e
   ·rcases List.mem_cons.1 ((h y).2 (List.mem_cons_self ..)) with e2 | e2
    ·exact e2.symm
    ·have a := setR_gt t2 x e
     have b := setR_gt t1 y e2
     omega
  subst hxy
  rw [asc_eq l1 l2 (some x) t1 t2 (fun z => ⟨fun hz => by
   rcases List.mem_cons.1 ((h z).1 (List.mem_cons_of_mem _ hz)) with e | e
   ·have := setR_gt t1 z hz; omega
   ·exact e, fun hz => by
   rcases List.mem_cons.1 ((h z).2 (List.mem_cons_of_mem _ hz)) with e | e
   ·have := setR_gt t2 z hz; omega
   ·exact e⟩)]
theorem left_mask {c : Nat} {er : List Int} (h : setR (c : Int) none er = true) : leftR (maskR er (List.replicate c false)) 0 = er := by
 have hr := setR_mem h
 have hl : (maskR er (List.replicate c false)).length = c := by rw [maskR_length, List.length_replicate]
 refine asc_eq (n := (c : Int)) _ _ none (leftR_set _ 0 c none (by rw [hl]; omega) (by simp)) h (fun x => ?_)
 constructor
 ·intro hx
  obtain ⟨k, hk, e⟩ := (leftR_mem _ 0 x).1 hx
  have hkc : k < c := by have := (List.getElem?_eq_some_iff.1 hk).1; omega
  rw [maskR_get er _ k (by rw [List.length_replicate]; exact hkc), rep_getD, Bool.false_or] at hk
  obtain ⟨y, hy, h2⟩ := List.any_eq_true.1 (Option.some.inj hk)
  have := hr y hy
  have h2 := of_decide_eq_true h2
  have : x = y := by omega
  rw [this]; exact hy
 ·intro hx
  have := hr x hx
  refine (leftR_mem _ 0 x).2 ⟨x.toNat, ?_, by omega⟩
  rw [maskR_get er _ _ (by rw [List.length_replicate]; omega), rep_getD, Bool.false_or]
  congr 1
  exact List.any_eq_true.2 ⟨x, hx, by simp⟩
section
variable {P M : Int} {md : List Int} {q : Nat} {ex lg : List Int}
theorem fillIn_total (hF : IsFld P M md q ex lg) {c : Nat} (hc : c ≤ 1000) {inn : List Bool} {i : Int} (hi : i < (c : Int)) (out : List Int) (ho : out.length = c) : ∀ (rows : List (List Int)), (∀ r ∈ rows, r.length = c) →
  ∃ o, fillIn ⟨P, M, md, q, ex, lg⟩ inn i out (rows.map supp) rows = some o ∧ o.length = c
 | [], _ => ⟨out, rfl, ho⟩
 | r :: rows, h => by
  have hr := h r (List.mem_cons_self ..)
  rw [List.map_cons, fillIn]
  by_cases hl : lone inn i (supp r) = true
  ·obtain ⟨d, hd⟩ := gDot_total hF r out (by rw [hr, ho]) (by omega)
   obtain ⟨x, hx⟩ := gDiv_total hF d (rd r i)
   obtain ⟨y, hy⟩ := gNeg_total hF x
   rw [if_pos hl, if_pos (by omega), hd, Option.bind_some, hx, Option.bind_some, hy, Option.bind_some]
   exact ⟨_, rfl, by rw [List.length_set]; exact ho⟩
  ·rw [if_neg hl]
   exact fillIn_total hF hc hi out ho rows (fun r hr => h r (List.mem_cons_of_mem _ hr))
theorem failsAt_total (hF : IsFld P M md q ex lg) {c : Nat} (hc : c ≤ 1000) {inn : List Bool} (out : List Int) (ho : out.length = c) : ∀ (rows : List (List Int)), (∀ r ∈ rows, r.length = c) →
  ∃ b, failsAt ⟨P, M, md, q, ex, lg⟩ inn out (rows.map supp) rows = some b
 | [], _ => ⟨false, rfl⟩
 | r :: rows, h => by
  have hr := h r (List.mem_cons_self ..)
  obtain ⟨b, hb⟩ := failsAt_total hF hc (inn := inn) out ho rows (fun r hr => h r (List.mem_cons_of_mem _ hr))
  rw [List.map_cons, failsAt]
  by_cases hl : (supp r).any (fun k => inAt inn k) = true
  ·rw [if_pos hl]; exact ⟨b, hb⟩
  ·obtain ⟨d, hd⟩ := gDot_total hF r out (by rw [hr, ho]) (by omega)
   rw [if_neg hl, hd, Option.bind_some]
   by_cases h0 : d = 0
   ·rw [if_pos h0]; exact ⟨b, hb⟩
   ·rw [if_neg h0]; exact ⟨true, rfl⟩
theorem peelGo_core (hF : IsFld P M md q ex lg) {c : Nat} (hc : c ≤ 1000) (rows : List (List Int)) (hl : ∀ r ∈ rows, r.length = c) (hch : ∀ l ∈ rows.map supp, ∀ i ∈ l, 0 ≤ i ∧ i < (c : Int)) : ∀ (n : Nat) (out : List Int) (inn : List Bool), out.length = c → inn.length = c → inn.count true < n →
  ∃ o i, peelGo ⟨P, M, md, q, ex, lg⟩ (rows.map supp) rows n out inn = some (o, i) ∧ coreGo (rows.map supp) n inn = some i ∧ o.length = c
 | 0, out, inn, _, _, h => by omega
 | n + 1, out, inn, ho, hi, h => by
  rw [peelGo, coreGo]
  by_cases ha : alone inn (rows.map supp) < 0
  ·rw [if_pos ha, if_pos ha]; exact ⟨out, inn, rfl, rfl, ho⟩
  ·have hch0 : ∀ l ∈ rows.map supp, ∀ i ∈ l, 0 ≤ i := fun l hl i hi => (hch l hl i hi).1
   have hlt : alone inn (rows.map supp) < (c : Int) := alone_lt inn c (by omega) _ hch
   have hs : ¬ StopP inn (rows.map supp) := fun hs => ha ((alone_neg hch0).2 hs)
   obtain ⟨h0, l, _, _, hin, _⟩ := (alone_spec inn _ hch0).2 hs
   have hcc := count_clear inn (alone inn (rows.map supp)).toNat hin
   obtain ⟨o, ho1, ho2⟩ := fillIn_total hF hc (inn := inn) hlt out ho rows hl
   rw [if_neg ha, if_neg ha, ho1, Option.bind_some]
   exact peelGo_core hF hc rows hl hch n o _ ho2 (by rw [List.length_set]; exact hi) (by omega)
theorem clearAt_length : ∀ (l out : List Int), (clearAt l out).length = out.length
 | [], out => rfl
 | i :: l, out => by rw [clearAt, clearAt_length, List.length_set]
theorem peel_total (hF : IsFld P M md q ex lg) {c : Nat} (hc : 1 ≤ c) (hc2 : c ≤ 16) {rows : List (List Int)} (hr : rows.length ≤ 200) (hl : ∀ r ∈ rows, r.length = c) (hm : matrix_Check.f P M md (c : Int) rows = some 0) (wd er : List Int) (hw : wd.length ≤ 100) (he : er.length ≤ 100) :
  ∃ x left e, peel_Peel.f P M md (c : Int) rows wd er = some (x, left, e) ∧ (e = 0 → ∃ m i : List Bool, m.length = c ∧ er = leftR m 0 ∧ coreGo (rows.map supp) (c + 1) m = some i ∧ left = leftR i 0) := by
 have hg := graph_f (k := 4096) (by omega) hm hc hc2 hr hl
 have hck := graph_check hc hc2 hr hl
 obtain ⟨n', e', _, _, _, _, h5⟩ := graph_ok hck
 have e' : c = n' := by omega
 subst e'
 unfold peel_Peel.f
 rw [hg, Option.bind_some]
 simp only []
 rw [if_pos trivial, hF.make, Option.bind_some]
 simp only []
 by_cases h1 : (wd.length : Int) = (c : Int)
 ·rw [if_pos h1]
  by_cases h2 : (wd.any fun y => !isB (q : Int) y) = true
  ·rw [if_pos h2]; exact ⟨[], [], 2, rfl, by simp⟩
  ·rw [if_neg h2, set_fk (by omega) (by omega), Option.bind_some]
   by_cases h3 : setR (c : Int) none er = true
   ·rw [if_pos h3]
    have her := setR_mem h3
    have hml : (maskR er (List.replicate c false)).length = c := by rw [maskR_length, List.length_replicate]
    have hct : (maskR er (List.replicate c false)).count true ≤ c := by
     have : (maskR er (List.replicate c false)).count true ≤ (maskR er (List.replicate c false)).length := List.count_le_length
     omega
    obtain ⟨o, i, hgo, hcore, hol⟩ := peelGo_core hF (c := c) (by omega) rows hl h5 (c + 1) (clearAt er wd) (maskR er (List.replicate c false)) (by rw [clearAt_length]; omega) hml (by omega)
    obtain ⟨b, hb⟩ := failsAt_total hF (c := c) (by omega) (inn := i) o hol rows hl
    have hil : i.length = c := by
     obtain ⟨r, e1, e2, _⟩ := core_law (ch := rows.map supp) (fun l hl i hi => (h5 l hl i hi).1) (c + 1) (maskR er (List.replicate c false)) (by omega)
     rw [hcore] at e1
     rw [Option.some.inj e1, e2]; exact hml
    have hwc : wd.length = c := by omega
    have g1 : (er.all fun i => decide (0 ≤ i ∧ i < wd.length)) = true := List.all_eq_true.2 fun y hy => decide_eq_true (by have := her y hy; omega)
    have g2 : ((rows.map supp).all fun l => l.all fun i => decide (0 ≤ i ∧ i < wd.length)) = true := List.all_eq_true.2 fun l hl2 => List.all_eq_true.2 fun y hy => decide_eq_true (by have := h5 l hl2 y hy; omega)
    have g3 : ((rows.map supp).all fun l => decide (l.length ≤ 256)) = true := List.all_eq_true.2 fun l hl2 => decide_eq_true (by
     obtain ⟨r, hr2, rfl⟩ := List.mem_map.1 hl2
     have := supp_len (hl r hr2); omega)
    unfold peelMain
    rw [mask_f (by omega) (by omega) her (by omega), Option.bind_some, if_pos ⟨g1, by omega, g2, by rw [List.length_map]; omega, by omega, by omega, by omega, g3⟩, hwc, hgo, Option.bind_some]
    simp only []
    rw [hb, Option.bind_some]
    cases b with
    | true => rw [if_pos rfl]; exact ⟨[], [], 12, rfl, by simp⟩
    | false =>
     rw [if_neg (by simp), left_f (by omega) (by omega)]
     exact ⟨o, leftR i 0, 0, rfl, fun _ => ⟨maskR er (List.replicate c false), i, hml, (left_mask h3).symm, hcore, rfl⟩⟩
   ·rw [if_neg h3]; exact ⟨[], [], 6, rfl, by simp⟩
 ·rw [if_neg h1]; exact ⟨[], [], 4, rfl, by simp⟩
end
end Go.Proofs.Ytkifipakikbhcaa.Hand
namespace Go.Proofs.Ytkifipakikbhcaa.Hand
open Ytkifipakikbhcaa.Ref
open Ytkifipakikbhcaa.Pm (peel_Graph.f)
open Ytkifipakikbhcaa.Pk (peel_Greatest.f)
open Ytkifipakikbhcaa.Lc (l44_PeelResidual.f l44_PeelResidual.j0)
open Go.RowKit YtkifipakikbhcaaW.PrintWords YtkifipakikbhcaaW.PrintLast YtkifipakikbhcaaW.PrintMore
theorem same_l0 (l : List Int) (hl : l.length ≤ 1000000) : ∀ (d k i : Nat), d = l.length - i → i ≤ l.length → d < k → r9_SameInts.l0 k l l (i : Int) = some true := by
 intro d
 induction d with
 | zero =>
  intro k i hd hi hk
  obtain ⟨k, rfl⟩ : ∃ k', k = k' + 1 := ⟨k - 1, by omega⟩
  rw [r9_SameInts.l0, if_neg (by omega)]
 | succ d ih =>
  intro k i hd hi hk
  obtain ⟨k, rfl⟩ : ∃ k', k = k' + 1 := ⟨k - 1, by omega⟩
  rw [r9_SameInts.l0, if_pos (by omega), if_pos (by omega), if_pos (by omega), if_pos rfl, w64_succ (n := 1000000) (by omega) (by omega)]
  exact ih k (i + 1) (by omega) (by omega) (by omega)
theorem same_f {l : List Int} {k : Nat} (hl : l.length ≤ 1000000) (hk : l.length < k) : r9_SameInts.f k l l = some true := by
 unfold r9_SameInts.f
 rw [if_pos rfl]
 exact same_l0 l hl l.length k 0 (by omega) (by omega) (by omega)
theorem few44_f (P M : Int) (md : List Int) (cols : Int) (rows : List (List Int)) {k : Nat} (hk : 1000 ≤ k) :
  ∃ b, l44_few.f k P M md cols rows = some b ∧ (b = true → (cols ≤ 16 ∨ 64 < cols) ∧ rows.length ≤ 150 ∧ (∀ r ∈ rows, r.length ≤ 150) ∧ ∃ q, q ≤ 32 ∧ ∀ k, 20 ≤ k → r4_Order.f k P M md = some q) := by
 obtain ⟨b, hb, h⟩ := few_f cols rows 150 k (by omega) (by omega)
 obtain ⟨q, hq, _⟩ := order_total P M md (k := 20) (Nat.le_refl _)
 have ho : ∀ k, 20 ≤ k → r4_Order.f k P M md = some q := fun k hk => lift (fun k => r4_Order.mono _ _ _ k) hk hq
 unfold l44_few.f
 rw [show ((150 : Nat) : Int) = 150 from rfl] at hb
 rw [hb, Option.bind_some]
 cases b with
 | false => exact ⟨false, by simp, by simp⟩
 | true =>
  obtain ⟨h1, h2, h3⟩ := h rfl
  rw [if_pos rfl, ho k (by omega), Option.bind_some]
  by_cases h4 : cols ≤ 16
  ·exact ⟨_, by rw [if_pos h4], fun hd => ⟨Or.inl h4, h2, h3, q, of_decide_eq_true hd, ho⟩⟩
  ·rw [if_neg h4]
   by_cases h5 : cols > 64
   ·exact ⟨_, by rw [if_pos h5], fun hd => ⟨Or.inr h5, h2, h3, q, of_decide_eq_true hd, ho⟩⟩
   ·exact ⟨false, by rw [if_neg h5], by simp⟩
theorem residual_j0 {P M : Int} {md : List Int} {q : Nat} {ex lg : List Int} (hF : IsFld P M md q ex lg) {c : Nat} (hc : 1 ≤ c) (hc2 : c ≤ 16) {rows : List (List Int)} (hr : rows.length ≤ 150) (hck : checkM (q : Int) (c : Int) rows = 0) (wd er : List Int) (hw : wd.length ≤ 100) (he : er.length ≤ 100) :
  l44_PeelResidual.j0 6000 false P M md (c : Int) rows wd er = some true := by
 have hm : matrix_Check.f P M md (c : Int) rows = some 0 := by
  unfold matrix_Check.f
  rw [hF.make, Option.map_some]
  simp only [hck]
 have hlen : lenR (c : Int) rows = true := by
  unfold checkM at hck
  rw [if_neg (by omega)] at hck
  by_cases h : lenR (c : Int) rows = true
  ·exact h
  ·rw [if_neg h] at hck; simp at hck
 have hl : ∀ r ∈ rows, r.length = c := fun r hr => by have := lenR_mem hlen hr; omega
 have hg := graph_f (k := 5999) (by omega) hm hc hc2 (by omega) hl
 have hgc := graph_check hc hc2 (show rows.length ≤ 200 by omega) hl
 obtain ⟨x, left, e, hp, h0⟩ := peel_total hF hc hc2 (by omega) hl hm wd er hw he
 rw [l44_PeelResidual.j0, if_neg (by simp), hg, Option.bind_some, if_pos rfl, hp, Option.bind_some]
 by_cases he0 : e = 0
 ·subst he0
  obtain ⟨m, i, hml, hem, hcore, hleft⟩ := h0 rfl
  subst hem hleft
  obtain ⟨r, hr1, hr2, hr3, _⟩ := greatest_f (k := 5999) hgc hml (by omega)
  rw [hcore] at hr1
  have e1 := Option.some.inj hr1
  subst e1
  have hll : (leftR i 0).length ≤ c := by rw [leftR_length, ← hr3]; exact List.count_le_length
  rw [if_pos rfl, hr2, Option.bind_some, if_pos rfl]
  show (r9_SameInts.f 5999 (leftR i 0) (leftR i 0)).bind (fun t => some t) = some true
  rw [same_f (by omega) (by omega), Option.bind_some]
 ·rw [if_neg he0]
theorem residual_pure (P M : Int) (md : List Int) (cols : Int) (rows : List (List Int)) (wd er : List Int) : l44_PeelResidual.f 6000 P M md cols rows wd er = some true := by
 have haw : ∀ (b : Bool), b = true → l44_PeelResidual.j0 6000 b P M md cols rows wd er = some true := by
  intro b hb
  rw [l44_PeelResidual.j0, if_pos hb]; rfl
 unfold l44_PeelResidual.f
 rw [show l44_awake.f = some true from rfl, Option.bind_some, if_pos rfl]
 obtain ⟨b, hb, hfew⟩ := few44_f P M md cols rows (k := 6000) (by omega)
 rw [hb, Option.bind_some]
 cases b with
 | false => rw [if_neg (by simp)]; exact haw _ rfl
 | true =>
  obtain ⟨f1, f2, f3, q, f4, f5⟩ := hfew rfl
  rw [if_pos rfl]
  by_cases h1 : (wd.length : Int) > 100
  ·rw [if_pos h1]; exact haw _ rfl
  rw [if_neg h1]
  by_cases h2 : (er.length : Int) > 100
  ·rw [if_pos h2]; exact haw _ rfl
  rw [if_neg h2]
  obtain ⟨e, he, h3⟩ := check9_total (cols := cols) (rows := rows) (k := 6000) (by omega) f5 f4 (by omega) (fun l hl => by have := f3 l hl; omega)
  rw [he, Option.bind_some]
  by_cases h0 : e = 0
  ·rw [if_pos h0]
   obtain ⟨n, ex, lg, e1, hF, hck⟩ := h3 h0
   by_cases h4 : cols < 1
   ·rw [if_pos h4]; exact haw _ rfl
   rw [if_neg h4]
   by_cases h5 : cols > 64
   ·exact haw _ (decide_eq_true h5)
   ·rw [decide_eq_false h5]
    obtain ⟨c, rfl⟩ := Int.eq_ofNat_of_zero_le (show 0 ≤ cols by omega)
    exact residual_j0 hF (by omega) (by omega) f2 hck wd er (by omega) (by omega)
  ·rw [if_neg h0]; exact haw _ rfl
end Go.Proofs.Ytkifipakikbhcaa.Hand
namespace Go.Proofs.Ytkifipakikbhcaa.Hand
open Go.ChangeShapes Go.WideShapes Go.ChangeAt Go.RowKit
open Ytkifipakikbhcaa.Ref
open YtkifipakikbhcaaW.PrintWords YtkifipakikbhcaaW.PrintLast YtkifipakikbhcaaW.PrintMore
theorem own : ownKnob Try.prog.godebug = none := by kernel_rfl
theorem laidOut : laidOutB Try.prog = true := by kernel_rfl
section
variable {H : Type} {enc : TypeId × Value → H} {W : World}
theorem ints_C {fuel : Nat} {v : Value} {x : DataW H × List MemPlace} (h : DataW.trod enc Try.prog W 0 (fun _ => true) true fuel 22 [v] = some x) :
  ∃ (A : Option Addr) (c : Nat) (l : List Int), v = .slice A l.length c ∧ l.length ≤ c ∧ c ≤ maxLen ∧ Kd.C (Kd.int .i64) W A l.length l := by
 rcases Go.ChangeShapes.open_ints Try.underlying22 Try.underlying3 (by kernel_rfl) h with ⟨hcs, _⟩ | ⟨a, len, cap, zs, hcs, _, hl, hm, hz, _, hcell, _⟩
 ·exact ⟨none, 0, [], by simpa using hcs, Nat.le_refl _, Nat.zero_le _, Kd.C_nil _ _⟩
 ·simp only [if_true] at hz
  have hlen : (zs.take len).length = len := by rw [List.length_take]; omega
  refine ⟨some a, cap, zs.take len, by rw [hlen]; simpa using hcs, by omega, hm, ?_⟩
  refine Kd.C_of_reads (d := 0) ⟨rfl, by rw [hlen]; have := hm; unfold maxLen at this; omega, fun hp => ⟨a, rfl, fun j hj => ?_⟩⟩
  rw [hlen] at hj
  rw [hcell j (by omega)]
  simp [List.getD_eq_getElem?_getD, List.getElem?_take, hj]
theorem rows_C {fuel : Nat} {v : Value} {x : DataW H × List MemPlace} (h : DataW.trod enc Try.prog W 0 (fun _ => true) true fuel 25 [v] = some x) :
  ∃ (A : Option Addr) (c : Nat) (l : List (List Int)), v = .slice A l.length c ∧ l.length ≤ c ∧ c ≤ maxLen ∧ Kd.C (Kd.slice 3 (Kd.int .i64)) W A l.length l := by
 rcases Go.Deep.open_int_rows Try.underlying25 Try.underlying22 Try.underlying3 (by kernel_rfl) (by kernel_rfl) h with ⟨hcs, _⟩ | ⟨a, len, cap, A, L, C, Z, hcs, _, hl, hm, _, hr⟩
 ·exact ⟨none, 0, [], by simpa using hcs, Nat.le_refl _, Nat.zero_le _, Kd.C_nil _ _⟩
 ·have hlen : ((List.range len).map fun r => (Z r).take (L r)).length = len := by simp
  refine ⟨some a, cap, (List.range len).map fun r => (Z r).take (L r), by rw [hlen]; simpa using hcs, by omega, hm, rfl, by rw [hlen]; have := hm; unfold maxLen at this; omega, fun hp => ⟨a, rfl, fun j p hj => ?_⟩⟩
  have hj2 : j < len := by
   have := (List.getElem?_eq_some_iff.1 hj).1
   rw [hlen] at this; exact this
  have hp : p = (Z j).take (L j) := by
   rw [List.getElem?_map, List.getElem?_range hj2] at hj
   exact (Option.some.inj hj).symm
  obtain ⟨hc, h1, h2, h3, h4, h5, h6⟩ := hr j (by omega)
  have hpl : p.length = L j := by rw [hp, List.length_take]; omega
  refine ⟨[.slice (A j) p.length (C j)], rfl, ⟨A j, C j, rfl, by omega, ?_⟩, ?_⟩
  ·refine Kd.C_of_reads (d := 0) ⟨rfl, by have := h2; unfold maxLen at this; omega, fun hp0 => ?_⟩
   cases hA : A j with
   | none => exact absurd (h5 hA) (by omega)
   | some a' =>
    refine ⟨a', rfl, fun i hi => ?_⟩
    rw [(h6 a' hA).2 i (by omega)]
    have hi2 : i < L j := by omega
    simp [hp, List.getD_eq_getElem?_getD, List.getElem?_take, hi2]
  ·intro i u hu
   have hi : i = 0 := by
    have := (List.getElem?_eq_some_iff.1 hu).1
    simp at this; exact this
   subst hi
   have hu : Value.slice (A j) p.length (C j) = u := by simpa using hu
   rw [← hu, hpl]
   have e : j * (Kd.slice 3 (Kd.int .i64)).sz + 0 = j := by show j * 1 + 0 = j; omega
   rw [e]; exact hc
end
end Go.Proofs.Ytkifipakikbhcaa.Hand
namespace Go.Proofs.Ytkifipakikbhcaa.Hand
open Go.ChangeShapes Go.WideShapes Go.ChangeAt Go.RowKit
open YtkifipakikbhcaaW.PrintWords YtkifipakikbhcaaW.PrintLast YtkifipakikbhcaaW.PrintMore
set_option maxRecDepth 100000
section
variable {H : Type} {enc : TypeId × Value → H} {W : World} {b0 : Nat} {d : DataW H} {p : List MemPlace} {v : Value}
theorem okWide_array {t e : TypeId} {n : Nat} {r : Reach} {b0 : Nat} {v : Value} (ht : Try.prog.underlying t = some (.array n e)) (h : Value.okWide Try.prog W r b0 t v) : ∃ cs, v = .agg cs ∧ cs.size = Try.prog.cellsOf t := by
 simp only [Value.okWide, ht] at h
 obtain ⟨cs, h1, h2, _⟩ := h
 exact ⟨cs, h1, h2⟩
theorem open_arr3 {t e : TypeId} (ht : Try.prog.underlying t = some (.array 3 e)) (hce : Try.prog.cellsOf e = 1) (hC : Try.prog.cellsOf t = 3) (hv : Value.okWide Try.prog W .any b0 t v) (h : DataW.Trod enc Try.prog W 0 (fun _ => true) true t v d p) :
  ∃ (v0 v1 v2 : Value) (y0 y1 y2 : DataW H × List MemPlace) (n : Nat), v = .agg #[v0, v1, v2] ∧ DataW.trod enc Try.prog W 0 (fun _ => true) true n e [v0] = some y0 ∧ DataW.trod enc Try.prog W 0 (fun _ => true) true n e [v1] = some y1 ∧ DataW.trod enc Try.prog W 0 (fun _ => true) true n e [v2] = some y2 := by
 obtain ⟨cs, rfl, hsz⟩ := okWide_array ht hv
 obtain ⟨c0, c1, c2, rfl⟩ := Go.Joins.array3 (hsz.trans hC)
 obtain ⟨fuel, hf⟩ := h
 obtain ⟨y0, y1, y2, n, _, h0, h1, h2⟩ := trod_array3 ht hce hf
 exact ⟨c0, c1, c2, y0, y1, y2, n, rfl, h0, h1, h2⟩
theorem open_arr2 {t e : TypeId} (ht : Try.prog.underlying t = some (.array 2 e)) (hce : Try.prog.cellsOf e = 1) (hC : Try.prog.cellsOf t = 2) (hv : Value.okWide Try.prog W .any b0 t v) (h : DataW.Trod enc Try.prog W 0 (fun _ => true) true t v d p) :
  ∃ (v0 v1 : Value) (y0 y1 : DataW H × List MemPlace) (n : Nat), v = .agg #[v0, v1] ∧ DataW.trod enc Try.prog W 0 (fun _ => true) true n e [v0] = some y0 ∧ DataW.trod enc Try.prog W 0 (fun _ => true) true n e [v1] = some y1 := by
 obtain ⟨cs, rfl, hsz⟩ := okWide_array ht hv
 obtain ⟨c0, c1, rfl⟩ := Go.Joins.array2 (hsz.trans hC)
 obtain ⟨fuel, hf⟩ := h
 obtain ⟨xs, m, _, _, _, hlen, hx⟩ := DataW.trod_array ht hf
 have h0 := hx 0 (by omega)
 have h1 := hx 1 (by omega)
 match xs, hlen with
 | [y0, y1], _ => exact ⟨c0, c1, y0, y1, m, rfl, by simpa [hce, Value.cells] using h0, by simpa [hce, Value.cells] using h1⟩
theorem int_of {fuel : Nat} {c0 : Value} {y : DataW H × List MemPlace} {t : TypeId} {k : IntKind} (ht : Try.prog.underlying t = some (.int k)) (h : DataW.trod enc Try.prog W 0 (fun _ => true) true fuel t [c0] = some y) : ∃ a : Int, c0 = .int k a := by
 obtain ⟨a, e0, _, _⟩ := DataW.trod_int ht h
 exact ⟨a, by simpa using e0⟩
theorem open_graph (hv : Value.okWide Try.prog W .any b0 31 v) (h : DataW.Trod enc Try.prog W 0 (fun _ => true) true 31 v d p) :
  ∃ (a : Int) (A : Option Addr) (c : Nat) (l : List (List Int)), v = .agg #[.int .i64 a, .slice A l.length c] ∧ l.length ≤ c ∧ c ≤ maxLen ∧ Kd.C (Kd.slice 3 (Kd.int .i64)) W A l.length l := by
 obtain ⟨c0, c1, y0, y1, m, rfl, _, _, hy0, hy1⟩ := Go.Joins.open_agg2 Try.underlying31 (by kernel_rfl) (by kernel_rfl) hv h
 obtain ⟨a, rfl⟩ := int_of Try.underlying3 hy0
 obtain ⟨A, c, l, rfl, hc, hm, hC⟩ := rows_C hy1
 exact ⟨a, A, c, l, rfl, hc, hm, hC⟩
theorem open_matrix (hv : Value.okWide Try.prog W .any b0 27 v) (h : DataW.Trod enc Try.prog W 0 (fun _ => true) true 27 v d p) :
  ∃ (a : Int) (A : Option Addr) (c : Nat) (l : List (List Int)), v = .agg #[.int .i64 a, .slice A l.length c] ∧ l.length ≤ c ∧ c ≤ maxLen ∧ Kd.C (Kd.slice 3 (Kd.int .i64)) W A l.length l := by
 obtain ⟨c0, c1, y0, y1, m, rfl, _, _, hy0, hy1⟩ := Go.Joins.open_agg2 Try.underlying27 (by kernel_rfl) (by kernel_rfl) hv h
 obtain ⟨a, rfl⟩ := int_of Try.underlying3 hy0
 obtain ⟨A, c, l, rfl, hc, hm, hC⟩ := rows_C hy1
 exact ⟨a, A, c, l, rfl, hc, hm, hC⟩
theorem open_field (hv : Value.okWide Try.prog W .any b0 24 v) (h : DataW.Trod enc Try.prog W 0 (fun _ => true) true 24 v d p) :
  ∃ (P M : Int) (A : Option Addr) (c : Nat) (l : List Int), v = .agg #[.int .i64 P, .int .i64 M, .slice A l.length c] ∧ l.length ≤ c ∧ c ≤ maxLen ∧ Kd.C (Kd.int .i64) W A l.length l := by
 obtain ⟨c0, c1, c2, y0, y1, y2, m, rfl, _, _, hy0, hy1, hy2⟩ := Go.Joins.open_agg3 Try.underlying24 (by kernel_rfl) (by kernel_rfl) hv h
 obtain ⟨a, rfl⟩ := int_of Try.underlying3 hy0
 obtain ⟨b, rfl⟩ := int_of Try.underlying3 hy1
 obtain ⟨A, c, l, rfl, hc, hm, hC⟩ := ints_C hy2
 exact ⟨a, b, A, c, l, rfl, hc, hm, hC⟩
end
end Go.Proofs.Ytkifipakikbhcaa.Hand
