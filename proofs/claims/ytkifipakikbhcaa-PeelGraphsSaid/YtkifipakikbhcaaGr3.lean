/- Part 3 of the claim: what the law reaches, walked (merged by slim.py out of the texts in wip). -/
import Derived.Test.YtkifipakikbhcaaGr2
import Derived.ArgAppend
import Derived.Below
import Derived.BigQuiet
import Derived.Deep.AppendLies
import Derived.Deep.CutBlock
import Derived.Deep.DeepCutAuto
import Derived.Deep.DrawnRows
import Derived.Deep.Draws
import Derived.Deep.LoopGhost
import Derived.Deep.OwnRows
import Derived.Deep.QuietTactic
import Derived.Deep.RegionHeld3
import Derived.Deep.RegionLaw
import Derived.KernelRfl
import Derived.Laws.BitsLemmas
import Derived.Laws.BytesArg
import Derived.Laws.CopyOwn
import Derived.Laws.EntriesVeiled
import Derived.Laws.IdiomCopy
import Derived.Laws.MakeOwn
import Derived.Laws.OwnMore
import Derived.Laws.Rows
import Derived.Laws.Slices
import Derived.Lib.AppendStr
import Derived.Lib.ConvBytes
import Derived.Maps.AppendAt
import Derived.OrdersHeld
import Derived.OwnWalk
import Derived.RowKit
import Derived.RowKit3
import Derived.Shelf.Abstract
import Derived.StillTailTactics
import Derived.Tactics
import Derived.Test.YtkifipakikbhcaaProg
import Derived.WalkKit
import Derived.WideLaws
set_option maxHeartbeats 8000000
set_option maxRecDepth 100000
set_option linter.unusedSimpArgs false
set_option linter.unusedVariables false
namespace Go.Proofs.Ytkifipakikbhcaa.Pg
open Ytkifipakikbhcaa.Ref
open Go.RowKit YtkifipakikbhcaaW.PrintWords YtkifipakikbhcaaW.PrintLast YtkifipakikbhcaaW.PrintMore
mutual
def peel_neighbors.l0 : Nat → List (List Int) → List (List Int) → Int → Int → Int → List (List Int) → Option ((List (List Int)))
 | 0, _, _, _, _, _, _ => none
 | k + 1, x3, x16, x17, x18, x128000, x128001 => if x18 < x17 then (if 0 ≤ x18 then (if x18 < (x16.length : Int) then (peel_neighbors.l1 k x3 x18 x16 x17 x18 (rd_L2 x16 x18) ((rd_L2 x16 x18).length : Int) 0 x128000 x128001) else (none)) else (none)) else (some x3)
def peel_neighbors.l1 : Nat → List (List Int) → Int → List (List Int) → Int → Int → List Int → Int → Int → Int → List (List Int) → Option ((List (List Int)))
 | 0, _, _, _, _, _, _, _, _, _, _ => none
 | k + 1, x3, x4, x16, x17, x18, x23, x24, x25, x128000, x128001 => if x25 < x24 then (if 0 ≤ x25 then (if x25 < (x23.length : Int) then (if 0 ≤ (rd x23 x25) then (if (rd x23 x25) < (x3.length : Int) then (if (rd_L2 x3 (rd x23 x25)).length < 17592186044416 then ((some (x3.set ((rd x23 x25) : Int).toNat ((rd_L2 x3 (rd x23 x25)) ++ [wrap64 (x128000 + x4)]) : List (List Int))).bind fun y137 => (if 0 ≤ (wrap64 (x128000 + x4)) then (if (wrap64 (x128000 + x4)) < (x3.length : Int) then (if (rd_L2 y137 (wrap64 (x128000 + x4))).length < 17592186044416 then (peel_neighbors.l1 k (y137.set ((wrap64 (x128000 + x4)) : Int).toNat ((rd_L2 y137 (wrap64 (x128000 + x4))) ++ [rd x23 x25])) x4 x16 x17 x18 x23 x24 (wrap64 (x25 + 1)) x128000 x128001) else (none)) else (none)) else (none))) else (none)) else (none)) else (none)) else (none)) else (none)) else (peel_neighbors.l0 k x3 x16 x17 (wrap64 (x18 + 1)) x128000 x128001)
end
def peel_neighbors.f (k : Nat) (a0_0 : Int) (l0_1 : List (List Int)) : Option ((List (List Int))) := if 0 ≤ (wrap64 (a0_0 + (l0_1.length : Int))) then (if (wrap64 (a0_0 + (l0_1.length : Int)) : Int).toNat ≤ 11728124029610 then (peel_neighbors.l0 k (List.replicate (wrap64 (a0_0 + (l0_1.length : Int)) : Int).toNat []) l0_1 (l0_1.length : Int) 0 a0_0 l0_1) else (none)) else (none)
def peel_neighbors.T8 : Bool × List (List Nat × List Nat) := (true, [([], []), ([], []), ([], []), ([], []), ([2, 3], [2, 3]), ([4], [4]), ([], []), ([6], [6]), ([], []), ([7, 8], [7, 8]), ([9], [9]), ([5, 10], [5, 10]), ([0, 1, 0, 1, 2, 3, 4, 5, 6, 7, 8, 9, 10, 11], [0, 1]), ([12, 11, 11, 0, 1, 2, 3, 4, 5, 6, 7, 8, 9, 10, 11], [11, 12])])
def peel_neighbors.B8 : List Nat := [0, 0, 0, 0, 12, 28, 0, 64, 0, 448, 960, 2044, 4095, 8191]
theorem peel_neighbors.tab8 : rtab .any (opsOf Try.f45 8) = peel_neighbors.T8 := by kernel_rfl
theorem peel_neighbors.bits8 : waitsOk peel_neighbors.T8.2 peel_neighbors.B8 = true := by kernel_rfl
def peel_neighbors.T9 : Bool × List (List Nat × List Nat) := (true, [([], []), ([], []), ([1], [1]), ([], []), ([2, 3], [2, 3]), ([], []), ([], []), ([6], [6]), ([], []), ([7, 8], [7, 8]), ([5, 9], [5, 9]), ([10], [10]), ([], []), ([12], [12]), ([11, 13], [11, 13]), ([0, 4, 0, 1, 2, 3, 4, 5, 6, 7, 8, 9, 10, 11, 12, 13, 14], [0, 4]), ([15, 14, 14, 0, 1, 2, 3, 4, 5, 6, 7, 8, 9, 10, 11, 12, 13, 14], [14, 15])])
def peel_neighbors.B9 : List Nat := [0, 0, 2, 0, 14, 0, 0, 64, 0, 448, 992, 2016, 0, 4096, 16352, 32767, 65535]
theorem peel_neighbors.tab9 : rtab .any (opsOf Try.f45 9) = peel_neighbors.T9 := by kernel_rfl
theorem peel_neighbors.bits9 : waitsOk peel_neighbors.T9.2 peel_neighbors.B9 = true := by kernel_rfl
theorem peel_neighbors.calls (k : Nat) (a0_0 : Int) (A0_1 : Option Addr) (c0_1 : Nat) (l0_1 : List (List Int)) (r : List (List Int)) (w : World) (hr0_1 : Kd.C (Kd.slice 3 (Kd.int .i64)) w A0_1 l0_1.length l0_1) (hc0_1 : l0_1.length ≤ c0_1) (h : peel_neighbors.f k a0_0 l0_1 = some r) :
  Calls Try.prog 45 #[.agg #[.int .i64 a0_0, .slice A0_1 l0_1.length c0_1]] w fun e w' => ∃ v0_ : Value, e = .returned (v0_) ∧ Kd.S (Kd.slice 3 (Kd.int .i64)) 22 w' w.heap.size (fun _ => True) v0_ r ∧ Below w.heap.size w w' := by
 have hu31 := Try.underlying31
 have HR0_1 := ak hr0_1
 have HC0_1 := ak hc0_1
 clear hr0_1 hc0_1
 have HB := ak (Below.refl w.heap.size w)
 have H : (if 0 ≤ (wrap64 (a0_0 + (l0_1.length : Int))) then (if (wrap64 (a0_0 + (l0_1.length : Int)) : Int).toNat ≤ 11728124029610 then (peel_neighbors.l0 k (List.replicate (wrap64 (a0_0 + (l0_1.length : Int)) : Int).toNat []) l0_1 (l0_1.length : Int) 0 a0_0 l0_1) else (none)) else (none)) = some r := h
 clear h
 obtain ⟨ji2, hji2⟩ : ∃ j_ : Int, (wrap64 (a0_0 + (l0_1.length : Int))) = j_ := ⟨_, rfl⟩
 replace H : (if 0 ≤ (ji2) then (if (ji2 : Int).toNat ≤ 11728124029610 then (peel_neighbors.l0 k (List.replicate (ji2 : Int).toNat []) l0_1 (l0_1.length : Int) 0 a0_0 l0_1) else (none)) else (none)) = some r := by first | (rw [hji2] at H; exact H) | (simp only [hji2] at H ⊢; exact H)
 have hji2w : (IntKind.i64.wrap (a0_0 + (l0_1.length : Int))) = ji2 := (i64_w _).trans hji2
 by_cases c3 : 0 ≤ (ji2)
 ·rw [if_pos c3] at H
  have c3b0 := eq_true c3
  have c3b1 : decide (0 ≤ (ji2)) = true := det c3
  clear c3
  by_cases c4 : (ji2 : Int).toNat ≤ 11728124029610
  ·rw [if_pos c4] at H
   have c4b0 := eq_true c4
   have c4b1 : decide ((ji2 : Int).toNat ≤ 11728124029610) = true := det c4
   clear c4
   obtain ⟨y128, hy128⟩ : ∃ y_ : List (List Int), y_ = (List.replicate (ji2 : Int).toNat []) := ⟨_, rfl⟩
   replace H : (peel_neighbors.l0 k y128 l0_1 (l0_1.length : Int) 0 a0_0 l0_1) = some r := by first | (rw [hy128]; with_reducible exact H) | (have H2_ := (Option.bind_some _ _).symm.trans H; rw [hy128]; with_reducible exact H2_) | (have H2_ := (Option.bind_some _ _).symm.trans H; with_reducible exact H2_) | with_reducible exact H | (rw [hy128]; exact H) | exact H
   have Ny128 := ak hy128
   clear hy128
   have H' := ak H
   clear H
   go_enter Try.func45, Try.ntmps45
   go_wp2_with (first | ((with_reducible refine gate_dst (N := 1) rfl ?_); refine box_event ?hg (N := 1) ?hd (cs := #[.int .i64 a0_0, .slice A0_1 l0_1.length c0_1]) (t := 31) ?hr ?_; (case hd => rfl); (case hg => rfl); (case hr => first | (go_simp; done) | (go_simp; rfl)); intro gb127 hg w5 hbox hb; have n0_ := ak (bsp HB.out hb); have n1_ := ak (hbox); have n2_ := ak ((by rw [hg]; exact (bsz HB.out) : w.heap.size ≤ gb127)); have n3_ := ak ((by rw [hg]; exact (bsz HB.out) : w.heap.size ≤ gb127)); clear HB; have HB := n0_; have BK127 := n1_; have GW127 := n2_; have GE127 := n3_; clear n0_ n1_ n2_ n3_; clear hb hbox hg; have hcz6_0 : w5.cell? ⟨gb127, 0, none⟩ = some (.int .i64 a0_0) := (kce BK127.out 0).trans rfl; have hcz6_1 : w5.cell? ⟨gb127, 1, none⟩ = some (.slice A0_1 l0_1.length c0_1) := (kce BK127.out 1).trans rfl) | ((with_reducible refine gate_dst (N := 14) rfl ?_); refine Kd.S_make (Kd.slice 3 (Kd.int .i64)) _ 22 rfl (N := 14) rfl 25 _ _ rfl ji2 rfl rfl Try.underlying25 (.slice none 0 0) 24 info22 rfl (by decide) (by omega) [] (ok := fun _ => True) (okp := fun _ => True) ⟨_, rfl, Kd.R_nil _ _ _ _ _⟩ (fun _ hk => hk) trivial (odt (by first | (with_reducible assumption) | assumption)) (Nat.le_trans (Nat.mul_le_mul_right _ (odt (by first | (with_reducible assumption) | assumption) : ji2.toNat ≤ 11728124029610)) (by omega)) (Below.refl _ _) (Nat.le_refl _) ?_; intro v129 w7 ho8 hb hg_ hnew_; clear hg_ hnew_; (first | rw [← Ny128.out] at ho8 | (simp only [Int.reduceToNat] at ho8; rw [← Ny128.out] at ho8)); have n0_ := ak (Kd.S_lower ho8 (bsz HB.out)); have n1_ := ak (kbe BK127.out hb); have n2_ := ak (bsp HB.out hb); clear BK127 HB; have HO130 := n0_; have BK127 := n1_; have HB := n2_; clear n0_ n1_ n2_; clear hb ho8; have hcz9_0 : w7.cell? ⟨gb127, 0, none⟩ = some (.int .i64 a0_0) := (kce BK127.out 0).trans rfl; have hcz9_1 : w7.cell? ⟨gb127, 1, none⟩ = some (.slice A0_1 l0_1.length c0_1) := (kce BK127.out 1).trans rfl))
   go_loopg [18] k (fun kq v18 w' => ∃ (x3_1 : List (List Int)) (x18_1 : Int), v18 = .int .i64 x18_1 ∧ Aside0 (peel_neighbors.l0 kq x3_1 l0_1 (l0_1.length : Int) x18_1 a0_0 l0_1 = some r) ∧ Aside0 (kq ≤ k) ∧ Aside0 (Kd.S (Kd.slice 3 (Kd.int .i64)) 22 w' w.heap.size (fun _ => True) v129 x3_1) ∧ Aside0 (w'.heap[gb127]? = some (.cells #[.int .i64 a0_0, (.slice A0_1 l0_1.length c0_1)] 31 (0, 0))) ∧ Aside0 (Below w.heap.size w w'))
   case atStart => exact ⟨(y128), (0), (by first | rfl | (simp; done) | (simp [*]; done)), H', ⟨Nat.le_refl _⟩, ⟨by (with_reducible repeat (first | apply Kd.S_alloc | apply Kd.S_drewN | apply Kd.S_drew)); exact HO130.out⟩, ⟨by (with_reducible repeat (first | refine kdn ?_ _ | refine kdr ?_ | refine kal ?_ _)); exact BK127.out⟩, ⟨by repeat (first | (with_reducible first | exact HB.out | apply bal | apply pbn | apply bd1 | refine bst ?_ GE127.out) | exact HB.out)⟩⟩
   case round =>
    clear H'
    obtain ⟨x3_1, x18_1, rfl, HA, HK1, HO_3, BK127, HB⟩ := hrel
    cases gk with
    | zero => exact absurd HA.out (by simp [peel_neighbors.l0])
    | succ k1 =>
     have H := HA.out
     clear HA
     simp only [peel_neighbors.l0] at H
     by_cases c10 : x18_1 < (l0_1.length : Int)
     ·rw [if_pos c10] at H
      have c10b0 : decide (x18_1 < (l0_1.length : Int)) = true := det c10
      clear c10
      by_cases c11 : 0 ≤ x18_1
      ·rw [if_pos c11] at H
       have c11b0 : decide (0 ≤ x18_1) = true := det c11
       clear c11
       by_cases c12 : x18_1 < (l0_1.length : Int)
       ·rw [if_pos c12] at H
        have c12b0 : decide (x18_1 < (l0_1.length : Int)) = true := det c12
        clear c12
        have H' := ak H
        clear H
        have p131 : 0 ≤ (x18_1 : Int) := odt (by first | (with_reducible assumption) | assumption)
        have q131 : x18_1 < (l0_1.length : Int) := odt (by first | (with_reducible assumption) | assumption)
        obtain ⟨ad131, A131_0, c131_0, e131, hx131_0, hl131_0, hi131_0⟩ := at_L2 HR0_1.out x18_1 p131 q131
        cases e131
        replace hx131_0 := (HB.out.cell (World.block_lt_of_cell? w _ hx131_0)).trans hx131_0
        have HR131_0 := ak hi131_0
        have HC131_0 := ak hl131_0
        clear hi131_0 hl131_0
        replace p131 := eq_true p131
        replace q131 := eq_true q131
        go_wp2
        go_loopg [25] k1 (fun kq v25 w' => ∃ (x3_2 : List (List Int)) (x25_2 : Int), v25 = .int .i64 x25_2 ∧ Aside0 (peel_neighbors.l1 kq x3_2 x18_1 l0_1 (l0_1.length : Int) x18_1 (rd_L2 l0_1 x18_1) ((rd_L2 l0_1 x18_1).length : Int) x25_2 a0_0 l0_1 = some r) ∧ Aside0 (kq ≤ k1) ∧ Aside0 (Kd.S (Kd.slice 3 (Kd.int .i64)) 22 w' w.heap.size (fun _ => True) v129 x3_2) ∧ Aside0 (w'.heap[gb127]? = some (.cells #[.int .i64 a0_0, (.slice (some ad131) l0_1.length c0_1)] 31 (0, 0))) ∧ Aside0 (Below w.heap.size w w'))
        case atStart => exact ⟨(x3_1), (0), (by first | rfl | (simp; done) | (simp [*]; done)), H', ⟨Nat.le_refl _⟩, ⟨by (with_reducible repeat (first | apply Kd.S_alloc | apply Kd.S_drewN | apply Kd.S_drew)); exact HO_3.out⟩, ⟨by (with_reducible repeat (first | refine kdn ?_ _ | refine kdr ?_ | refine kal ?_ _)); exact BK127.out⟩, ⟨by repeat (first | (with_reducible first | exact HB.out | apply bal | apply pbn | apply bd1 | refine bst ?_ GE127.out) | exact HB.out)⟩⟩
        case round =>
         clear H'
         obtain ⟨x3_2, x25_2, rfl, HA, HK2, HO_3, BK127, HB⟩ := hrel
         cases gk with
         | zero => exact absurd HA.out (by simp [peel_neighbors.l1])
         | succ k2 =>
          have H := HA.out
          clear HA
          simp only [peel_neighbors.l1] at H
          by_cases c13 : x25_2 < ((rd_L2 l0_1 x18_1).length : Int)
          ·rw [if_pos c13] at H
           have c13b0 : decide (x25_2 < ((rd_L2 l0_1 x18_1).length : Int)) = true := det c13
           clear c13
           by_cases c14 : 0 ≤ x25_2
           ·rw [if_pos c14] at H
            have c14b0 : decide (0 ≤ x25_2) = true := det c14
            clear c14
            by_cases c15 : x25_2 < ((rd_L2 l0_1 x18_1).length : Int)
            ·rw [if_pos c15] at H
             have c15b0 : decide (x25_2 < ((rd_L2 l0_1 x18_1).length : Int)) = true := det c15
             clear c15
             by_cases c16 : 0 ≤ (rd (rd_L2 l0_1 x18_1) x25_2)
             ·rw [if_pos c16] at H
              have c16b0 : decide (0 ≤ (rd (rd_L2 l0_1 x18_1) x25_2)) = true := det c16
              clear c16
              by_cases c17 : (rd (rd_L2 l0_1 x18_1) x25_2) < (x3_2.length : Int)
              ·rw [if_pos c17] at H
               have c17b0 : decide ((rd (rd_L2 l0_1 x18_1) x25_2) < (x3_2.length : Int)) = true := det c17
               clear c17
               by_cases c18 : (rd_L2 x3_2 (rd (rd_L2 l0_1 x18_1) x25_2)).length < 17592186044416
               ·rw [if_pos c18] at H
                have LMc18 := ak c18
                clear c18
                obtain ⟨y134, hy134⟩ : ∃ y_ : List Int, y_ = ((rd_L2 x3_2 (rd (rd_L2 l0_1 x18_1) x25_2)) ++ [wrap64 (a0_0 + x18_1)]) := ⟨_, rfl⟩
                replace H : ((some (x3_2.set ((rd (rd_L2 l0_1 x18_1) x25_2) : Int).toNat y134 : List (List Int))).bind fun y137 => (if 0 ≤ (wrap64 (a0_0 + x18_1)) then (if (wrap64 (a0_0 + x18_1)) < (x3_2.length : Int) then (if (rd_L2 y137 (wrap64 (a0_0 + x18_1))).length < 17592186044416 then (peel_neighbors.l1 k2 (y137.set ((wrap64 (a0_0 + x18_1)) : Int).toNat ((rd_L2 y137 (wrap64 (a0_0 + x18_1))) ++ [rd (rd_L2 l0_1 x18_1) x25_2])) x18_1 l0_1 (l0_1.length : Int) x18_1 (rd_L2 l0_1 x18_1) ((rd_L2 l0_1 x18_1).length : Int) (wrap64 (x25_2 + 1)) a0_0 l0_1) else (none)) else (none)) else (none))) = some r := by first | (rw [hy134]; with_reducible exact H) | (have H2_ := (Option.bind_some _ _).symm.trans H; rw [hy134]; with_reducible exact H2_) | (have H2_ := (Option.bind_some _ _).symm.trans H; with_reducible exact H2_) | with_reducible exact H | (rw [hy134]; exact H) | exact H
                have Ny134 := ak hy134
                clear hy134
                obtain ⟨y137, hy137⟩ : ∃ y_ : List (List Int), y_ = (x3_2.set ((rd (rd_L2 l0_1 x18_1) x25_2) : Int).toNat y134) := ⟨_, rfl⟩
                replace H : (if 0 ≤ (wrap64 (a0_0 + x18_1)) then (if (wrap64 (a0_0 + x18_1)) < (x3_2.length : Int) then (if (rd_L2 y137 (wrap64 (a0_0 + x18_1))).length < 17592186044416 then (peel_neighbors.l1 k2 (y137.set ((wrap64 (a0_0 + x18_1)) : Int).toNat ((rd_L2 y137 (wrap64 (a0_0 + x18_1))) ++ [rd (rd_L2 l0_1 x18_1) x25_2])) x18_1 l0_1 (l0_1.length : Int) x18_1 (rd_L2 l0_1 x18_1) ((rd_L2 l0_1 x18_1).length : Int) (wrap64 (x25_2 + 1)) a0_0 l0_1) else (none)) else (none)) else (none)) = some r := by first | (rw [hy137]; with_reducible exact H) | (have H2_ := (Option.bind_some _ _).symm.trans H; rw [hy137]; with_reducible exact H2_) | (have H2_ := (Option.bind_some _ _).symm.trans H; with_reducible exact H2_) | with_reducible exact H | (rw [hy137]; exact H) | exact H
                have Ny137 := ak hy137
                clear hy137
                obtain ⟨ji20, hji20⟩ : ∃ j_ : Int, (wrap64 (a0_0 + x18_1)) = j_ := ⟨_, rfl⟩
                replace H : (if 0 ≤ (ji20) then (if (ji20) < (x3_2.length : Int) then (if (rd_L2 y137 (ji20)).length < 17592186044416 then (peel_neighbors.l1 k2 (y137.set ((ji20) : Int).toNat ((rd_L2 y137 (ji20)) ++ [rd (rd_L2 l0_1 x18_1) x25_2])) x18_1 l0_1 (l0_1.length : Int) x18_1 (rd_L2 l0_1 x18_1) ((rd_L2 l0_1 x18_1).length : Int) (wrap64 (x25_2 + 1)) a0_0 l0_1) else (none)) else (none)) else (none)) = some r := by first | (rw [hji20] at H; exact H) | (simp only [hji20] at H ⊢; exact H)
                (try rw [hji20] at Ny134)
                have hji20w : (IntKind.i64.wrap (a0_0 + x18_1)) = ji20 := (i64_w _).trans hji20
                by_cases c21 : 0 ≤ (ji20)
                ·rw [if_pos c21] at H
                 have c21b0 : decide (0 ≤ (ji20)) = true := det c21
                 clear c21
                 by_cases c22 : (ji20) < (x3_2.length : Int)
                 ·rw [if_pos c22] at H
                  have c22b0 : decide ((ji20) < (x3_2.length : Int)) = true := det c22
                  clear c22
                  by_cases c23 : (rd_L2 y137 (ji20)).length < 17592186044416
                  ·rw [if_pos c23] at H
                   have LMc23 := ak c23
                   clear c23
                   obtain ⟨y139, hy139⟩ : ∃ y_ : List Int, y_ = ((rd_L2 y137 (ji20)) ++ [rd (rd_L2 l0_1 x18_1) x25_2]) := ⟨_, rfl⟩
                   replace H : (peel_neighbors.l1 k2 (y137.set ((ji20) : Int).toNat y139) x18_1 l0_1 (l0_1.length : Int) x18_1 (rd_L2 l0_1 x18_1) ((rd_L2 l0_1 x18_1).length : Int) (wrap64 (x25_2 + 1)) a0_0 l0_1) = some r := by first | (rw [hy139]; with_reducible exact H) | (have H2_ := (Option.bind_some _ _).symm.trans H; rw [hy139]; with_reducible exact H2_) | (have H2_ := (Option.bind_some _ _).symm.trans H; with_reducible exact H2_) | with_reducible exact H | (rw [hy139]; exact H) | exact H
                   have Ny139 := ak hy139
                   clear hy139
                   obtain ⟨y142, hy142⟩ : ∃ y_ : List (List Int), y_ = (y137.set ((ji20) : Int).toNat y139) := ⟨_, rfl⟩
                   replace H : (peel_neighbors.l1 k2 y142 x18_1 l0_1 (l0_1.length : Int) x18_1 (rd_L2 l0_1 x18_1) ((rd_L2 l0_1 x18_1).length : Int) (wrap64 (x25_2 + 1)) a0_0 l0_1) = some r := by first | (rw [hy142]; with_reducible exact H) | (have H2_ := (Option.bind_some _ _).symm.trans H; rw [hy142]; with_reducible exact H2_) | (have H2_ := (Option.bind_some _ _).symm.trans H; with_reducible exact H2_) | with_reducible exact H | (rw [hy142]; exact H) | exact H
                   have Ny142 := ak hy142
                   clear hy142
                   have H' := ak H
                   clear H
                   have p132 : 0 ≤ (x25_2 : Int) := odt (by first | (with_reducible assumption) | assumption)
                   have q132 : x25_2 < ((rd_L2 l0_1 x18_1).length : Int) := odt (by first | (with_reducible assumption) | assumption)
                   obtain ⟨ad132, e132, hx132_0⟩ := Kd.at_int HR131_0.out x25_2 p132 q132
                   cases e132
                   replace hx132_0 := (HB.out.cell (World.block_lt_of_cell? w _ hx132_0)).trans hx132_0
                   replace p132 := eq_true p132
                   replace q132 := eq_true q132
                   try go_wp2
                   have n0_ := ak (Kd.S_drew HO_3.out)
                   have n1_ := ak (kdr BK127.out)
                   have n2_ := ak (bd1 HB.out)
                   clear HO_3
                   clear BK127
                   clear HB
                   have HO_3 := n0_
                   have BK127 := n1_
                   have HB := n2_
                   clear n0_ n1_ n2_
                   obtain ⟨Ao26, co26, eo26⟩ := Kd.S_slice HO_3.out
                   (first | subst eo26 | (injection eo26 with f1_ f2_ f3_; have f4_ := f1_.symm; have f5_ := f3_.symm; clear f1_ f2_ f3_; subst f4_; subst f5_))
                   have p133 : 0 ≤ ((rd (rd_L2 l0_1 x18_1) x25_2) : Int) := odt (by first | (with_reducible assumption) | assumption)
                   have q133 : (rd (rd_L2 l0_1 x18_1) x25_2) < (x3_2.length : Int) := odt (by first | (with_reducible assumption) | assumption)
                   obtain ⟨ad133, A133_0, c133_0, e133, hx133_0, hl133_0, hi133_0⟩ := at_L2 (Kd.S_reads' HO_3.out).2.2 (rd (rd_L2 l0_1 x18_1) x25_2) p133 q133
                   cases e133
                   obtain ⟨ce133, hce133, hMe133, hcc133⟩ := Kd.S_get HO_3.out [] (rd (rd_L2 l0_1 x18_1) x25_2) p133 (by first | exact q133 | exact odt (by first | (with_reducible assumption) | assumption) | (have e_ := (Kd.S_reads' HO_3.out).1; omega))
                   obtain ⟨ve133_0, rfl, ge133_0⟩ := hMe133
                   have hv133_0 := hcc133 0 _ rfl
                   rw [Nat.add_zero, show ((Kd.slice 3 (Kd.int .i64))).sz = 1 from rfl, Nat.mul_one] at hv133_0
                   replace hv133_0 := osi (hv133_0.symm.trans hx133_0)
                   rw [hv133_0] at ge133_0
                   have HL133_0 := ak (show Kd.R (Kd.int .i64) 3 _ _ _ _ (rd_L2 x3_2 (rd (rd_L2 l0_1 x18_1) x25_2)) from ge133_0)
                   clear hv133_0 ge133_0
                   have HX133_0 := ak hx133_0
                   clear hcc133 hce133
                   have HR133_0 := ak hi133_0
                   have HC133_0 := ak hl133_0
                   clear hi133_0 hl133_0
                   replace p133 := eq_true p133
                   replace q133 := eq_true q133
                   obtain ⟨go27, co27, eo27, gb27, gl27, cl27, HG27⟩ := Kd.S_form HO_3.out (by have h_ : ((rd (rd_L2 l0_1 x18_1) x25_2) : Int) < ((x3_2.length : Int) : Int) := odt (by first | (with_reducible assumption) | assumption); have h2_ : 0 ≤ ((rd (rd_L2 l0_1 x18_1) x25_2) : Int) := (odt (by first | (with_reducible assumption) | assumption)); omega)
                   (first | cases eo27 | (injection eo27 with ea_ en_ ec_; (first | subst ea_ | (injection ea_ with ea_; subst ea_)); subst ec_; clear en_))
                   have GB27 := ak gb27
                   have GG27 := ak HG27
                   clear gb27 gl27 HG27
                   (first | simp only [add_plain] at hx133_0 | skip)
                   obtain ⟨oki27, ce27, hcl27, hM27, hcc27, _, _, hH27⟩ := Kd.S_elem HO_3.out [] ((rd (rd_L2 l0_1 x18_1) x25_2) : Int) (odt (by first | (with_reducible assumption) | assumption)) (by have h_ : ((rd (rd_L2 l0_1 x18_1) x25_2) : Int) < ((x3_2.length : Int) : Int) := odt (by first | (with_reducible assumption) | assumption); first | exact h_ | (have e_ := (Kd.S_reads' HO_3.out).1; omega) | simpa using h_)
                   obtain ⟨ve27_0, rfl, ge27_0⟩ := hM27
                   have hv27 := hcc27 0 _ rfl
                   have hX27 := HX133_0.out
                   (try simp only [add_plain] at hX27)
                   (try simp only [Nat.add_zero] at hv27)
                   (try rw [show ((Kd.slice 3 (Kd.int .i64))).sz = 1 from rfl, Nat.mul_one] at hv27)
                   replace hv27 := osi (hv27.symm.trans hX27)
                   subst hv27
                   clear hX27 hcc27 hcl27
                   have UU27 := ak (show Kd.R (Kd.int .i64) 3 _ w.heap.size oki27 (.slice A133_0 (rd_L2 x3_2 (rd (rd_L2 l0_1 x18_1) x25_2)).length c133_0) (rd_L2 x3_2 (rd (rd_L2 l0_1 x18_1) x25_2)) from ge27_0)
                   have HH27 := ak hH27
                   have HN27 := ak (Kd.S_reads' HO_3.out).1
                   clear hH27 ge27_0
                   refine start_ (n := 14) (S := fun w' => w'.cell? ⟨gb127, 0, none⟩ = some (.int .i64 a0_0) ∧ w'.cell? ⟨gb127, 1, none⟩ = some (.slice (some ad131) l0_1.length c0_1) ∧ w'.cell? (⟨go27, (rd (rd_L2 l0_1 x18_1) x25_2).toNat, none⟩ : Addr) = some (.slice A133_0 (rd_L2 x3_2 (rd (rd_L2 l0_1 x18_1) x25_2)).length c133_0)) (ds := [13]) #[false, false, false, false, false, false, false, false, false, false, false, false, false, false] (by kernel_rfl) rfl rfl ⟨(kce BK127.out 0).trans rfl, (kce BK127.out 1).trans rfl, hx133_0⟩ (fun hHeld => ?_); refine with_tabW peel_neighbors.tab8 peel_neighbors.bits8 (fun HT_ HW_ => ?_)
                   generalize wr.drew = w25 at HO_3 BK127 HB GG27 HH27 HL133_0 HR133_0 HX133_0 UU27 hx133_0 hHeld ⊢
                   refine pure_ (i := 0) (N := some 29) (v := ?_) (a' := ?_) #[true, false, false, false, false, false, false, false, false, false, false, false, false, false] rfl rfl (any_of HT_.out (by kernel_rfl)) (fun _ _ _ h => h) (Or.inl ⟨by rfl, ?_⟩) ?_ ?_
                   rotate_left
                   ·intro w'
                    go_simp
                    with_reducible rfl
                   rotate_left
                   ·simp only [Act.put, sia, scz, scs, i64_w, i32_w]
                    rfl
                   refine pure_ (i := 1) (N := some 30) (v := ?_) (a' := ?_) #[true, true, false, false, false, false, false, false, false, false, false, false, false, false] rfl rfl (any_of HT_.out (by kernel_rfl)) (fun _ _ _ h => h) (Or.inl ⟨by rfl, ?_⟩) ?_ ?_
                   rotate_left
                   ·intro w'
                    go_simp
                    with_reducible rfl
                   rotate_left
                   ·simp only [Act.put, sia, scz, scs, i64_w, i32_w]
                    rfl
                   refine pure_ (i := 2) (N := some 31) (v := ?_) (a' := ?_) #[true, true, true, false, false, false, false, false, false, false, false, false, false, false] rfl rfl (any_of HT_.out (by kernel_rfl)) (fun _ _ _ h => h) (Or.inl ⟨by rfl, ?_⟩) ?_ ?_
                   rotate_left
                   ·intro w'
                    go_simp
                    with_reducible rfl
                   rotate_left
                   ·simp only [Act.put, sia, scz, scs, i64_w, i32_w]
                    rfl
                   refine pure_ (i := 3) (N := some 32) (v := ?_) (a' := ?_) #[true, true, true, true, false, false, false, false, false, false, false, false, false, false] rfl rfl (any_of HT_.out (by kernel_rfl)) (fun _ _ _ h => h) (Or.inl ⟨by rfl, ?_⟩) ?_ ?_
                   rotate_left
                   ·intro w'
                    go_simp
                    with_reducible rfl
                   rotate_left
                   ·simp only [Act.put, sia, scz, scs, i64_w, i32_w]
                    rfl
                   refine pure_ (i := 4) (N := some 33) (v := ?_) (a' := ?_) #[true, true, true, true, true, false, false, false, false, false, false, false, false, false] rfl rfl (any_of HT_.out (by kernel_rfl)) (fun _ _ _ h => h) (Or.inl ⟨by rfl, ?_⟩) ?_ ?_
                   rotate_left
                   ·intro w'
                    go_simp
                    with_reducible rfl
                   rotate_left
                   ·simp only [Act.put, sia, scz, scs, i64_w, i32_w]
                    rfl
                   refine pure_ (i := 6) (N := some 35) (v := ?_) (a' := ?_) #[true, true, true, true, true, false, true, false, false, false, false, false, false, false] rfl rfl (any_of HT_.out (by kernel_rfl)) (fun _ _ _ h => h) (Or.inl ⟨by rfl, ?_⟩) ?_ ?_
                   rotate_left
                   ·intro w'
                    go_simp
                    with_reducible rfl
                   rotate_left
                   ·simp only [Act.put, sia, scz, scs, i64_w, i32_w]
                    rfl
                   refine pure_ (i := 8) (N := some 37) (v := ?_) (a' := ?_) #[true, true, true, true, true, false, true, false, true, false, false, false, false, false] rfl rfl (any_of HT_.out (by kernel_rfl)) (fun _ _ _ h => h) (Or.inl ⟨by rfl, ?_⟩) ?_ ?_
                   rotate_left
                   ·intro w'
                    go_simp
                    with_reducible rfl
                   rotate_left
                   ·simp only [Act.put, sia, scz, scs, i64_w, i32_w]
                    rfl
                   refine take_ (i := 5) (N := some 34) (v := ?_) (a' := ?_) #[true, true, true, true, true, true, true, false, true, false, false, false, false, false] rfl rfl (take_ofW HT_.out HW_.out (by kernel_rfl)) (fun _ _ _ h => h) (Or.inl ⟨by rfl, ?_⟩) hHeld ?_ ?_
                   rotate_left
                   ·rintro w' ⟨s0, s1, s2⟩
                    go_simp
                    with_reducible rfl
                   rotate_left
                   ·simp only [Act.put, sia, scz, scs, i64_w, i32_w]
                    rfl
                   refine take_ (i := 7) (N := some 36) (v := ?_) (a' := ?_) #[true, true, true, true, true, true, true, true, true, false, false, false, false, false] rfl rfl (take_ofW HT_.out HW_.out (by kernel_rfl)) (fun _ _ _ h => h) (Or.inl ⟨by rfl, ?_⟩) hHeld ?_ ?_
                   rotate_left
                   ·rintro w' ⟨s0, s1, s2⟩
                    go_simp
                    with_reducible rfl
                   rotate_left
                   ·simp only [Act.put, sia, scz, scs, i64_w, i32_w]
                    rfl
                   refine pure_ (i := 9) (N := some 38) (v := ?_) (a' := ?_) #[true, true, true, true, true, true, true, true, true, true, false, false, false, false] rfl rfl (any_of HT_.out (by kernel_rfl)) (fun _ _ _ h => h) (Or.inl ⟨by rfl, ?_⟩) ?_ ?_
                   rotate_left
                   ·intro w'
                    go_simp
                    with_reducible rfl
                   rotate_left
                   ·simp only [Act.put, sia, scz, scs, i64_w, i32_w]
                    rfl
                   refine one_ (i := 10) (N := some 39) #[true, true, true, true, true, true, true, true, true, true, true, false, false, false] rfl rfl (one_of HT_.out (by kernel_rfl)) (by decide) (fun K hK => ?_)
                   refine value_ (w1 := ?_) (v := ?_) (by rfl) rfl ?_ ?_
                   rotate_left 2
                   ·go_simp
                    constructor
                    ·rfl
                    ·rfl
                   refine hK.out _ _ ⟨(kce (kal BK127.out _) 0).trans rfl, (kce (kal BK127.out _) 1).trans rfl, (World.cell?_alloc_lt _ _ _ (World.block_lt_of_cell? _ _ (hHeld.2.2))).trans (hHeld.2.2)⟩ (fun hHeld => ?_)
                   clear hK K
                   refine norm_ (a' := ?_) ?_ ?_
                   rotate_left
                   ·show Act.put _ (some 39) _ = _
                    simp only [Act.put, sia, scz, scs, i64_w, i32_w]
                    rfl
                   refine one_ (i := 11) (N := some 40) #[true, true, true, true, true, true, true, true, true, true, true, true, false, false] rfl rfl (one_of HT_.out (by kernel_rfl)) (by decide) (fun K hK => ?_)
                   refine Kd.R_append_step (Kd.int .i64) (w0 := w) w.heap.size (by rfl) (.tmp 34) (.tmp 39) 22 3 (.int .i64 0) 8 rfl Try.underlying22 info3 rfl (by decide) (by omega) (.slice A133_0 (rd_L2 x3_2 (rd (rd_L2 l0_1 x18_1) x25_2)).length c133_0) (rd_L2 x3_2 (rd (rd_L2 l0_1 x18_1) x25_2)) ji20 [.int .i64 ji20] (fun k_ => oki27 k_ ∨ ((fun _ => True)) k_ ∧ w25.heap.size ≤ k_) (fun _ => False) rfl rfl ?aP (fun _ hk => hk.elim) ?aF ?aO ?aB ?aS ?aL ?_
                   (case aP => exact rfl)
                   (case aB => exact HB.out)
                   (case aF => exact (fun k_ hk => .inr ⟨trivial, hk⟩))
                   (case aO => exact (by (with_reducible repeat (first | apply Kd.R_alloc | apply Kd.R_drewN | apply Kd.R_drew)); exact Kd.R_mono UU27.out (fun _ hk => .inl hk)))
                   (case aS => exact (bsz HB.out))
                   (case aL => have := LMc18.out; omega)
                   intro v135 w28 ho hb hg hat
                   (first | have HS2_ := cell_grown hg (hHeld.2.2) (by first | (rw [add_block]; exact (fun e_ => ((HL133_0.out.1 _ e_.symm).2) rfl)) | (show some (Addr.add _ _).block ≠ _; rw [add_block]; exact (fun e_ => ((HL133_0.out.1 _ e_.symm).2) rfl)) | exact (fun e_ => ((HL133_0.out.1 _ e_.symm).2) rfl)) | have HS2_ := cell_grown hg (cell_unalloc (hHeld.2.2) (by first | (rw [add_block]; exact Kd.S_lt HO_3.out _ rfl) | (show (Addr.add _ _).block < _; rw [add_block]; exact Kd.S_lt HO_3.out _ rfl) | exact Kd.S_lt HO_3.out _ rfl)) (by first | (rw [add_block]; exact (fun e_ => ((HL133_0.out.1 _ e_.symm).2) rfl)) | (show some (Addr.add _ _).block ≠ _; rw [add_block]; exact (fun e_ => ((HL133_0.out.1 _ e_.symm).2) rfl)) | exact (fun e_ => ((HL133_0.out.1 _ e_.symm).2) rfl)))
                   rw [← Ny134.out] at ho
                   have n0_ := ak (blk_grown (g := gb127) (o := .cells #[.int .i64 a0_0, .slice (some ad131) l0_1.length c0_1] 31 (0, 0)) BK127.out hg (Kd.R_ne HL133_0.out BK127.out (by decide)))
                   have n1_ := ak (hb)
                   have n2_ := ak (Kd.H_grown (Kd.H_widen (by repeat (first | exact HH27.out | refine Kd.H_alloc ?_ _ | refine Kd.H_drewN ?_ _ | refine Kd.H_drew ?_))) hg (fun k_ e_ => .inl (UU27.out.1 k_ e_)))
                   have n3_ := ak (ho)
                   clear BK127
                   clear HB
                   clear HH27
                   clear HO_3
                   clear UU27
                   clear HL133_0
                   have BK127 := n0_
                   have HB := n1_
                   have HH27 := n2_
                   have HO136 := n3_
                   clear n0_ n1_ n2_ n3_
                   clear ho hb hg hat
                   have p19 : 0 ≤ ((rd (rd_L2 l0_1 x18_1) x25_2) : Int) := odt (by first | (with_reducible assumption) | assumption)
                   have q19 : ((rd (rd_L2 l0_1 x18_1) x25_2) : Int) < ((x3_2.length : Int) : Int) := odt (by first | (with_reducible assumption) | assumption)
                   replace p19 := eq_true p19
                   replace q19 := eq_true q19
                   obtain ⟨Ao31, co31, eo31⟩ := Kd.R_slice HO136.out
                   (first | subst eo31 | (injection eo31 with f1_ f2_ f3_; have f4_ := f1_.symm; have f5_ := f3_.symm; clear f1_ f2_ f3_; subst f4_; subst f5_))
                   obtain ⟨_, _, hraw29, _, _, hcc29, _⟩ := Kd.H_raw HH27.out (odt (by first | (with_reducible assumption) | assumption)) (by have h_ : ((rd (rd_L2 l0_1 x18_1) x25_2) : Int) < ((x3_2.length : Int) : Int) := odt (by first | (with_reducible assumption) | assumption); first | exact h_ | (have e_ := (HN27.out); omega) | simpa using h_)
                   obtain ⟨_, hfr29⟩ := Kd.H_at HH27.out (odt (by first | (with_reducible assumption) | assumption)) (by have h_ : ((rd (rd_L2 l0_1 x18_1) x25_2) : Int) < ((x3_2.length : Int) : Int) := odt (by first | (with_reducible assumption) | assumption); first | exact h_ | (have e_ := (HN27.out); omega) | simpa using h_)
                   have hx29_0 := hcc29 0 _ rfl
                   have hf29_0 := hfr29 0
                   (try simp only [Nat.add_zero] at hx29_0 hf29_0)
                   (try rw [show ((Kd.slice 3 (Kd.int .i64))).sz = 1 from rfl, Nat.mul_one] at hx29_0)
                   (try rw [show ((Kd.slice 3 (Kd.int .i64))).sz = 1 from rfl, Nat.mul_one] at hf29_0)
                   have HP29 := Kd.S_seg0 HH27.out (odt (by first | (with_reducible assumption) | assumption)) (by have h_ : ((rd (rd_L2 l0_1 x18_1) x25_2) : Int) < ((x3_2.length : Int) : Int) := odt (by first | (with_reducible assumption) | assumption); first | exact h_ | (have e_ := (HN27.out); omega) | simpa using h_) (seg := [.slice Ao31 y134.length co31]) (j := 0) (show 1 ≤ 1 from by decide) (x' := y134) (Kd.M_row HO136.out) (fun _ hk => hk)
                   (try simp only [show ((Kd.slice 3 (Kd.int .i64))).sz = 1 from rfl, Nat.mul_one, Nat.add_zero] at HP29)
                   clear hcc29 hfr29
                   have HNB127_go27 := ak (show gb127 ≠ go27 from by have h_ := Kd.R_ne hraw29 BK127.out (by decide); intro e_; exact h_ (by rw [e_]; rfl))
                   have HS29 := HP29.1
                   rw [← Ny137.out] at HS29
                   have HQ29 := ak HS29
                   obtain ⟨_, hgg29⟩ := Kd.R_typed hraw29 go27 rfl
                   have GG29_ := ak hgg29
                   clear HP29 HS29 hgg29
                   refine hK.out _ _ ⟨(kce BK127.out 0).trans rfl, (kce BK127.out 1).trans rfl, HS2_⟩ (fun hHeld => ?_)
                   clear hK K
                   refine norm_ (a' := ?_) ?_ ?_
                   rotate_left
                   ·show Act.put _ (some 40) _ = _
                    simp only [Act.put, sia, scz, scs, i64_w, i32_w]
                    rfl
                   refine pure_ (i := 12) (N := some 41) (v := ?_) (a' := ?_) #[true, true, true, true, true, true, true, true, true, true, true, true, true, false] rfl rfl (any_of HT_.out (by kernel_rfl)) (fun _ _ _ h => h) (Or.inl ⟨by rfl, ?_⟩) ?_ ?_
                   rotate_left
                   ·intro w'
                    go_simp
                    with_reducible rfl
                   rotate_left
                   ·simp only [Act.put, sia, scz, scs, i64_w, i32_w]
                    rfl
                   refine last_ (i := 13) (N := none) #[true, true, true, true, true, true, true, true, true, true, true, true, true, true] rfl rfl (one_of HT_.out (by kernel_rfl)) (by decide) (fun K hK => ?_)
                   refine skip_ (w1 := ?_) (by rfl) rfl ?_ ?_
                   rotate_left
                   ·go_simp
                    rfl
                   refine hK.out _ _ ?_
                   clear hK K
                   refine done_ (done_of HT_.out (by kernel_rfl)) ?_
                   try go_wp2
                   have n0_ : Aside0 (Kd.S (Kd.slice 3 (Kd.int .i64)) 22 (w28.setCell ⟨go27, ((rd (rd_L2 l0_1 x18_1) x25_2) : Int).toNat, none⟩ (.slice Ao31 y134.length co31)) w.heap.size (fun _ => True) (.slice (some ⟨go27, 0, none⟩) x3_2.length co26) y137) := ⟨by (with_reducible repeat (first | apply Kd.S_alloc | apply Kd.S_drewN | apply Kd.S_drew)); exact HQ29.out⟩
                   have n1_ : Aside0 ((w28.setCell ⟨go27, ((rd (rd_L2 l0_1 x18_1) x25_2) : Int).toNat, none⟩ (.slice Ao31 y134.length co31)).heap[gb127]? = some (.cells #[.int .i64 a0_0, .slice (some ad131) l0_1.length c0_1] 31 (0, 0))) := ⟨by (with_reducible repeat (first | refine kdn ?_ _ | refine kdr ?_ | refine kal ?_ _)); refine blk_far ?_ HNB127_go27.out _; (with_reducible repeat (first | refine kdn ?_ _ | refine kdr ?_ | refine kal ?_ _)); exact BK127.out⟩
                   have n2_ : Aside0 (Below w.heap.size w (w28.setCell ⟨go27, ((rd (rd_L2 l0_1 x18_1) x25_2) : Int).toNat, none⟩ (.slice Ao31 y134.length co31))) := ⟨by repeat (first | (with_reducible first | exact HB.out | apply bal | apply pbn | apply bd1 | refine bst ?_ GB27.out | refine bst ?_ GE127.out) | exact HB.out)⟩
                   (try clear HO_3)
                   (try clear BK127)
                   (try clear HB)
                   generalize (w28.setCell ⟨go27, ((rd (rd_L2 l0_1 x18_1) x25_2) : Int).toNat, none⟩ (.slice Ao31 y134.length co31)) = w32 at n0_ n1_ n2_ ⊢
                   have HO_3 := n0_
                   have BK127 := n1_
                   have HB := n2_
                   clear n0_ n1_ n2_
                   have n0_ := ak (Kd.S_drew HO_3.out)
                   have n1_ := ak (kdr BK127.out)
                   have n2_ := ak (bd1 HB.out)
                   clear HO_3
                   clear BK127
                   clear HB
                   have HO_3 := n0_
                   have BK127 := n1_
                   have HB := n2_
                   clear n0_ n1_ n2_
                   have p138 : 0 ≤ ((ji20) : Int) := odt (by first | (with_reducible assumption) | assumption)
                   have q138 : (ji20) < (y137.length : Int) := (by have h_ : ((ji20) : Int) < ((x3_2.length : Int) : Int) := odt (by first | (with_reducible assumption) | assumption); first | (have e_ := (Kd.S_reads' HO_3.out).1; omega) | simpa only [Ny137.out, List.length_set] using h_)
                   have ql138 : (((ji20) : Int) < ((x3_2.length : Int) : Int)) = True := eq_true (odt (by first | (with_reducible assumption) | assumption))
                   obtain ⟨ad138, A138_0, c138_0, e138, hx138_0, hl138_0, hi138_0⟩ := at_L2 (Kd.S_reads' HO_3.out).2.2 (ji20) p138 q138
                   obtain rfl : (⟨go27, 0, none⟩ : Addr) = ad138 := (by injection e138)
                   obtain ⟨ce138, hce138, hMe138, hcc138⟩ := Kd.S_get HO_3.out [] (ji20) p138 (by first | exact q138 | exact odt (by first | (with_reducible assumption) | assumption) | (have e_ := (Kd.S_reads' HO_3.out).1; omega))
                   obtain ⟨ve138_0, rfl, ge138_0⟩ := hMe138
                   have hv138_0 := hcc138 0 _ rfl
                   rw [Nat.add_zero, show ((Kd.slice 3 (Kd.int .i64))).sz = 1 from rfl, Nat.mul_one] at hv138_0
                   replace hv138_0 := osi (hv138_0.symm.trans hx138_0)
                   rw [hv138_0] at ge138_0
                   have HL138_0 := ak (show Kd.R (Kd.int .i64) 3 _ _ _ _ (rd_L2 y137 (ji20)) from ge138_0)
                   clear hv138_0 ge138_0
                   have HX138_0 := ak hx138_0
                   clear hcc138 hce138
                   (first | simp only [add_plain] at hx138_0 | simp only [add_at] at hx138_0 | simp only [Addr.add, Nat.zero_add] at hx138_0 | skip)
                   have HR138_0 := ak hi138_0
                   have HC138_0 := ak hl138_0
                   clear hi138_0 hl138_0
                   replace p138 := eq_true p138
                   replace q138 := eq_true q138
                   obtain ⟨oki34, ce34, hcl34, hM34, hcc34, _, _, hH34⟩ := Kd.S_elem HO_3.out [] ((ji20) : Int) (odt (by first | (with_reducible assumption) | assumption)) (by have h_ : ((ji20) : Int) < ((x3_2.length : Int) : Int) := odt (by first | (with_reducible assumption) | assumption); first | exact h_ | (have e_ := (Kd.S_reads' HO_3.out).1; omega) | simpa using h_)
                   obtain ⟨ve34_0, rfl, ge34_0⟩ := hM34
                   have hv34 := hcc34 0 _ rfl
                   have hX34 := HX138_0.out
                   (try simp only [add_plain] at hX34)
                   (try simp only [Nat.add_zero] at hv34)
                   (try rw [show ((Kd.slice 3 (Kd.int .i64))).sz = 1 from rfl, Nat.mul_one] at hv34)
                   replace hv34 := osi (hv34.symm.trans hX34)
                   subst hv34
                   clear hX34 hcc34 hcl34
                   have UU34 := ak (show Kd.R (Kd.int .i64) 3 _ w.heap.size oki34 (.slice A138_0 (rd_L2 y137 (ji20)).length c138_0) (rd_L2 y137 (ji20)) from ge34_0)
                   have HH34 := ak hH34
                   have HN34 := ak (Kd.S_reads' HO_3.out).1
                   clear hH34 ge34_0
                   refine start_ (n := 17) (S := fun w' => w'.cell? ⟨gb127, 0, none⟩ = some (.int .i64 a0_0) ∧ w'.cell? ⟨gb127, 1, none⟩ = some (.slice (some ad131) l0_1.length c0_1) ∧ w'.cell? ⟨go27, ((ji20)).toNat, none⟩ = some (.slice A138_0 (rd_L2 y137 (ji20)).length c138_0)) (ds := [16]) #[false, false, false, false, false, false, false, false, false, false, false, false, false, false, false, false, false] (by kernel_rfl) rfl rfl ⟨(kce BK127.out 0).trans rfl, (kce BK127.out 1).trans rfl, hx138_0⟩ (fun hHeld => ?_); refine with_tabW peel_neighbors.tab9 peel_neighbors.bits9 (fun HT_ HW_ => ?_)
                   generalize w32.drew = w33 at HO_3 BK127 HB HH34 HL138_0 HQ29 HR138_0 HX138_0 UU34 hx138_0 hHeld ⊢
                   refine pure_ (i := 0) (N := some 42) (v := ?_) (a' := ?_) #[true, false, false, false, false, false, false, false, false, false, false, false, false, false, false, false, false] rfl rfl (any_of HT_.out (by kernel_rfl)) (fun _ _ _ h => h) (Or.inl ⟨by rfl, ?_⟩) ?_ ?_
                   rotate_left
                   ·intro w'
                    go_simp
                    with_reducible rfl
                   rotate_left
                   ·simp only [Act.put, sia, scz, scs, i64_w, i32_w]
                    rfl
                   refine pure_ (i := 1) (N := some 43) (v := ?_) (a' := ?_) #[true, true, false, false, false, false, false, false, false, false, false, false, false, false, false, false, false] rfl rfl (any_of HT_.out (by kernel_rfl)) (fun _ _ _ h => h) (Or.inl ⟨by rfl, ?_⟩) ?_ ?_
                   rotate_left
                   ·intro w'
                    go_simp
                    with_reducible rfl
                   rotate_left
                   ·simp only [Act.put, sia, scz, scs, i64_w, i32_w]
                    rfl
                   refine pure_ (i := 3) (N := some 45) (v := ?_) (a' := ?_) #[true, true, false, true, false, false, false, false, false, false, false, false, false, false, false, false, false] rfl rfl (any_of HT_.out (by kernel_rfl)) (fun _ _ _ h => h) (Or.inl ⟨by rfl, ?_⟩) ?_ ?_
                   rotate_left
                   ·intro w'
                    go_simp
                    with_reducible rfl
                   rotate_left
                   ·simp only [Act.put, sia, scz, scs, i64_w, i32_w]
                    rfl
                   refine pure_ (i := 5) (N := some 47) (v := ?_) (a' := ?_) #[true, true, false, true, false, true, false, false, false, false, false, false, false, false, false, false, false] rfl rfl (any_of HT_.out (by kernel_rfl)) (fun _ _ _ h => h) (Or.inl ⟨by rfl, ?_⟩) ?_ ?_
                   rotate_left
                   ·intro w'
                    go_simp
                    with_reducible rfl
                   rotate_left
                   ·simp only [Act.put, sia, scz, scs, i64_w, i32_w]
                    rfl
                   refine pure_ (i := 6) (N := some 48) (v := ?_) (a' := ?_) #[true, true, false, true, false, true, true, false, false, false, false, false, false, false, false, false, false] rfl rfl (any_of HT_.out (by kernel_rfl)) (fun _ _ _ h => h) (Or.inl ⟨by rfl, ?_⟩) ?_ ?_
                   rotate_left
                   ·intro w'
                    go_simp
                    with_reducible rfl
                   rotate_left
                   ·simp only [Act.put, sia, scz, scs, i64_w, i32_w]
                    rfl
                   refine pure_ (i := 8) (N := some 50) (v := ?_) (a' := ?_) #[true, true, false, true, false, true, true, false, true, false, false, false, false, false, false, false, false] rfl rfl (any_of HT_.out (by kernel_rfl)) (fun _ _ _ h => h) (Or.inl ⟨by rfl, ?_⟩) ?_ ?_
                   rotate_left
                   ·intro w'
                    go_simp
                    with_reducible rfl
                   rotate_left
                   ·simp only [Act.put, sia, scz, scs, i64_w, i32_w]
                    rfl
                   refine pure_ (i := 12) (N := some 54) (v := ?_) (a' := ?_) #[true, true, false, true, false, true, true, false, true, false, false, false, true, false, false, false, false] rfl rfl (any_of HT_.out (by kernel_rfl)) (fun _ _ _ h => h) (Or.inl ⟨by rfl, ?_⟩) ?_ ?_
                   rotate_left
                   ·intro w'
                    go_simp
                    with_reducible rfl
                   rotate_left
                   ·simp only [Act.put, sia, scz, scs, i64_w, i32_w]
                    rfl
                   refine take_ (i := 2) (N := some 44) (v := ?_) (a' := ?_) #[true, true, true, true, false, true, true, false, true, false, false, false, true, false, false, false, false] rfl rfl (take_ofW HT_.out HW_.out (by kernel_rfl)) (fun _ _ _ h => h) (Or.inl ⟨by rfl, ?_⟩) hHeld ?_ ?_
                   rotate_left
                   ·rintro w' ⟨s0, s1, s2⟩
                    go_simp
                    with_reducible rfl
                   rotate_left
                   ·simp only [Act.put, sia, scz, scs, i64_w, i32_w]
                    rfl
                   refine pure_ (i := 4) (N := some 46) (v := ?_) (a' := ?_) #[true, true, true, true, true, true, true, false, true, false, false, false, true, false, false, false, false] rfl rfl (any_of HT_.out (by kernel_rfl)) (fun _ _ _ h => h) (Or.inl ⟨by rfl, ?_⟩) ?_ ?_
                   rotate_left
                   ·intro w'
                    go_simp
                    with_reducible rfl
                   rotate_left
                   ·simp only [Act.put, sia, scz, scs, i64_w, i32_w]
                    rfl
                   refine take_ (i := 7) (N := some 49) (v := ?_) (a' := ?_) #[true, true, true, true, true, true, true, true, true, false, false, false, true, false, false, false, false] rfl rfl (take_ofW HT_.out HW_.out (by kernel_rfl)) (fun _ _ _ h => h) (Or.inl ⟨by rfl, ?_⟩) hHeld ?_ ?_
                   rotate_left
                   ·rintro w' ⟨s0, s1, s2⟩
                    go_simp
                    with_reducible rfl
                   rotate_left
                   ·simp only [Act.put, sia, scz, scs, i64_w, i32_w]
                    rfl
                   refine pure_ (i := 9) (N := some 51) (v := ?_) (a' := ?_) #[true, true, true, true, true, true, true, true, true, true, false, false, true, false, false, false, false] rfl rfl (any_of HT_.out (by kernel_rfl)) (fun _ _ _ h => h) (Or.inl ⟨by rfl, ?_⟩) ?_ ?_
                   rotate_left
                   ·intro w'
                    go_simp
                    with_reducible rfl
                   rotate_left
                   ·simp only [Act.put, sia, scz, scs, i64_w, i32_w]
                    rfl
                   refine pure_ (i := 10) (N := some 52) (v := ?_) (a' := ?_) #[true, true, true, true, true, true, true, true, true, true, true, false, true, false, false, false, false] rfl rfl (any_of HT_.out (by kernel_rfl)) (fun _ _ _ h => h) (Or.inl ⟨by rfl, ?_⟩) ?_ ?_
                   rotate_left
                   ·intro w'
                    go_simp
                    with_reducible rfl
                   rotate_left
                   ·simp only [Act.put, sia, scz, scs, i64_w, i32_w]
                    rfl
                   refine take_ (i := 11) (N := some 53) (v := ?_) (a' := ?_) #[true, true, true, true, true, true, true, true, true, true, true, true, true, false, false, false, false] rfl rfl (take_ofW HT_.out HW_.out (by kernel_rfl)) (fun _ _ _ h => h) (Or.inl ⟨by rfl, ?_⟩) hHeld ?_ ?_
                   rotate_left
                   ·rintro w' ⟨s0, s1, s2⟩
                    go_simp
                    with_reducible rfl
                   rotate_left
                   ·simp only [Act.put, sia, scz, scs, i64_w, i32_w]
                    rfl
                   refine one_ (i := 13) (N := some 55) #[true, true, true, true, true, true, true, true, true, true, true, true, true, true, false, false, false] rfl rfl (one_of HT_.out (by kernel_rfl)) (by decide) (fun K hK => ?_)
                   refine value_ (w1 := ?_) (v := ?_) (by rfl) rfl ?_ ?_
                   rotate_left 2
                   ·go_simp
                    constructor
                    ·rfl
                    ·rfl
                   refine hK.out _ _ ⟨(kce (kal BK127.out _) 0).trans rfl, (kce (kal BK127.out _) 1).trans rfl, (World.cell?_alloc_lt _ _ _ (World.block_lt_of_cell? _ _ (hHeld.2.2))).trans (hHeld.2.2)⟩ (fun hHeld => ?_)
                   clear hK K
                   refine norm_ (a' := ?_) ?_ ?_
                   rotate_left
                   ·show Act.put _ (some 55) _ = _
                    simp only [Act.put, sia, scz, scs, i64_w, i32_w]
                    rfl
                   refine one_ (i := 14) (N := some 56) #[true, true, true, true, true, true, true, true, true, true, true, true, true, true, true, false, false] rfl rfl (one_of HT_.out (by kernel_rfl)) (by decide) (fun K hK => ?_)
                   refine Kd.R_append_step (Kd.int .i64) (w0 := w) w.heap.size (by rfl) (.tmp 53) (.tmp 55) 22 3 (.int .i64 0) 8 rfl Try.underlying22 info3 rfl (by decide) (by omega) (.slice A138_0 (rd_L2 y137 (ji20)).length c138_0) (rd_L2 y137 (ji20)) (rd (rd_L2 l0_1 x18_1) x25_2) [.int .i64 (rd (rd_L2 l0_1 x18_1) x25_2)] (fun k_ => oki34 k_ ∨ ((fun _ => True)) k_ ∧ w33.heap.size ≤ k_) (fun _ => False) rfl rfl ?aP (fun _ hk => hk.elim) ?aF ?aO ?aB ?aS ?aL ?_
                   (case aP => exact rfl)
                   (case aB => exact HB.out)
                   (case aF => exact (fun k_ hk => .inr ⟨trivial, hk⟩))
                   (case aO => exact (by (with_reducible repeat (first | apply Kd.R_alloc | apply Kd.R_drewN | apply Kd.R_drew)); exact Kd.R_mono UU34.out (fun _ hk => .inl hk)))
                   (case aS => exact (bsz HB.out))
                   (case aL => have := LMc23.out; omega)
                   intro v140 w35 ho hb hg hat
                   (first | have HS2_ := cell_grown hg (hHeld.2.2) (by first | (rw [add_block]; exact (fun e_ => ((HL138_0.out.1 _ e_.symm).2) rfl)) | (show some (Addr.add _ _).block ≠ _; rw [add_block]; exact (fun e_ => ((HL138_0.out.1 _ e_.symm).2) rfl)) | exact (fun e_ => ((HL138_0.out.1 _ e_.symm).2) rfl)) | have HS2_ := cell_grown hg (cell_unalloc (hHeld.2.2) (by first | (rw [add_block]; exact Kd.S_lt HO_3.out _ rfl) | (show (Addr.add _ _).block < _; rw [add_block]; exact Kd.S_lt HO_3.out _ rfl) | exact Kd.S_lt HO_3.out _ rfl)) (by first | (rw [add_block]; exact (fun e_ => ((HL138_0.out.1 _ e_.symm).2) rfl)) | (show some (Addr.add _ _).block ≠ _; rw [add_block]; exact (fun e_ => ((HL138_0.out.1 _ e_.symm).2) rfl)) | exact (fun e_ => ((HL138_0.out.1 _ e_.symm).2) rfl)))
                   rw [← Ny139.out] at ho
                   have n0_ := ak (blk_grown (g := gb127) (o := .cells #[.int .i64 a0_0, .slice (some ad131) l0_1.length c0_1] 31 (0, 0)) BK127.out hg (Kd.R_ne HL138_0.out BK127.out (by decide)))
                   have n1_ := ak (hb)
                   have n2_ := ak (Kd.H_grown (Kd.H_widen (by repeat (first | exact HH34.out | refine Kd.H_alloc ?_ _ | refine Kd.H_drewN ?_ _ | refine Kd.H_drew ?_))) hg (fun k_ e_ => .inl (UU34.out.1 k_ e_)))
                   have n3_ := ak (ho)
                   clear BK127
                   clear HB
                   clear HH34
                   clear HO_3
                   clear UU34
                   clear HL138_0
                   have BK127 := n0_
                   have HB := n1_
                   have HH34 := n2_
                   have HO141 := n3_
                   clear n0_ n1_ n2_ n3_
                   clear ho hb hg hat
                   have p24 : 0 ≤ ((ji20) : Int) := odt (by first | (with_reducible assumption) | assumption)
                   have q24 : ((ji20) : Int) < ((x3_2.length : Int) : Int) := odt (by first | (with_reducible assumption) | assumption)
                   replace p24 := eq_true p24
                   replace q24 := eq_true q24
                   obtain ⟨Ao38, co38, eo38⟩ := Kd.R_slice HO141.out
                   (first | subst eo38 | (injection eo38 with f1_ f2_ f3_; have f4_ := f1_.symm; have f5_ := f3_.symm; clear f1_ f2_ f3_; subst f4_; subst f5_))
                   obtain ⟨_, _, hraw36, _, _, hcc36, _⟩ := Kd.H_raw HH34.out (odt (by first | (with_reducible assumption) | assumption)) (by have h_ : ((ji20) : Int) < ((x3_2.length : Int) : Int) := odt (by first | (with_reducible assumption) | assumption); first | exact h_ | (have e_ := (HN34.out); omega) | simpa using h_)
                   obtain ⟨_, hfr36⟩ := Kd.H_at HH34.out (odt (by first | (with_reducible assumption) | assumption)) (by have h_ : ((ji20) : Int) < ((x3_2.length : Int) : Int) := odt (by first | (with_reducible assumption) | assumption); first | exact h_ | (have e_ := (HN34.out); omega) | simpa using h_)
                   have hx36_0 := hcc36 0 _ rfl
                   have hf36_0 := hfr36 0
                   (try simp only [Nat.add_zero] at hx36_0 hf36_0)
                   (try rw [show ((Kd.slice 3 (Kd.int .i64))).sz = 1 from rfl, Nat.mul_one] at hx36_0)
                   (try rw [show ((Kd.slice 3 (Kd.int .i64))).sz = 1 from rfl, Nat.mul_one] at hf36_0)
                   have HP36 := Kd.S_seg0 HH34.out (odt (by first | (with_reducible assumption) | assumption)) (by have h_ : ((ji20) : Int) < ((x3_2.length : Int) : Int) := odt (by first | (with_reducible assumption) | assumption); first | exact h_ | (have e_ := (HN34.out); omega) | simpa using h_) (seg := [.slice Ao38 y139.length co38]) (j := 0) (show 1 ≤ 1 from by decide) (x' := y139) (Kd.M_row HO141.out) (fun _ hk => hk)
                   (try simp only [show ((Kd.slice 3 (Kd.int .i64))).sz = 1 from rfl, Nat.mul_one, Nat.add_zero] at HP36)
                   clear hcc36 hfr36
                   have HNB127_go27 := ak (show gb127 ≠ go27 from by have h_ := Kd.R_ne hraw36 BK127.out (by decide); intro e_; exact h_ (by rw [e_]; rfl))
                   have HS36 := HP36.1
                   rw [← Ny142.out] at HS36
                   have HQ36 := ak HS36
                   obtain ⟨_, hgg36⟩ := Kd.R_typed hraw36 go27 rfl
                   have GG36_ := ak hgg36
                   clear HP36 HS36 hgg36
                   refine hK.out _ _ ⟨(kce BK127.out 0).trans rfl, (kce BK127.out 1).trans rfl, HS2_⟩ (fun hHeld => ?_)
                   clear hK K
                   refine norm_ (a' := ?_) ?_ ?_
                   rotate_left
                   ·show Act.put _ (some 56) _ = _
                    simp only [Act.put, sia, scz, scs, i64_w, i32_w]
                    rfl
                   refine pure_ (i := 15) (N := some 57) (v := ?_) (a' := ?_) #[true, true, true, true, true, true, true, true, true, true, true, true, true, true, true, true, false] rfl rfl (any_of HT_.out (by kernel_rfl)) (fun _ _ _ h => h) (Or.inl ⟨by rfl, ?_⟩) ?_ ?_
                   rotate_left
                   ·intro w'
                    go_simp
                    with_reducible rfl
                   rotate_left
                   ·simp only [Act.put, sia, scz, scs, i64_w, i32_w]
                    rfl
                   refine last_ (i := 16) (N := none) #[true, true, true, true, true, true, true, true, true, true, true, true, true, true, true, true, true] rfl rfl (one_of HT_.out (by kernel_rfl)) (by decide) (fun K hK => ?_)
                   refine skip_ (w1 := ?_) (by rfl) rfl ?_ ?_
                   rotate_left
                   ·go_simp
                    rfl
                   refine hK.out _ _ ?_
                   clear hK K
                   refine done_ (done_of HT_.out (by kernel_rfl)) ?_
                   try go_wp2
                   go_roundg k2
                   case measure => have := HK1.out; have := HK2.out; omega
                   case rel => exact ⟨(y142), (wrap64 (x25_2 + 1)), (by first | rfl | (simp; done) | (simp [*]; done)), H', ⟨by have := HK1.out; have := HK2.out; omega⟩, ⟨by (with_reducible repeat (first | apply Kd.S_alloc | apply Kd.S_drewN | apply Kd.S_drew)); exact HQ36.out⟩, ⟨by (with_reducible repeat (first | refine kdn ?_ _ | refine kdr ?_ | refine kal ?_ _)); refine blk_far ?_ HNB127_go27.out _; (with_reducible repeat (first | refine kdn ?_ _ | refine kdr ?_ | refine kal ?_ _)); exact BK127.out⟩, ⟨by repeat (first | (with_reducible first | exact HB.out | apply bal | apply pbn | apply bd1 | refine bst ?_ GB27.out | refine bst ?_ GE127.out) | exact HB.out)⟩⟩
                  ·rw [if_neg c23] at H
                   exact absurd H (by simp)
                 ·rw [if_neg c22] at H
                  exact absurd H (by simp)
                ·rw [if_neg c21] at H
                 exact absurd H (by simp)
               ·rw [if_neg c18] at H
                exact absurd H (by simp)
              ·rw [if_neg c17] at H
               exact absurd H (by simp)
             ·rw [if_neg c16] at H
              exact absurd H (by simp)
            ·rw [if_neg c15] at H
             exact absurd H (by simp)
           ·rw [if_neg c14] at H
            exact absurd H (by simp)
          ·rw [if_neg c13] at H
           have c13b0 : decide (x25_2 < ((rd_L2 l0_1 x18_1).length : Int)) = false := dff c13
           clear c13
           have H' := ak H
           clear H
           go_wp2
           go_roundg k2
           case measure => have := HK1.out; have := HK2.out; omega
           case rel => exact ⟨(x3_2), (wrap64 (x18_1 + 1)), (by first | rfl | (simp; done) | (simp [*]; done)), H', ⟨by have := HK1.out; have := HK2.out; omega⟩, ⟨by (with_reducible repeat (first | apply Kd.S_alloc | apply Kd.S_drewN | apply Kd.S_drew)); exact HO_3.out⟩, ⟨by (with_reducible repeat (first | refine kdn ?_ _ | refine kdr ?_ | refine kal ?_ _)); exact BK127.out⟩, ⟨by repeat (first | (with_reducible first | exact HB.out | apply bal | apply pbn | apply bd1 | refine bst ?_ GE127.out) | exact HB.out)⟩⟩
       ·rw [if_neg c12] at H
        exact absurd H (by simp)
      ·rw [if_neg c11] at H
       exact absurd H (by simp)
     ·rw [if_neg c10] at H
      have c10b0 : decide (x18_1 < (l0_1.length : Int)) = false := dff c10
      clear c10
      obtain rfl := osi H
      go_wp2
      go_ret
      exact ⟨_, by first | rfl | (simp <;> rfl) | (simp only [← hji2]; first | rfl | (simp <;> rfl)) | (simp [*] <;> rfl), by (with_reducible repeat (first | apply Kd.S_alloc | apply Kd.S_drewN | apply Kd.S_drew)); exact HO_3.out, by repeat (first | (with_reducible first | exact HB.out | apply bal | apply pbn | apply bd1 | refine bst ?_ GE127.out) | exact HB.out)⟩
  ·rw [if_neg c4] at H
   exact absurd H (by simp)
 ·rw [if_neg c3] at H
  exact absurd H (by simp)
mutual
def peel_around.l0 : Nat → List (List Int) → Int → List Int → List Int → Int → Int → Option (Int)
 | 0, _, _, _, _, _, _ => none
 | k + 1, x0, x1, x5, x6, x21, x22 => if x22 < x21 then (if 0 ≤ x22 then (if x22 < (x5.length : Int) then (peel_around.l0 k x0 x1 (x5.set (x22 : Int).toNat (-1)) x6 x21 (wrap64 (x22 + 1))) else (none)) else (none)) else (if 0 ≤ x1 then (if x1 < (x5.length : Int) then (if x1 < (x6.length : Int) then (peel_around.l1 k x0 (x5.set (x1 : Int).toNat 0) (x6.set (x1 : Int).toNat (-1)) (([x1] : List Int)) 0 0) else (none)) else (none)) else (none))
def peel_around.l1 : Nat → List (List Int) → List Int → List Int → List Int → Int → Int → Option (Int)
 | 0, _, _, _, _, _, _ => none
 | k + 1, x0, x5, x6, x8, x9, x10 => if x10 < (x8.length : Int) then (if 0 ≤ x10 then (if 0 ≤ (rd x8 x10) then (if (rd x8 x10) < (x0.length : Int) then (peel_around.l2 k x0 x5 x6 x8 x9 x10 (rd x8 x10) (rd_L2 x0 (rd x8 x10)) ((rd_L2 x0 (rd x8 x10)).length : Int) 0) else (none)) else (none)) else (none)) else (some x9)
def peel_around.l2 : Nat → List (List Int) → List Int → List Int → List Int → Int → Int → Int → List Int → Int → Int → Option (Int)
 | 0, _, _, _, _, _, _, _, _, _, _ => none
 | k + 1, x0, x5, x6, x8, x9, x10, x11, x50, x51, x52 => if x52 < x51 then (if 0 ≤ x52 then (if x52 < (x50.length : Int) then (if 0 ≤ (rd x50 x52) then (if (rd x50 x52) < (x5.length : Int) then (if (rd x5 (rd x50 x52)) < 0 then (if 0 ≤ x11 then (if x11 < (x5.length : Int) then (if (rd x50 x52) < (x6.length : Int) then (if x8.length < 17592186044416 then (peel_around.l2 k x0 (x5.set ((rd x50 x52) : Int).toNat (wrap64 ((rd x5 x11) + 1))) (x6.set ((rd x50 x52) : Int).toNat x11) (x8 ++ [rd x50 x52]) x9 x10 x11 x50 x51 (wrap64 (x52 + 1))) else (none)) else (none)) else (none)) else (none)) else (if 0 ≤ x11 then (if x11 < (x6.length : Int) then (if (rd x50 x52) = (rd x6 x11) then (peel_around.l2 k x0 x5 x6 x8 x9 x10 x11 x50 x51 (wrap64 (x52 + 1))) else (if x9 = 0 then (if x11 < (x5.length : Int) then (peel_around.l2 k x0 x5 x6 x8 (wrap64 ((wrap64 ((rd x5 x11) + (rd x5 (rd x50 x52)))) + 1)) x10 x11 x50 x51 (wrap64 (x52 + 1))) else (none)) else (if x11 < (x5.length : Int) then (if (wrap64 ((wrap64 ((rd x5 x11) + (rd x5 (rd x50 x52)))) + 1)) < x9 then (peel_around.l2 k x0 x5 x6 x8 (wrap64 ((wrap64 ((rd x5 x11) + (rd x5 (rd x50 x52)))) + 1)) x10 x11 x50 x51 (wrap64 (x52 + 1))) else (peel_around.l2 k x0 x5 x6 x8 x9 x10 x11 x50 x51 (wrap64 (x52 + 1)))) else (none)))) else (none)) else (none))) else (none)) else (none)) else (none)) else (none)) else (peel_around.l1 k x0 x5 x6 x8 x9 (wrap64 (x10 + 1)))
end
def peel_around.f (k : Nat) (l0 : List (List Int)) (a1 : Int) : Option (Int) := if 0 ≤ (l0.length : Int) then (if ((l0.length : Int) : Int).toNat ≤ 35184372088832 then ((some (List.replicate ((l0.length : Int) : Int).toNat 0 : List Int)).bind fun y143 => (peel_around.l0 k l0 a1 y143 (List.replicate ((l0.length : Int) : Int).toNat 0) (y143.length : Int) 0)) else (none)) else (none)
theorem peel_around.calls (k : Nat) (A0 : Option Addr) (c0 : Nat) (l0 : List (List Int)) (a1 : Int) (r : Int) (w : World) (hr0 : Kd.C (Kd.slice 3 (Kd.int .i64)) w A0 l0.length l0) (hc0 : l0.length ≤ c0) (h : peel_around.f k l0 a1 = some r) :
  Calls Try.prog 46 #[.slice A0 l0.length c0, .int .i64 a1] w fun e w' => e = .returned (.int .i64 r) ∧ Below w.heap.size w w' := by
 have HR0 := ak hr0
 have HC0 := ak hc0
 clear hr0 hc0
 have HB := ak (Below.refl w.heap.size w)
 have H : (if 0 ≤ (l0.length : Int) then (if ((l0.length : Int) : Int).toNat ≤ 35184372088832 then ((some (List.replicate ((l0.length : Int) : Int).toNat 0 : List Int)).bind fun y143 => (peel_around.l0 k l0 a1 y143 (List.replicate ((l0.length : Int) : Int).toNat 0) (y143.length : Int) 0)) else (none)) else (none)) = some r := h
 clear h
 by_cases c3 : 0 ≤ (l0.length : Int)
 ·rw [if_pos c3] at H
  have c3b0 := eq_true c3
  have c3b1 : decide (0 ≤ (l0.length : Int)) = true := det c3
  clear c3
  by_cases c4 : ((l0.length : Int) : Int).toNat ≤ 35184372088832
  ·rw [if_pos c4] at H
   have c4b0 := eq_true c4
   have c4b1 : decide (((l0.length : Int) : Int).toNat ≤ 35184372088832) = true := det c4
   clear c4
   obtain ⟨y143, hy143⟩ : ∃ y_ : List Int, y_ = (List.replicate ((l0.length : Int) : Int).toNat 0) := ⟨_, rfl⟩
   replace H : (peel_around.l0 k l0 a1 y143 (List.replicate ((l0.length : Int) : Int).toNat 0) (y143.length : Int) 0) = some r := by first | (rw [hy143]; with_reducible exact H) | (have H2_ := (Option.bind_some _ _).symm.trans H; rw [hy143]; with_reducible exact H2_) | (have H2_ := (Option.bind_some _ _).symm.trans H; with_reducible exact H2_) | with_reducible exact H | (rw [hy143]; exact H) | exact H
   have Ny143 := ak hy143
   clear hy143
   obtain ⟨y146, hy146⟩ : ∃ y_ : List Int, y_ = (List.replicate ((l0.length : Int) : Int).toNat 0) := ⟨_, rfl⟩
   replace H : (peel_around.l0 k l0 a1 y143 y146 (y143.length : Int) 0) = some r := by first | (rw [hy146]; with_reducible exact H) | (have H2_ := (Option.bind_some _ _).symm.trans H; rw [hy146]; with_reducible exact H2_) | (have H2_ := (Option.bind_some _ _).symm.trans H; with_reducible exact H2_) | with_reducible exact H | (rw [hy146]; exact H) | exact H
   have Ny146 := ak hy146
   clear hy146
   have H' := ak H
   clear H
   go_enter Try.func46, Try.ntmps46
   go_wp2_with (first | ((with_reducible refine gate_dst (N := 16) rfl ?_); refine Kd.R_make (Kd.int .i64) _ 3 rfl (N := 16) rfl 22 _ _ rfl (l0.length : Int) rfl rfl Try.underlying22 (.int .i64 0) 8 info3 rfl (by decide) (by omega) 0 (ok := fun _ => True) (okp := fun _ => True) rfl (fun _ hk => hk) trivial (odt (by first | (with_reducible assumption) | assumption)) (Nat.le_trans (Nat.mul_le_mul_right _ (odt (by first | (with_reducible assumption) | assumption) : (l0.length : Int).toNat ≤ 35184372088832)) (by omega)) (Below.refl _ _) (Nat.le_refl _) ?_; intro v144 w5 ho6 hb hg_ hnew_; clear hg_ hnew_; (first | rw [← Ny143.out] at ho6 | (simp only [Int.reduceToNat] at ho6; rw [← Ny143.out] at ho6)); have n0_ := ak (Kd.R_lower ho6 (bsz HB.out)); have n1_ := ak (bsp HB.out hb); clear HB; have HO145 := n0_; have HB := n1_; clear n0_ n1_; clear hb ho6) | ((with_reducible refine gate_dst (N := 19) rfl ?_); refine Kd.R_make (Kd.int .i64) _ 3 rfl (N := 19) rfl 22 _ _ rfl (l0.length : Int) rfl rfl Try.underlying22 (.int .i64 0) 8 info3 rfl (by decide) (by omega) 0 (ok := fun _ => True) (okp := fun _ => True) rfl (fun _ hk => hk) trivial (odt (by first | (with_reducible assumption) | assumption)) (Nat.le_trans (Nat.mul_le_mul_right _ (odt (by first | (with_reducible assumption) | assumption) : (l0.length : Int).toNat ≤ 35184372088832)) (by omega)) (Below.refl _ _) (Nat.le_refl _) ?_; intro v147 w7 ho8 hb hg_ hnew_; clear hg_ hnew_; (first | rw [← Ny146.out] at ho8 | (simp only [Int.reduceToNat] at ho8; rw [← Ny146.out] at ho8)); have n0_ := ak (Kd.R_elder' HO145.out (Kd.R_base ho8) hb); have n1_ := ak (Kd.R_lower (Kd.R_new' ho8 (Kd.R_lt HO145.out)) (bsz HB.out)); have n2_ := ak (bsp HB.out hb); clear HO145 HB; have HO145 := n0_; have HO148 := n1_; have HB := n2_; clear n0_ n1_ n2_; clear hb ho8; obtain ⟨Ao9, co9, eo9⟩ := Kd.R_slice HO145.out; subst eo9))
   repeat (go_quiet (first | ((with_reducible refine gate_dst (N := 16) rfl ?_); refine Kd.R_make (Kd.int .i64) _ 3 rfl (N := 16) rfl 22 _ _ rfl (l0.length : Int) rfl rfl Try.underlying22 (.int .i64 0) 8 info3 rfl (by decide) (by omega) 0 (ok := fun _ => True) (okp := fun _ => True) rfl (fun _ hk => hk) trivial (odt (by first | (with_reducible assumption) | assumption)) (Nat.le_trans (Nat.mul_le_mul_right _ (odt (by first | (with_reducible assumption) | assumption) : (l0.length : Int).toNat ≤ 35184372088832)) (by omega)) (Below.refl _ _) (Nat.le_refl _) ?_; intro v144 w5 ho6 hb hg_ hnew_; clear hg_ hnew_; (first | rw [← Ny143.out] at ho6 | (simp only [Int.reduceToNat] at ho6; rw [← Ny143.out] at ho6)); have n0_ := ak (Kd.R_lower ho6 (bsz HB.out)); have n1_ := ak (bsp HB.out hb); clear HB; have HO145 := n0_; have HB := n1_; clear n0_ n1_; clear hb ho6) | ((with_reducible refine gate_dst (N := 19) rfl ?_); refine Kd.R_make (Kd.int .i64) _ 3 rfl (N := 19) rfl 22 _ _ rfl (l0.length : Int) rfl rfl Try.underlying22 (.int .i64 0) 8 info3 rfl (by decide) (by omega) 0 (ok := fun _ => True) (okp := fun _ => True) rfl (fun _ hk => hk) trivial (odt (by first | (with_reducible assumption) | assumption)) (Nat.le_trans (Nat.mul_le_mul_right _ (odt (by first | (with_reducible assumption) | assumption) : (l0.length : Int).toNat ≤ 35184372088832)) (by omega)) (Below.refl _ _) (Nat.le_refl _) ?_; intro v147 w7 ho8 hb hg_ hnew_; clear hg_ hnew_; (first | rw [← Ny146.out] at ho8 | (simp only [Int.reduceToNat] at ho8; rw [← Ny146.out] at ho8)); have n0_ := ak (Kd.R_elder' HO145.out (Kd.R_base ho8) hb); have n1_ := ak (Kd.R_lower (Kd.R_new' ho8 (Kd.R_lt HO145.out)) (bsz HB.out)); have n2_ := ak (bsp HB.out hb); clear HO145 HB; have HO145 := n0_; have HO148 := n1_; have HB := n2_; clear n0_ n1_ n2_; clear hb ho8; obtain ⟨Ao9, co9, eo9⟩ := Kd.R_slice HO145.out; subst eo9)); try go_wp2_with (first | ((with_reducible refine gate_dst (N := 16) rfl ?_); refine Kd.R_make (Kd.int .i64) _ 3 rfl (N := 16) rfl 22 _ _ rfl (l0.length : Int) rfl rfl Try.underlying22 (.int .i64 0) 8 info3 rfl (by decide) (by omega) 0 (ok := fun _ => True) (okp := fun _ => True) rfl (fun _ hk => hk) trivial (odt (by first | (with_reducible assumption) | assumption)) (Nat.le_trans (Nat.mul_le_mul_right _ (odt (by first | (with_reducible assumption) | assumption) : (l0.length : Int).toNat ≤ 35184372088832)) (by omega)) (Below.refl _ _) (Nat.le_refl _) ?_; intro v144 w5 ho6 hb hg_ hnew_; clear hg_ hnew_; (first | rw [← Ny143.out] at ho6 | (simp only [Int.reduceToNat] at ho6; rw [← Ny143.out] at ho6)); have n0_ := ak (Kd.R_lower ho6 (bsz HB.out)); have n1_ := ak (bsp HB.out hb); clear HB; have HO145 := n0_; have HB := n1_; clear n0_ n1_; clear hb ho6) | ((with_reducible refine gate_dst (N := 19) rfl ?_); refine Kd.R_make (Kd.int .i64) _ 3 rfl (N := 19) rfl 22 _ _ rfl (l0.length : Int) rfl rfl Try.underlying22 (.int .i64 0) 8 info3 rfl (by decide) (by omega) 0 (ok := fun _ => True) (okp := fun _ => True) rfl (fun _ hk => hk) trivial (odt (by first | (with_reducible assumption) | assumption)) (Nat.le_trans (Nat.mul_le_mul_right _ (odt (by first | (with_reducible assumption) | assumption) : (l0.length : Int).toNat ≤ 35184372088832)) (by omega)) (Below.refl _ _) (Nat.le_refl _) ?_; intro v147 w7 ho8 hb hg_ hnew_; clear hg_ hnew_; (first | rw [← Ny146.out] at ho8 | (simp only [Int.reduceToNat] at ho8; rw [← Ny146.out] at ho8)); have n0_ := ak (Kd.R_elder' HO145.out (Kd.R_base ho8) hb); have n1_ := ak (Kd.R_lower (Kd.R_new' ho8 (Kd.R_lt HO145.out)) (bsz HB.out)); have n2_ := ak (bsp HB.out hb); clear HO145 HB; have HO145 := n0_; have HO148 := n1_; have HB := n2_; clear n0_ n1_ n2_; clear hb ho8; obtain ⟨Ao9, co9, eo9⟩ := Kd.R_slice HO145.out; subst eo9)))
   go_loopg [22] k (fun kq v22 w' => ∃ (x5_1 : List Int) (x22_1 : Int), v22 = .int .i64 x22_1 ∧ Aside0 (peel_around.l0 kq l0 a1 x5_1 y146 (y143.length : Int) x22_1 = some r) ∧ Aside0 (kq ≤ k) ∧ Aside0 (Kd.R (Kd.int .i64) 3 w' w.heap.size (fun k_ => some k_ ≠ (v147 : Value).ownBlock) (.slice Ao9 y143.length co9) x5_1) ∧ Aside0 (Kd.R (Kd.int .i64) 3 w' w.heap.size (fun k_ => some k_ ≠ ((.slice Ao9 y143.length co9) : Value).ownBlock) v147 y146) ∧ Aside0 (Below w.heap.size w w'))
   case atStart => exact ⟨(y143), (0), (by first | rfl | (simp; done) | (simp [*]; done)), H', ⟨Nat.le_refl _⟩, ⟨by (with_reducible repeat (first | apply Kd.R_alloc | apply Kd.R_drewN | apply Kd.R_drew)); exact Kd.R_mono HO145.out (fun _ hk => hk.2)⟩, ⟨by (with_reducible repeat (first | apply Kd.R_alloc | apply Kd.R_drewN | apply Kd.R_drew)); exact Kd.R_mono HO148.out (fun _ hk => hk.2)⟩, ⟨by repeat (first | (with_reducible first | exact HB.out | apply bal | apply pbn | apply bd1) | exact HB.out)⟩⟩
   case round =>
    clear H'
    obtain ⟨x5_1, x22_1, rfl, HA, HK1, HO_5, HO_6, HB⟩ := hrel
    have hl5_1 := (Kd.R_reads' HO_5.out).1
    rw [hl5_1] at HO_5
    (try simp only [hl5_1])
    (try simp only [hl5_1] at HO_6)
    cases gk with
    | zero => exact absurd HA.out (by simp [peel_around.l0])
    | succ k1 =>
     have H := HA.out
     clear HA
     simp only [peel_around.l0] at H
     by_cases c10 : x22_1 < (y143.length : Int)
     ·rw [if_pos c10] at H
      have c10b0 : decide (x22_1 < (y143.length : Int)) = true := det c10
      (try simp only [hl5_1] at c10b0)
      clear c10
      by_cases c11 : 0 ≤ x22_1
      ·rw [if_pos c11] at H
       have c11b0 : decide (0 ≤ x22_1) = true := det c11
       clear c11
       by_cases c12 : x22_1 < (x5_1.length : Int)
       ·rw [if_pos c12] at H
        have c12b0 : decide (x22_1 < (x5_1.length : Int)) = true := det c12
        clear c12
        obtain ⟨y149, hy149⟩ : ∃ y_ : List Int, y_ = (x5_1.set (x22_1 : Int).toNat (-1)) := ⟨_, rfl⟩
        replace H : (peel_around.l0 k1 l0 a1 y149 y146 (y143.length : Int) (wrap64 (x22_1 + 1))) = some r := by first | (rw [hy149]; with_reducible exact H) | (have H2_ := (Option.bind_some _ _).symm.trans H; rw [hy149]; with_reducible exact H2_) | (have H2_ := (Option.bind_some _ _).symm.trans H; with_reducible exact H2_) | with_reducible exact H | (rw [hy149]; exact H) | exact H
        have Ny149 := ak hy149
        clear hy149
        have H' := ak H
        clear H
        have p13 : 0 ≤ (x22_1 : Int) := odt (by first | (with_reducible assumption) | assumption)
        have q13 : (x22_1 : Int) < ((x5_1.length : Int) : Int) := odt (by first | (with_reducible assumption) | assumption)
        obtain ⟨go13, co13, eo13, gb13, gl13, cl13, HG13⟩ := Kd.R_form HO_5.out (by omega)
        (first | cases eo13 | (injection eo13 with ea_ en_ ec_; (first | subst ea_ | (injection ea_ with ea_; subst ea_)); subst ec_; clear en_))
        have GB13 := ak gb13
        have GG13 := ak HG13
        clear gb13 gl13 HG13
        obtain ⟨hx13_0, hf13_0⟩ := Kd.R_celln 0 HO_5.out (x22_1 : Int) p13 q13
        replace p13 := eq_true p13
        replace q13 := eq_true q13
        have HP14 := Kd.R_putg HO_5.out (x22_1 : Int) (-1)
        go_wp2_with (first | ((with_reducible refine gate_store (t := 3) (p := 27) rfl ?_); (try (rw [drewN_self wr]; generalize hq_ : World.drewN wr _ = wr; have n0_ := ak (Kd.R_at hq_ HO_5.out); have n1_ := ak (Kd.R_at hq_ HO_6.out); have n2_ := ak (below_at hq_ HB.out); clear hq_ HO_5 HO_6 HB; have HO_5 := n0_; have HO_6 := n1_; have HB := n2_; clear n0_ n1_ n2_; (try (have HP14 := Kd.R_putg HO_5.out (x22_1 : Int) (-1))))); refine store_event (t := 3) (p := 27) (v := ?vo_w15) (w1 := (wr.setCell ⟨go13, (x22_1 : Int).toNat, none⟩ (.int .i64 (-1)))) ?hg ?ho ?hn ?hr ?_; (case ho => rfl); (case hg => rfl); (case hn => rfl); (case hr => first | (go_simp; done) | (go_simp; rfl)); intro w15 hw; have hg : wr.grownBy w15 (some go13) := (by rw [hw]; exact HP14.2); have hp_ : Kd.R (Kd.int .i64) 3 w15 w.heap.size (fun k_ => some k_ ≠ (v147 : Value).ownBlock) (.slice (some ⟨go13, 0, none⟩) x5_1.length co9) y149 := (by rw [hw, Ny149.out]; exact HP14.1); clear HP14; have n0_ := ak (hp_); have n1_ := ak (Kd.R_after (v := (.slice (some ⟨go13, 0, none⟩) x5_1.length co9)) (v1 := (.slice (some ⟨go13, 0, none⟩) x5_1.length co9)) (ok := (fun _ => True)) (by (with_reducible repeat (first | apply Kd.R_alloc | apply Kd.R_drewN | apply Kd.R_drew)); exact Kd.R_mono HO_6.out (fun _ hk => ⟨trivial, hk⟩)) hg (.inl rfl)); have n2_ := ak ((by rw [hw]; exact bst (HB.out) GB13.out : Below w.heap.size w w15)); clear HO_5 HO_6 HB; have HO_5 := n0_; have HO_6 := n1_; have HB := n2_; clear n0_ n1_ n2_; clear hg hw hp_))
        repeat (go_quiet (first | ((with_reducible refine gate_store (t := 3) (p := 27) rfl ?_); (try (rw [drewN_self wr]; generalize hq_ : World.drewN wr _ = wr; have n0_ := ak (Kd.R_at hq_ HO_5.out); have n1_ := ak (Kd.R_at hq_ HO_6.out); have n2_ := ak (below_at hq_ HB.out); clear hq_ HO_5 HO_6 HB; have HO_5 := n0_; have HO_6 := n1_; have HB := n2_; clear n0_ n1_ n2_; (try (have HP14 := Kd.R_putg HO_5.out (x22_1 : Int) (-1))))); refine store_event (t := 3) (p := 27) (v := ?vo_w15) (w1 := (wr.setCell ⟨go13, (x22_1 : Int).toNat, none⟩ (.int .i64 (-1)))) ?hg ?ho ?hn ?hr ?_; (case ho => rfl); (case hg => rfl); (case hn => rfl); (case hr => first | (go_simp; done) | (go_simp; rfl)); intro w15 hw; have hg : wr.grownBy w15 (some go13) := (by rw [hw]; exact HP14.2); have hp_ : Kd.R (Kd.int .i64) 3 w15 w.heap.size (fun k_ => some k_ ≠ (v147 : Value).ownBlock) (.slice (some ⟨go13, 0, none⟩) x5_1.length co9) y149 := (by rw [hw, Ny149.out]; exact HP14.1); clear HP14; have n0_ := ak (hp_); have n1_ := ak (Kd.R_after (v := (.slice (some ⟨go13, 0, none⟩) x5_1.length co9)) (v1 := (.slice (some ⟨go13, 0, none⟩) x5_1.length co9)) (ok := (fun _ => True)) (by (with_reducible repeat (first | apply Kd.R_alloc | apply Kd.R_drewN | apply Kd.R_drew)); exact Kd.R_mono HO_6.out (fun _ hk => ⟨trivial, hk⟩)) hg (.inl rfl)); have n2_ := ak ((by rw [hw]; exact bst (HB.out) GB13.out : Below w.heap.size w w15)); clear HO_5 HO_6 HB; have HO_5 := n0_; have HO_6 := n1_; have HB := n2_; clear n0_ n1_ n2_; clear hg hw hp_)); try go_wp2_with (first | ((with_reducible refine gate_store (t := 3) (p := 27) rfl ?_); (try (rw [drewN_self wr]; generalize hq_ : World.drewN wr _ = wr; have n0_ := ak (Kd.R_at hq_ HO_5.out); have n1_ := ak (Kd.R_at hq_ HO_6.out); have n2_ := ak (below_at hq_ HB.out); clear hq_ HO_5 HO_6 HB; have HO_5 := n0_; have HO_6 := n1_; have HB := n2_; clear n0_ n1_ n2_; (try (have HP14 := Kd.R_putg HO_5.out (x22_1 : Int) (-1))))); refine store_event (t := 3) (p := 27) (v := ?vo_w15) (w1 := (wr.setCell ⟨go13, (x22_1 : Int).toNat, none⟩ (.int .i64 (-1)))) ?hg ?ho ?hn ?hr ?_; (case ho => rfl); (case hg => rfl); (case hn => rfl); (case hr => first | (go_simp; done) | (go_simp; rfl)); intro w15 hw; have hg : wr.grownBy w15 (some go13) := (by rw [hw]; exact HP14.2); have hp_ : Kd.R (Kd.int .i64) 3 w15 w.heap.size (fun k_ => some k_ ≠ (v147 : Value).ownBlock) (.slice (some ⟨go13, 0, none⟩) x5_1.length co9) y149 := (by rw [hw, Ny149.out]; exact HP14.1); clear HP14; have n0_ := ak (hp_); have n1_ := ak (Kd.R_after (v := (.slice (some ⟨go13, 0, none⟩) x5_1.length co9)) (v1 := (.slice (some ⟨go13, 0, none⟩) x5_1.length co9)) (ok := (fun _ => True)) (by (with_reducible repeat (first | apply Kd.R_alloc | apply Kd.R_drewN | apply Kd.R_drew)); exact Kd.R_mono HO_6.out (fun _ hk => ⟨trivial, hk⟩)) hg (.inl rfl)); have n2_ := ak ((by rw [hw]; exact bst (HB.out) GB13.out : Below w.heap.size w w15)); clear HO_5 HO_6 HB; have HO_5 := n0_; have HO_6 := n1_; have HB := n2_; clear n0_ n1_ n2_; clear hg hw hp_)))
        (try simp only [← hl5_1])
        go_roundg k1
        case measure => have := HK1.out; omega
        case rel => exact ⟨(y149), (wrap64 (x22_1 + 1)), (by first | rfl | (simp; done) | (simp [*]; done)), H', ⟨by have := HK1.out; omega⟩, ⟨by (try simp only [hl5_1]); (with_reducible repeat (first | apply Kd.R_alloc | apply Kd.R_drewN | apply Kd.R_drew)); exact HO_5.out⟩, ⟨by (try simp only [hl5_1]); (with_reducible repeat (first | apply Kd.R_alloc | apply Kd.R_drewN | apply Kd.R_drew)); exact Kd.R_mono HO_6.out (fun _ hk => hk.2)⟩, ⟨by repeat (first | (with_reducible first | exact HB.out | apply bal | apply pbn | apply bd1) | exact HB.out)⟩⟩
       ·rw [if_neg c12] at H
        exact absurd H (by simp)
      ·rw [if_neg c11] at H
       exact absurd H (by simp)
     ·rw [if_neg c10] at H
      have c10b0 : decide (x22_1 < (y143.length : Int)) = false := dff c10
      (try simp only [hl5_1] at c10b0)
      clear c10
      by_cases c16 : 0 ≤ a1
      ·rw [if_pos c16] at H
       have c16b0 : decide (0 ≤ a1) = true := det c16
       clear c16
       by_cases c17 : a1 < (x5_1.length : Int)
       ·rw [if_pos c17] at H
        have c17b0 : decide (a1 < (x5_1.length : Int)) = true := det c17
        clear c17
        obtain ⟨y150, hy150⟩ : ∃ y_ : List Int, y_ = (x5_1.set (a1 : Int).toNat 0) := ⟨_, rfl⟩
        replace H : (if a1 < (y146.length : Int) then (peel_around.l1 k1 l0 y150 (y146.set (a1 : Int).toNat (-1)) (([a1] : List Int)) 0 0) else (none)) = some r := by first | (rw [hy150]; with_reducible exact H) | (have H2_ := (Option.bind_some _ _).symm.trans H; rw [hy150]; with_reducible exact H2_) | (have H2_ := (Option.bind_some _ _).symm.trans H; with_reducible exact H2_) | with_reducible exact H | (rw [hy150]; exact H) | exact H
        have Ny150 := ak hy150
        clear hy150
        by_cases c19 : a1 < (y146.length : Int)
        ·rw [if_pos c19] at H
         have c19b0 : decide (a1 < (y146.length : Int)) = true := det c19
         clear c19
         obtain ⟨y151, hy151⟩ : ∃ y_ : List Int, y_ = (y146.set (a1 : Int).toNat (-1)) := ⟨_, rfl⟩
         replace H : (peel_around.l1 k1 l0 y150 y151 (([a1] : List Int)) 0 0) = some r := by first | (rw [hy151]; with_reducible exact H) | (have H2_ := (Option.bind_some _ _).symm.trans H; rw [hy151]; with_reducible exact H2_) | (have H2_ := (Option.bind_some _ _).symm.trans H; with_reducible exact H2_) | with_reducible exact H | (rw [hy151]; exact H) | exact H
         have Ny151 := ak hy151
         clear hy151
         obtain ⟨y152, hy152⟩ : ∃ y_ : List Int, y_ = (([a1] : List Int)) := ⟨_, rfl⟩
         replace H : (peel_around.l1 k1 l0 y150 y151 y152 0 0) = some r := by first | (rw [hy152]; with_reducible exact H) | (have H2_ := (Option.bind_some _ _).symm.trans H; rw [hy152]; with_reducible exact H2_) | (have H2_ := (Option.bind_some _ _).symm.trans H; with_reducible exact H2_) | with_reducible exact H | (rw [hy152]; exact H) | exact H
         have Ny152 := ak hy152
         clear hy152
         have H' := ak H
         clear H
         have p18 : 0 ≤ (a1 : Int) := odt (by first | (with_reducible assumption) | assumption)
         have q18 : (a1 : Int) < ((x5_1.length : Int) : Int) := odt (by first | (with_reducible assumption) | assumption)
         obtain ⟨go18, co18, eo18, gb18, gl18, cl18, HG18⟩ := Kd.R_form HO_5.out (by omega)
         (first | cases eo18 | (injection eo18 with ea_ en_ ec_; (first | subst ea_ | (injection ea_ with ea_; subst ea_)); subst ec_; clear en_))
         have GB18 := ak gb18
         have GG18 := ak HG18
         clear gb18 gl18 HG18
         obtain ⟨hx18_0, hf18_0⟩ := Kd.R_celln 0 HO_5.out (a1 : Int) p18 q18
         replace p18 := eq_true p18
         replace q18 := eq_true q18
         have HP21 := Kd.R_putg HO_5.out (a1 : Int) 0
         go_wp2_with (first | ((with_reducible refine gate_store (t := 3) (p := 33) rfl ?_); (try (rw [drewN_self wr]; generalize hq_ : World.drewN wr _ = wr; have n0_ := ak (Kd.R_at hq_ HO_5.out); have n1_ := ak (Kd.R_at hq_ HO_6.out); have n2_ := ak (below_at hq_ HB.out); clear hq_ HO_5 HO_6 HB; have HO_5 := n0_; have HO_6 := n1_; have HB := n2_; clear n0_ n1_ n2_; (try (have HP21 := Kd.R_putg HO_5.out (a1 : Int) 0)))); refine store_event (t := 3) (p := 33) (v := ?vo_w22) (w1 := (wr.setCell ⟨go18, (a1 : Int).toNat, none⟩ (.int .i64 0))) ?hg ?ho ?hn ?hr ?_; (case ho => rfl); (case hg => rfl); (case hn => rfl); (case hr => first | (go_simp; done) | (go_simp; rfl)); intro w22 hw; have hg : wr.grownBy w22 (some go18) := (by rw [hw]; exact HP21.2); have hp_ : Kd.R (Kd.int .i64) 3 w22 w.heap.size (fun k_ => some k_ ≠ (v147 : Value).ownBlock) (.slice (some ⟨go18, 0, none⟩) x5_1.length co9) y150 := (by rw [hw, Ny150.out]; exact HP21.1); clear HP21; have n0_ := ak (hp_); have n1_ := ak (Kd.R_after (v := (.slice (some ⟨go18, 0, none⟩) x5_1.length co9)) (v1 := (.slice (some ⟨go18, 0, none⟩) x5_1.length co9)) (ok := (fun _ => True)) (by (with_reducible repeat (first | apply Kd.R_alloc | apply Kd.R_drewN | apply Kd.R_drew)); exact Kd.R_mono HO_6.out (fun _ hk => ⟨trivial, hk⟩)) hg (.inl rfl)); have n2_ := ak ((by rw [hw]; exact bst (HB.out) GB18.out : Below w.heap.size w w22)); clear HO_5 HO_6 HB; have HO_5 := n0_; have HO_6 := n1_; have HB := n2_; clear n0_ n1_ n2_; clear hg hw hp_; have p20 : 0 ≤ (a1 : Int) := odt (by first | (with_reducible assumption) | assumption); have q20 : (a1 : Int) < ((y146.length : Int) : Int) := odt (by first | (with_reducible assumption) | assumption); obtain ⟨go20, co20, eo20, gb20, gl20, cl20, HG20⟩ := Kd.R_form HO_6.out (by omega); (first | cases eo20 | (injection eo20 with ea_ en_ ec_; (first | subst ea_ | (injection ea_ with ea_; subst ea_)); subst ec_; clear en_)); have GB20 := ak gb20; have GG20 := ak HG20; clear gb20 gl20 HG20; obtain ⟨hx20_0, hf20_0⟩ := Kd.R_celln 0 HO_6.out (a1 : Int) p20 q20; replace p20 := eq_true p20; replace q20 := eq_true q20; have n_ := ak (Kd.R_mono (ok' := (fun k_ => some k_ ≠ (.slice (some ⟨go18, 0, none⟩) x5_1.length co9 : Value).ownBlock)) HO_6.out (fun k_ hk => hk.2)); clear HO_6; have HO_6 := n_; clear n_; obtain ⟨hy23_, hz23_⟩ := Kd.R_celln 0 HO_6.out (a1 : Int) (odt (by first | (with_reducible assumption) | assumption)) (odt (by first | (with_reducible assumption) | assumption)); have HP23 := Kd.R_putg HO_6.out (a1 : Int) (-1)) | ((with_reducible refine gate_store (t := 3) (p := 34) rfl ?_); (try (rw [drewN_self w22]; generalize hq_ : World.drewN w22 _ = w22; have n0_ := ak (Kd.R_at hq_ HO_5.out); have n1_ := ak (Kd.R_at hq_ HO_6.out); have n2_ := ak (below_at hq_ HB.out); clear hq_ HO_5 HO_6 HB; have HO_5 := n0_; have HO_6 := n1_; have HB := n2_; clear n0_ n1_ n2_; (try (have n_ := ak (Kd.R_mono (ok' := (fun k_ => some k_ ≠ (.slice (some ⟨go18, 0, none⟩) x5_1.length co9 : Value).ownBlock)) HO_6.out (fun k_ hk => hk.2)); clear HO_6; have HO_6 := n_; clear n_)); (try (obtain ⟨hy23_, hz23_⟩ := Kd.R_celln 0 HO_6.out (a1 : Int) (odt (by first | (with_reducible assumption) | assumption)) (odt (by first | (with_reducible assumption) | assumption)))); (try (have HP23 := Kd.R_putg HO_6.out (a1 : Int) (-1))))); refine store_event (t := 3) (p := 34) (v := ?vo_w24) (w1 := (w22.setCell ⟨go20, (a1 : Int).toNat, none⟩ (.int .i64 (-1)))) ?hg ?ho ?hn ?hr ?_; (case ho => rfl); (case hg => rfl); (case hn => rfl); (case hr => first | (go_simp; done) | (go_simp; rfl)); intro w24 hw; have hg : w22.grownBy w24 (some go20) := (by rw [hw]; exact HP23.2); have hp_ : Kd.R (Kd.int .i64) 3 w24 w.heap.size (fun k_ => some k_ ≠ (.slice (some ⟨go18, 0, none⟩) x5_1.length co9 : Value).ownBlock) (.slice (some ⟨go20, 0, none⟩) y146.length co20) y151 := (by rw [hw, Ny151.out]; exact HP23.1); clear HP23; have n0_ := ak (Kd.R_after (v := (.slice (some ⟨go20, 0, none⟩) y146.length co20)) (v1 := (.slice (some ⟨go20, 0, none⟩) y146.length co20)) (ok := (fun _ => True)) (by (with_reducible repeat (first | apply Kd.R_alloc | apply Kd.R_drewN | apply Kd.R_drew)); exact Kd.R_mono HO_5.out (fun _ hk => ⟨trivial, hk⟩)) hg (.inl rfl)); have n1_ := ak (hp_); have n2_ := ak ((by rw [hw]; exact bst (HB.out) GB20.out : Below w.heap.size w w24)); clear HO_5 HO_6 HB; have HO_5 := n0_; have HO_6 := n1_; have HB := n2_; clear n0_ n1_ n2_; clear hg hw hp_) | ((with_reducible refine gate_dst (N := 36) rfl ?_); refine Kd.R_lit (Kd.int .i64) _ 3 ?hg (N := 36) ?hd (xs := ([a1] : List Int)) (inner := [.int .i64 a1]) (ok := fun _ => True) (okp := fun _ => True) ?hr ?hp (fun _ hk => hk) trivial (Below.refl _ _) (Nat.le_refl _) (by simp) ?_; (case hd => rfl); (case hg => rfl); (case hr => first | (go_simp; done) | (go_simp; rfl)); (case hp => exact (Reps.one (show Kd.M (Kd.int .i64) _ _ _ a1 [.int .i64 a1] from rfl) (Reps.none _ _))); intro v153 w25 ho26 hb hg_ hnew_; clear hg_ hnew_; (first | rw [← Ny152.out] at ho26 | (simp only [Int.reduceToNat] at ho26; rw [← Ny152.out] at ho26)); have n0_ := ak (Kd.R_elder' HO_5.out (Kd.R_base ho26) hb); have n1_ := ak (Kd.R_elder' HO_6.out (Kd.R_base ho26) hb); have n2_ := ak (Kd.R_lower (Kd.R_new' (Kd.R_new' ho26 (Kd.R_lt HO_5.out)) (Kd.R_lt HO_6.out)) (bsz HB.out)); have n3_ := ak (bsp HB.out hb); clear HO_5 HO_6 HB; have HO_5 := n0_; have HO_6 := n1_; have HO154 := n2_; have HB := n3_; clear n0_ n1_ n2_ n3_; clear hb ho26))
         repeat (go_quiet (first | ((with_reducible refine gate_store (t := 3) (p := 33) rfl ?_); (try (rw [drewN_self wr]; generalize hq_ : World.drewN wr _ = wr; have n0_ := ak (Kd.R_at hq_ HO_5.out); have n1_ := ak (Kd.R_at hq_ HO_6.out); have n2_ := ak (below_at hq_ HB.out); clear hq_ HO_5 HO_6 HB; have HO_5 := n0_; have HO_6 := n1_; have HB := n2_; clear n0_ n1_ n2_; (try (have HP21 := Kd.R_putg HO_5.out (a1 : Int) 0)))); refine store_event (t := 3) (p := 33) (v := ?vo_w22) (w1 := (wr.setCell ⟨go18, (a1 : Int).toNat, none⟩ (.int .i64 0))) ?hg ?ho ?hn ?hr ?_; (case ho => rfl); (case hg => rfl); (case hn => rfl); (case hr => first | (go_simp; done) | (go_simp; rfl)); intro w22 hw; have hg : wr.grownBy w22 (some go18) := (by rw [hw]; exact HP21.2); have hp_ : Kd.R (Kd.int .i64) 3 w22 w.heap.size (fun k_ => some k_ ≠ (v147 : Value).ownBlock) (.slice (some ⟨go18, 0, none⟩) x5_1.length co9) y150 := (by rw [hw, Ny150.out]; exact HP21.1); clear HP21; have n0_ := ak (hp_); have n1_ := ak (Kd.R_after (v := (.slice (some ⟨go18, 0, none⟩) x5_1.length co9)) (v1 := (.slice (some ⟨go18, 0, none⟩) x5_1.length co9)) (ok := (fun _ => True)) (by (with_reducible repeat (first | apply Kd.R_alloc | apply Kd.R_drewN | apply Kd.R_drew)); exact Kd.R_mono HO_6.out (fun _ hk => ⟨trivial, hk⟩)) hg (.inl rfl)); have n2_ := ak ((by rw [hw]; exact bst (HB.out) GB18.out : Below w.heap.size w w22)); clear HO_5 HO_6 HB; have HO_5 := n0_; have HO_6 := n1_; have HB := n2_; clear n0_ n1_ n2_; clear hg hw hp_; have p20 : 0 ≤ (a1 : Int) := odt (by first | (with_reducible assumption) | assumption); have q20 : (a1 : Int) < ((y146.length : Int) : Int) := odt (by first | (with_reducible assumption) | assumption); obtain ⟨go20, co20, eo20, gb20, gl20, cl20, HG20⟩ := Kd.R_form HO_6.out (by omega); (first | cases eo20 | (injection eo20 with ea_ en_ ec_; (first | subst ea_ | (injection ea_ with ea_; subst ea_)); subst ec_; clear en_)); have GB20 := ak gb20; have GG20 := ak HG20; clear gb20 gl20 HG20; obtain ⟨hx20_0, hf20_0⟩ := Kd.R_celln 0 HO_6.out (a1 : Int) p20 q20; replace p20 := eq_true p20; replace q20 := eq_true q20; have n_ := ak (Kd.R_mono (ok' := (fun k_ => some k_ ≠ (.slice (some ⟨go18, 0, none⟩) x5_1.length co9 : Value).ownBlock)) HO_6.out (fun k_ hk => hk.2)); clear HO_6; have HO_6 := n_; clear n_; obtain ⟨hy23_, hz23_⟩ := Kd.R_celln 0 HO_6.out (a1 : Int) (odt (by first | (with_reducible assumption) | assumption)) (odt (by first | (with_reducible assumption) | assumption)); have HP23 := Kd.R_putg HO_6.out (a1 : Int) (-1)) | ((with_reducible refine gate_store (t := 3) (p := 34) rfl ?_); (try (rw [drewN_self w22]; generalize hq_ : World.drewN w22 _ = w22; have n0_ := ak (Kd.R_at hq_ HO_5.out); have n1_ := ak (Kd.R_at hq_ HO_6.out); have n2_ := ak (below_at hq_ HB.out); clear hq_ HO_5 HO_6 HB; have HO_5 := n0_; have HO_6 := n1_; have HB := n2_; clear n0_ n1_ n2_; (try (have n_ := ak (Kd.R_mono (ok' := (fun k_ => some k_ ≠ (.slice (some ⟨go18, 0, none⟩) x5_1.length co9 : Value).ownBlock)) HO_6.out (fun k_ hk => hk.2)); clear HO_6; have HO_6 := n_; clear n_)); (try (obtain ⟨hy23_, hz23_⟩ := Kd.R_celln 0 HO_6.out (a1 : Int) (odt (by first | (with_reducible assumption) | assumption)) (odt (by first | (with_reducible assumption) | assumption)))); (try (have HP23 := Kd.R_putg HO_6.out (a1 : Int) (-1))))); refine store_event (t := 3) (p := 34) (v := ?vo_w24) (w1 := (w22.setCell ⟨go20, (a1 : Int).toNat, none⟩ (.int .i64 (-1)))) ?hg ?ho ?hn ?hr ?_; (case ho => rfl); (case hg => rfl); (case hn => rfl); (case hr => first | (go_simp; done) | (go_simp; rfl)); intro w24 hw; have hg : w22.grownBy w24 (some go20) := (by rw [hw]; exact HP23.2); have hp_ : Kd.R (Kd.int .i64) 3 w24 w.heap.size (fun k_ => some k_ ≠ (.slice (some ⟨go18, 0, none⟩) x5_1.length co9 : Value).ownBlock) (.slice (some ⟨go20, 0, none⟩) y146.length co20) y151 := (by rw [hw, Ny151.out]; exact HP23.1); clear HP23; have n0_ := ak (Kd.R_after (v := (.slice (some ⟨go20, 0, none⟩) y146.length co20)) (v1 := (.slice (some ⟨go20, 0, none⟩) y146.length co20)) (ok := (fun _ => True)) (by (with_reducible repeat (first | apply Kd.R_alloc | apply Kd.R_drewN | apply Kd.R_drew)); exact Kd.R_mono HO_5.out (fun _ hk => ⟨trivial, hk⟩)) hg (.inl rfl)); have n1_ := ak (hp_); have n2_ := ak ((by rw [hw]; exact bst (HB.out) GB20.out : Below w.heap.size w w24)); clear HO_5 HO_6 HB; have HO_5 := n0_; have HO_6 := n1_; have HB := n2_; clear n0_ n1_ n2_; clear hg hw hp_) | ((with_reducible refine gate_dst (N := 36) rfl ?_); refine Kd.R_lit (Kd.int .i64) _ 3 ?hg (N := 36) ?hd (xs := ([a1] : List Int)) (inner := [.int .i64 a1]) (ok := fun _ => True) (okp := fun _ => True) ?hr ?hp (fun _ hk => hk) trivial (Below.refl _ _) (Nat.le_refl _) (by simp) ?_; (case hd => rfl); (case hg => rfl); (case hr => first | (go_simp; done) | (go_simp; rfl)); (case hp => exact (Reps.one (show Kd.M (Kd.int .i64) _ _ _ a1 [.int .i64 a1] from rfl) (Reps.none _ _))); intro v153 w25 ho26 hb hg_ hnew_; clear hg_ hnew_; (first | rw [← Ny152.out] at ho26 | (simp only [Int.reduceToNat] at ho26; rw [← Ny152.out] at ho26)); have n0_ := ak (Kd.R_elder' HO_5.out (Kd.R_base ho26) hb); have n1_ := ak (Kd.R_elder' HO_6.out (Kd.R_base ho26) hb); have n2_ := ak (Kd.R_lower (Kd.R_new' (Kd.R_new' ho26 (Kd.R_lt HO_5.out)) (Kd.R_lt HO_6.out)) (bsz HB.out)); have n3_ := ak (bsp HB.out hb); clear HO_5 HO_6 HB; have HO_5 := n0_; have HO_6 := n1_; have HO154 := n2_; have HB := n3_; clear n0_ n1_ n2_ n3_; clear hb ho26)); try go_wp2_with (first | ((with_reducible refine gate_store (t := 3) (p := 33) rfl ?_); (try (rw [drewN_self wr]; generalize hq_ : World.drewN wr _ = wr; have n0_ := ak (Kd.R_at hq_ HO_5.out); have n1_ := ak (Kd.R_at hq_ HO_6.out); have n2_ := ak (below_at hq_ HB.out); clear hq_ HO_5 HO_6 HB; have HO_5 := n0_; have HO_6 := n1_; have HB := n2_; clear n0_ n1_ n2_; (try (have HP21 := Kd.R_putg HO_5.out (a1 : Int) 0)))); refine store_event (t := 3) (p := 33) (v := ?vo_w22) (w1 := (wr.setCell ⟨go18, (a1 : Int).toNat, none⟩ (.int .i64 0))) ?hg ?ho ?hn ?hr ?_; (case ho => rfl); (case hg => rfl); (case hn => rfl); (case hr => first | (go_simp; done) | (go_simp; rfl)); intro w22 hw; have hg : wr.grownBy w22 (some go18) := (by rw [hw]; exact HP21.2); have hp_ : Kd.R (Kd.int .i64) 3 w22 w.heap.size (fun k_ => some k_ ≠ (v147 : Value).ownBlock) (.slice (some ⟨go18, 0, none⟩) x5_1.length co9) y150 := (by rw [hw, Ny150.out]; exact HP21.1); clear HP21; have n0_ := ak (hp_); have n1_ := ak (Kd.R_after (v := (.slice (some ⟨go18, 0, none⟩) x5_1.length co9)) (v1 := (.slice (some ⟨go18, 0, none⟩) x5_1.length co9)) (ok := (fun _ => True)) (by (with_reducible repeat (first | apply Kd.R_alloc | apply Kd.R_drewN | apply Kd.R_drew)); exact Kd.R_mono HO_6.out (fun _ hk => ⟨trivial, hk⟩)) hg (.inl rfl)); have n2_ := ak ((by rw [hw]; exact bst (HB.out) GB18.out : Below w.heap.size w w22)); clear HO_5 HO_6 HB; have HO_5 := n0_; have HO_6 := n1_; have HB := n2_; clear n0_ n1_ n2_; clear hg hw hp_; have p20 : 0 ≤ (a1 : Int) := odt (by first | (with_reducible assumption) | assumption); have q20 : (a1 : Int) < ((y146.length : Int) : Int) := odt (by first | (with_reducible assumption) | assumption); obtain ⟨go20, co20, eo20, gb20, gl20, cl20, HG20⟩ := Kd.R_form HO_6.out (by omega); (first | cases eo20 | (injection eo20 with ea_ en_ ec_; (first | subst ea_ | (injection ea_ with ea_; subst ea_)); subst ec_; clear en_)); have GB20 := ak gb20; have GG20 := ak HG20; clear gb20 gl20 HG20; obtain ⟨hx20_0, hf20_0⟩ := Kd.R_celln 0 HO_6.out (a1 : Int) p20 q20; replace p20 := eq_true p20; replace q20 := eq_true q20; have n_ := ak (Kd.R_mono (ok' := (fun k_ => some k_ ≠ (.slice (some ⟨go18, 0, none⟩) x5_1.length co9 : Value).ownBlock)) HO_6.out (fun k_ hk => hk.2)); clear HO_6; have HO_6 := n_; clear n_; obtain ⟨hy23_, hz23_⟩ := Kd.R_celln 0 HO_6.out (a1 : Int) (odt (by first | (with_reducible assumption) | assumption)) (odt (by first | (with_reducible assumption) | assumption)); have HP23 := Kd.R_putg HO_6.out (a1 : Int) (-1)) | ((with_reducible refine gate_store (t := 3) (p := 34) rfl ?_); (try (rw [drewN_self w22]; generalize hq_ : World.drewN w22 _ = w22; have n0_ := ak (Kd.R_at hq_ HO_5.out); have n1_ := ak (Kd.R_at hq_ HO_6.out); have n2_ := ak (below_at hq_ HB.out); clear hq_ HO_5 HO_6 HB; have HO_5 := n0_; have HO_6 := n1_; have HB := n2_; clear n0_ n1_ n2_; (try (have n_ := ak (Kd.R_mono (ok' := (fun k_ => some k_ ≠ (.slice (some ⟨go18, 0, none⟩) x5_1.length co9 : Value).ownBlock)) HO_6.out (fun k_ hk => hk.2)); clear HO_6; have HO_6 := n_; clear n_)); (try (obtain ⟨hy23_, hz23_⟩ := Kd.R_celln 0 HO_6.out (a1 : Int) (odt (by first | (with_reducible assumption) | assumption)) (odt (by first | (with_reducible assumption) | assumption)))); (try (have HP23 := Kd.R_putg HO_6.out (a1 : Int) (-1))))); refine store_event (t := 3) (p := 34) (v := ?vo_w24) (w1 := (w22.setCell ⟨go20, (a1 : Int).toNat, none⟩ (.int .i64 (-1)))) ?hg ?ho ?hn ?hr ?_; (case ho => rfl); (case hg => rfl); (case hn => rfl); (case hr => first | (go_simp; done) | (go_simp; rfl)); intro w24 hw; have hg : w22.grownBy w24 (some go20) := (by rw [hw]; exact HP23.2); have hp_ : Kd.R (Kd.int .i64) 3 w24 w.heap.size (fun k_ => some k_ ≠ (.slice (some ⟨go18, 0, none⟩) x5_1.length co9 : Value).ownBlock) (.slice (some ⟨go20, 0, none⟩) y146.length co20) y151 := (by rw [hw, Ny151.out]; exact HP23.1); clear HP23; have n0_ := ak (Kd.R_after (v := (.slice (some ⟨go20, 0, none⟩) y146.length co20)) (v1 := (.slice (some ⟨go20, 0, none⟩) y146.length co20)) (ok := (fun _ => True)) (by (with_reducible repeat (first | apply Kd.R_alloc | apply Kd.R_drewN | apply Kd.R_drew)); exact Kd.R_mono HO_5.out (fun _ hk => ⟨trivial, hk⟩)) hg (.inl rfl)); have n1_ := ak (hp_); have n2_ := ak ((by rw [hw]; exact bst (HB.out) GB20.out : Below w.heap.size w w24)); clear HO_5 HO_6 HB; have HO_5 := n0_; have HO_6 := n1_; have HB := n2_; clear n0_ n1_ n2_; clear hg hw hp_) | ((with_reducible refine gate_dst (N := 36) rfl ?_); refine Kd.R_lit (Kd.int .i64) _ 3 ?hg (N := 36) ?hd (xs := ([a1] : List Int)) (inner := [.int .i64 a1]) (ok := fun _ => True) (okp := fun _ => True) ?hr ?hp (fun _ hk => hk) trivial (Below.refl _ _) (Nat.le_refl _) (by simp) ?_; (case hd => rfl); (case hg => rfl); (case hr => first | (go_simp; done) | (go_simp; rfl)); (case hp => exact (Reps.one (show Kd.M (Kd.int .i64) _ _ _ a1 [.int .i64 a1] from rfl) (Reps.none _ _))); intro v153 w25 ho26 hb hg_ hnew_; clear hg_ hnew_; (first | rw [← Ny152.out] at ho26 | (simp only [Int.reduceToNat] at ho26; rw [← Ny152.out] at ho26)); have n0_ := ak (Kd.R_elder' HO_5.out (Kd.R_base ho26) hb); have n1_ := ak (Kd.R_elder' HO_6.out (Kd.R_base ho26) hb); have n2_ := ak (Kd.R_lower (Kd.R_new' (Kd.R_new' ho26 (Kd.R_lt HO_5.out)) (Kd.R_lt HO_6.out)) (bsz HB.out)); have n3_ := ak (bsp HB.out hb); clear HO_5 HO_6 HB; have HO_5 := n0_; have HO_6 := n1_; have HO154 := n2_; have HB := n3_; clear n0_ n1_ n2_ n3_; clear hb ho26)))
         go_loopg [8, 9, 10] k1 (fun kq v8 v9 v10 w' => ∃ (x5_2 : List Int) (x6_2 : List Int) (x8_2 : List Int) (x9_2 : Int) (x10_2 : Int), v9 = .int .i64 x9_2 ∧ v10 = .int .i64 x10_2 ∧ Aside0 (peel_around.l1 kq l0 x5_2 x6_2 x8_2 x9_2 x10_2 = some r) ∧ Aside0 (kq ≤ k1) ∧ Aside0 (Kd.R (Kd.int .i64) 3 w' w.heap.size (fun k_ => some k_ ≠ ((.slice (some ⟨go20, 0, none⟩) y146.length co20) : Value).ownBlock ∧ some k_ ≠ (v8 : Value).ownBlock) (.slice (some ⟨go18, 0, none⟩) x5_1.length co9) x5_2) ∧ Aside0 (Kd.R (Kd.int .i64) 3 w' w.heap.size (fun k_ => some k_ ≠ ((.slice (some ⟨go18, 0, none⟩) x5_1.length co9) : Value).ownBlock ∧ some k_ ≠ (v8 : Value).ownBlock) (.slice (some ⟨go20, 0, none⟩) y146.length co20) x6_2) ∧ Aside0 (Kd.R (Kd.int .i64) 3 w' w.heap.size (fun k_ => some k_ ≠ ((.slice (some ⟨go18, 0, none⟩) x5_1.length co9) : Value).ownBlock ∧ some k_ ≠ ((.slice (some ⟨go20, 0, none⟩) y146.length co20) : Value).ownBlock) v8 x8_2) ∧ Aside0 (Below w.heap.size w w'))
         case atStart => exact ⟨(y150), (y151), (y152), (0), (0), (by first | rfl | (simp; done) | (simp [*]; done)), (by first | rfl | (simp; done) | (simp [*]; done)), H', ⟨Nat.le_refl _⟩, ⟨by (try simp only [hl5_1]); (with_reducible repeat (first | apply Kd.R_alloc | apply Kd.R_drewN | apply Kd.R_drew)); exact Kd.R_mono HO_5.out (fun _ hk => ⟨hk.1.2, hk.2⟩)⟩, ⟨by (try simp only [hl5_1]); (with_reducible repeat (first | apply Kd.R_alloc | apply Kd.R_drewN | apply Kd.R_drew)); exact HO_6.out⟩, ⟨by (try simp only [hl5_1]); (with_reducible repeat (first | apply Kd.R_alloc | apply Kd.R_drewN | apply Kd.R_drew)); exact Kd.R_mono HO154.out (fun _ hk => ⟨hk.1.2, hk.2⟩)⟩, ⟨by repeat (first | (with_reducible first | exact HB.out | apply bal | apply pbn | apply bd1) | exact HB.out)⟩⟩
         case round =>
          clear H'
          obtain ⟨x5_2, x6_2, x8_2, x9_2, x10_2, rfl, rfl, HA, HK2, HO_5, HO_6, HO_8, HB⟩ := hrel
          have hl5_2 := (Kd.R_reads' HO_5.out).1
          rw [hl5_2] at HO_5
          (try simp only [hl5_2])
          (try simp only [hl5_2] at HO_6)
          (try simp only [hl5_2] at HO_8)
          have hl6_2 := (Kd.R_reads' HO_6.out).1
          rw [hl6_2] at HO_6
          (try simp only [hl6_2])
          (try simp only [hl6_2] at HO_5)
          (try simp only [hl6_2] at HO_8)
          cases gk with
          | zero => exact absurd HA.out (by simp [peel_around.l1])
          | succ k2 =>
           have H := HA.out
           clear HA
           simp only [peel_around.l1] at H
           by_cases c27 : x10_2 < (x8_2.length : Int)
           ·rw [if_pos c27] at H
            have c27b0 : decide (x10_2 < (x8_2.length : Int)) = true := det c27
            clear c27
            by_cases c28 : 0 ≤ x10_2
            ·rw [if_pos c28] at H
             have c28b0 : decide (0 ≤ x10_2) = true := det c28
             clear c28
             by_cases c29 : 0 ≤ (rd x8_2 x10_2)
             ·rw [if_pos c29] at H
              have c29b0 : decide (0 ≤ (rd x8_2 x10_2)) = true := det c29
              clear c29
              by_cases c30 : (rd x8_2 x10_2) < (l0.length : Int)
              ·rw [if_pos c30] at H
               have c30b0 : decide ((rd x8_2 x10_2) < (l0.length : Int)) = true := det c30
               clear c30
               have H' := ak H
               clear H
               obtain ⟨Ao31, co31, eo31⟩ := Kd.R_slice HO_8.out
               subst eo31
               have p155 : 0 ≤ (x10_2 : Int) := odt (by first | (with_reducible assumption) | assumption)
               have q155 : x10_2 < (x8_2.length : Int) := odt (by first | (with_reducible assumption) | assumption)
               obtain ⟨ad155, e155, hx155_0⟩ := Kd.at_int (Kd.R_reads' HO_8.out).2.2 x10_2 p155 q155
               cases e155
               replace p155 := eq_true p155
               replace q155 := eq_true q155
               have p156 : 0 ≤ ((rd x8_2 x10_2) : Int) := odt (by first | (with_reducible assumption) | assumption)
               have q156 : (rd x8_2 x10_2) < (l0.length : Int) := odt (by first | (with_reducible assumption) | assumption)
               obtain ⟨ad156, A156_0, c156_0, e156, hx156_0, hl156_0, hi156_0⟩ := at_L2 HR0.out (rd x8_2 x10_2) p156 q156
               cases e156
               replace hx156_0 := (HB.out.cell (World.block_lt_of_cell? w _ hx156_0)).trans hx156_0
               have HR156_0 := ak hi156_0
               have HC156_0 := ak hl156_0
               clear hi156_0 hl156_0
               replace p156 := eq_true p156
               replace q156 := eq_true q156
               go_wp2
               repeat (go_quiet (fail); try go_wp2)
               go_loopg [8, 9, 52] k2 (fun kq v8 v9 v52 w' => ∃ (x5_3 : List Int) (x6_3 : List Int) (x8_3 : List Int) (x9_3 : Int) (x52_3 : Int), v9 = .int .i64 x9_3 ∧ v52 = .int .i64 x52_3 ∧ Aside0 (peel_around.l2 kq l0 x5_3 x6_3 x8_3 x9_3 x10_2 (rd x8_2 x10_2) (rd_L2 l0 (rd x8_2 x10_2)) ((rd_L2 l0 (rd x8_2 x10_2)).length : Int) x52_3 = some r) ∧ Aside0 (kq ≤ k2) ∧ Aside0 (Kd.R (Kd.int .i64) 3 w' w.heap.size (fun k_ => some k_ ≠ ((.slice (some ⟨go20, 0, none⟩) x6_2.length co20) : Value).ownBlock ∧ some k_ ≠ (v8 : Value).ownBlock) (.slice (some ⟨go18, 0, none⟩) x5_2.length co9) x5_3) ∧ Aside0 (Kd.R (Kd.int .i64) 3 w' w.heap.size (fun k_ => some k_ ≠ ((.slice (some ⟨go18, 0, none⟩) x5_2.length co9) : Value).ownBlock ∧ some k_ ≠ (v8 : Value).ownBlock) (.slice (some ⟨go20, 0, none⟩) x6_2.length co20) x6_3) ∧ Aside0 (Kd.R (Kd.int .i64) 3 w' w.heap.size (fun k_ => some k_ ≠ ((.slice (some ⟨go18, 0, none⟩) x5_2.length co9) : Value).ownBlock ∧ some k_ ≠ ((.slice (some ⟨go20, 0, none⟩) x6_2.length co20) : Value).ownBlock) v8 x8_3) ∧ Aside0 (Below w.heap.size w w'))
               case atStart => exact ⟨(x5_2), (x6_2), (x8_2), (x9_2), (0), (by first | rfl | (simp; done) | (simp [*]; done)), (by first | rfl | (simp; done) | (simp [*]; done)), H', ⟨Nat.le_refl _⟩, ⟨by (try simp only [hl5_1]); (try simp only [hl5_2]); (try simp only [hl6_2]); (with_reducible repeat (first | apply Kd.R_alloc | apply Kd.R_drewN | apply Kd.R_drew)); exact HO_5.out⟩, ⟨by (try simp only [hl5_1]); (try simp only [hl5_2]); (try simp only [hl6_2]); (with_reducible repeat (first | apply Kd.R_alloc | apply Kd.R_drewN | apply Kd.R_drew)); exact HO_6.out⟩, ⟨by (try simp only [hl5_1]); (try simp only [hl5_2]); (try simp only [hl6_2]); (with_reducible repeat (first | apply Kd.R_alloc | apply Kd.R_drewN | apply Kd.R_drew)); exact HO_8.out⟩, ⟨by repeat (first | (with_reducible first | exact HB.out | apply bal | apply pbn | apply bd1) | exact HB.out)⟩⟩
               case round =>
                clear H'
                obtain ⟨x5_3, x6_3, x8_3, x9_3, x52_3, rfl, rfl, HA, HK3, HO_5, HO_6, HO_8, HB⟩ := hrel
                have hl5_3 := (Kd.R_reads' HO_5.out).1
                rw [hl5_3] at HO_5
                (try simp only [hl5_3])
                (try simp only [hl5_3] at HO_6)
                (try simp only [hl5_3] at HO_8)
                have hl6_3 := (Kd.R_reads' HO_6.out).1
                rw [hl6_3] at HO_6
                (try simp only [hl6_3])
                (try simp only [hl6_3] at HO_5)
                (try simp only [hl6_3] at HO_8)
                cases gk with
                | zero => exact absurd HA.out (by simp [peel_around.l2])
                | succ k3 =>
                 have H := HA.out
                 clear HA
                 simp only [peel_around.l2] at H
                 by_cases c32 : x52_3 < ((rd_L2 l0 (rd x8_2 x10_2)).length : Int)
                 ·rw [if_pos c32] at H
                  have c32b0 : decide (x52_3 < ((rd_L2 l0 (rd x8_2 x10_2)).length : Int)) = true := det c32
                  clear c32
                  by_cases c33 : 0 ≤ x52_3
                  ·rw [if_pos c33] at H
                   have c33b0 : decide (0 ≤ x52_3) = true := det c33
                   clear c33
                   by_cases c34 : x52_3 < ((rd_L2 l0 (rd x8_2 x10_2)).length : Int)
                   ·rw [if_pos c34] at H
                    have c34b0 : decide (x52_3 < ((rd_L2 l0 (rd x8_2 x10_2)).length : Int)) = true := det c34
                    clear c34
                    by_cases c35 : 0 ≤ (rd (rd_L2 l0 (rd x8_2 x10_2)) x52_3)
                    ·rw [if_pos c35] at H
                     have c35b0 : decide (0 ≤ (rd (rd_L2 l0 (rd x8_2 x10_2)) x52_3)) = true := det c35
                     clear c35
                     by_cases c36 : (rd (rd_L2 l0 (rd x8_2 x10_2)) x52_3) < (x5_3.length : Int)
                     ·rw [if_pos c36] at H
                      have c36b0 : decide ((rd (rd_L2 l0 (rd x8_2 x10_2)) x52_3) < (x5_3.length : Int)) = true := det c36
                      clear c36
                      by_cases c37 : (rd x5_3 (rd (rd_L2 l0 (rd x8_2 x10_2)) x52_3)) < 0
                      ·rw [if_pos c37] at H
                       have c37b0 : decide ((rd x5_3 (rd (rd_L2 l0 (rd x8_2 x10_2)) x52_3)) < 0) = true := det c37
                       clear c37
                       by_cases c38 : 0 ≤ (rd x8_2 x10_2)
                       ·rw [if_pos c38] at H
                        have c38b0 : decide (0 ≤ (rd x8_2 x10_2)) = true := det c38
                        clear c38
                        by_cases c39 : (rd x8_2 x10_2) < (x5_3.length : Int)
                        ·rw [if_pos c39] at H
                         have c39b0 : decide ((rd x8_2 x10_2) < (x5_3.length : Int)) = true := det c39
                         clear c39
                         obtain ⟨y160, hy160⟩ : ∃ y_ : List Int, y_ = (x5_3.set ((rd (rd_L2 l0 (rd x8_2 x10_2)) x52_3) : Int).toNat (wrap64 ((rd x5_3 (rd x8_2 x10_2)) + 1))) := ⟨_, rfl⟩
                         replace H : (if (rd (rd_L2 l0 (rd x8_2 x10_2)) x52_3) < (x6_3.length : Int) then (if x8_3.length < 17592186044416 then (peel_around.l2 k3 l0 y160 (x6_3.set ((rd (rd_L2 l0 (rd x8_2 x10_2)) x52_3) : Int).toNat (rd x8_2 x10_2)) (x8_3 ++ [rd (rd_L2 l0 (rd x8_2 x10_2)) x52_3]) x9_3 x10_2 (rd x8_2 x10_2) (rd_L2 l0 (rd x8_2 x10_2)) ((rd_L2 l0 (rd x8_2 x10_2)).length : Int) (wrap64 (x52_3 + 1))) else (none)) else (none)) = some r := by first | (rw [hy160]; with_reducible exact H) | (have H2_ := (Option.bind_some _ _).symm.trans H; rw [hy160]; with_reducible exact H2_) | (have H2_ := (Option.bind_some _ _).symm.trans H; with_reducible exact H2_) | with_reducible exact H | (rw [hy160]; exact H) | exact H
                         have Ny160 := ak hy160
                         clear hy160
                         by_cases c41 : (rd (rd_L2 l0 (rd x8_2 x10_2)) x52_3) < (x6_3.length : Int)
                         ·rw [if_pos c41] at H
                          have c41b0 : decide ((rd (rd_L2 l0 (rd x8_2 x10_2)) x52_3) < (x6_3.length : Int)) = true := det c41
                          clear c41
                          obtain ⟨y161, hy161⟩ : ∃ y_ : List Int, y_ = (x6_3.set ((rd (rd_L2 l0 (rd x8_2 x10_2)) x52_3) : Int).toNat (rd x8_2 x10_2)) := ⟨_, rfl⟩
                          replace H : (if x8_3.length < 17592186044416 then (peel_around.l2 k3 l0 y160 y161 (x8_3 ++ [rd (rd_L2 l0 (rd x8_2 x10_2)) x52_3]) x9_3 x10_2 (rd x8_2 x10_2) (rd_L2 l0 (rd x8_2 x10_2)) ((rd_L2 l0 (rd x8_2 x10_2)).length : Int) (wrap64 (x52_3 + 1))) else (none)) = some r := by first | (rw [hy161]; with_reducible exact H) | (have H2_ := (Option.bind_some _ _).symm.trans H; rw [hy161]; with_reducible exact H2_) | (have H2_ := (Option.bind_some _ _).symm.trans H; with_reducible exact H2_) | with_reducible exact H | (rw [hy161]; exact H) | exact H
                          have Ny161 := ak hy161
                          clear hy161
                          by_cases c43 : x8_3.length < 17592186044416
                          ·rw [if_pos c43] at H
                           have LMc43 := ak c43
                           clear c43
                           obtain ⟨y162, hy162⟩ : ∃ y_ : List Int, y_ = (x8_3 ++ [rd (rd_L2 l0 (rd x8_2 x10_2)) x52_3]) := ⟨_, rfl⟩
                           replace H : (peel_around.l2 k3 l0 y160 y161 y162 x9_3 x10_2 (rd x8_2 x10_2) (rd_L2 l0 (rd x8_2 x10_2)) ((rd_L2 l0 (rd x8_2 x10_2)).length : Int) (wrap64 (x52_3 + 1))) = some r := by first | (rw [hy162]; with_reducible exact H) | (have H2_ := (Option.bind_some _ _).symm.trans H; rw [hy162]; with_reducible exact H2_) | (have H2_ := (Option.bind_some _ _).symm.trans H; with_reducible exact H2_) | with_reducible exact H | (rw [hy162]; exact H) | exact H
                           have Ny162 := ak hy162
                           clear hy162
                           have H' := ak H
                           clear H
                           have p157 : 0 ≤ (x52_3 : Int) := odt (by first | (with_reducible assumption) | assumption)
                           have q157 : x52_3 < ((rd_L2 l0 (rd x8_2 x10_2)).length : Int) := odt (by first | (with_reducible assumption) | assumption)
                           obtain ⟨ad157, e157, hx157_0⟩ := Kd.at_int HR156_0.out x52_3 p157 q157
                           cases e157
                           replace hx157_0 := (HB.out.cell (World.block_lt_of_cell? w _ hx157_0)).trans hx157_0
                           replace p157 := eq_true p157
                           replace q157 := eq_true q157
                           have p158 : 0 ≤ ((rd (rd_L2 l0 (rd x8_2 x10_2)) x52_3) : Int) := odt (by first | (with_reducible assumption) | assumption)
                           have q158 : (rd (rd_L2 l0 (rd x8_2 x10_2)) x52_3) < (x5_3.length : Int) := odt (by first | (with_reducible assumption) | assumption)
                           obtain ⟨ad158, e158, hx158_0⟩ := Kd.at_int (Kd.R_reads' HO_5.out).2.2 (rd (rd_L2 l0 (rd x8_2 x10_2)) x52_3) p158 q158
                           obtain rfl : (⟨go18, 0, none⟩ : Addr) = ad158 := (by injection e158)
                           (first | simp only [add_plain] at hx158_0 | simp only [add_at] at hx158_0 | simp only [Addr.add, Nat.zero_add] at hx158_0 | skip)
                           replace p158 := eq_true p158
                           replace q158 := eq_true q158
                           have p159 : 0 ≤ ((rd x8_2 x10_2) : Int) := odt (by first | (with_reducible assumption) | assumption)
                           have q159 : (rd x8_2 x10_2) < (x5_3.length : Int) := odt (by first | (with_reducible assumption) | assumption)
                           obtain ⟨ad159, e159, hx159_0⟩ := Kd.at_int (Kd.R_reads' HO_5.out).2.2 (rd x8_2 x10_2) p159 q159
                           obtain rfl : (⟨go18, 0, none⟩ : Addr) = ad159 := (by injection e159)
                           (first | simp only [add_plain] at hx159_0 | simp only [add_at] at hx159_0 | simp only [Addr.add, Nat.zero_add] at hx159_0 | skip)
                           replace p159 := eq_true p159
                           replace q159 := eq_true q159
                           have p40 : 0 ≤ ((rd (rd_L2 l0 (rd x8_2 x10_2)) x52_3) : Int) := odt (by first | (with_reducible assumption) | assumption)
                           have q40 : ((rd (rd_L2 l0 (rd x8_2 x10_2)) x52_3) : Int) < ((x5_3.length : Int) : Int) := odt (by first | (with_reducible assumption) | assumption)
                           obtain ⟨hx40_0, hf40_0⟩ := Kd.R_celln 0 HO_5.out ((rd (rd_L2 l0 (rd x8_2 x10_2)) x52_3) : Int) p40 q40
                           replace p40 := eq_true p40
                           replace q40 := eq_true q40
                           have HP44 := Kd.R_putg HO_5.out ((rd (rd_L2 l0 (rd x8_2 x10_2)) x52_3) : Int) (wrap64 ((rd x5_3 (rd x8_2 x10_2)) + 1))
                           go_wp2_with (first | ((with_reducible refine gate_store (t := 3) (p := 72) rfl ?_); (try (rw [drewN_self wr]; generalize hq_ : World.drewN wr _ = wr; have n0_ := ak (Kd.R_at hq_ HO_5.out); have n1_ := ak (Kd.R_at hq_ HO_6.out); have n2_ := ak (Kd.R_at hq_ HO_8.out); have n3_ := ak (below_at hq_ HB.out); clear hq_ HO_5 HO_6 HO_8 HB; have HO_5 := n0_; have HO_6 := n1_; have HO_8 := n2_; have HB := n3_; clear n0_ n1_ n2_ n3_; (try (have HP44 := Kd.R_putg HO_5.out ((rd (rd_L2 l0 (rd x8_2 x10_2)) x52_3) : Int) (wrap64 ((rd x5_3 (rd x8_2 x10_2)) + 1)))))); refine store_event (t := 3) (p := 72) (v := ?vo_w45) (w1 := (wr.setCell ⟨go18, ((rd (rd_L2 l0 (rd x8_2 x10_2)) x52_3) : Int).toNat, none⟩ (.int .i64 (wrap64 ((rd x5_3 (rd x8_2 x10_2)) + 1))))) ?hg ?ho ?hn ?hr ?_; (case ho => rfl); (case hg => rfl); (case hn => rfl); (case hr => first | (go_simp; done) | (go_simp; rfl)); intro w45 hw; have hg : wr.grownBy w45 (some go18) := (by rw [hw]; exact HP44.2); have hp_ : Kd.R (Kd.int .i64) 3 w45 w.heap.size (fun k_ => some k_ ≠ (.slice (some ⟨go20, 0, none⟩) x6_3.length co20 : Value).ownBlock ∧ some k_ ≠ (u8 : Value).ownBlock) (.slice (some ⟨go18, 0, none⟩) x5_3.length co9) y160 := (by rw [hw, Ny160.out]; exact HP44.1); clear HP44; have n0_ := ak (hp_); have n1_ := ak (Kd.R_after (v := (.slice (some ⟨go18, 0, none⟩) x5_3.length co9)) (v1 := (.slice (some ⟨go18, 0, none⟩) x5_3.length co9)) (ok := (fun k_ => some k_ ≠ (u8 : Value).ownBlock)) (by (with_reducible repeat (first | apply Kd.R_alloc | apply Kd.R_drewN | apply Kd.R_drew)); exact Kd.R_mono HO_6.out (fun _ hk => ⟨hk.2, hk.1⟩)) hg (.inl rfl)); have n2_ := ak (Kd.R_after (v := (.slice (some ⟨go18, 0, none⟩) x5_3.length co9)) (v1 := (.slice (some ⟨go18, 0, none⟩) x5_3.length co9)) (ok := (fun k_ => some k_ ≠ (.slice (some ⟨go20, 0, none⟩) x6_3.length co20 : Value).ownBlock)) (by (with_reducible repeat (first | apply Kd.R_alloc | apply Kd.R_drewN | apply Kd.R_drew)); exact Kd.R_mono HO_8.out (fun _ hk => ⟨hk.2, hk.1⟩)) hg (.inl rfl)); have n3_ := ak ((by rw [hw]; exact bst (HB.out) GB18.out : Below w.heap.size w w45)); clear HO_5 HO_6 HO_8 HB; have HO_5 := n0_; have HO_6 := n1_; have HO_8 := n2_; have HB := n3_; clear n0_ n1_ n2_ n3_; clear hg hw hp_; have p42 : 0 ≤ ((rd (rd_L2 l0 (rd x8_2 x10_2)) x52_3) : Int) := odt (by first | (with_reducible assumption) | assumption); have q42 : ((rd (rd_L2 l0 (rd x8_2 x10_2)) x52_3) : Int) < ((x6_3.length : Int) : Int) := odt (by first | (with_reducible assumption) | assumption); obtain ⟨hx42_0, hf42_0⟩ := Kd.R_celln 0 HO_6.out ((rd (rd_L2 l0 (rd x8_2 x10_2)) x52_3) : Int) p42 q42; replace p42 := eq_true p42; replace q42 := eq_true q42; obtain ⟨hy46_, hz46_⟩ := Kd.R_celln 0 HO_6.out ((rd (rd_L2 l0 (rd x8_2 x10_2)) x52_3) : Int) (odt (by first | (with_reducible assumption) | assumption)) (odt (by first | (with_reducible assumption) | assumption)); have HP46 := Kd.R_putg HO_6.out ((rd (rd_L2 l0 (rd x8_2 x10_2)) x52_3) : Int) (rd x8_2 x10_2)) | ((with_reducible refine gate_store (t := 3) (p := 73) rfl ?_); (try (rw [drewN_self w45]; generalize hq_ : World.drewN w45 _ = w45; have n0_ := ak (Kd.R_at hq_ HO_5.out); have n1_ := ak (Kd.R_at hq_ HO_6.out); have n2_ := ak (Kd.R_at hq_ HO_8.out); have n3_ := ak (below_at hq_ HB.out); clear hq_ HO_5 HO_6 HO_8 HB; have HO_5 := n0_; have HO_6 := n1_; have HO_8 := n2_; have HB := n3_; clear n0_ n1_ n2_ n3_; (try (obtain ⟨hy46_, hz46_⟩ := Kd.R_celln 0 HO_6.out ((rd (rd_L2 l0 (rd x8_2 x10_2)) x52_3) : Int) (odt (by first | (with_reducible assumption) | assumption)) (odt (by first | (with_reducible assumption) | assumption)))); (try (have HP46 := Kd.R_putg HO_6.out ((rd (rd_L2 l0 (rd x8_2 x10_2)) x52_3) : Int) (rd x8_2 x10_2))))); refine store_event (t := 3) (p := 73) (v := ?vo_w47) (w1 := (w45.setCell ⟨go20, ((rd (rd_L2 l0 (rd x8_2 x10_2)) x52_3) : Int).toNat, none⟩ (.int .i64 (rd x8_2 x10_2)))) ?hg ?ho ?hn ?hr ?_; (case ho => rfl); (case hg => rfl); (case hn => rfl); (case hr => first | (go_simp; done) | (go_simp; rfl)); intro w47 hw; have hg : w45.grownBy w47 (some go20) := (by rw [hw]; exact HP46.2); have hp_ : Kd.R (Kd.int .i64) 3 w47 w.heap.size (fun k_ => some k_ ≠ (u8 : Value).ownBlock ∧ some k_ ≠ (.slice (some ⟨go18, 0, none⟩) x5_3.length co9 : Value).ownBlock) (.slice (some ⟨go20, 0, none⟩) x6_3.length co20) y161 := (by rw [hw, Ny161.out]; exact HP46.1); clear HP46; have n0_ := ak (Kd.R_after (v := (.slice (some ⟨go20, 0, none⟩) x6_3.length co20)) (v1 := (.slice (some ⟨go20, 0, none⟩) x6_3.length co20)) (ok := (fun k_ => some k_ ≠ (u8 : Value).ownBlock)) (by (with_reducible repeat (first | apply Kd.R_alloc | apply Kd.R_drewN | apply Kd.R_drew)); exact Kd.R_mono HO_5.out (fun _ hk => ⟨hk.2, hk.1⟩)) hg (.inl rfl)); have n1_ := ak (hp_); have n2_ := ak (Kd.R_after (v := (.slice (some ⟨go20, 0, none⟩) x6_3.length co20)) (v1 := (.slice (some ⟨go20, 0, none⟩) x6_3.length co20)) (ok := (fun k_ => some k_ ≠ (.slice (some ⟨go18, 0, none⟩) x5_3.length co9 : Value).ownBlock)) (by (with_reducible repeat (first | apply Kd.R_alloc | apply Kd.R_drewN | apply Kd.R_drew)); exact Kd.R_mono HO_8.out (fun _ hk => ⟨hk.2, hk.1⟩)) hg (.inl rfl)); have n3_ := ak ((by rw [hw]; exact bst (HB.out) GB20.out : Below w.heap.size w w47)); clear HO_5 HO_6 HO_8 HB; have HO_5 := n0_; have HO_6 := n1_; have HO_8 := n2_; have HB := n3_; clear n0_ n1_ n2_ n3_; clear hg hw hp_) | ((with_reducible refine gate_builtin (b := .append) (xs := #[.tmp 74, .tmp 76]) rfl ?_); at_builtin; refine Kd.R_append (Kd.int .i64) (w0 := w) w.heap.size rfl (.tmp 74) (.tmp 76) 22 3 (.int .i64 0) 8 rfl Try.underlying22 info3 rfl (by decide) (by omega) u8 x8_3 (rd (rd_L2 l0 (rd x8_2 x10_2)) x52_3) [.int .i64 (rd (rd_L2 l0 (rd x8_2 x10_2)) x52_3)] (fun k_ => some k_ ≠ (.slice (some ⟨go18, 0, none⟩) x5_3.length co9 : Value).ownBlock ∧ some k_ ≠ (.slice (some ⟨go20, 0, none⟩) x6_3.length co20 : Value).ownBlock) (fun _ => False) rfl rfl ?aP (fun _ hk => hk.elim) ?aF ?aO ?aB ?aS ?aL ?_; (case aP => exact rfl); (case aB => exact HB.out); (case aF => exact (fun k_ hk => ⟨Kd.fresh' (Kd.R_lt HO_5.out) k_ hk, Kd.fresh' (Kd.R_lt HO_6.out) k_ hk⟩)); (case aO => exact HO_8.out); (case aS => exact (bsz HB.out)); (case aL => have := LMc43.out; omega); intro v163 w48 ho hb hg hat; rw [← Ny162.out] at ho; have n0_ := ak (Kd.R_after (ok := (fun k_ => some k_ ≠ (.slice (some ⟨go20, 0, none⟩) x6_3.length co20 : Value).ownBlock)) (by (with_reducible repeat (first | apply Kd.R_alloc | apply Kd.R_drewN | apply Kd.R_drew)); exact Kd.R_mono HO_5.out (fun _ hk => ⟨hk.2, hk.1⟩)) hg hat); have n1_ := ak (Kd.R_after (ok := (fun k_ => some k_ ≠ (.slice (some ⟨go18, 0, none⟩) x5_3.length co9 : Value).ownBlock)) (by (with_reducible repeat (first | apply Kd.R_alloc | apply Kd.R_drewN | apply Kd.R_drew)); exact Kd.R_mono HO_6.out (fun _ hk => ⟨hk.2, hk.1⟩)) hg hat); have n2_ := ak (hb); have n3_ := ak (ho); clear HO_5 HO_6 HB HO_8; have HO_5 := n0_; have HO_6 := n1_; have HB := n2_; have HO164 := n3_; clear n0_ n1_ n2_ n3_; clear ho hb hg hat))
                           repeat (go_quiet (first | ((with_reducible refine gate_store (t := 3) (p := 72) rfl ?_); (try (rw [drewN_self wr]; generalize hq_ : World.drewN wr _ = wr; have n0_ := ak (Kd.R_at hq_ HO_5.out); have n1_ := ak (Kd.R_at hq_ HO_6.out); have n2_ := ak (Kd.R_at hq_ HO_8.out); have n3_ := ak (below_at hq_ HB.out); clear hq_ HO_5 HO_6 HO_8 HB; have HO_5 := n0_; have HO_6 := n1_; have HO_8 := n2_; have HB := n3_; clear n0_ n1_ n2_ n3_; (try (have HP44 := Kd.R_putg HO_5.out ((rd (rd_L2 l0 (rd x8_2 x10_2)) x52_3) : Int) (wrap64 ((rd x5_3 (rd x8_2 x10_2)) + 1)))))); refine store_event (t := 3) (p := 72) (v := ?vo_w45) (w1 := (wr.setCell ⟨go18, ((rd (rd_L2 l0 (rd x8_2 x10_2)) x52_3) : Int).toNat, none⟩ (.int .i64 (wrap64 ((rd x5_3 (rd x8_2 x10_2)) + 1))))) ?hg ?ho ?hn ?hr ?_; (case ho => rfl); (case hg => rfl); (case hn => rfl); (case hr => first | (go_simp; done) | (go_simp; rfl)); intro w45 hw; have hg : wr.grownBy w45 (some go18) := (by rw [hw]; exact HP44.2); have hp_ : Kd.R (Kd.int .i64) 3 w45 w.heap.size (fun k_ => some k_ ≠ (.slice (some ⟨go20, 0, none⟩) x6_3.length co20 : Value).ownBlock ∧ some k_ ≠ (u8 : Value).ownBlock) (.slice (some ⟨go18, 0, none⟩) x5_3.length co9) y160 := (by rw [hw, Ny160.out]; exact HP44.1); clear HP44; have n0_ := ak (hp_); have n1_ := ak (Kd.R_after (v := (.slice (some ⟨go18, 0, none⟩) x5_3.length co9)) (v1 := (.slice (some ⟨go18, 0, none⟩) x5_3.length co9)) (ok := (fun k_ => some k_ ≠ (u8 : Value).ownBlock)) (by (with_reducible repeat (first | apply Kd.R_alloc | apply Kd.R_drewN | apply Kd.R_drew)); exact Kd.R_mono HO_6.out (fun _ hk => ⟨hk.2, hk.1⟩)) hg (.inl rfl)); have n2_ := ak (Kd.R_after (v := (.slice (some ⟨go18, 0, none⟩) x5_3.length co9)) (v1 := (.slice (some ⟨go18, 0, none⟩) x5_3.length co9)) (ok := (fun k_ => some k_ ≠ (.slice (some ⟨go20, 0, none⟩) x6_3.length co20 : Value).ownBlock)) (by (with_reducible repeat (first | apply Kd.R_alloc | apply Kd.R_drewN | apply Kd.R_drew)); exact Kd.R_mono HO_8.out (fun _ hk => ⟨hk.2, hk.1⟩)) hg (.inl rfl)); have n3_ := ak ((by rw [hw]; exact bst (HB.out) GB18.out : Below w.heap.size w w45)); clear HO_5 HO_6 HO_8 HB; have HO_5 := n0_; have HO_6 := n1_; have HO_8 := n2_; have HB := n3_; clear n0_ n1_ n2_ n3_; clear hg hw hp_; have p42 : 0 ≤ ((rd (rd_L2 l0 (rd x8_2 x10_2)) x52_3) : Int) := odt (by first | (with_reducible assumption) | assumption); have q42 : ((rd (rd_L2 l0 (rd x8_2 x10_2)) x52_3) : Int) < ((x6_3.length : Int) : Int) := odt (by first | (with_reducible assumption) | assumption); obtain ⟨hx42_0, hf42_0⟩ := Kd.R_celln 0 HO_6.out ((rd (rd_L2 l0 (rd x8_2 x10_2)) x52_3) : Int) p42 q42; replace p42 := eq_true p42; replace q42 := eq_true q42; obtain ⟨hy46_, hz46_⟩ := Kd.R_celln 0 HO_6.out ((rd (rd_L2 l0 (rd x8_2 x10_2)) x52_3) : Int) (odt (by first | (with_reducible assumption) | assumption)) (odt (by first | (with_reducible assumption) | assumption)); have HP46 := Kd.R_putg HO_6.out ((rd (rd_L2 l0 (rd x8_2 x10_2)) x52_3) : Int) (rd x8_2 x10_2)) | ((with_reducible refine gate_store (t := 3) (p := 73) rfl ?_); (try (rw [drewN_self w45]; generalize hq_ : World.drewN w45 _ = w45; have n0_ := ak (Kd.R_at hq_ HO_5.out); have n1_ := ak (Kd.R_at hq_ HO_6.out); have n2_ := ak (Kd.R_at hq_ HO_8.out); have n3_ := ak (below_at hq_ HB.out); clear hq_ HO_5 HO_6 HO_8 HB; have HO_5 := n0_; have HO_6 := n1_; have HO_8 := n2_; have HB := n3_; clear n0_ n1_ n2_ n3_; (try (obtain ⟨hy46_, hz46_⟩ := Kd.R_celln 0 HO_6.out ((rd (rd_L2 l0 (rd x8_2 x10_2)) x52_3) : Int) (odt (by first | (with_reducible assumption) | assumption)) (odt (by first | (with_reducible assumption) | assumption)))); (try (have HP46 := Kd.R_putg HO_6.out ((rd (rd_L2 l0 (rd x8_2 x10_2)) x52_3) : Int) (rd x8_2 x10_2))))); refine store_event (t := 3) (p := 73) (v := ?vo_w47) (w1 := (w45.setCell ⟨go20, ((rd (rd_L2 l0 (rd x8_2 x10_2)) x52_3) : Int).toNat, none⟩ (.int .i64 (rd x8_2 x10_2)))) ?hg ?ho ?hn ?hr ?_; (case ho => rfl); (case hg => rfl); (case hn => rfl); (case hr => first | (go_simp; done) | (go_simp; rfl)); intro w47 hw; have hg : w45.grownBy w47 (some go20) := (by rw [hw]; exact HP46.2); have hp_ : Kd.R (Kd.int .i64) 3 w47 w.heap.size (fun k_ => some k_ ≠ (u8 : Value).ownBlock ∧ some k_ ≠ (.slice (some ⟨go18, 0, none⟩) x5_3.length co9 : Value).ownBlock) (.slice (some ⟨go20, 0, none⟩) x6_3.length co20) y161 := (by rw [hw, Ny161.out]; exact HP46.1); clear HP46; have n0_ := ak (Kd.R_after (v := (.slice (some ⟨go20, 0, none⟩) x6_3.length co20)) (v1 := (.slice (some ⟨go20, 0, none⟩) x6_3.length co20)) (ok := (fun k_ => some k_ ≠ (u8 : Value).ownBlock)) (by (with_reducible repeat (first | apply Kd.R_alloc | apply Kd.R_drewN | apply Kd.R_drew)); exact Kd.R_mono HO_5.out (fun _ hk => ⟨hk.2, hk.1⟩)) hg (.inl rfl)); have n1_ := ak (hp_); have n2_ := ak (Kd.R_after (v := (.slice (some ⟨go20, 0, none⟩) x6_3.length co20)) (v1 := (.slice (some ⟨go20, 0, none⟩) x6_3.length co20)) (ok := (fun k_ => some k_ ≠ (.slice (some ⟨go18, 0, none⟩) x5_3.length co9 : Value).ownBlock)) (by (with_reducible repeat (first | apply Kd.R_alloc | apply Kd.R_drewN | apply Kd.R_drew)); exact Kd.R_mono HO_8.out (fun _ hk => ⟨hk.2, hk.1⟩)) hg (.inl rfl)); have n3_ := ak ((by rw [hw]; exact bst (HB.out) GB20.out : Below w.heap.size w w47)); clear HO_5 HO_6 HO_8 HB; have HO_5 := n0_; have HO_6 := n1_; have HO_8 := n2_; have HB := n3_; clear n0_ n1_ n2_ n3_; clear hg hw hp_) | ((with_reducible refine gate_builtin (b := .append) (xs := #[.tmp 74, .tmp 76]) rfl ?_); at_builtin; refine Kd.R_append (Kd.int .i64) (w0 := w) w.heap.size rfl (.tmp 74) (.tmp 76) 22 3 (.int .i64 0) 8 rfl Try.underlying22 info3 rfl (by decide) (by omega) u8 x8_3 (rd (rd_L2 l0 (rd x8_2 x10_2)) x52_3) [.int .i64 (rd (rd_L2 l0 (rd x8_2 x10_2)) x52_3)] (fun k_ => some k_ ≠ (.slice (some ⟨go18, 0, none⟩) x5_3.length co9 : Value).ownBlock ∧ some k_ ≠ (.slice (some ⟨go20, 0, none⟩) x6_3.length co20 : Value).ownBlock) (fun _ => False) rfl rfl ?aP (fun _ hk => hk.elim) ?aF ?aO ?aB ?aS ?aL ?_; (case aP => exact rfl); (case aB => exact HB.out); (case aF => exact (fun k_ hk => ⟨Kd.fresh' (Kd.R_lt HO_5.out) k_ hk, Kd.fresh' (Kd.R_lt HO_6.out) k_ hk⟩)); (case aO => exact HO_8.out); (case aS => exact (bsz HB.out)); (case aL => have := LMc43.out; omega); intro v163 w48 ho hb hg hat; rw [← Ny162.out] at ho; have n0_ := ak (Kd.R_after (ok := (fun k_ => some k_ ≠ (.slice (some ⟨go20, 0, none⟩) x6_3.length co20 : Value).ownBlock)) (by (with_reducible repeat (first | apply Kd.R_alloc | apply Kd.R_drewN | apply Kd.R_drew)); exact Kd.R_mono HO_5.out (fun _ hk => ⟨hk.2, hk.1⟩)) hg hat); have n1_ := ak (Kd.R_after (ok := (fun k_ => some k_ ≠ (.slice (some ⟨go18, 0, none⟩) x5_3.length co9 : Value).ownBlock)) (by (with_reducible repeat (first | apply Kd.R_alloc | apply Kd.R_drewN | apply Kd.R_drew)); exact Kd.R_mono HO_6.out (fun _ hk => ⟨hk.2, hk.1⟩)) hg hat); have n2_ := ak (hb); have n3_ := ak (ho); clear HO_5 HO_6 HB HO_8; have HO_5 := n0_; have HO_6 := n1_; have HB := n2_; have HO164 := n3_; clear n0_ n1_ n2_ n3_; clear ho hb hg hat)); try go_wp2_with (first | ((with_reducible refine gate_store (t := 3) (p := 72) rfl ?_); (try (rw [drewN_self wr]; generalize hq_ : World.drewN wr _ = wr; have n0_ := ak (Kd.R_at hq_ HO_5.out); have n1_ := ak (Kd.R_at hq_ HO_6.out); have n2_ := ak (Kd.R_at hq_ HO_8.out); have n3_ := ak (below_at hq_ HB.out); clear hq_ HO_5 HO_6 HO_8 HB; have HO_5 := n0_; have HO_6 := n1_; have HO_8 := n2_; have HB := n3_; clear n0_ n1_ n2_ n3_; (try (have HP44 := Kd.R_putg HO_5.out ((rd (rd_L2 l0 (rd x8_2 x10_2)) x52_3) : Int) (wrap64 ((rd x5_3 (rd x8_2 x10_2)) + 1)))))); refine store_event (t := 3) (p := 72) (v := ?vo_w45) (w1 := (wr.setCell ⟨go18, ((rd (rd_L2 l0 (rd x8_2 x10_2)) x52_3) : Int).toNat, none⟩ (.int .i64 (wrap64 ((rd x5_3 (rd x8_2 x10_2)) + 1))))) ?hg ?ho ?hn ?hr ?_; (case ho => rfl); (case hg => rfl); (case hn => rfl); (case hr => first | (go_simp; done) | (go_simp; rfl)); intro w45 hw; have hg : wr.grownBy w45 (some go18) := (by rw [hw]; exact HP44.2); have hp_ : Kd.R (Kd.int .i64) 3 w45 w.heap.size (fun k_ => some k_ ≠ (.slice (some ⟨go20, 0, none⟩) x6_3.length co20 : Value).ownBlock ∧ some k_ ≠ (u8 : Value).ownBlock) (.slice (some ⟨go18, 0, none⟩) x5_3.length co9) y160 := (by rw [hw, Ny160.out]; exact HP44.1); clear HP44; have n0_ := ak (hp_); have n1_ := ak (Kd.R_after (v := (.slice (some ⟨go18, 0, none⟩) x5_3.length co9)) (v1 := (.slice (some ⟨go18, 0, none⟩) x5_3.length co9)) (ok := (fun k_ => some k_ ≠ (u8 : Value).ownBlock)) (by (with_reducible repeat (first | apply Kd.R_alloc | apply Kd.R_drewN | apply Kd.R_drew)); exact Kd.R_mono HO_6.out (fun _ hk => ⟨hk.2, hk.1⟩)) hg (.inl rfl)); have n2_ := ak (Kd.R_after (v := (.slice (some ⟨go18, 0, none⟩) x5_3.length co9)) (v1 := (.slice (some ⟨go18, 0, none⟩) x5_3.length co9)) (ok := (fun k_ => some k_ ≠ (.slice (some ⟨go20, 0, none⟩) x6_3.length co20 : Value).ownBlock)) (by (with_reducible repeat (first | apply Kd.R_alloc | apply Kd.R_drewN | apply Kd.R_drew)); exact Kd.R_mono HO_8.out (fun _ hk => ⟨hk.2, hk.1⟩)) hg (.inl rfl)); have n3_ := ak ((by rw [hw]; exact bst (HB.out) GB18.out : Below w.heap.size w w45)); clear HO_5 HO_6 HO_8 HB; have HO_5 := n0_; have HO_6 := n1_; have HO_8 := n2_; have HB := n3_; clear n0_ n1_ n2_ n3_; clear hg hw hp_; have p42 : 0 ≤ ((rd (rd_L2 l0 (rd x8_2 x10_2)) x52_3) : Int) := odt (by first | (with_reducible assumption) | assumption); have q42 : ((rd (rd_L2 l0 (rd x8_2 x10_2)) x52_3) : Int) < ((x6_3.length : Int) : Int) := odt (by first | (with_reducible assumption) | assumption); obtain ⟨hx42_0, hf42_0⟩ := Kd.R_celln 0 HO_6.out ((rd (rd_L2 l0 (rd x8_2 x10_2)) x52_3) : Int) p42 q42; replace p42 := eq_true p42; replace q42 := eq_true q42; obtain ⟨hy46_, hz46_⟩ := Kd.R_celln 0 HO_6.out ((rd (rd_L2 l0 (rd x8_2 x10_2)) x52_3) : Int) (odt (by first | (with_reducible assumption) | assumption)) (odt (by first | (with_reducible assumption) | assumption)); have HP46 := Kd.R_putg HO_6.out ((rd (rd_L2 l0 (rd x8_2 x10_2)) x52_3) : Int) (rd x8_2 x10_2)) | ((with_reducible refine gate_store (t := 3) (p := 73) rfl ?_); (try (rw [drewN_self w45]; generalize hq_ : World.drewN w45 _ = w45; have n0_ := ak (Kd.R_at hq_ HO_5.out); have n1_ := ak (Kd.R_at hq_ HO_6.out); have n2_ := ak (Kd.R_at hq_ HO_8.out); have n3_ := ak (below_at hq_ HB.out); clear hq_ HO_5 HO_6 HO_8 HB; have HO_5 := n0_; have HO_6 := n1_; have HO_8 := n2_; have HB := n3_; clear n0_ n1_ n2_ n3_; (try (obtain ⟨hy46_, hz46_⟩ := Kd.R_celln 0 HO_6.out ((rd (rd_L2 l0 (rd x8_2 x10_2)) x52_3) : Int) (odt (by first | (with_reducible assumption) | assumption)) (odt (by first | (with_reducible assumption) | assumption)))); (try (have HP46 := Kd.R_putg HO_6.out ((rd (rd_L2 l0 (rd x8_2 x10_2)) x52_3) : Int) (rd x8_2 x10_2))))); refine store_event (t := 3) (p := 73) (v := ?vo_w47) (w1 := (w45.setCell ⟨go20, ((rd (rd_L2 l0 (rd x8_2 x10_2)) x52_3) : Int).toNat, none⟩ (.int .i64 (rd x8_2 x10_2)))) ?hg ?ho ?hn ?hr ?_; (case ho => rfl); (case hg => rfl); (case hn => rfl); (case hr => first | (go_simp; done) | (go_simp; rfl)); intro w47 hw; have hg : w45.grownBy w47 (some go20) := (by rw [hw]; exact HP46.2); have hp_ : Kd.R (Kd.int .i64) 3 w47 w.heap.size (fun k_ => some k_ ≠ (u8 : Value).ownBlock ∧ some k_ ≠ (.slice (some ⟨go18, 0, none⟩) x5_3.length co9 : Value).ownBlock) (.slice (some ⟨go20, 0, none⟩) x6_3.length co20) y161 := (by rw [hw, Ny161.out]; exact HP46.1); clear HP46; have n0_ := ak (Kd.R_after (v := (.slice (some ⟨go20, 0, none⟩) x6_3.length co20)) (v1 := (.slice (some ⟨go20, 0, none⟩) x6_3.length co20)) (ok := (fun k_ => some k_ ≠ (u8 : Value).ownBlock)) (by (with_reducible repeat (first | apply Kd.R_alloc | apply Kd.R_drewN | apply Kd.R_drew)); exact Kd.R_mono HO_5.out (fun _ hk => ⟨hk.2, hk.1⟩)) hg (.inl rfl)); have n1_ := ak (hp_); have n2_ := ak (Kd.R_after (v := (.slice (some ⟨go20, 0, none⟩) x6_3.length co20)) (v1 := (.slice (some ⟨go20, 0, none⟩) x6_3.length co20)) (ok := (fun k_ => some k_ ≠ (.slice (some ⟨go18, 0, none⟩) x5_3.length co9 : Value).ownBlock)) (by (with_reducible repeat (first | apply Kd.R_alloc | apply Kd.R_drewN | apply Kd.R_drew)); exact Kd.R_mono HO_8.out (fun _ hk => ⟨hk.2, hk.1⟩)) hg (.inl rfl)); have n3_ := ak ((by rw [hw]; exact bst (HB.out) GB20.out : Below w.heap.size w w47)); clear HO_5 HO_6 HO_8 HB; have HO_5 := n0_; have HO_6 := n1_; have HO_8 := n2_; have HB := n3_; clear n0_ n1_ n2_ n3_; clear hg hw hp_) | ((with_reducible refine gate_builtin (b := .append) (xs := #[.tmp 74, .tmp 76]) rfl ?_); at_builtin; refine Kd.R_append (Kd.int .i64) (w0 := w) w.heap.size rfl (.tmp 74) (.tmp 76) 22 3 (.int .i64 0) 8 rfl Try.underlying22 info3 rfl (by decide) (by omega) u8 x8_3 (rd (rd_L2 l0 (rd x8_2 x10_2)) x52_3) [.int .i64 (rd (rd_L2 l0 (rd x8_2 x10_2)) x52_3)] (fun k_ => some k_ ≠ (.slice (some ⟨go18, 0, none⟩) x5_3.length co9 : Value).ownBlock ∧ some k_ ≠ (.slice (some ⟨go20, 0, none⟩) x6_3.length co20 : Value).ownBlock) (fun _ => False) rfl rfl ?aP (fun _ hk => hk.elim) ?aF ?aO ?aB ?aS ?aL ?_; (case aP => exact rfl); (case aB => exact HB.out); (case aF => exact (fun k_ hk => ⟨Kd.fresh' (Kd.R_lt HO_5.out) k_ hk, Kd.fresh' (Kd.R_lt HO_6.out) k_ hk⟩)); (case aO => exact HO_8.out); (case aS => exact (bsz HB.out)); (case aL => have := LMc43.out; omega); intro v163 w48 ho hb hg hat; rw [← Ny162.out] at ho; have n0_ := ak (Kd.R_after (ok := (fun k_ => some k_ ≠ (.slice (some ⟨go20, 0, none⟩) x6_3.length co20 : Value).ownBlock)) (by (with_reducible repeat (first | apply Kd.R_alloc | apply Kd.R_drewN | apply Kd.R_drew)); exact Kd.R_mono HO_5.out (fun _ hk => ⟨hk.2, hk.1⟩)) hg hat); have n1_ := ak (Kd.R_after (ok := (fun k_ => some k_ ≠ (.slice (some ⟨go18, 0, none⟩) x5_3.length co9 : Value).ownBlock)) (by (with_reducible repeat (first | apply Kd.R_alloc | apply Kd.R_drewN | apply Kd.R_drew)); exact Kd.R_mono HO_6.out (fun _ hk => ⟨hk.2, hk.1⟩)) hg hat); have n2_ := ak (hb); have n3_ := ak (ho); clear HO_5 HO_6 HB HO_8; have HO_5 := n0_; have HO_6 := n1_; have HB := n2_; have HO164 := n3_; clear n0_ n1_ n2_ n3_; clear ho hb hg hat)))
                           (try simp only [← hl5_3, ← hl6_3])
                           go_roundg k3
                           case measure => have := HK1.out; have := HK2.out; have := HK3.out; omega
                           case rel => exact ⟨(y160), (y161), (y162), (x9_3), (wrap64 (x52_3 + 1)), (by first | rfl | (simp; done) | (simp [*]; done)), (by first | rfl | (simp; done) | (simp [*]; done)), H', ⟨by have := HK1.out; have := HK2.out; have := HK3.out; omega⟩, ⟨by (try simp only [hl5_1]); (try simp only [hl5_2]); (try simp only [hl6_2]); (try simp only [hl5_3]); (try simp only [hl6_3]); (with_reducible repeat (first | apply Kd.R_alloc | apply Kd.R_drewN | apply Kd.R_drew)); exact HO_5.out⟩, ⟨by (try simp only [hl5_1]); (try simp only [hl5_2]); (try simp only [hl6_2]); (try simp only [hl5_3]); (try simp only [hl6_3]); (with_reducible repeat (first | apply Kd.R_alloc | apply Kd.R_drewN | apply Kd.R_drew)); exact HO_6.out⟩, ⟨by (try simp only [hl5_1]); (try simp only [hl5_2]); (try simp only [hl6_2]); (try simp only [hl5_3]); (try simp only [hl6_3]); (with_reducible repeat (first | apply Kd.R_alloc | apply Kd.R_drewN | apply Kd.R_drew)); exact HO164.out⟩, ⟨by repeat (first | (with_reducible first | exact HB.out | apply bal | apply pbn | apply bd1) | exact HB.out)⟩⟩
                          ·rw [if_neg c43] at H
                           exact absurd H (by simp)
                         ·rw [if_neg c41] at H
                          exact absurd H (by simp)
                        ·rw [if_neg c39] at H
                         exact absurd H (by simp)
                       ·rw [if_neg c38] at H
                        exact absurd H (by simp)
                      ·rw [if_neg c37] at H
                       have c37b0 : decide ((rd x5_3 (rd (rd_L2 l0 (rd x8_2 x10_2)) x52_3)) < 0) = false := dff c37
                       clear c37
                       by_cases c49 : 0 ≤ (rd x8_2 x10_2)
                       ·rw [if_pos c49] at H
                        have c49b0 : decide (0 ≤ (rd x8_2 x10_2)) = true := det c49
                        clear c49
                        by_cases c50 : (rd x8_2 x10_2) < (x6_3.length : Int)
                        ·rw [if_pos c50] at H
                         have c50b0 : decide ((rd x8_2 x10_2) < (x6_3.length : Int)) = true := det c50
                         clear c50
                         by_cases c51 : (rd (rd_L2 l0 (rd x8_2 x10_2)) x52_3) = (rd x6_3 (rd x8_2 x10_2))
                         ·rw [if_pos c51] at H
                          have c51b0 : ((rd (rd_L2 l0 (rd x8_2 x10_2)) x52_3) == (rd x6_3 (rd x8_2 x10_2))) = true := beq_iff_eq.mpr c51
                          have c51b1 : ((rd (rd_L2 l0 (rd x8_2 x10_2)) x52_3) != (rd x6_3 (rd x8_2 x10_2))) = false := bnm c51
                          clear c51
                          have H' := ak H
                          clear H
                          have p157 : 0 ≤ (x52_3 : Int) := odt (by first | (with_reducible assumption) | assumption)
                          have q157 : x52_3 < ((rd_L2 l0 (rd x8_2 x10_2)).length : Int) := odt (by first | (with_reducible assumption) | assumption)
                          obtain ⟨ad157, e157, hx157_0⟩ := Kd.at_int HR156_0.out x52_3 p157 q157
                          cases e157
                          replace hx157_0 := (HB.out.cell (World.block_lt_of_cell? w _ hx157_0)).trans hx157_0
                          replace p157 := eq_true p157
                          replace q157 := eq_true q157
                          have p158 : 0 ≤ ((rd (rd_L2 l0 (rd x8_2 x10_2)) x52_3) : Int) := odt (by first | (with_reducible assumption) | assumption)
                          have q158 : (rd (rd_L2 l0 (rd x8_2 x10_2)) x52_3) < (x5_3.length : Int) := odt (by first | (with_reducible assumption) | assumption)
                          obtain ⟨ad158, e158, hx158_0⟩ := Kd.at_int (Kd.R_reads' HO_5.out).2.2 (rd (rd_L2 l0 (rd x8_2 x10_2)) x52_3) p158 q158
                          obtain rfl : (⟨go18, 0, none⟩ : Addr) = ad158 := (by injection e158)
                          (first | simp only [add_plain] at hx158_0 | simp only [add_at] at hx158_0 | simp only [Addr.add, Nat.zero_add] at hx158_0 | skip)
                          replace p158 := eq_true p158
                          replace q158 := eq_true q158
                          have p165 : 0 ≤ ((rd x8_2 x10_2) : Int) := odt (by first | (with_reducible assumption) | assumption)
                          have q165 : (rd x8_2 x10_2) < (x6_3.length : Int) := odt (by first | (with_reducible assumption) | assumption)
                          obtain ⟨ad165, e165, hx165_0⟩ := Kd.at_int (Kd.R_reads' HO_6.out).2.2 (rd x8_2 x10_2) p165 q165
                          obtain rfl : (⟨go20, 0, none⟩ : Addr) = ad165 := (by injection e165)
                          (first | simp only [add_plain] at hx165_0 | simp only [add_at] at hx165_0 | simp only [Addr.add, Nat.zero_add] at hx165_0 | skip)
                          replace p165 := eq_true p165
                          replace q165 := eq_true q165
                          go_wp2
                          repeat (go_quiet (fail); try go_wp2)
                          (try simp only [← hl5_3, ← hl6_3])
                          go_roundg k3
                          case measure => have := HK1.out; have := HK2.out; have := HK3.out; omega
                          case rel => exact ⟨(x5_3), (x6_3), (x8_3), (x9_3), (wrap64 (x52_3 + 1)), (by first | rfl | (simp; done) | (simp [*]; done)), (by first | rfl | (simp; done) | (simp [*]; done)), H', ⟨by have := HK1.out; have := HK2.out; have := HK3.out; omega⟩, ⟨by (try simp only [hl5_1]); (try simp only [hl5_2]); (try simp only [hl6_2]); (try simp only [hl5_3]); (try simp only [hl6_3]); (with_reducible repeat (first | apply Kd.R_alloc | apply Kd.R_drewN | apply Kd.R_drew)); exact HO_5.out⟩, ⟨by (try simp only [hl5_1]); (try simp only [hl5_2]); (try simp only [hl6_2]); (try simp only [hl5_3]); (try simp only [hl6_3]); (with_reducible repeat (first | apply Kd.R_alloc | apply Kd.R_drewN | apply Kd.R_drew)); exact HO_6.out⟩, ⟨by (try simp only [hl5_1]); (try simp only [hl5_2]); (try simp only [hl6_2]); (try simp only [hl5_3]); (try simp only [hl6_3]); (with_reducible repeat (first | apply Kd.R_alloc | apply Kd.R_drewN | apply Kd.R_drew)); exact HO_8.out⟩, ⟨by repeat (first | (with_reducible first | exact HB.out | apply bal | apply pbn | apply bd1) | exact HB.out)⟩⟩
                         ·rw [if_neg c51] at H
                          have c51b0 : ((rd (rd_L2 l0 (rd x8_2 x10_2)) x52_3) == (rd x6_3 (rd x8_2 x10_2))) = false := bqm c51
                          have c51b1 : ((rd (rd_L2 l0 (rd x8_2 x10_2)) x52_3) != (rd x6_3 (rd x8_2 x10_2))) = true := bne_iff_ne.mpr c51
                          by_cases c52 : x9_3 = 0
                          ·rw [if_pos c52] at H
                           have c52b0 : (x9_3 == 0) = true := beq_iff_eq.mpr c52
                           have c52b1 : (x9_3 != 0) = false := bnm c52
                           clear c52
                           by_cases c53 : (rd x8_2 x10_2) < (x5_3.length : Int)
                           ·rw [if_pos c53] at H
                            have c53b0 : decide ((rd x8_2 x10_2) < (x5_3.length : Int)) = true := det c53
                            clear c53
                            have H' := ak H
                            clear H
                            have p157 : 0 ≤ (x52_3 : Int) := odt (by first | (with_reducible assumption) | assumption)
                            have q157 : x52_3 < ((rd_L2 l0 (rd x8_2 x10_2)).length : Int) := odt (by first | (with_reducible assumption) | assumption)
                            obtain ⟨ad157, e157, hx157_0⟩ := Kd.at_int HR156_0.out x52_3 p157 q157
                            cases e157
                            replace hx157_0 := (HB.out.cell (World.block_lt_of_cell? w _ hx157_0)).trans hx157_0
                            replace p157 := eq_true p157
                            replace q157 := eq_true q157
                            have p158 : 0 ≤ ((rd (rd_L2 l0 (rd x8_2 x10_2)) x52_3) : Int) := odt (by first | (with_reducible assumption) | assumption)
                            have q158 : (rd (rd_L2 l0 (rd x8_2 x10_2)) x52_3) < (x5_3.length : Int) := odt (by first | (with_reducible assumption) | assumption)
                            obtain ⟨ad158, e158, hx158_0⟩ := Kd.at_int (Kd.R_reads' HO_5.out).2.2 (rd (rd_L2 l0 (rd x8_2 x10_2)) x52_3) p158 q158
                            obtain rfl : (⟨go18, 0, none⟩ : Addr) = ad158 := (by injection e158)
                            (first | simp only [add_plain] at hx158_0 | simp only [add_at] at hx158_0 | simp only [Addr.add, Nat.zero_add] at hx158_0 | skip)
                            replace p158 := eq_true p158
                            replace q158 := eq_true q158
                            have p165 : 0 ≤ ((rd x8_2 x10_2) : Int) := odt (by first | (with_reducible assumption) | assumption)
                            have q165 : (rd x8_2 x10_2) < (x6_3.length : Int) := odt (by first | (with_reducible assumption) | assumption)
                            obtain ⟨ad165, e165, hx165_0⟩ := Kd.at_int (Kd.R_reads' HO_6.out).2.2 (rd x8_2 x10_2) p165 q165
                            obtain rfl : (⟨go20, 0, none⟩ : Addr) = ad165 := (by injection e165)
                            (first | simp only [add_plain] at hx165_0 | simp only [add_at] at hx165_0 | simp only [Addr.add, Nat.zero_add] at hx165_0 | skip)
                            replace p165 := eq_true p165
                            replace q165 := eq_true q165
                            have p166 : 0 ≤ ((rd x8_2 x10_2) : Int) := odt (by first | (with_reducible assumption) | assumption)
                            have q166 : (rd x8_2 x10_2) < (x5_3.length : Int) := odt (by first | (with_reducible assumption) | assumption)
                            obtain ⟨ad166, e166, hx166_0⟩ := Kd.at_int (Kd.R_reads' HO_5.out).2.2 (rd x8_2 x10_2) p166 q166
                            obtain rfl : (⟨go18, 0, none⟩ : Addr) = ad166 := (by injection e166)
                            (first | simp only [add_plain] at hx166_0 | simp only [add_at] at hx166_0 | simp only [Addr.add, Nat.zero_add] at hx166_0 | skip)
                            replace p166 := eq_true p166
                            replace q166 := eq_true q166
                            have p167 : 0 ≤ ((rd (rd_L2 l0 (rd x8_2 x10_2)) x52_3) : Int) := odt (by first | (with_reducible assumption) | assumption)
                            have q167 : (rd (rd_L2 l0 (rd x8_2 x10_2)) x52_3) < (x5_3.length : Int) := odt (by first | (with_reducible assumption) | assumption)
                            obtain ⟨ad167, e167, hx167_0⟩ := Kd.at_int (Kd.R_reads' HO_5.out).2.2 (rd (rd_L2 l0 (rd x8_2 x10_2)) x52_3) p167 q167
                            obtain rfl : (⟨go18, 0, none⟩ : Addr) = ad167 := (by injection e167)
                            (first | simp only [add_plain] at hx167_0 | simp only [add_at] at hx167_0 | simp only [Addr.add, Nat.zero_add] at hx167_0 | skip)
                            replace p167 := eq_true p167
                            replace q167 := eq_true q167
                            go_wp2
                            repeat (go_quiet (fail); try go_wp2)
                            (try simp only [← hl5_3, ← hl6_3])
                            go_roundg k3
                            case measure => have := HK1.out; have := HK2.out; have := HK3.out; omega
                            case rel => exact ⟨(x5_3), (x6_3), (x8_3), (wrap64 ((wrap64 ((rd x5_3 (rd x8_2 x10_2)) + (rd x5_3 (rd (rd_L2 l0 (rd x8_2 x10_2)) x52_3)))) + 1)), (wrap64 (x52_3 + 1)), (by first | rfl | (simp; done) | (simp [*]; done)), (by first | rfl | (simp; done) | (simp [*]; done)), H', ⟨by have := HK1.out; have := HK2.out; have := HK3.out; omega⟩, ⟨by (try simp only [hl5_1]); (try simp only [hl5_2]); (try simp only [hl6_2]); (try simp only [hl5_3]); (try simp only [hl6_3]); (with_reducible repeat (first | apply Kd.R_alloc | apply Kd.R_drewN | apply Kd.R_drew)); exact HO_5.out⟩, ⟨by (try simp only [hl5_1]); (try simp only [hl5_2]); (try simp only [hl6_2]); (try simp only [hl5_3]); (try simp only [hl6_3]); (with_reducible repeat (first | apply Kd.R_alloc | apply Kd.R_drewN | apply Kd.R_drew)); exact HO_6.out⟩, ⟨by (try simp only [hl5_1]); (try simp only [hl5_2]); (try simp only [hl6_2]); (try simp only [hl5_3]); (try simp only [hl6_3]); (with_reducible repeat (first | apply Kd.R_alloc | apply Kd.R_drewN | apply Kd.R_drew)); exact HO_8.out⟩, ⟨by repeat (first | (with_reducible first | exact HB.out | apply bal | apply pbn | apply bd1) | exact HB.out)⟩⟩
                           ·rw [if_neg c53] at H
                            exact absurd H (by simp)
                          ·rw [if_neg c52] at H
                           have c52b0 : (x9_3 == 0) = false := bqm c52
                           have c52b1 : (x9_3 != 0) = true := bne_iff_ne.mpr c52
                           by_cases c54 : (rd x8_2 x10_2) < (x5_3.length : Int)
                           ·rw [if_pos c54] at H
                            have c54b0 : decide ((rd x8_2 x10_2) < (x5_3.length : Int)) = true := det c54
                            clear c54
                            by_cases c55 : (wrap64 ((wrap64 ((rd x5_3 (rd x8_2 x10_2)) + (rd x5_3 (rd (rd_L2 l0 (rd x8_2 x10_2)) x52_3)))) + 1)) < x9_3
                            ·rw [if_pos c55] at H
                             have c55b0 : decide ((wrap64 ((wrap64 ((rd x5_3 (rd x8_2 x10_2)) + (rd x5_3 (rd (rd_L2 l0 (rd x8_2 x10_2)) x52_3)))) + 1)) < x9_3) = true := det c55
                             clear c55
                             have H' := ak H
                             clear H
                             have p157 : 0 ≤ (x52_3 : Int) := odt (by first | (with_reducible assumption) | assumption)
                             have q157 : x52_3 < ((rd_L2 l0 (rd x8_2 x10_2)).length : Int) := odt (by first | (with_reducible assumption) | assumption)
                             obtain ⟨ad157, e157, hx157_0⟩ := Kd.at_int HR156_0.out x52_3 p157 q157
                             cases e157
                             replace hx157_0 := (HB.out.cell (World.block_lt_of_cell? w _ hx157_0)).trans hx157_0
                             replace p157 := eq_true p157
                             replace q157 := eq_true q157
                             have p158 : 0 ≤ ((rd (rd_L2 l0 (rd x8_2 x10_2)) x52_3) : Int) := odt (by first | (with_reducible assumption) | assumption)
                             have q158 : (rd (rd_L2 l0 (rd x8_2 x10_2)) x52_3) < (x5_3.length : Int) := odt (by first | (with_reducible assumption) | assumption)
                             obtain ⟨ad158, e158, hx158_0⟩ := Kd.at_int (Kd.R_reads' HO_5.out).2.2 (rd (rd_L2 l0 (rd x8_2 x10_2)) x52_3) p158 q158
                             obtain rfl : (⟨go18, 0, none⟩ : Addr) = ad158 := (by injection e158)
                             (first | simp only [add_plain] at hx158_0 | simp only [add_at] at hx158_0 | simp only [Addr.add, Nat.zero_add] at hx158_0 | skip)
                             replace p158 := eq_true p158
                             replace q158 := eq_true q158
                             have p165 : 0 ≤ ((rd x8_2 x10_2) : Int) := odt (by first | (with_reducible assumption) | assumption)
                             have q165 : (rd x8_2 x10_2) < (x6_3.length : Int) := odt (by first | (with_reducible assumption) | assumption)
                             obtain ⟨ad165, e165, hx165_0⟩ := Kd.at_int (Kd.R_reads' HO_6.out).2.2 (rd x8_2 x10_2) p165 q165
                             obtain rfl : (⟨go20, 0, none⟩ : Addr) = ad165 := (by injection e165)
                             (first | simp only [add_plain] at hx165_0 | simp only [add_at] at hx165_0 | simp only [Addr.add, Nat.zero_add] at hx165_0 | skip)
                             replace p165 := eq_true p165
                             replace q165 := eq_true q165
                             have p168 : 0 ≤ ((rd x8_2 x10_2) : Int) := odt (by first | (with_reducible assumption) | assumption)
                             have q168 : (rd x8_2 x10_2) < (x5_3.length : Int) := odt (by first | (with_reducible assumption) | assumption)
                             obtain ⟨ad168, e168, hx168_0⟩ := Kd.at_int (Kd.R_reads' HO_5.out).2.2 (rd x8_2 x10_2) p168 q168
                             obtain rfl : (⟨go18, 0, none⟩ : Addr) = ad168 := (by injection e168)
                             (first | simp only [add_plain] at hx168_0 | simp only [add_at] at hx168_0 | simp only [Addr.add, Nat.zero_add] at hx168_0 | skip)
                             replace p168 := eq_true p168
                             replace q168 := eq_true q168
                             have p169 : 0 ≤ ((rd (rd_L2 l0 (rd x8_2 x10_2)) x52_3) : Int) := odt (by first | (with_reducible assumption) | assumption)
                             have q169 : (rd (rd_L2 l0 (rd x8_2 x10_2)) x52_3) < (x5_3.length : Int) := odt (by first | (with_reducible assumption) | assumption)
                             obtain ⟨ad169, e169, hx169_0⟩ := Kd.at_int (Kd.R_reads' HO_5.out).2.2 (rd (rd_L2 l0 (rd x8_2 x10_2)) x52_3) p169 q169
                             obtain rfl : (⟨go18, 0, none⟩ : Addr) = ad169 := (by injection e169)
                             (first | simp only [add_plain] at hx169_0 | simp only [add_at] at hx169_0 | simp only [Addr.add, Nat.zero_add] at hx169_0 | skip)
                             replace p169 := eq_true p169
                             replace q169 := eq_true q169
                             have p170 : 0 ≤ ((rd x8_2 x10_2) : Int) := odt (by first | (with_reducible assumption) | assumption)
                             have q170 : (rd x8_2 x10_2) < (x5_3.length : Int) := odt (by first | (with_reducible assumption) | assumption)
                             obtain ⟨ad170, e170, hx170_0⟩ := Kd.at_int (Kd.R_reads' HO_5.out).2.2 (rd x8_2 x10_2) p170 q170
                             obtain rfl : (⟨go18, 0, none⟩ : Addr) = ad170 := (by injection e170)
                             (first | simp only [add_plain] at hx170_0 | simp only [add_at] at hx170_0 | simp only [Addr.add, Nat.zero_add] at hx170_0 | skip)
                             replace p170 := eq_true p170
                             replace q170 := eq_true q170
                             have p171 : 0 ≤ ((rd (rd_L2 l0 (rd x8_2 x10_2)) x52_3) : Int) := odt (by first | (with_reducible assumption) | assumption)
                             have q171 : (rd (rd_L2 l0 (rd x8_2 x10_2)) x52_3) < (x5_3.length : Int) := odt (by first | (with_reducible assumption) | assumption)
                             obtain ⟨ad171, e171, hx171_0⟩ := Kd.at_int (Kd.R_reads' HO_5.out).2.2 (rd (rd_L2 l0 (rd x8_2 x10_2)) x52_3) p171 q171
                             obtain rfl : (⟨go18, 0, none⟩ : Addr) = ad171 := (by injection e171)
                             (first | simp only [add_plain] at hx171_0 | simp only [add_at] at hx171_0 | simp only [Addr.add, Nat.zero_add] at hx171_0 | skip)
                             replace p171 := eq_true p171
                             replace q171 := eq_true q171
                             go_wp2
                             repeat (go_quiet (fail); try go_wp2)
                             (try simp only [← hl5_3, ← hl6_3])
                             go_roundg k3
                             case measure => have := HK1.out; have := HK2.out; have := HK3.out; omega
                             case rel => exact ⟨(x5_3), (x6_3), (x8_3), (wrap64 ((wrap64 ((rd x5_3 (rd x8_2 x10_2)) + (rd x5_3 (rd (rd_L2 l0 (rd x8_2 x10_2)) x52_3)))) + 1)), (wrap64 (x52_3 + 1)), (by first | rfl | (simp; done) | (simp [*]; done)), (by first | rfl | (simp; done) | (simp [*]; done)), H', ⟨by have := HK1.out; have := HK2.out; have := HK3.out; omega⟩, ⟨by (try simp only [hl5_1]); (try simp only [hl5_2]); (try simp only [hl6_2]); (try simp only [hl5_3]); (try simp only [hl6_3]); (with_reducible repeat (first | apply Kd.R_alloc | apply Kd.R_drewN | apply Kd.R_drew)); exact HO_5.out⟩, ⟨by (try simp only [hl5_1]); (try simp only [hl5_2]); (try simp only [hl6_2]); (try simp only [hl5_3]); (try simp only [hl6_3]); (with_reducible repeat (first | apply Kd.R_alloc | apply Kd.R_drewN | apply Kd.R_drew)); exact HO_6.out⟩, ⟨by (try simp only [hl5_1]); (try simp only [hl5_2]); (try simp only [hl6_2]); (try simp only [hl5_3]); (try simp only [hl6_3]); (with_reducible repeat (first | apply Kd.R_alloc | apply Kd.R_drewN | apply Kd.R_drew)); exact HO_8.out⟩, ⟨by repeat (first | (with_reducible first | exact HB.out | apply bal | apply pbn | apply bd1) | exact HB.out)⟩⟩
                            ·rw [if_neg c55] at H
                             have c55b0 : decide ((wrap64 ((wrap64 ((rd x5_3 (rd x8_2 x10_2)) + (rd x5_3 (rd (rd_L2 l0 (rd x8_2 x10_2)) x52_3)))) + 1)) < x9_3) = false := dff c55
                             clear c55
                             have H' := ak H
                             clear H
                             have p157 : 0 ≤ (x52_3 : Int) := odt (by first | (with_reducible assumption) | assumption)
                             have q157 : x52_3 < ((rd_L2 l0 (rd x8_2 x10_2)).length : Int) := odt (by first | (with_reducible assumption) | assumption)
                             obtain ⟨ad157, e157, hx157_0⟩ := Kd.at_int HR156_0.out x52_3 p157 q157
                             cases e157
                             replace hx157_0 := (HB.out.cell (World.block_lt_of_cell? w _ hx157_0)).trans hx157_0
                             replace p157 := eq_true p157
                             replace q157 := eq_true q157
                             have p158 : 0 ≤ ((rd (rd_L2 l0 (rd x8_2 x10_2)) x52_3) : Int) := odt (by first | (with_reducible assumption) | assumption)
                             have q158 : (rd (rd_L2 l0 (rd x8_2 x10_2)) x52_3) < (x5_3.length : Int) := odt (by first | (with_reducible assumption) | assumption)
                             obtain ⟨ad158, e158, hx158_0⟩ := Kd.at_int (Kd.R_reads' HO_5.out).2.2 (rd (rd_L2 l0 (rd x8_2 x10_2)) x52_3) p158 q158
                             obtain rfl : (⟨go18, 0, none⟩ : Addr) = ad158 := (by injection e158)
                             (first | simp only [add_plain] at hx158_0 | simp only [add_at] at hx158_0 | simp only [Addr.add, Nat.zero_add] at hx158_0 | skip)
                             replace p158 := eq_true p158
                             replace q158 := eq_true q158
                             have p165 : 0 ≤ ((rd x8_2 x10_2) : Int) := odt (by first | (with_reducible assumption) | assumption)
                             have q165 : (rd x8_2 x10_2) < (x6_3.length : Int) := odt (by first | (with_reducible assumption) | assumption)
                             obtain ⟨ad165, e165, hx165_0⟩ := Kd.at_int (Kd.R_reads' HO_6.out).2.2 (rd x8_2 x10_2) p165 q165
                             obtain rfl : (⟨go20, 0, none⟩ : Addr) = ad165 := (by injection e165)
                             (first | simp only [add_plain] at hx165_0 | simp only [add_at] at hx165_0 | simp only [Addr.add, Nat.zero_add] at hx165_0 | skip)
                             replace p165 := eq_true p165
                             replace q165 := eq_true q165
                             have p168 : 0 ≤ ((rd x8_2 x10_2) : Int) := odt (by first | (with_reducible assumption) | assumption)
                             have q168 : (rd x8_2 x10_2) < (x5_3.length : Int) := odt (by first | (with_reducible assumption) | assumption)
                             obtain ⟨ad168, e168, hx168_0⟩ := Kd.at_int (Kd.R_reads' HO_5.out).2.2 (rd x8_2 x10_2) p168 q168
                             obtain rfl : (⟨go18, 0, none⟩ : Addr) = ad168 := (by injection e168)
                             (first | simp only [add_plain] at hx168_0 | simp only [add_at] at hx168_0 | simp only [Addr.add, Nat.zero_add] at hx168_0 | skip)
                             replace p168 := eq_true p168
                             replace q168 := eq_true q168
                             have p169 : 0 ≤ ((rd (rd_L2 l0 (rd x8_2 x10_2)) x52_3) : Int) := odt (by first | (with_reducible assumption) | assumption)
                             have q169 : (rd (rd_L2 l0 (rd x8_2 x10_2)) x52_3) < (x5_3.length : Int) := odt (by first | (with_reducible assumption) | assumption)
                             obtain ⟨ad169, e169, hx169_0⟩ := Kd.at_int (Kd.R_reads' HO_5.out).2.2 (rd (rd_L2 l0 (rd x8_2 x10_2)) x52_3) p169 q169
                             obtain rfl : (⟨go18, 0, none⟩ : Addr) = ad169 := (by injection e169)
                             (first | simp only [add_plain] at hx169_0 | simp only [add_at] at hx169_0 | simp only [Addr.add, Nat.zero_add] at hx169_0 | skip)
                             replace p169 := eq_true p169
                             replace q169 := eq_true q169
                             go_wp2
                             repeat (go_quiet (fail); try go_wp2)
                             (try simp only [← hl5_3, ← hl6_3])
                             go_roundg k3
                             case measure => have := HK1.out; have := HK2.out; have := HK3.out; omega
                             case rel => exact ⟨(x5_3), (x6_3), (x8_3), (x9_3), (wrap64 (x52_3 + 1)), (by first | rfl | (simp; done) | (simp [*]; done)), (by first | rfl | (simp; done) | (simp [*]; done)), H', ⟨by have := HK1.out; have := HK2.out; have := HK3.out; omega⟩, ⟨by (try simp only [hl5_1]); (try simp only [hl5_2]); (try simp only [hl6_2]); (try simp only [hl5_3]); (try simp only [hl6_3]); (with_reducible repeat (first | apply Kd.R_alloc | apply Kd.R_drewN | apply Kd.R_drew)); exact HO_5.out⟩, ⟨by (try simp only [hl5_1]); (try simp only [hl5_2]); (try simp only [hl6_2]); (try simp only [hl5_3]); (try simp only [hl6_3]); (with_reducible repeat (first | apply Kd.R_alloc | apply Kd.R_drewN | apply Kd.R_drew)); exact HO_6.out⟩, ⟨by (try simp only [hl5_1]); (try simp only [hl5_2]); (try simp only [hl6_2]); (try simp only [hl5_3]); (try simp only [hl6_3]); (with_reducible repeat (first | apply Kd.R_alloc | apply Kd.R_drewN | apply Kd.R_drew)); exact HO_8.out⟩, ⟨by repeat (first | (with_reducible first | exact HB.out | apply bal | apply pbn | apply bd1) | exact HB.out)⟩⟩
                           ·rw [if_neg c54] at H
                            exact absurd H (by simp)
                        ·rw [if_neg c50] at H
                         exact absurd H (by simp)
                       ·rw [if_neg c49] at H
                        exact absurd H (by simp)
                     ·rw [if_neg c36] at H
                      exact absurd H (by simp)
                    ·rw [if_neg c35] at H
                     exact absurd H (by simp)
                   ·rw [if_neg c34] at H
                    exact absurd H (by simp)
                  ·rw [if_neg c33] at H
                   exact absurd H (by simp)
                 ·rw [if_neg c32] at H
                  have c32b0 : decide (x52_3 < ((rd_L2 l0 (rd x8_2 x10_2)).length : Int)) = false := dff c32
                  clear c32
                  have H' := ak H
                  clear H
                  go_wp2
                  repeat (go_quiet (fail); try go_wp2)
                  (try simp only [← hl5_2, ← hl6_2, ← hl5_3, ← hl6_3])
                  go_roundg k3
                  case measure => have := HK1.out; have := HK2.out; have := HK3.out; omega
                  case rel => exact ⟨(x5_3), (x6_3), (x8_3), (x9_3), (wrap64 (x10_2 + 1)), (by first | rfl | (simp; done) | (simp [*]; done)), (by first | rfl | (simp; done) | (simp [*]; done)), H', ⟨by have := HK1.out; have := HK2.out; have := HK3.out; omega⟩, ⟨by (try simp only [hl5_1]); (try simp only [hl5_2]); (try simp only [hl6_2]); (try simp only [hl5_3]); (try simp only [hl6_3]); (with_reducible repeat (first | apply Kd.R_alloc | apply Kd.R_drewN | apply Kd.R_drew)); exact HO_5.out⟩, ⟨by (try simp only [hl5_1]); (try simp only [hl5_2]); (try simp only [hl6_2]); (try simp only [hl5_3]); (try simp only [hl6_3]); (with_reducible repeat (first | apply Kd.R_alloc | apply Kd.R_drewN | apply Kd.R_drew)); exact HO_6.out⟩, ⟨by (try simp only [hl5_1]); (try simp only [hl5_2]); (try simp only [hl6_2]); (try simp only [hl5_3]); (try simp only [hl6_3]); (with_reducible repeat (first | apply Kd.R_alloc | apply Kd.R_drewN | apply Kd.R_drew)); exact HO_8.out⟩, ⟨by repeat (first | (with_reducible first | exact HB.out | apply bal | apply pbn | apply bd1) | exact HB.out)⟩⟩
              ·rw [if_neg c30] at H
               exact absurd H (by simp)
             ·rw [if_neg c29] at H
              exact absurd H (by simp)
            ·rw [if_neg c28] at H
             exact absurd H (by simp)
           ·rw [if_neg c27] at H
            have c27b0 : decide (x10_2 < (x8_2.length : Int)) = false := dff c27
            clear c27
            obtain rfl := osi H
            obtain ⟨Ao56, co56, eo56⟩ := Kd.R_slice HO_8.out
            subst eo56
            go_wp2
            repeat (go_quiet (fail); try go_wp2)
            go_ret
            exact ⟨by first | rfl | (simp <;> rfl) | (simp [*] <;> rfl), by repeat (first | (with_reducible first | exact HB.out | apply bal | apply pbn | apply bd1) | exact HB.out)⟩
        ·rw [if_neg c19] at H
         exact absurd H (by simp)
       ·rw [if_neg c17] at H
        exact absurd H (by simp)
      ·rw [if_neg c16] at H
       exact absurd H (by simp)
  ·rw [if_neg c4] at H
   exact absurd H (by simp)
 ·rw [if_neg c3] at H
  exact absurd H (by simp)
end Go.Proofs.Ytkifipakikbhcaa.Pg
namespace Go.Proofs.Ytkifipakikbhcaa.Hand
open Ytkifipakikbhcaa.Ref
open Go.RowKit YtkifipakikbhcaaW.PrintWords YtkifipakikbhcaaW.PrintLast YtkifipakikbhcaaW.PrintMore
theorem wrap64_succ {x : Int} {n : Nat} (h0 : 0 ≤ x) (h1 : x < n) (hn : n ≤ 9223372036854775807) : wrap64 (x + 1) = x + 1 := by
 unfold wrap64; omega
theorem drop_cons {α : Type} {l : List α} {d : α} {i : Int} (h0 : 0 ≤ i) (h1 : i < l.length) : l.drop i.toNat = l.getD i.toNat d :: l.drop (i + 1).toNat := by
 have h : i.toNat < l.length := by omega
 rw [List.drop_eq_getElem_cons h, show (i + 1).toNat = i.toNat + 1 from by omega]
 simp [List.getD, h]
theorem rd_mem {l : List Int} {i : Int} (h0 : 0 ≤ i) (h1 : i < l.length) : rd l i ∈ l := by
 unfold rd
 have h2 : i.toNat < l.length := by omega
 simp [List.getD, h2]
def idxf {α : Type} (p : α → Bool) : List α → Int → Int
 | [], _ => -1
 | x :: l, i => if p x = true then i else idxf p l (i + 1)
theorem any_idxf {α : Type} (p : α → Bool) : ∀ (l : List α) (i : Int), 0 ≤ i → l.any p = decide (0 ≤ idxf p l i)
 | [], i, h => by simp [idxf]
 | x :: l, i, h => by
  have ih := any_idxf p l (i + 1) (by omega)
  simp only [List.any_cons, idxf]
  by_cases hp : p x = true
  ·simp [hp, h]
  ·simp [hp, ih]
theorem rd_memInt {l : List Int} {i : Int} (h0 : 0 ≤ i) (h1 : i < l.length) : rd l i ∈ l := rd_mem h0 h1
theorem rd_memRow {l : List (List Int)} {i : Int} (h0 : 0 ≤ i) (h1 : i < l.length) : rd_L1 l i ∈ l := by
 unfold rd_L1
 have h2 : i.toNat < l.length := by omega
 simp [List.getD, h2]
def PredInt (P : Program) (f : Nat) (caps : Array Value) (I : World → Prop) (l : List Int) (p : Int → Bool) : Prop :=
 ∀ (x : Int) (W : World), x ∈ l → I W → Calls P f (#[.int .i64 x] ++ caps) W fun e W' => e = .returned (.bool (p x)) ∧ I W'
theorem IndexFunc_Int (f : Nat) (eg : ∀ args w, (callFunc f args).run Try.prog w = .ok (.enter f args) w)
  (caps : Array Value) (I : World → Prop) (A : Option Addr) (c : Nat) (l : List Int) (p : Int → Bool) (w w0 : World)
  (hr : Kd.C (Kd.int .i64) w0 A l.length l) (hI : I w) (hB : ∀ W, I W → Below w0.heap.size w0 W) (hp : PredInt Try.prog f caps I l p) :
  Calls Try.prog 88 #[.slice A l.length c, .func (.func f) #[] caps] w fun e w' => e = .returned (.int .i64 (idxf p l 0)) ∧ I w' := by
 have HR := ak hr
 have HP := ak hp
 have HI := ak hI
 have HBB := ak hB
 clear hr hp hI hB
 go_enter Try.func88, Try.ntmps88
 go_wp2
 go_loopg [5, 8] (l.length) (fun gk v5 v8 w' => ∃ x : Int, v8 = .int .i64 x ∧ Aside0 (0 ≤ x ∧ x ≤ l.length ∧ gk = l.length - x.toNat ∧ idxf p (l.drop x.toNat) x = idxf p l 0) ∧ Aside0 (I w'))
 case atStart => exact ⟨0, rfl, ⟨by omega, by omega, rfl, rfl⟩, HI⟩
 case round =>
  clear HI
  obtain ⟨x, rfl, HA, HI⟩ := hrel
  by_cases hlt : x < l.length
  ·have q1 := eq_true hlt
   have q2 := eq_true HA.out.1
   have HX := ak hlt
   obtain ⟨ad, e2, hx⟩ := Kd.at_int HR.out x HA.out.1 hlt
   have HM := ak (show rd l x ∈ l from rd_memInt HA.out.1 hlt)
   have HD := ak (show l.drop x.toNat = rd l x :: l.drop (x + 1).toNat from drop_cons HA.out.1 hlt)
   cases e2
   replace hx := ((HBB.out _ HI.out).cell (World.block_lt_of_cell? w0 _ hx)).trans hx
   clear hlt
   have HC := ak (HP.out (rd l x) wr HM.out HI.out)
   cases hq : p (rd l x) with
   | true =>
    rw [hq] at HC
    have HQ := ak hq
    clear hq
    go_wp2_with (go_at_fn f; refine HC.out.mono ?_; rintro e w' ⟨rfl, hI⟩; have HI2 := ak hI; clear hI)
    go_ret
    refine ⟨?_, HI2.out⟩
    rw [← HA.out.2.2.2, HD.out, idxf, if_pos HQ.out]
    rfl
   | false =>
    rw [hq] at HC
    have HQ := ak hq
    clear hq
    go_wp2_with (go_at_fn f; refine HC.out.mono ?_; rintro e w' ⟨rfl, hI⟩; have HI2 := ak hI; clear hI)
    go_roundg (l.length - (x + 1).toNat)
    case measure => have := HA.out; have := HX.out; omega
    case rel =>
     have h1 := HA.out; have h2 := HX.out
     refine ⟨x + 1, by rw [wrap64_succ h1.1 h2 (Kd.C_max HR.out)], ⟨by omega, by omega, rfl, ?_⟩, HI2⟩
     rw [← h1.2.2.2, HD.out, idxf, HQ.out]
     simp
  ·go_wp2
   go_ret
   refine ⟨?_, HI.out⟩
   have h1 := HA.out
   rw [← h1.2.2.2, List.drop_eq_nil_of_le (by omega), idxf]
   rfl
theorem ContainsFunc_Int (f : Nat) (eg : ∀ args w, (callFunc f args).run Try.prog w = .ok (.enter f args) w)
  (caps : Array Value) (I : World → Prop) (A : Option Addr) (c : Nat) (l : List Int) (p : Int → Bool) (w w0 : World)
  (hr : Kd.C (Kd.int .i64) w0 A l.length l) (hI : I w) (hB : ∀ W, I W → Below w0.heap.size w0 W) (hp : PredInt Try.prog f caps I l p) :
  Calls Try.prog 61 #[.slice A l.length c, .func (.func f) #[] caps] w fun e w' => e = .returned (.bool (l.any p)) ∧ I w' := by
 rw [show l.any p = decide (0 ≤ idxf p l 0) from any_idxf p l 0 (by omega)]
 have HC := ak (IndexFunc_Int f eg caps I A c l p w w0 hr hI hB hp)
 clear hr hp hI hB
 go_enter Try.func61, Try.ntmps61
 go_wp2_with (go_at_call 88; refine HC.out.mono ?_; rintro e w' ⟨rfl, hI⟩; have HI2 := ak hI; clear hI)
 go_ret
 exact ⟨rfl, HI2.out⟩
def PredRow (P : Program) (f : Nat) (caps : Array Value) (I : World → Prop) (l : List (List Int)) (p : (List Int) → Bool) : Prop :=
 ∀ (x : (List Int)) (W : World) (A : Option Addr) (c : Nat), x ∈ l → I W → x.length ≤ c → Kd.C (Kd.int .i64) W A x.length x → Calls P f (#[.slice A x.length c] ++ caps) W fun e W' => e = .returned (.bool (p x)) ∧ I W'
theorem IndexFunc_Row (f : Nat) (eg : ∀ args w, (callFunc f args).run Try.prog w = .ok (.enter f args) w)
  (caps : Array Value) (I : World → Prop) (A : Option Addr) (c : Nat) (l : List (List Int)) (p : (List Int) → Bool) (w w0 : World)
  (hr : Kd.C (Kd.slice 3 (Kd.int .i64)) w0 A l.length l) (hI : I w) (hB : ∀ W, I W → Below w0.heap.size w0 W) (hp : PredRow Try.prog f caps I l p) :
  Calls Try.prog 84 #[.slice A l.length c, .func (.func f) #[] caps] w fun e w' => e = .returned (.int .i64 (idxf p l 0)) ∧ I w' := by
 have HR := ak hr
 have HP := ak hp
 have HI := ak hI
 have HBB := ak hB
 clear hr hp hI hB
 go_enter Try.func84, Try.ntmps84
 go_wp2
 go_loopg [5, 8] (l.length) (fun gk v5 v8 w' => ∃ x : Int, v8 = .int .i64 x ∧ Aside0 (0 ≤ x ∧ x ≤ l.length ∧ gk = l.length - x.toNat ∧ idxf p (l.drop x.toNat) x = idxf p l 0) ∧ Aside0 (I w'))
 case atStart => exact ⟨0, rfl, ⟨by omega, by omega, rfl, rfl⟩, HI⟩
 case round =>
  clear HI
  obtain ⟨x, rfl, HA, HI⟩ := hrel
  by_cases hlt : x < l.length
  ·have q1 := eq_true hlt
   have q2 := eq_true HA.out.1
   have HX := ak hlt
   obtain ⟨ad, A2, cp2, e2, hx, hl2, hC⟩ := at_L1 HR.out x HA.out.1 hlt
   have HC2 := ak hC
   have HL2 := ak hl2
   clear hC hl2
   have HM := ak (show rd_L1 l x ∈ l from rd_memRow HA.out.1 hlt)
   have HD := ak (show l.drop x.toNat = rd_L1 l x :: l.drop (x + 1).toNat from drop_cons HA.out.1 hlt)
   cases e2
   replace hx := ((HBB.out _ HI.out).cell (World.block_lt_of_cell? w0 _ hx)).trans hx
   clear hlt
   have HC := ak (HP.out (rd_L1 l x) wr A2 cp2 HM.out HI.out HL2.out (Kd.C_below HC2.out (HBB.out _ HI.out)))
   cases hq : p (rd_L1 l x) with
   | true =>
    rw [hq] at HC
    have HQ := ak hq
    clear hq
    go_wp2_with (go_at_fn f; refine HC.out.mono ?_; rintro e w' ⟨rfl, hI⟩; have HI2 := ak hI; clear hI)
    go_ret
    refine ⟨?_, HI2.out⟩
    rw [← HA.out.2.2.2, HD.out, idxf, if_pos HQ.out]
    rfl
   | false =>
    rw [hq] at HC
    have HQ := ak hq
    clear hq
    go_wp2_with (go_at_fn f; refine HC.out.mono ?_; rintro e w' ⟨rfl, hI⟩; have HI2 := ak hI; clear hI)
    go_roundg (l.length - (x + 1).toNat)
    case measure => have := HA.out; have := HX.out; omega
    case rel =>
     have h1 := HA.out; have h2 := HX.out
     refine ⟨x + 1, by rw [wrap64_succ h1.1 h2 (Kd.C_max HR.out)], ⟨by omega, by omega, rfl, ?_⟩, HI2⟩
     rw [← h1.2.2.2, HD.out, idxf, HQ.out]
     simp
  ·go_wp2
   go_ret
   refine ⟨?_, HI.out⟩
   have h1 := HA.out
   rw [← h1.2.2.2, List.drop_eq_nil_of_le (by omega), idxf]
   rfl
theorem ContainsFunc_Row (f : Nat) (eg : ∀ args w, (callFunc f args).run Try.prog w = .ok (.enter f args) w)
  (caps : Array Value) (I : World → Prop) (A : Option Addr) (c : Nat) (l : List (List Int)) (p : (List Int) → Bool) (w w0 : World)
  (hr : Kd.C (Kd.slice 3 (Kd.int .i64)) w0 A l.length l) (hI : I w) (hB : ∀ W, I W → Below w0.heap.size w0 W) (hp : PredRow Try.prog f caps I l p) :
  Calls Try.prog 53 #[.slice A l.length c, .func (.func f) #[] caps] w fun e w' => e = .returned (.bool (l.any p)) ∧ I w' := by
 rw [show l.any p = decide (0 ≤ idxf p l 0) from any_idxf p l 0 (by omega)]
 have HC := ak (IndexFunc_Row f eg caps I A c l p w w0 hr hI hB hp)
 clear hr hp hI hB
 go_enter Try.func53, Try.ntmps53
 go_wp2_with (go_at_call 84; refine HC.out.mono ?_; rintro e w' ⟨rfl, hI⟩; have HI2 := ak hI; clear hI)
 go_ret
 exact ⟨rfl, HI2.out⟩
end Go.Proofs.Ytkifipakikbhcaa.Hand
namespace Go.Proofs.Ytkifipakikbhcaa.Hand
open Go.RowKit YtkifipakikbhcaaW.PrintWords YtkifipakikbhcaaW.PrintLast YtkifipakikbhcaaW.PrintMore
open Ytkifipakikbhcaa.Ref
def inAt (inn : List Bool) (i : Int) : Bool := inn.getD i.toNat false
def aloneRow (inn : List Bool) : List Int → Int → Option Int
 | [], only => some only
 | i :: l, only => if inAt inn i = true then (if 0 ≤ only then none else aloneRow inn l i) else aloneRow inn l only
def alone (inn : List Bool) : List (List Int) → Int
 | [] => -1
 | l :: ls => match aloneRow inn l (-1) with
  | some o => if 0 ≤ o then o else alone inn ls
  | none => alone inn ls
theorem alone_calls (vars : Int) (A0 : Option Addr) (c0 : Nat) (ls : List (List Int)) (A1 : Option Addr) (c1 : Nat) (inn : List Bool) (w : World)
  (hr0 : Kd.C (Kd.slice 3 (Kd.int .i64)) w A0 ls.length ls) (hc0 : ls.length ≤ c0) (hr1 : Kd.C Kd.bool w A1 inn.length inn) (hc1 : inn.length ≤ c1)
  (hin : ∀ l ∈ ls, ∀ i ∈ l, 0 ≤ i ∧ i < inn.length) (hl : ls.length ≤ 9223372036854775807) :
  Calls Try.prog 49 #[.agg #[.int .i64 vars, .slice A0 ls.length c0], .slice A1 inn.length c1] w fun e w' => e = .returned (.int .i64 (alone inn ls)) ∧ Below w.heap.size w w' := by
 have hu31 := Try.underlying31
 have HR0 := ak hr0
 have HR1 := ak hr1
 have HIN := ak hin
 have HL := ak hl
 clear hr0 hr1 hin hl
 go_enter Try.func49, Try.ntmps49
 go_wp2
 obtain ⟨w1, hw1⟩ : ∃ w1 : World, w1 = w.alloc (Obj.cells #[Value.int IntKind.i64 vars, Value.slice A0 ls.length c0] 31) := ⟨_, rfl⟩
 have hb : Below w.heap.size w w1 := by rw [hw1]; exact bal (Below.refl _ _) _
 have BK : w1.heap[w.heap.size]? = some (.cells #[.int .i64 vars, .slice A0 ls.length c0] 31 (0, 0)) := by rw [hw1]; exact heap_alloc_new w _
 rw [← hw1]
 have HB := ak hb
 have hcz0 : w1.cell? ⟨w.heap.size, 0, none⟩ = some (.int .i64 vars) := (kce BK 0).trans rfl
 have hcz1 : w1.cell? ⟨w.heap.size, 1, none⟩ = some (.slice A0 ls.length c0) := (kce BK 1).trans rfl
 clear hb hw1 BK
 go_step3
 go_wp2
 go_step3
 go_wp2
 go_loopg [13] (ls.length) (fun gk v13 w' => w' = w1 ∧ ∃ x : Int, v13 = .int .i64 x ∧ Aside0 (0 ≤ x ∧ x ≤ ls.length ∧ gk = ls.length - x.toNat ∧ alone inn (ls.drop x.toNat) = alone inn ls))
 case atStart => exact ⟨rfl, 0, rfl, ⟨by omega, by omega, rfl, rfl⟩⟩
 case round =>
  obtain ⟨rfl, x, rfl, HA⟩ := hrel
  by_cases hlt : x < ls.length
  ·have c1 := eq_true hlt
   have c2 := eq_true HA.out.1
   have HX := ak hlt
   obtain ⟨ad, A2, cp2, e2, hx, hl2, hC⟩ := at_L1 HR0.out x HA.out.1 hlt
   have HM := ak (show rd_L1 ls x ∈ ls from by
    unfold rd_L1
    have h := HA.out.1
    have h2 : x.toNat < ls.length := by omega
    simp [List.getD, h2])
   have HD := ak (show ls.drop x.toNat = rd_L1 ls x :: ls.drop (x + 1).toNat from drop_cons HA.out.1 hlt)
   cases e2
   replace hx := (HB.out.cell (World.block_lt_of_cell? w _ hx)).trans hx
   have HC := ak hC
   have HL2 := ak hl2
   clear hC hl2 hlt
   go_wp2
   go_loopg [7, 9, 19] ((rd_L1 ls x).length) (fun gk v7 v9 v19 w' => w' = wr ∧ ∃ o j : Int, v7 = .int .i64 o ∧ v19 = .int .i64 j ∧ Aside0 (0 ≤ j ∧ j ≤ (rd_L1 ls x).length ∧ gk = (rd_L1 ls x).length - j.toNat ∧ aloneRow inn ((rd_L1 ls x).drop j.toNat) o = aloneRow inn (rd_L1 ls x) (-1)))
   case atStart => exact ⟨rfl, -1, 0, rfl, rfl, ⟨by omega, by omega, rfl, rfl⟩⟩
   case round =>
    obtain ⟨rfl, o, j, rfl, rfl, HJ⟩ := hrel
    by_cases hlj : j < (rd_L1 ls x).length
    ·have q1 := eq_true hlj
     have q2 := eq_true HJ.out.1
     have HY := ak hlj
     obtain ⟨aj, ej, hxj⟩ := Kd.at_int HC.out j HJ.out.1 hlj
     cases ej
     replace hxj := (HB.out.cell (World.block_lt_of_cell? w _ hxj)).trans hxj
     have hri := HIN.out _ HM.out (rd (rd_L1 ls x) j) (by
      unfold rd
      have h := HJ.out.1
      have h2 : j.toNat < (rd_L1 ls x).length := by omega
      simp [List.getD, h2])
     obtain ⟨ai, ei, hxi⟩ := Kd.at_bool HR1.out (rd (rd_L1 ls x) j) hri.1 hri.2
     cases ei
     replace hxi := (HB.out.cell (World.block_lt_of_cell? w _ hxi)).trans hxi
     have HN := ak (show aloneRow inn ((rd_L1 ls x).drop j.toNat) o = if inAt inn (rd (rd_L1 ls x) j) = true then (if 0 ≤ o then none else aloneRow inn ((rd_L1 ls x).drop (j + 1).toNat) (rd (rd_L1 ls x) j)) else aloneRow inn ((rd_L1 ls x).drop (j + 1).toNat) o from by
      rw [drop_cons (d := 0) HJ.out.1 hlj, aloneRow]; rfl)
     have q3 := eq_true hri.1
     have q4 := eq_true hri.2
     clear hri hlj
     go_wp2
     ·go_roundg (ls.length - (x + 1).toNat)
      case measure => have := HA.out; have := HX.out; omega
      case rel =>
       have h1 := HA.out; have h2 := HX.out
       refine ⟨rfl, x + 1, by rw [wrap64_succ h1.1 h2 HL.out], ⟨by omega, by omega, rfl, ?_⟩⟩
       rw [← HA.out.2.2.2, HD.out, alone, ← HJ.out.2.2.2, HN.out, if_pos (by assumption), if_pos (by assumption)]
     ·go_roundg ((rd_L1 ls x).length - (j + 1).toNat)
      case measure => have := HJ.out; have := HY.out; omega
      case rel =>
       have h1 := HJ.out; have h2 := HY.out
       refine ⟨rfl, _, j + 1, rfl, by rw [wrap64_succ h1.1 h2 (Kd.C_max HC.out)], ⟨by omega, by omega, rfl, ?_⟩⟩
       rw [← HJ.out.2.2.2, HN.out, if_pos (by assumption), if_neg (by omega)]
     ·go_roundg ((rd_L1 ls x).length - (j + 1).toNat)
      case measure => have := HJ.out; have := HY.out; omega
      case rel =>
       have h1 := HJ.out; have h2 := HY.out
       refine ⟨rfl, _, j + 1, rfl, by rw [wrap64_succ h1.1 h2 (Kd.C_max HC.out)], ⟨by omega, by omega, rfl, ?_⟩⟩
       rw [← HJ.out.2.2.2, HN.out, if_neg (by assumption)]
    ·have HE := ak (show aloneRow inn (rd_L1 ls x) (-1) = some o from by
      have h1 := HJ.out
      rw [← h1.2.2.2, List.drop_eq_nil_of_le (by omega), aloneRow])
     go_wp2
     ·(try rw [Exit.noGoto_ret])
      go_ret
      refine ⟨?_, HB.out⟩
      rw [← HA.out.2.2.2, HD.out, alone, HE.out]
      simp only []
      rw [if_pos (by assumption)]
      rfl
     ·go_roundg (ls.length - (x + 1).toNat)
      case measure => have := HA.out; have := HX.out; omega
      case rel =>
       have h1 := HA.out; have h2 := HX.out
       refine ⟨rfl, x + 1, by rw [wrap64_succ h1.1 h2 HL.out], ⟨by omega, by omega, rfl, ?_⟩⟩
       rw [← HA.out.2.2.2, HD.out, alone, HE.out]
       simp only []
       rw [if_neg (by omega)]
  ·go_wp2
   (try rw [Exit.noGoto_ret])
   go_ret
   refine ⟨?_, HB.out⟩
   have h1 := HA.out
   rw [← h1.2.2.2, List.drop_eq_nil_of_le (by omega), alone]
   rfl
def peel_alone.f (a0_0 : Int) (l0_1 : List (List Int)) (l1 : List Bool) : Option Int :=
 if l0_1.all (fun l => l.all fun i => decide (0 ≤ i ∧ i < l1.length)) = true then (if l0_1.length ≤ 9223372036854775807 then some (alone l1 l0_1) else none) else none
theorem peel_alone.f_some {a0_0 : Int} {l0_1 : List (List Int)} {l1 : List Bool} {r : Int} (h : peel_alone.f a0_0 l0_1 l1 = some r) : (∀ l ∈ l0_1, ∀ i ∈ l, 0 ≤ i ∧ i < l1.length) ∧ l0_1.length ≤ 9223372036854775807 ∧ r = alone l1 l0_1 := by
 unfold peel_alone.f at h
 split at h
 ·rename_i h1
  split at h
  ·rename_i h2
   exact ⟨fun l hl i hi => odt (List.all_eq_true.1 (List.all_eq_true.1 h1 l hl) i hi), h2, (osi h).symm⟩
  ·exact absurd h (by simp)
 ·exact absurd h (by simp)
theorem peel_alone.calls (a0_0 : Int) (A0_1 : Option Addr) (c0_1 : Nat) (l0_1 : List (List Int)) (A1 : Option Addr) (c1 : Nat) (l1 : List Bool) (r : Int) (w : World) (hr0_1 : Kd.C (Kd.slice 3 (Kd.int .i64)) w A0_1 l0_1.length l0_1) (hc0_1 : l0_1.length ≤ c0_1) (hr1 : Kd.C Kd.bool w A1 l1.length l1) (hc1 : l1.length ≤ c1) (h : peel_alone.f a0_0 l0_1 l1 = some r) :
  Calls Try.prog 49 #[.agg #[.int .i64 a0_0, .slice A0_1 l0_1.length c0_1], .slice A1 l1.length c1] w fun e w' => e = .returned (.int .i64 r) ∧ Below w.heap.size w w' := by
 obtain ⟨h1, h2, rfl⟩ := peel_alone.f_some h
 exact alone_calls a0_0 A0_1 c0_1 l0_1 A1 c1 l1 w hr0_1 hc0_1 hr1 hc1 h1 h2
end Go.Proofs.Ytkifipakikbhcaa.Hand
namespace Go.Proofs.Ytkifipakikbhcaa.Hand
open Go.RowKit YtkifipakikbhcaaW.PrintWords YtkifipakikbhcaaW.PrintLast YtkifipakikbhcaaW.PrintMore
theorem copy_self {P : Program} {ops : Array Oper} {rest : List Oper} {o : Oper} {a : Act} {Q : Exit → Act → World → Prop} {W : World} (hgd : o.guard = none) (s x : Operand) (t t' e : TypeId)
  (ho : o.op = .call { callee := .builtin .copy, args := #[s, x], argTypes := #[t, t'] }) (ht : P.underlying t = some (.slice e)) (hinfo : (P.info? e).map (·.size) = some 1)
  (g base n cap d m c dl dc : Nat) (D : Option Addr) (xs : List Int) (ok : Nat → Prop)
  (hs : a.eval s = .slice D dl dc) (hx : a.eval x = .slice (some ⟨g, 0, none⟩) m c) (hD : 0 < min m dl → D = some ⟨g, d, none⟩)
  (HO : (Kd.int .i64).R e W base ok (.slice (some ⟨g, 0, none⟩) n cap) xs) (hm : m ≤ n) (hfit : d + min m dl ≤ n)
  (h : ∀ w1, (Kd.int .i64).R e w1 base ok (.slice (some ⟨g, 0, none⟩) n cap) (xs.take d ++ xs.take (min m dl) ++ xs.drop (d + min m dl)) → W.grownBy w1 (some g) → wpList P ops Q rest (a.put o.dst (.int .i64 ((min m dl : Nat) : Int))) w1) :
  wpList P ops Q (o :: rest) a W := by
 have hn : n = xs.length := (Kd.R_reads' HO).1
 subst hn
 have hown := Kd.own_of_R HO
 have fin : ∀ w1, (Builtin.copy_ #[t, t'] o.type #[.slice D dl dc, .slice (some ⟨g, 0, none⟩) m c]).run P W = .ok (goInt ((min m dl : Nat) : Int)) w1 → (Kd.int .i64).R e w1 base ok (.slice (some ⟨g, 0, none⟩) xs.length cap) (xs.take d ++ xs.take (min m dl) ++ xs.drop (d + min m dl)) → W.grownBy w1 (some g) → wpList P ops Q (o :: rest) a W := by
  intro w1 hr hrow hg
  refine wpList_plain hgd fun K hK => ?_
  unfold Oper.wp execOp
  simp only [ho, resolve, invoke, builtin, Sem.run_bind, Sem.run_pure, Result.andThen_ok, List.map_toArray, List.map_cons, List.map_nil, hs, hx, hr]
  exact hK _ _ (h w1 hrow hg)
 rcases Nat.eq_zero_or_pos (min m dl) with h0 | hp
 ·refine fin W ?_ (by rw [h0]; simpa using HO) (World.grownBy.refl W _)
  rw [h0]
  exact run_copy_none W t t' o.type e D _ dl dc m c ht hinfo h0
 ·obtain rfl := hD hp
  rcases hown.2 with ⟨hv, _⟩ | ⟨g', cap', cur, hv, hb, hh, hnc, hcm, hcs, htake⟩
  ·injection hv with h1 _ _; cases h1
  injection hv with h1 _ h3
  injection h1 with h1
  injection h1 with h1
  subst h1 h3
  have htk : cur.toList.take xs.length = encs (Value.int .i64) xs := by rw [← htake, Nat.mul_one]
  have hkl : (encs (Value.int .i64) (xs.take (min m dl))).length = min m dl := by rw [encs_length, List.length_take]; omega
  have hcur : ∀ j, j < xs.length → cur[j]? = some (.int .i64 (xs.getD j 0)) := by
   intro j hj
   have h1 := encs_get (enc := Value.int .i64) (d := (0 : Int)) xs j hj
   rw [← htk, List.getElem?_take_of_lt hj] at h1
   simpa using h1
  have hsrc : ∀ j u, (encs (Value.int .i64) (xs.take (min m dl)))[j]? = some u → W.cell? ((⟨g, 0, none⟩ : Addr).add j) = some u := by
   intro j u hu
   have hj : j < min m dl := by
    rcases Nat.lt_or_ge j (min m dl) with h | h
    ·exact h
    ·rw [List.getElem?_eq_none (by rw [hkl]; exact h)] at hu
     cases hu
   rw [encs_get (d := (0 : Int)) _ j (by rw [List.length_take]; omega)] at hu
   rw [add_plain, cell_of_row W g _ cur e (0, 0) hh, hcur j (by omega), ← hu]
   simp [List.getD_eq_getElem?_getD, hj]
  have hr := run_copy_cells (P := P) W t t' o.type e g d dl dc ⟨g, 0, none⟩ m c (encs (Value.int .i64) (xs.take (min m dl))) ht hinfo (by rw [hkl]) hsrc
   (fun j hj => by rw [cell_of_row W g _ cur e (0, 0) hh]; rw [hkl] at hj; simp; omega) (fun j _ => kfz hh _) (by intro u hu; simp only [encs, List.mem_map] at hu; obtain ⟨q, _, rfl⟩ := hu; rfl)
  obtain ⟨cur', h3, h4, h5⟩ := setCells_row (encs (Value.int .i64) (xs.take (min m dl))) d W cur hh (by rw [hkl]; omega)
  obtain ⟨s1, s2, s3, s4⟩ := setCells_same g (encs (Value.int .i64) (xs.take (min m dl))) d W
  refine fin _ (by rw [hr, hkl]) ?_ ⟨s1, s2, s3, by rw [s4]; exact Nat.le_refl _, fun k _ hk => setCells_far _ _ k (fun he => hk (by rw [he]))⟩
  have hln : (xs.take d ++ xs.take (min m dl) ++ xs.drop (d + min m dl)).length = xs.length := by
   simp only [List.length_append, List.length_take, List.length_drop]
   omega
  have hrow := Kd.R_of_own (enc := Value.int .i64) (h1 := fun _ => rfl) (e := e) (w := W.setCells g d (encs (Value.int .i64) (xs.take (min m dl)))) (base := base) (ok := ok) (v := .slice (some ⟨g, 0, none⟩) xs.length cap)
   (xs := xs.take d ++ xs.take (min m dl) ++ xs.drop (d + min m dl)) ?_ HO.1
  ·exact hrow
  rw [hln]
  refine ⟨by rw [encs_length, hln, Nat.mul_one], .inr ⟨g, cap, cur', rfl, hb, h3, hnc, hcm, by rw [h4, hcs], ?_⟩⟩
  rw [h5, hkl, encs_append, encs_append, Nat.mul_one]
  have e1 : encs (Value.int .i64) (xs.take d) = cur.toList.take d := by
   simp only [encs, List.map_take]
   rw [show List.map (fun x => Value.int .i64 x) xs = encs (Value.int .i64) xs from rfl, ← htk, List.take_take, Nat.min_eq_left (by omega)]
  have e2 : encs (Value.int .i64) (xs.drop (d + min m dl)) = (cur.toList.take xs.length).drop (d + min m dl) := by
   simp only [encs, List.map_drop]
   rw [show List.map (fun x => Value.int .i64 x) xs = encs (Value.int .i64) xs from rfl, ← htk]
  rw [e1, e2, List.drop_take]
  have l1 : (cur.toList.take d ++ encs (Value.int .i64) (xs.take (min m dl))).length = d + min m dl := by
   rw [List.length_append, hkl, List.length_take, Array.length_toList]; omega
  rw [List.take_append, l1, List.take_of_length_le (by rw [l1]; omega)]
end Go.Proofs.Ytkifipakikbhcaa.Hand
namespace Go.Proofs.Ytkifipakikbhcaa.Hand
open Ytkifipakikbhcaa.Ref
open Go.RowKit YtkifipakikbhcaaW.PrintWords YtkifipakikbhcaaW.PrintLast YtkifipakikbhcaaW.PrintMore
attribute [local go_sem ↓] Go.wp_at_zero Go.wp_at_succ
def lowc (N : Nat) (md : List Int) (j : Int) : Int := if 1 < N then rd md j else 0
def mulCell (P : Int) (N : Nat) (md a : List Int) (bi top : Int) (sh : List Int) (j : Int) : Int :=
 Int.tmod (wrap64 (wrap64 (rd sh j + wrap64 (wrap64 (P - top) * lowc N md j)) + wrap64 (bi * rd a j))) P
def mulRnd (P : Int) (N : Nat) (md a : List Int) (bi : Int) (o : List Int) : List Int :=
 (List.range N).map fun (j : Nat) => mulCell P N md a bi (rd o ((N : Int) - 1)) (0 :: o) (j : Int)
def mulL (P : Int) (N : Nat) (md a b : List Int) : Nat → List Int → List Int
 | 0, o => o
 | i + 1, o => mulL P N md a b i (mulRnd P N md a (rd b (i : Int)) o)
theorem shift_set (o : List Int) (N : Nat) (m1 : Int) (ho : o.length = N) (hN : 1 ≤ N) (hm : m1 = (N : Int) - 1) :
  (o.take 1 ++ o.take (min m1.toNat (N - 1)) ++ o.drop (1 + min m1.toNat (N - 1))).set (0 : Int).toNat 0 = 0 :: o.take (N - 1) := by
 have e : min m1.toNat (N - 1) = N - 1 := by omega
 rw [e, List.drop_eq_nil_of_le (by omega), List.append_nil]
 match o, ho with
 | [], h => simp at h; omega
 | x :: l, _ => simp
theorem wrap64_pred {i : Int} (h0 : 0 ≤ i) (h1 : i < 9223372036854775807) : wrap64 (i - 1) = i - 1 := by unfold wrap64; omega
theorem cell_eq (P : Int) (N : Nat) (md a : List Int) (bi top : Int) (o u : List Int) (j : Int) (h0 : 0 ≤ j) (h1 : j < N) (ho : o.length = N)
  (hu : u = ((List.range j.toNat).map fun (q : Nat) => mulCell P N md a bi top (0 :: o) q) ++ (0 :: o.take (N - 1)).drop j.toNat) : rd u j = rd (0 :: o) j := by
 obtain ⟨j, rfl⟩ := Int.eq_ofNat_of_zero_le h0
 simp only [Int.toNat_natCast] at hu
 unfold rd
 rw [hu, Int.toNat_natCast]
 rw [List.getD_eq_getElem?_getD, List.getD_eq_getElem?_getD, List.getElem?_append_right (by simp)]
 congr 1
 rw [List.length_map, List.length_range, Nat.sub_self, List.getElem?_drop, Nat.add_zero]
 cases j with
 | zero => rfl
 | succ j =>
  rw [List.getElem?_cons_succ, List.getElem?_cons_succ, List.getElem?_take_of_lt (by omega)]
theorem cell_step (P : Int) (N : Nat) (md a : List Int) (bi top : Int) (o u : List Int) (j : Int) (h0 : 0 ≤ j) (h1 : j < N) (ho : o.length = N)
  (hu : u = ((List.range j.toNat).map fun (q : Nat) => mulCell P N md a bi top (0 :: o) q) ++ (0 :: o.take (N - 1)).drop j.toNat) :
  u.set j.toNat (mulCell P N md a bi top (0 :: o) j) = ((List.range (j + 1).toNat).map fun (q : Nat) => mulCell P N md a bi top (0 :: o) q) ++ (0 :: o.take (N - 1)).drop (j + 1).toNat := by
 obtain ⟨j, rfl⟩ := Int.eq_ofNat_of_zero_le h0
 simp only [Int.toNat_natCast, show ((j : Int) + 1).toNat = j + 1 from by omega] at hu ⊢
 have hl : j < (0 :: o.take (N - 1)).length := by simp only [List.length_cons, List.length_take]; omega
 rw [hu, List.set_append_right _ _ (by simp), List.length_map, List.length_range, Nat.sub_self, List.drop_eq_getElem_cons hl, scz, List.range_succ, List.map_append, List.append_assoc]
 rfl
theorem wrap64_succ' {x : Int} {n : Nat} (h0 : 0 ≤ x) (h1 : x < n) (hn : n ≤ 9223372036854775807) : wrap64 (x + 1) = x + 1 := by
 unfold wrap64; omega
theorem info3s : (Try.prog.info? 3).map (·.size) = some 1 := by kernel_rfl
theorem block_lt {W : World} {g : Nat} {o : Obj} (h : W.heap[g]? = some o) : g < W.heap.size := by
 rcases Nat.lt_or_ge g W.heap.size with h1 | h1
 ·exact h1
 ·rw [Array.getElem?_eq_none h1] at h; cases h
theorem cbl {W W' : World} {p : Addr} {v : Value} (h : W.cell? p = some v) (hb : Below W.heap.size W W') : W'.cell? p = some v :=
 (hb.cell (World.block_lt_of_cell? W p h)).trans h
theorem cells2_below {W W' : World} {p q : Addr} {u v : Value} (h : W.cell? p = some u ∧ W.cell? q = some v) (hb : Below W.heap.size W W') : W'.cell? p = some u ∧ W'.cell? q = some v :=
 ⟨cbl h.1 hb, cbl h.2 hb⟩
theorem multiply_calls (k : Nat) (P : Int) (N : Nat) (A : Option Addr) (c : Nat) (md : List Int) (x y : Int) (w : World) (hr : Kd.C (Kd.int .i64) w A md.length md) (hc : md.length ≤ c)
  (hN1 : 1 ≤ N) (hN8 : N ≤ 8) (hmd : 1 < N → md.length = N) (a b : List Int) (hal : a.length = N) (hbl : b.length = N) (ha : field_digitsOf.f k x P N = some a) (hb : field_digitsOf.f k y P N = some b)
  (r : Int) (hv : field_valueOf.f k (mulL P N md a b N (List.replicate N 0)) P = some r) (hP : P ≠ 0) :
  Calls Try.prog 104 #[.agg #[.int .i64 P, .int .i64 N, .slice A md.length c], .int .i64 x, .int .i64 y] w fun e w' => e = .returned (.int .i64 r) ∧ Below w.heap.size w w' := by
 have hu24 := Try.underlying24
 have HR := ak hr
 have HC := ak hc
 have HDA := ak ha
 have HDB := ak hb
 have HV := ak hv
 have HP := ak hP
 have HN := ak (And.intro hN1 hN8)
 have HMD := ak hmd
 have HL := ak (And.intro hal hbl)
 clear hr hc ha hb hv hP hN1 hN8 hmd hal hbl
 go_enter Try.func104, Try.ntmps104
 go_wp2
 obtain ⟨w1, hw1⟩ : ∃ w1 : World, w1 = w.alloc (Obj.cells #[.int .i64 P, .int .i64 N, .slice A md.length c] 24) := ⟨_, rfl⟩
 have hb : Below w.heap.size w w1 := by rw [hw1]; exact bal (Below.refl _ _) _
 have BK : w1.heap[w.heap.size]? = some (.cells #[.int .i64 P, .int .i64 N, .slice A md.length c] 24 (0, 0)) := by rw [hw1]; exact heap_alloc_new w _
 rw [← hw1]
 have HB := ak hb
 have HBK := ak BK
 have hcz0 : w1.cell? ⟨w.heap.size, 0, none⟩ = some (.int .i64 P) := (kce BK 0).trans rfl
 have hcz1 : w1.cell? ⟨w.heap.size, 1, none⟩ = some (.int .i64 N) := (kce BK 1).trans rfl
 have hcz2 : w1.cell? ⟨w.heap.size, 2, none⟩ = some (.slice A md.length c) := (kce BK 2).trans rfl
 clear hb hw1 BK
 have HLT := ak (show w.heap.size < w1.heap.size from World.block_lt_of_cell? w1 _ hcz0)
 go_region_held3 (fun w' => w'.cell? ⟨w.heap.size, 0, none⟩ = some (.int .i64 P) ∧ w'.cell? ⟨w.heap.size, 1, none⟩ = some (.int .i64 N)) (first | go_keep | exact HSB.out | exact HSA.out)
  (first | (go_at_call 113; (with_reducible refine (field_digitsOf.calls k x P N a _ HDA.out).mono ?_); rintro e w2 ⟨va, rfl, hRa, hBa⟩; have HSA := ak (cells2_below (by assumption) hBa); have HRA := ak hRa; have HBA := ak hBa; clear hRa hBa) | (go_at_call 113; (with_reducible refine (field_digitsOf.calls k y P N b _ HDB.out).mono ?_); rintro e w3 ⟨vb, rfl, hRb, hBb⟩; have HSB := ak (cells2_below HSA.out hBb); have HRB := ak hRb; have HBB := ak hBb; clear hRb hBb))
 obtain ⟨Aa, ca, ea⟩ := Kd.R_slice HRA.out
 obtain ⟨Ab, cb, eb⟩ := Kd.R_slice HRB.out
 subst ea eb
 have HCA := ak (Kd.C_below (Kd.R_reads' HRA.out).2.2 HBB.out)
 have HCB := ak (Kd.R_reads' HRB.out).2.2
 have HB3 := ak (bsp (bsp (below_drew HB.out) HBA.out) HBB.out)
 have HBK3 := ak (((HBB.out.block _ (Nat.lt_of_lt_of_le HLT.out HBA.out.size)).trans (HBA.out.block _ HLT.out)).trans HBK.out)
 have p0 := eq_true (show 0 ≤ (N : Int) from by omega)
 clear hcz0 hcz1 hcz2
 have hcz0 : w3.cell? ⟨w.heap.size, 0, none⟩ = some (.int .i64 P) := (kce HBK3.out 0).trans rfl
 have hcz1 : w3.cell? ⟨w.heap.size, 1, none⟩ = some (.int .i64 N) := (kce HBK3.out 1).trans rfl
 have hcz2 : w3.cell? ⟨w.heap.size, 2, none⟩ = some (.slice A md.length c) := (kce HBK3.out 2).trans rfl
 obtain ⟨m1, hm1⟩ : ∃ m1 : Int, wrap64 ((N : Int) - 1) = m1 := ⟨_, rfl⟩
 have hm2 : IntKind.i64.wrap ((N : Int) - 1) = m1 := (i64_w _).trans hm1
 have HM1 := ak (show m1 = (N : Int) - 1 from by have := HN.out; rw [← hm1]; unfold wrap64; omega)
 go_wp2_with (first | ((with_reducible refine gate_dst (N := 28) rfl ?_); refine Kd.R_make (Kd.int .i64) _ 3 rfl (N := 28) rfl 22 _ _ rfl N rfl rfl Try.underlying22 (.int .i64 0) 8 info3 rfl (by decide) (by omega) 0 (ok := fun _ => True) (okp := fun _ => True) rfl (fun _ hk => hk) trivial (of_eq_true p0) (by have := HN.out; omega) (Below.refl _ _) (Nat.le_refl _) ?_; intro vo w4 ho hb4 hg4 hnew4; clear hg4 hnew4; replace hcz0 := cbl hcz0 hb4; replace hcz1 := cbl hcz1 hb4; replace hcz2 := cbl hcz2 hb4; rw [Int.toNat_natCast] at ho; have HO := ak ho; have HB4 := ak hb4; clear ho hb4))
 obtain ⟨Ao, co, eo⟩ := Kd.R_slice HO.out
 subst eo
 rw [List.length_replicate]
 go_loopg [10] N (fun gk v10 w' => ∃ (i : Int) (o : List Int), v10 = .int .i64 i ∧ Aside0 (-1 ≤ i ∧ i < N ∧ gk = (i + 1).toNat ∧ o.length = N ∧ mulL P N md a b (i + 1).toNat o = mulL P N md a b N (List.replicate N 0)) ∧ Aside0 (Kd.R (Kd.int .i64) 3 w' w3.heap.size (fun _ => True) (.slice Ao N co) o) ∧ Aside0 (Below w3.heap.size w3 w'))
 case atStart =>
  refine ⟨m1, _, rfl, ⟨?_, ?_, ?_, List.length_replicate, ?_⟩, ⟨by have h := HO.out; rw [List.length_replicate] at h; exact h⟩, HB4⟩
  ·have := HN.out; have := HM1.out; omega
  ·have := HN.out; have := HM1.out; omega
  ·have := HN.out; have := HM1.out; omega
  ·rw [show (m1 + 1).toNat = N from by have := HN.out; have := HM1.out; omega]
 case round =>
  clear hcz0 hcz1 hcz2
  obtain ⟨i, o, rfl, HI, HR1, HB5⟩ := hrel
  have BK5 := ak ((HB5.out.block _ (block_lt HBK3.out)).trans HBK3.out)
  have hcz0 : wr.cell? ⟨w.heap.size, 0, none⟩ = some (.int .i64 P) := (kce BK5.out 0).trans rfl
  have hcz1 : wr.cell? ⟨w.heap.size, 1, none⟩ = some (.int .i64 N) := (kce BK5.out 1).trans rfl
  have hcz2 : wr.cell? ⟨w.heap.size, 2, none⟩ = some (.slice A md.length c) := (kce BK5.out 2).trans rfl
  by_cases hi : i ≥ 0
  ·have c1 : decide (0 ≤ i) = true := det hi
   have HI0 := ak hi
   clear hi
   obtain ⟨go, co', eo, gb, gl, cl, HG⟩ := Kd.R_form HR1.out (by have := HI.out; have := HN.out; omega)
   injection eo with e1 e2 e3
   subst e1 e3
   clear e2
   have HGB := ak gb
   have HGG := ak HG
   clear gb gl HG
   have q1 : (0 ≤ m1) = True := eq_true (by have := HN.out; have := HM1.out; omega)
   have q2 : (m1 < (N : Int)) = True := eq_true (by have := HN.out; have := HM1.out; omega)
   obtain ⟨hx1, _⟩ := Kd.R_celln 0 HR1.out m1 (of_eq_true q1) (of_eq_true q2)
   have q3 : ((1 : Int) ≤ (N : Int)) = True := eq_true (by have := HN.out; omega)
   have q4 : (N ≤ co) = True := eq_true (Kd.R_reads' HR1.out).2.1
   have q5 : ((N : Int) ≤ (co : Int)) = True := eq_true (by have := of_eq_true q4; omega)
   have q6 : (1 ≤ N) = True := eq_true HN.out.1
   have q7 : (m1 ≤ (co : Int)) = True := eq_true (by have := of_eq_true q4; have := HM1.out; omega)
   go_wp2
   go_still_tail 7, (by kernel_rfl)
   change wpList _ _ _ _ _ wr.drew
   have HRd := ak (Kd.R_drew HR1.out)
   have HBd := ak (bd1 HB5.out)
   have hczd := ak (And.intro hcz0 (And.intro hcz1 hcz2))
   generalize wr.drew = w5 at HRd HBd ⊢
   refine copy_self rfl (.tmp 43) (.tmp 48) 22 22 3 rfl Try.underlying22 info3s go _ N co 1 m1.toNat co (N - 1) (co - 1) _ o _ rfl rfl ?_ HRd.out ?_ ?_ ?_
   ·intro h
    have := HM1.out
    rw [if_neg (by have := of_eq_true q4; omega)]
   ·have := HM1.out; omega
   ·have := HM1.out; have := HN.out; omega
   intro w6 hR6 hg6
   generalize (if co = 1 then (some ⟨go, 0, none⟩ : Option Addr) else some ⟨go, 1, none⟩) = DD
   have HR6 := ak hR6
   have HB6 := ak (HBd.out.grown hg6 HBd.out.size (fun k hk => by cases hk; exact HGB.out))
   clear hR6 hg6
   have HSH := ak (shift_set o N m1 (by have := HI.out; omega) HN.out.1 HM1.out)
   have BK6 := ak ((HB6.out.block _ (block_lt HBK3.out)).trans HBK3.out)
   clear hcz0 hcz1 hcz2 hx1
   have hcz0 : w6.cell? ⟨w.heap.size, 0, none⟩ = some (.int .i64 P) := (kce BK6.out 0).trans rfl
   have hcz1 : w6.cell? ⟨w.heap.size, 1, none⟩ = some (.int .i64 N) := (kce BK6.out 1).trans rfl
   have hcz2 : w6.cell? ⟨w.heap.size, 2, none⟩ = some (.slice A md.length c) := (kce BK6.out 2).trans rfl
   have q8 : ((0 : Int) < (N : Int)) = True := eq_true (by have := HN.out; omega)
   have q9 : (0 < N) = True := eq_true (by have := HN.out; omega)
   obtain ⟨hx0, hf0⟩ := Kd.R_celln 0 HR6.out 0 (by omega) (by have := HN.out; omega)
   have HP6 := ak (Kd.R_putg HR6.out 0 0)
   simp only [Int.toNat_zero] at hx0 hf0
   go_wp2_with (first | ((with_reducible refine gate_store (t := 3) (p := 51) rfl ?_); refine store_event (t := 3) (p := 51) (v := ?vo_w) (w1 := (w6.setCell ⟨go, 0, none⟩ (.int .i64 0))) ?hg ?ho ?hn ?hr ?_; (case ho => rfl); (case hg => rfl); (case hn => rfl); (case hr => first | (go_simp; done) | (go_simp; rfl)); intro w7 hw7; have HR7 := ak (show Kd.R (Kd.int .i64) 3 w7 w3.heap.size (fun _ => True) (.slice (some ⟨go, 0, none⟩) N co) (0 :: o.take (N - 1)) from by (rw [hw7, ← HSH.out]; exact HP6.out.1)); have HB7 := ak (show Below w3.heap.size w3 w7 from by (rw [hw7]; exact bst HB6.out HGB.out)); clear hw7))
   have HIN := ak (And.intro HI.out HI0.out)
   go_loopg [54] N (fun gk v54 w' => ∃ (j : Int) (u : List Int), v54 = .int .i64 j ∧ Aside0 (0 ≤ j ∧ j ≤ N ∧ gk = N - j.toNat ∧ u.length = N ∧ u = ((List.range j.toNat).map fun (q : Nat) => mulCell P N md a (rd b i) (rd o m1) (0 :: o) q) ++ (0 :: o.take (N - 1)).drop j.toNat) ∧ Aside0 (Kd.R (Kd.int .i64) 3 w' w3.heap.size (fun _ => True) (.slice (some ⟨go, 0, none⟩) N co) u) ∧ Aside0 (Below w3.heap.size w3 w'))
   case atStart =>
    refine ⟨0, _, rfl, ⟨by omega, by omega, by omega, ?_, by simp⟩, HR7, HB7⟩
    have := HI.out; have := HN.out
    simp only [List.length_cons, List.length_take]; omega
   case round =>
    clear HR7 HB7 HR6 HB6 HP6 hcz0 hcz1 hcz2 hx0 hf0
    obtain ⟨j, u, rfl, HJ, HR7, HB7⟩ := hrel
    have BK7 := ak ((HB7.out.block _ (block_lt HBK3.out)).trans HBK3.out)
    have hcz0 : wr.cell? ⟨w.heap.size, 0, none⟩ = some (.int .i64 P) := (kce BK7.out 0).trans rfl
    have hcz1 : wr.cell? ⟨w.heap.size, 1, none⟩ = some (.int .i64 N) := (kce BK7.out 1).trans rfl
    have hcz2 : wr.cell? ⟨w.heap.size, 2, none⟩ = some (.slice A md.length c) := (kce BK7.out 2).trans rfl
    by_cases hj : j < N
    ·have c2 : decide (j < (N : Int)) = true := det hj
     have HJ0 := ak hj
     clear hj
     have r1 : (0 ≤ j) = True := eq_true HJ.out.1
     have r2 : (j < (N : Int)) = True := eq_true HJ0.out
     have r3 : (0 ≤ i) = True := eq_true HIN.out.2
     have r4 : (i < (b.length : Int)) = True := eq_true (by have := HIN.out; have := HL.out; omega)
     have r5 : (j < (a.length : Int)) = True := eq_true (by have := HJ0.out; have := HL.out; omega)
     obtain ⟨hu1, hu2⟩ := Kd.R_celln 0 HR7.out j HJ.out.1 HJ0.out
     obtain ⟨aa, eaa, hxa⟩ := Kd.at_int HCA.out j HJ.out.1 (of_eq_true r5)
     cases eaa
     replace hxa := cbl hxa HB7.out
     obtain ⟨ab, eab, hxb⟩ := Kd.at_int HCB.out i HIN.out.2 (of_eq_true r4)
     cases eab
     replace hxb := cbl hxb HB7.out
     have hP0 : (P == 0) = false := bqm HP.out
     have hP1 : ¬ P = 0 := HP.out
     by_cases hN : 1 < N
     ·have d1 : decide ((1 : Int) < (N : Int)) = true := det (by omega)
      have d2 : decide (1 < N) = true := det (by omega)
      have hlen := HMD.out hN
      have r6 : (j < (md.length : Int)) = True := eq_true (by have := HJ0.out; omega)
      obtain ⟨am, eam, hxm⟩ := Kd.at_int HR.out j HJ.out.1 (of_eq_true r6)
      cases eam
      replace hxm := cbl (cbl hxm HB3.out) HB7.out
      have HN1 := ak hN
      clear hN hlen
      go_wp2
      go_still_tail 27, (by kernel_rfl)
      change wpList _ _ _ _ _ wr.drew
      have HPU := ak (Kd.R_putg (Kd.R_drew HR7.out) j (mulCell P N md a (rd b i) (rd o m1) (0 :: o) j))
      have HBd7 := ak (bd1 HB7.out)
      have hu1d : wr.drew.cell? ⟨go, j.toNat, none⟩ = some (.int .i64 (rdOf 0 u j)) := hu1
      have hu2d : wr.drew.frozen? ⟨go, j.toNat, none⟩ = false := hu2
      clear hu1 hu2 hxa hxb hxm hcz0 hcz1 hcz2
      generalize wr.drew = w8 at HPU HBd7 hu1d hu2d ⊢
      have HCL := ak (cell_eq P N md a (rd b i) (rd o m1) o u j HJ.out.1 HJ0.out (by have := HIN.out; omega) HJ.out.2.2.2.2)
      refine store_event (t := 3) (p := 91) (v := .tmp 90) (w1 := ?w1a) ?hg ?ho ?hn ?hr ?_
      case ho => rfl
      case hg => rfl
      case hn => rfl
      case hr => go_simp; rfl
      intro w9 hw9
      have hw10 : w9 = w8.setCell ⟨go, j.toNat, none⟩ (.int .i64 (mulCell P N md a (rd b i) (rd o m1) (0 :: o) j)) := by
       rw [hw9, mulCell, lowc, if_pos HN1.out, ← HCL.out]
       simp only [i64_w]
       rfl
      clear hw9
      have HR9 := ak (show Kd.R (Kd.int .i64) 3 w9 w3.heap.size (fun _ => True) (.slice (some ⟨go, 0, none⟩) N co) (u.set j.toNat (mulCell P N md a (rd b i) (rd o m1) (0 :: o) j)) from by rw [hw10]; exact HPU.out.1)
      have HB9 := ak (show Below w3.heap.size w3 w9 from by rw [hw10]; exact bst HBd7.out HGB.out)
      clear hw10
      go_wp2
      go_roundg (N - (j + 1).toNat)
      case measure => have := HJ.out; have := HJ0.out; omega
      case rel =>
       have h1 := HJ.out; have h2 := HJ0.out
       refine ⟨j + 1, _, by rw [wrap64_succ' h1.1 h2 (by have := HN.out; omega)], ⟨by omega, by omega, rfl, by rw [List.length_set]; exact h1.2.2.2.1, ?_⟩, HR9, HB9⟩
       exact cell_step P N md a (rd b i) (rd o m1) o u j h1.1 h2 (by have := HIN.out; omega) h1.2.2.2.2
     ·have d1 : decide ((1 : Int) < (N : Int)) = false := dff (by omega)
      have d2 : decide (1 < N) = false := dff (by omega)
      have HN1 := ak hN
      clear hN
      go_wp2
      go_still_tail 27, (by kernel_rfl)
      change wpList _ _ _ _ _ wr.drew
      have HPU := ak (Kd.R_putg (Kd.R_drew HR7.out) j (mulCell P N md a (rd b i) (rd o m1) (0 :: o) j))
      have HBd7 := ak (bd1 HB7.out)
      have hu1d : wr.drew.cell? ⟨go, j.toNat, none⟩ = some (.int .i64 (rdOf 0 u j)) := hu1
      have hu2d : wr.drew.frozen? ⟨go, j.toNat, none⟩ = false := hu2
      clear hu1 hu2 hxa hxb  hcz0 hcz1 hcz2
      generalize wr.drew = w8 at HPU HBd7 hu1d hu2d ⊢
      have HCL := ak (cell_eq P N md a (rd b i) (rd o m1) o u j HJ.out.1 HJ0.out (by have := HIN.out; omega) HJ.out.2.2.2.2)
      refine store_event (t := 3) (p := 91) (v := .tmp 90) (w1 := ?w1b) ?hg ?ho ?hn ?hr ?_
      case ho => rfl
      case hg => rfl
      case hn => rfl
      case hr => go_simp; rfl
      intro w9 hw9
      have hw10 : w9 = w8.setCell ⟨go, j.toNat, none⟩ (.int .i64 (mulCell P N md a (rd b i) (rd o m1) (0 :: o) j)) := by
       rw [hw9, mulCell, lowc, if_neg HN1.out, ← HCL.out]
       simp only [i64_w, Int.mul_zero]
       rfl
      clear hw9
      have HR9 := ak (show Kd.R (Kd.int .i64) 3 w9 w3.heap.size (fun _ => True) (.slice (some ⟨go, 0, none⟩) N co) (u.set j.toNat (mulCell P N md a (rd b i) (rd o m1) (0 :: o) j)) from by rw [hw10]; exact HPU.out.1)
      have HB9 := ak (show Below w3.heap.size w3 w9 from by rw [hw10]; exact bst HBd7.out HGB.out)
      clear hw10
      go_wp2
      go_roundg (N - (j + 1).toNat)
      case measure => have := HJ.out; have := HJ0.out; omega
      case rel =>
       have h1 := HJ.out; have h2 := HJ0.out
       refine ⟨j + 1, _, by rw [wrap64_succ' h1.1 h2 (by have := HN.out; omega)], ⟨by omega, by omega, rfl, by rw [List.length_set]; exact h1.2.2.2.1, ?_⟩, HR9, HB9⟩
       exact cell_step P N md a (rd b i) (rd o m1) o u j h1.1 h2 (by have := HIN.out; omega) h1.2.2.2.2
    ·have c2 : decide (j < (N : Int)) = false := dff hj
     go_wp2
     go_roundg (i.toNat)
     case measure => have := HIN.out; omega
     case rel =>
      have h1 := HIN.out; have h2 := HJ.out
      refine ⟨i - 1, u, by rw [wrap64_pred h1.2 (by have := HN.out; omega)], ⟨by omega, by omega, by omega, h2.2.2.2.1, ?_⟩, HR7, HB7⟩
      rw [← h1.1.2.2.2.2, show (i + 1).toNat = i.toNat + 1 from by omega, mulL, show i - 1 + 1 = i from by omega]
      congr 1
      rw [h2.2.2.2.2, mulRnd, HM1.out, show j.toNat = N from by omega, Int.toNat_of_nonneg h1.2]
      rw [List.drop_eq_nil_of_le (by simp only [List.length_cons, List.length_take]; omega), List.append_nil]
  ·have c1 : decide (0 ≤ i) = false := dff hi
   have HE := ak (show o = mulL P N md a b N (List.replicate N 0) from by
    have h1 := HI.out
    rw [← h1.2.2.2.2, show (i + 1).toNat = 0 from by omega, mulL])
   have hlen := HI.out.2.2.2.1
   have HC114 := ak (show Calls Try.prog 114 #[.slice Ao N co, .int .i64 P] wr fun e w' => e = .returned (.int .i64 r) ∧ Drawn0 wr w' from by
    have hR := Kd.R_reads' HR1.out
    have h := field_valueOf.calls k Ao co o P r wr hR.2.2 (by rw [← hR.1]; exact hR.2.1) (by rw [HE.out]; exact HV.out)
    rwa [hlen] at h)
   go_wp2_with (first | (go_at_call 114; (with_reducible refine HC114.out.mono ?_); rintro e w' ⟨rfl, hd⟩; have HD := ak hd; clear hd))
   go_ret
   exact ⟨rfl, bsp HB3.out (HB5.out.trans (HD.out.below.mono HB5.out.size))⟩
end Go.Proofs.Ytkifipakikbhcaa.Hand
namespace Go.Proofs.Ytkifipakikbhcaa.Hand
open Ytkifipakikbhcaa.Ref Ytkifipakikbhcaa.Pg
open Go.RowKit YtkifipakikbhcaaW.PrintWords YtkifipakikbhcaaW.PrintLast YtkifipakikbhcaaW.PrintMore
attribute [local go_sem ↓] Go.wp_at_zero Go.wp_at_succ
def setR (n : Int) : Option Int → List Int → Bool
 | _, [] => true
 | p, x :: l => if x < 0 then false else if x ≥ n then false else if (match p with | some y => decide (x ≤ y) | none => false) then false else setR n (some x) l
theorem setR_cons (n : Int) (p : Option Int) (x : Int) (l : List Int) : setR n p (x :: l) = if x < 0 then false else if x ≥ n then false else if (match p with | some y => decide (x ≤ y) | none => false) then false else setR n (some x) l := by
 cases p <;> rfl
theorem rd_drop {l : List Int} {i : Nat} (h : i < l.length) : l.drop i = rd l (i : Int) :: l.drop (i + 1) := by
 have := drop_cons (d := (0 : Int)) (i := (i : Int)) (l := l) (by omega) (by omega)
 rw [Int.toNat_natCast, show ((i : Int) + 1).toNat = i + 1 from by omega] at this
 exact this
theorem set_l0 (l : List Int) (n : Int) (hl : l.length ≤ 4611686018427387904) : ∀ (m k i : Nat), m = l.length - i → i ≤ l.length → m < k →
  peel_set.l0 k l n l (l.length : Int) (i : Int) = some (setR n (if i = 0 then none else some (rd l ((i : Int) - 1))) (l.drop i)) := by
 intro m
 induction m with
 | zero =>
  intro k i hm hi hk
  obtain ⟨k, rfl⟩ : ∃ k', k = k' + 1 := ⟨k - 1, by omega⟩
  have h : i = l.length := by omega
  rw [peel_set.l0, if_neg (by omega), h, List.drop_length, setR]
 | succ m ih =>
  intro k i hm hi hk
  obtain ⟨k, rfl⟩ : ∃ k', k = k' + 1 := ⟨k - 1, by omega⟩
  have h : i < l.length := by omega
  have hn := ih k (i + 1) (by omega) (by omega) (by omega)
  have hw : wrap64 ((i : Int) + 1) = ((i + 1 : Nat) : Int) := by unfold wrap64; omega
  rw [if_neg (by omega), show (((i + 1 : Nat) : Int) - 1) = (i : Int) from by omega] at hn
  rw [peel_set.l0, if_pos (by omega), if_pos (by omega), if_pos (by omega), rd_drop h, setR_cons, hw, hn]
  by_cases h1 : rd l (i : Int) < 0
  ·rw [if_pos h1, if_pos h1]
  ·rw [if_neg h1, if_neg h1]
   by_cases h2 : rd l (i : Int) ≥ n
   ·rw [if_pos h2, if_pos h2]
   ·rw [if_neg h2, if_neg h2]
    by_cases h3 : i = 0
    ·rw [if_neg (by omega), if_pos h3]
     simp
    ·have hw1 : wrap64 ((i : Int) - 1) = (i : Int) - 1 := by unfold wrap64; omega
     rw [if_pos (by omega), hw1, if_pos (by omega), if_pos (by omega), if_neg h3]
     by_cases h4 : rd l (i : Int) ≤ rd l ((i : Int) - 1)
     ·rw [if_pos h4]; simp [h4]
     ·rw [if_neg h4]; simp [h4]
theorem set_f (l : List Int) (n : Int) (hl : l.length ≤ 4611686018427387904) : peel_set.f (l.length + 1) l n = some (setR n none l) := by
 have := set_l0 l n hl l.length (l.length + 1) 0 (by omega) (by omega) (by omega)
 exact this
theorem eg54 : ∀ args w, (callFunc 54 args).run Try.prog w = .ok (.enter 54 args) w := enters_of Try.func54 (by kernel_rfl) rfl
theorem check_closure (b : Addr) (V : Int) (x : List Int) (A : Option Addr) (c : Nat) (W : World) (hx : x.length ≤ 4611686018427387904) (hc : x.length ≤ c) (hr : Kd.C (Kd.int .i64) W A x.length x) (g : Nat) (hcell : W.cell? ⟨g, 0, none⟩ = some (.int .i64 V)) :
  Calls Try.prog 54 #[.slice A x.length c, .pointer (some ⟨g, 0, none⟩)] W fun e W' => e = .returned (.bool (!setR V none x)) ∧ Drawn0 W W' := by
 have HC := ak hc
 have HR := ak hr
 have HX := ak (set_f x V hx)
 clear hc hr hx
 go_enter Try.func54, Try.ntmps54
 go_wp2_with (first | (go_at_call 48; (with_reducible refine (peel_set.calls _ A c x V _ W HR.out HC.out HX.out).mono ?_); rintro e w2 ⟨rfl, hd⟩))
 go_ret
 exact ⟨rfl, hd⟩
theorem drawn0_below {W W' : World} (h : Drawn0 W W') : Below W.heap.size W W' := by
 obtain ⟨n, rfl⟩ := h
 exact pbn (Below.refl _ _) n
def peel_Check.f (V : Int) (ch : List (List Int)) : Option Int :=
 if ch.all (fun l => decide (l.length ≤ 4611686018427387904)) = true then some (if V < 1 then 4 else if V > 64 then 4 else if (ch.length : Int) > 256 then 8 else if ch.any (fun l => !setR V none l) = true then 6 else 0) else none
theorem peel_Check.calls (a0_0 : Int) (A0_1 : Option Addr) (c0_1 : Nat) (l0_1 : List (List Int)) (r : Int) (w : World) (hr0_1 : Kd.C (Kd.slice 3 (Kd.int .i64)) w A0_1 l0_1.length l0_1) (hc0_1 : l0_1.length ≤ c0_1) (h : peel_Check.f a0_0 l0_1 = some r) :
  Calls Try.prog 22 #[.agg #[.int .i64 a0_0, .slice A0_1 l0_1.length c0_1]] w fun e w' => e = .returned (.int .i64 r) ∧ Below w.heap.size w w' := by
 have hu31 := Try.underlying31
 have HR := ak hr0_1
 have HC := ak hc0_1
 have HH : Aside0 ((∀ l ∈ l0_1, l.length ≤ 4611686018427387904) ∧ r = (if a0_0 < 1 then 4 else if a0_0 > 64 then 4 else if (l0_1.length : Int) > 256 then 8 else if l0_1.any (fun l => !setR a0_0 none l) = true then 6 else 0)) := by
  unfold peel_Check.f at h
  split at h
  ·rename_i h1
   exact ⟨fun l hl => odt (List.all_eq_true.1 h1 l hl), (osi h).symm⟩
  ·exact absurd h (by simp)
 clear hr0_1 hc0_1 h
 go_enter Try.func22, Try.ntmps22
 go_wp2_with (first | ((with_reducible refine gate_dst (N := 1) rfl ?_); refine box_event ?hg (N := 1) ?hd (cs := #[.int .i64 a0_0, .slice A0_1 l0_1.length c0_1]) (t := 31) ?hr ?_; (case hd => rfl); (case hg => rfl); (case hr => first | (go_simp; done) | (go_simp; rfl)); intro gb hgb w1 hbox hb; have HGB := ak (show w.heap.size ≤ gb by omega); have HBK := ak hbox; have HB := ak hb; clear hgb; have hcz0 : w1.cell? ⟨gb, 0, none⟩ = some (.int .i64 a0_0) := (kce hbox 0).trans rfl; have hcz1 : w1.cell? ⟨gb, 1, none⟩ = some (.slice A0_1 l0_1.length c0_1) := (kce hbox 1).trans rfl; clear hbox hb) | (go_at_call 53; (with_reducible refine (ContainsFunc_Row 54 eg54 #[.pointer (some ⟨gb, 0, none⟩)] (fun W => Below w1.heap.size w1 W ∧ W.cell? ⟨gb, 0, none⟩ = some (.int .i64 a0_0)) A0_1 c0_1 l0_1 (fun l => !setR a0_0 none l) w1 w1 ?sa ?sb ?sc ?sd).mono ?_); (case sa => exact Kd.C_below HR.out HB.out); (case sb => exact ⟨Below.refl _ _, hcz0⟩); (case sc => exact fun W hW => hW.1); (case sd => exact fun x W A c hx hI hc hr => (check_closure ⟨gb, 0, none⟩ a0_0 x A c W (HH.out.1 x hx) hc hr gb hI.2).mono (fun e W' h => ⟨h.1, bsp hI.1 (drawn0_below h.2), cbl hI.2 (drawn0_below h.2)⟩)); rintro e w2 ⟨rfl, hI, _⟩; have HB2 := ak hI; obtain ⟨b, hb⟩ : ∃ b, l0_1.any (fun l => !setR a0_0 none l) = b := ⟨_, rfl⟩; rw [hb]; have HBB := ak hb; clear hI hb))
 all_goals (try go_ret)
 all_goals (refine ⟨?_, by first | exact HB.out | exact bsp HB.out HB2.out⟩)
 all_goals rw [HH.out.2]
 all_goals (try rw [HBB.out])
 all_goals (repeat' split)
 all_goals first | rfl | (exfalso; omega) | (exfalso; simp_all; done) | (exfalso; simp_all; omega)
def srch (f : List Bool → Nat → Option (List Bool)) (inn : List Bool) : Nat → Nat → Option (List Bool)
 | 0, _ => none
 | n + 1, i => match f (inn.set i true) (i + 1) with
  | some r => some r
  | none => srch f inn n (i + 1)
def fromS (V : Nat) (ch : List (List Int)) : Nat → List Bool → Nat → Option (List Bool)
 | 0, inn, _ => if alone inn ch < 0 then some inn else none
 | s + 1, inn, i => srch (fromS V ch s) inn (V + 1 - (i + s + 1)) i
theorem eg57 : ∀ args w, (callFunc 57 args).run Try.prog w = .ok (.enter 57 args) w := enters_of Try.func57 (by kernel_rfl) rfl
structure SJ (w : World) (V : Nat) (A : Option Addr) (c : Nat) (ch : List (List Int)) (b1 b2 b3 gi ci : Nat) (W : World) (inn : List Bool) : Prop where
 c0 : W.cell? ⟨b1, 0, none⟩ = some (.int .i64 V)
 c1 : W.cell? ⟨b1, 1, none⟩ = some (.slice A ch.length c)
 c2 : W.cell? ⟨b2, 0, none⟩ = some (.slice (some ⟨gi, 0, none⟩) V ci)
 c3 : W.cell? ⟨b3, 0, none⟩ = some (.func (.func 57) #[] #[.pointer (some ⟨b1, 0, none⟩), .pointer (some ⟨b2, 0, none⟩), .pointer (some ⟨b3, 0, none⟩)])
 n1 : b1 ≠ gi
 n2 : b2 ≠ gi
 n3 : b3 ≠ gi
 len : inn.length = V
 own : Kd.R Kd.bool 4 W w.heap.size (fun _ => True) (.slice (some ⟨gi, 0, none⟩) V ci) inn
 below : Below w.heap.size w W
theorem SJ.step {w : World} {V : Nat} {A : Option Addr} {c : Nat} {ch : List (List Int)} {b1 b2 b3 gi ci : Nat} {W W' : World} {inn : List Bool} (h : SJ w V A c ch b1 b2 b3 gi ci W inn) (hb : Below W.heap.size W W') : SJ w V A c ch b1 b2 b3 gi ci W' inn :=
 ⟨cbl h.c0 hb, cbl h.c1 hb, cbl h.c2 hb, cbl h.c3 hb, h.n1, h.n2, h.n3, h.len, Kd.R_below h.own hb, bsp h.below hb⟩
theorem SJ.put {w : World} {V : Nat} {A : Option Addr} {c : Nat} {ch : List (List Int)} {b1 b2 b3 gi ci : Nat} {W : World} {inn : List Bool} (h : SJ w V A c ch b1 b2 b3 gi ci W inn) (i : Nat) (b : Bool) : SJ w V A c ch b1 b2 b3 gi ci (W.setCell ⟨gi, i, none⟩ (.bool b)) (inn.set i b) := by
 have ho : Kd.R Kd.bool 4 W w.heap.size (fun _ => True) (.slice (some ⟨gi, 0, none⟩) inn.length ci) inn := by rw [h.len]; exact h.own
 have hp := Kd.R_put ho (i : Int) b
 rw [Int.toNat_natCast] at hp
 refine ⟨cell_grown hp.2 h.c0 ?_, cell_grown hp.2 h.c1 ?_, cell_grown hp.2 h.c2 ?_, cell_grown hp.2 h.c3 ?_, h.n1, h.n2, h.n3, by rw [List.length_set]; exact h.len, by rw [← h.len]; exact hp.1, bst h.below (Kd.R_base h.own gi rfl)⟩
 ·exact fun e => h.n1 (osi e)
 ·exact fun e => h.n1 (osi e)
 ·exact fun e => h.n2 (osi e)
 ·exact fun e => h.n3 (osi e)
theorem set_false {inn : List Bool} {i V : Nat} (hi : i < V) (hl : inn.length = V) (h : inn.getD i false = false) : inn.set i false = inn := by
 apply List.ext_getElem?
 intro j
 by_cases hj : i = j
 ·subst hj
  rw [List.getElem?_set_self (by omega)]
  rw [List.getD_eq_getElem?_getD, List.getElem?_eq_getElem (by omega)] at h
  rw [List.getElem?_eq_getElem (by omega)]
  simp at h; rw [h]
 ·rw [List.getElem?_set_ne hj]
def SPost (w : World) (V : Nat) (A : Option Addr) (c : Nat) (ch : List (List Int)) (b1 b2 b3 gi ci : Nat) (inn : List Bool) (o : Option (List Bool)) (e : Ending) (W' : World) : Prop :=
 match o with
 | some r => e = .returned (.bool true) ∧ SJ w V A c ch b1 b2 b3 gi ci W' r
 | none => e = .returned (.bool false) ∧ SJ w V A c ch b1 b2 b3 gi ci W' inn
theorem from_calls (w : World) (V : Nat) (A : Option Addr) (c : Nat) (ch : List (List Int)) (b1 b2 b3 gi ci : Nat) (hr : Kd.C (Kd.slice 3 (Kd.int .i64)) w A ch.length ch) (hc : ch.length ≤ c) (hch : ∀ l ∈ ch, ∀ i ∈ l, 0 ≤ i ∧ i < (V : Int)) (hcl : ch.length ≤ 256) (hV : V ≤ 64) :
  ∀ (s : Nat) (inn : List Bool) (i : Nat) (W : World), SJ w V A c ch b1 b2 b3 gi ci W inn → (∀ j, i ≤ j → inn.getD j false = false) → i ≤ V → s ≤ V →
  Calls Try.prog 57 #[.int .i64 i, .int .i64 s, .pointer (some ⟨b1, 0, none⟩), .pointer (some ⟨b2, 0, none⟩), .pointer (some ⟨b3, 0, none⟩)] W (SPost w V A c ch b1 b2 b3 gi ci inn (fromS V ch s inn i)) := by
 have HR := ak hr
 have HC := ak hc
 have HCH := ak hch
 have HCL := ak hcl
 have HV := ak hV
 have hu31 := Try.underlying31
 clear hr hc hch hcl hV
 intro s
 induction s with
 | zero =>
  intro inn i W hJ hz hi hs
  have HJ := ak hJ
  have hc0 := hJ.c0
  have hc1 := hJ.c1
  have hc2 := hJ.c2
  clear hJ hz hi hs
  have ha := alone_calls (V : Int) A c ch (some ⟨gi, 0, none⟩) ci inn W (Kd.C_below HR.out HJ.out.below) HC.out (Kd.R_reads' (show Kd.R Kd.bool 4 W w.heap.size (fun _ => True) (.slice (some ⟨gi, 0, none⟩) inn.length ci) inn by rw [HJ.out.len]; exact HJ.out.own)).2.2 (by have h := (Kd.R_reads' HJ.out.own).2.1; rw [HJ.out.len]; exact h) (by rw [HJ.out.len]; exact HCH.out) (Nat.le_trans HCL.out (by decide))
  rw [HJ.out.len] at ha
  have HA := ak ha
  clear ha
  go_enter Try.func57, Try.ntmps57
  obtain ⟨al, hal⟩ : ∃ x, alone inn ch = x := ⟨_, rfl⟩
  rw [hal] at HA
  have HAL := ak hal
  clear hal
  go_wp2_with (first | (go_at_call 49; (with_reducible refine HA.out.mono ?_); rintro e w2 ⟨rfl, hB⟩; have HB := ak hB; clear hB))
  go_ret
  have hJ2 := HJ.out.step HB.out
  rw [fromS, HAL.out]
  by_cases h : al < 0
  ·rw [if_pos h, SPost]
   exact ⟨by simp [h], hJ2⟩
  ·rw [if_neg h, SPost]
   exact ⟨by simp [h], hJ2⟩
 | succ s ih =>
  intro inn i W hJ hz hi hs
  have HJ := ak hJ
  have HZ := ak hz
  have HI := ak hi
  have HS := ak hs
  have IH := ak ih
  clear hJ hz hi hs ih
  have d0 : (((s + 1 : Nat) : Int) == 0) = false := by simp; omega
  obtain ⟨sz, hsz⟩ : ∃ x : Int, ((s + 1 : Nat) : Int) = x := ⟨_, rfl⟩
  rw [hsz] at d0 ⊢
  have HSZ := ak hsz
  clear hsz
  go_enter Try.func57, Try.ntmps57
  go_wp2
  clear d0
  go_loopg [8] (V + 1 - i) (fun gk v8 w' => ∃ i' : Nat, v8 = .int .i64 i' ∧ Aside0 (i ≤ i' ∧ i' ≤ V + 1 ∧ gk = V + 1 - i' ∧ srch (fromS V ch s) inn (V + 1 - (i' + s + 1)) i' = fromS V ch (s + 1) inn i) ∧ Aside0 (SJ w V A c ch b1 b2 b3 gi ci w' inn))
  case atStart => exact ⟨i, rfl, ⟨Nat.le_refl _, by have := HI.out; omega, rfl, by rw [fromS]⟩, HJ⟩
  case round =>
   obtain ⟨i', rfl, HN, HJr⟩ := hrel
   have hc0 := HJr.out.c0
   have hc1 := HJr.out.c1
   have hc2 := HJr.out.c2
   have hc3 := HJr.out.c3
   have w1 : IntKind.i64.wrap ((i' : Int) + sz) = (i' : Int) + sz := (i64_w _).trans (by unfold wrap64; have := HN.out; have := HSZ.out; have := HS.out; have := HV.out; omega)
   by_cases hlt : (i' : Int) + sz ≤ (V : Int)
   ·have HLT := ak hlt
    have hi1 : i' < V := by have := HSZ.out; omega
    obtain ⟨hcm, hfm⟩ := Kd.R_cell false (show Kd.R Kd.bool 4 wr w.heap.size (fun _ => True) (.slice (some ⟨gi, 0, none⟩) inn.length ci) inn by rw [HJr.out.len]; exact HJr.out.own) (i' : Int) (by omega) (by rw [HJr.out.len]; omega)
    rw [Int.toNat_natCast] at hcm hfm
    have HJ1 := ak (HJr.out.put i' true)
    have hd0 := HJ1.out.c0
    have hd1 := HJ1.out.c1
    have hd2 := HJ1.out.c2
    have hd3 := HJ1.out.c3
    have w2 : IntKind.i64.wrap ((i' : Int) + 1) = (i' : Int) + 1 := (i64_w _).trans (by unfold wrap64; have := HV.out; omega)
    have w3 : IntKind.i64.wrap (sz - 1) = (s : Int) := (i64_w _).trans (by unfold wrap64; have := HSZ.out; have := HS.out; have := HV.out; omega)
    have HF := ak (IH.out (inn.set i' true) (i' + 1) _ HJ1.out (by
     intro j hj
     rw [List.getD_eq_getElem?_getD, List.getElem?_set_ne (by omega), ← List.getD_eq_getElem?_getD]
     exact HZ.out j (by have := HN.out.1; omega)) (by omega) (by have := HS.out; omega))
    have eg := eg57
    have HI1 := ak hi1
    have t3 := eq_true hi1
    rw [show ((i' + 1 : Nat) : Int) = (i' : Int) + 1 from by omega] at HF
    have t1 := eq_true hlt
    have t2 : decide ((i' : Int) + sz ≤ (V : Int)) = true := det hlt
    have hn1 : srch (fromS V ch s) inn (V + 1 - (i' + s + 1)) i' = match fromS V ch s (inn.set i' true) (i' + 1) with | some r => some r | none => srch (fromS V ch s) inn (V + 1 - (i' + 1 + s + 1)) (i' + 1) := by
     rw [show V + 1 - (i' + s + 1) = (V + 1 - (i' + 1 + s + 1)) + 1 from by have := HSZ.out; omega, srch]
    have HN1 := ak hn1
    clear hn1
    cases hf : fromS V ch s (inn.set i' true) (i' + 1) with
    | some r =>
     rw [hf] at HF
     have HFF := ak hf
     clear hf hlt hi1
     go_wp2_with (first | (go_at_fn 57; (with_reducible refine HF.out.mono ?_); rintro e w3 ⟨rfl, hJ⟩; have HJ3 := ak hJ; clear hJ))
     go_ret
     have h : fromS V ch (s + 1) inn i = some r := by
      rw [← HN.out.2.2.2, HN1.out, HFF.out]
     rw [h]
     exact ⟨rfl, HJ3.out⟩
    | none =>
     rw [hf] at HF
     have HFF := ak hf
     clear hf hlt hi1
     go_upto_region 9 with (first | (go_at_fn 57; (with_reducible refine HF.out.mono ?_); rintro e w3 ⟨rfl, hJ⟩; have HJ3 := ak hJ; clear hJ))
     clear hd0 hd1 hd2 hd3 hc0 hc1 hc2 hc3 hcm hfm w2
     have hc2 := HJ3.out.c2
     obtain ⟨hcm, hfm⟩ := Kd.R_cell false (show Kd.R Kd.bool 4 w3 w.heap.size (fun _ => True) (.slice (some ⟨gi, 0, none⟩) (inn.set i' true).length ci) (inn.set i' true) by rw [HJ3.out.len]; exact HJ3.out.own) (i' : Int) (by omega) (by rw [HJ3.out.len]; have := HI1.out; omega)
     rw [Int.toNat_natCast] at hcm hfm
     have HJ4 := ak (show SJ w V A c ch b1 b2 b3 gi ci (w3.setCell ⟨gi, i', none⟩ (.bool false)) inn by
      have h := HJ3.out.put i' false
      rw [List.set_set, set_false HI1.out HJr.out.len (HZ.out i' HN.out.1)] at h
      exact h)
     have w5 : IntKind.i64.wrap ((i' : Int) + 1) = (i' : Int) + 1 := (i64_w _).trans (by unfold wrap64; have := HV.out; have := HI1.out; omega)
     go_wp2
     go_roundg (V + 1 - (i' + 1))
     case measure => have := HN.out; have := HI1.out; omega
     case rel =>
      have h := HN.out
      have h2 := HI1.out
      refine ⟨i' + 1, ?_, ⟨by omega, by omega, rfl, ?_⟩, HJ4⟩
      ·exact congrArg _ (by omega)
      ·rw [← h.2.2.2, HN1.out, HFF.out]
   ·have t1 := eq_false hlt
    have t2 : decide ((i' : Int) + sz ≤ (V : Int)) = false := dff hlt
    have HLT := ak hlt
    clear hlt
    go_wp2
    go_ret
    have h : fromS V ch (s + 1) inn i = none := by
     rw [← HN.out.2.2.2, show V + 1 - (i' + s + 1) = 0 from by have := HSZ.out; have := HLT.out; omega, srch]
    rw [h]
    exact ⟨rfl, HJr.out⟩
def firstSize (V : Nat) (ch : List (List Int)) : Nat → Nat → Option (List Bool)
 | 0, _ => none
 | n + 1, s => match fromS V ch s (List.replicate V false) 0 with
  | some r => some r
  | none => firstSize V ch n (s + 1)
def peel_Smallest.f (V : Int) (ch : List (List Int)) : Option (List Int × Int) :=
 (peel_Check.f V ch).bind fun e => if e = 0 then (if V > 16 then some ([], 8) else match firstSize V.toNat ch V.toNat 1 with
  | some r => (peel_left.f 100 r).map fun l => (l, 0)
  | none => some ([], 11)) else some ([], e)
theorem setR_mem {n : Int} : ∀ {l : List Int} {p : Option Int}, setR n p l = true → ∀ x ∈ l, 0 ≤ x ∧ x < n
 | [], _, _, x, hx => by simp at hx
 | y :: l, p, h, x, hx => by
  rw [setR_cons] at h
  by_cases h1 : y < 0
  ·rw [if_pos h1] at h; simp at h
  ·rw [if_neg h1] at h
   by_cases h2 : y ≥ n
   ·rw [if_pos h2] at h; simp at h
   ·rw [if_neg h2] at h
    cases hs : setR n (some y) l with
    | true =>
     rcases List.mem_cons.1 hx with rfl | h4
     ·omega
     ·exact setR_mem hs x h4
    | false => rw [hs] at h; simp at h
theorem check_zero {V : Int} {ch : List (List Int)} (h : peel_Check.f V ch = some 0) : 1 ≤ V ∧ V ≤ 64 ∧ ch.length ≤ 256 ∧ ∀ l ∈ ch, setR V none l = true := by
 unfold peel_Check.f at h
 split at h
 ·have h := osi h
  split at h
  ·simp at h
  ·split at h
   ·simp at h
   ·split at h
    ·simp at h
    ·split at h
     ·simp at h
     ·rename_i h1 h2 h3 h4
      refine ⟨by omega, by omega, by omega, fun l hl => ?_⟩
      have h5 : ¬ (∃ l ∈ ch, (!setR V none l) = true) := fun he => h4 (List.any_eq_true.2 he)
      cases hb : setR V none l with
      | true => rfl
      | false => exact absurd ⟨l, hl, by simp [hb]⟩ h5
 ·simp at h
theorem smallest_ok (V : Nat) (A0_1 : Option Addr) (c0_1 : Nat) (l0_1 : List (List Int)) (w : World) (hr0_1 : Kd.C (Kd.slice 3 (Kd.int .i64)) w A0_1 l0_1.length l0_1) (hc0_1 : l0_1.length ≤ c0_1) (hck : peel_Check.f V l0_1 = some 0) (hV : V ≤ 16)
  (o : Option (List Bool)) (ho : firstSize V l0_1 V 1 = o) (r1 : List Int) (r2 : Int) (hl : ∀ r, o = some r → r2 = 0 ∧ peel_left.f 100 r = some r1) (hnn : o = none → r2 = 11 ∧ r1 = []) :
  Calls Try.prog 26 #[.agg #[.int .i64 V, .slice A0_1 l0_1.length c0_1]] w fun e w' => ∃ v0_ : Value, e = .returned (.tuple #[v0_, .int .i64 r2]) ∧ Kd.R (Kd.int .i64) 3 w' w.heap.size (fun _ => True) v0_ r1 ∧ Below w.heap.size w w' := by
 have hu31 := Try.underlying31
 have hz := check_zero hck
 have HZ := ak hz
 have HR := ak hr0_1
 have HC := ak hc0_1
 have HCK := ak hck
 have HV := ak hV
 have HO := ak ho
 have HL := ak hl
 have HNN := ak hnn
 clear hr0_1 hc0_1 hck hV ho hl hz hnn
 go_enter Try.func26, Try.ntmps26
 go_upto_region 4 with (first | ((with_reducible refine gate_dst (N := 1) rfl ?_); refine box_event ?hg (N := 1) ?hd (cs := #[.int .i64 V, .slice A0_1 l0_1.length c0_1]) (t := 31) ?hr ?_; (case hd => rfl); (case hg => rfl); (case hr => first | (go_simp; done) | (go_simp; rfl)); intro gb hgb w1 hbox hb; have HGB := ak (show w.heap.size ≤ gb by omega); have HBK := ak hbox; have HB := ak hb; clear hgb; have hcz0 : w1.cell? ⟨gb, 0, none⟩ = some (.int .i64 V) := (kce hbox 0).trans rfl; have hcz1 : w1.cell? ⟨gb, 1, none⟩ = some (.slice A0_1 l0_1.length c0_1) := (kce hbox 1).trans rfl; clear hbox hb) | (go_at_call 22; (with_reducible refine (peel_Check.calls (V : Int) A0_1 c0_1 l0_1 0 w1 (Kd.C_below HR.out HB.out) HC.out HCK.out).mono ?_); rintro e w2 ⟨rfl, hB⟩; have HB2 := ak hB; replace hcz0 := cbl hcz0 hB; replace hcz1 := cbl hcz1 hB; have HBK2 := ak (blk_grown HBK.out (grown_of_below hB none) (by simp)); clear hB))
 have hp : wrap64 (2 ^ min V 64) ≤ 65536 := by
  have h := HV.out
  rw [Nat.min_eq_left (by omega)]
  have h2 : ∀ v : Fin 17, wrap64 (2 ^ v.val) ≤ 65536 := by decide +kernel
  exact h2 ⟨V, by omega⟩
 have hp1 := eq_false (show ¬ 65536 < wrap64 (2 ^ min V 64) by omega)
 have hp2 : decide (65536 < wrap64 (2 ^ min V 64)) = false := dff (by omega)
 have hp3 := eq_false (show ¬ 62 < (V : Int) by have := HV.out; omega)
 have hp4 : decide (62 < (V : Int)) = false := dff (by have := HV.out; omega)
 clear hp
 go_upto_region 7 with (first | ((with_reducible refine gate_dst (N := 24) rfl ?_); refine Kd.R_make Kd.bool _ 4 rfl (N := 24) rfl 73 _ _ rfl (V : Int) rfl rfl Try.underlying73 (.bool false) 1 Go.Proofs.Ytkifipakikbhcaa.Pg.info4 rfl (by decide) (by omega) false (ok := fun _ => True) (okp := fun _ => True) rfl (fun _ hk => hk) trivial (by omega) (by have := HV.out; omega) (Below.refl _ _) (Nat.le_refl _) ?_; intro v24 w3 hM hb hg hn; rw [Int.toNat_natCast] at hM; obtain ⟨gi, ci, e24, hgi1, hgi2, -⟩ := Kd.R_form hM (by rw [List.length_replicate]; have := HZ.out.1; omega); rw [List.length_replicate] at e24; subst e24; have HGI := ak (And.intro hgi1 hgi2); clear hgi1 hgi2; have HM := ak hM; have HB3 := ak hb; clear hM hb hg hn))
 clear hp1 hp2 hp3 hp4
 go_upto_region 9 with (fail)
 have hsj : SJ w V A0_1 c0_1 l0_1 gb w3.heap.size (w3.heap.size + 1) gi ci ((w3.alloc (Obj.cells #[Value.slice (some { block := gi, off := 0 }) V ci] 73)).alloc (Obj.cells #[Value.func (Fn.func 57) #[] #[Value.pointer (some { block := gb, off := 0 }), Value.pointer (some { block := w3.heap.size, off := 0 }), Value.pointer (some { block := w3.heap.size + 1, off := 0 })]] 80)) (List.replicate V false) := by
  have hb3 := HB3.out
  have hbb := bal (bal (Below.refl w3.heap.size w3) (Obj.cells #[Value.slice (some { block := gi, off := 0 }) V ci] 73)) (Obj.cells #[Value.func (Fn.func 57) #[] #[Value.pointer (some { block := gb, off := 0 }), Value.pointer (some { block := w3.heap.size, off := 0 }), Value.pointer (some { block := w3.heap.size + 1, off := 0 })]] 80)
  have hsz : (w3.alloc (Obj.cells #[Value.slice (some { block := gi, off := 0 }) V ci] 73)).heap.size = w3.heap.size + 1 := by first | rfl | exact Array.size_push _ | simp
  have hlt : gb < w2.heap.size := World.block_lt_of_cell? _ _ hcz0
  have hgi := HGI.out
  refine ⟨cbl (cbl hcz0 hb3) hbb, cbl (cbl hcz1 hb3) hbb, ?_, ?_, by omega, by omega, by omega, by simp, ?_, bsp (bsp (bsp HB.out HB2.out) hb3) hbb⟩
  ·exact cbl ((kce (heap_alloc_new w3 _) 0).trans rfl) (bal (Below.refl _ _) _)
  ·have h := heap_alloc_new (w3.alloc (Obj.cells #[Value.slice (some { block := gi, off := 0 }) V ci] 73)) (Obj.cells #[Value.func (Fn.func 57) #[] #[Value.pointer (some { block := gb, off := 0 }), Value.pointer (some { block := w3.heap.size, off := 0 }), Value.pointer (some { block := w3.heap.size + 1, off := 0 })]] 80)
   rw [hsz] at h
   exact (kce h 0).trans rfl
  ·exact Kd.R_alloc (Kd.R_alloc (Kd.R_lower HM.out (bsz (bsp HB.out HB2.out))) _) _
 have HSJ := ak hsj
 generalize hw4 : ((w3.alloc (Obj.cells #[Value.slice (some { block := gi, off := 0 }) V ci] 73)).alloc (Obj.cells #[Value.func (Fn.func 57) #[] #[Value.pointer (some { block := gb, off := 0 }), Value.pointer (some { block := w3.heap.size, off := 0 }), Value.pointer (some { block := w3.heap.size + 1, off := 0 })]] 80)) = w4 at HSJ ⊢
 generalize w3.heap.size + 1 = b3 at HSJ ⊢
 generalize w3.heap.size = b2 at HSJ ⊢
 clear hw4 hsj hcz0 hcz1 HM HB3 HBK2 HB2 HBK HGI
 go_wp2
 have eg := eg57
 have HCH := ak (show ∀ l ∈ l0_1, ∀ x ∈ l, 0 ≤ x ∧ x < (V : Int) from fun l hl x hx => setR_mem (HZ.out.2.2.2 l hl) x hx)
 go_loopg [7] V (fun gk v7 w' => ∃ s : Nat, v7 = .int .i64 s ∧ Aside0 (1 ≤ s ∧ s ≤ V + 1 ∧ gk = V + 1 - s ∧ firstSize V l0_1 (V + 1 - s) s = o) ∧ Aside0 (SJ w V A0_1 c0_1 l0_1 gb b2 b3 gi ci w' (List.replicate V false)))
 case atStart => exact ⟨1, rfl, ⟨Nat.le_refl _, by omega, by omega, HO.out⟩, HSJ⟩
 case round =>
  obtain ⟨s, rfl, HN, HJr⟩ := hrel
  have hc0 := HJr.out.c0
  have hc3 := HJr.out.c3
  by_cases hlt : s ≤ V
  ·have t1 : ((s : Int) ≤ (V : Int)) = True := eq_true (by omega)
   have t2 : decide ((s : Int) ≤ (V : Int)) = true := det (by omega)
   have t3 := eq_true hlt
   have HLT := ak hlt
   have HF := ak (from_calls w V A0_1 c0_1 l0_1 gb b2 b3 gi ci HR.out HC.out HCH.out HZ.out.2.2.1 (by have := HV.out; omega) s (List.replicate V false) 0 wr HJr.out (by intro j _; simp [List.getD_eq_getElem?_getD, List.getElem?_replicate]; split <;> rfl) (by omega) hlt)
   rw [show ((0 : Nat) : Int) = (0 : Int) from rfl] at HF
   have hn1 : firstSize V l0_1 (V + 1 - s) s = match fromS V l0_1 s (List.replicate V false) 0 with | some r => some r | none => firstSize V l0_1 (V + 1 - (s + 1)) (s + 1) := by
    rw [show V + 1 - s = (V + 1 - (s + 1)) + 1 from by omega, firstSize]
   have HN1 := ak hn1
   clear hn1 hlt
   cases hf : fromS V l0_1 s (List.replicate V false) 0 with
   | some r =>
    rw [hf] at HF
    have ho : o = some r := by rw [← HN.out.2.2.2, HN1.out, hf]
    have HLL := ak (HL.out r ho)
    clear hf ho
    go_upto_region 13 with (first | (go_at_fn 57; (with_reducible refine HF.out.mono ?_); rintro e w5 ⟨rfl, hJ⟩; have HJ3 := ak hJ; clear hJ))
    have hd2 := HJ3.out.c2
    have hlf := peel_left.calls 100 (some ⟨gi, 0, none⟩) ci r r1 w5 (Kd.R_reads' (show Kd.R Kd.bool 4 w5 w.heap.size (fun _ => True) (.slice (some ⟨gi, 0, none⟩) r.length ci) r by rw [HJ3.out.len]; exact HJ3.out.own)).2.2 (by have h := (Kd.R_reads' HJ3.out.own).2.1; rw [HJ3.out.len]; exact h) HLL.out.2
    rw [HJ3.out.len] at hlf
    have HLF := ak hlf
    clear hlf hc0 hc3
    go_wp2_with (first | (go_at_call 55; (with_reducible refine HLF.out.mono ?_); rintro e w6 ⟨v6, rfl, hR6, hB6⟩; have HR6 := ak hR6; have HB6 := ak hB6; clear hR6 hB6))
    go_ret2
    rw [HLL.out.1]
    exact ⟨_, rfl, Kd.R_lower HR6.out (bsz HJ3.out.below), bsp HJ3.out.below HB6.out⟩
   | none =>
    rw [hf] at HF
    have HFF := ak hf
    clear hf
    go_wp2_with (first | (go_at_fn 57; (with_reducible refine HF.out.mono ?_); rintro e w5 ⟨rfl, hJ⟩; have HJ3 := ak hJ; clear hJ))
    go_roundg (V + 1 - (s + 1))
    case measure => have := HN.out; have := HLT.out; omega
    case rel =>
     have h := HN.out
     have h2 := HLT.out
     refine ⟨s + 1, ?_, ⟨by omega, by omega, rfl, ?_⟩, HJ3⟩
     ·first | exact congrArg _ (by omega) | (rw [wrap64_succ' (n := 65) (by omega) (by have := HV.out; omega) (by omega)]; rfl)
     ·rw [← h.2.2.2, HN1.out, HFF.out]
  ·have t1 : ((s : Int) ≤ (V : Int)) = False := eq_false (by omega)
   have t2 : decide ((s : Int) ≤ (V : Int)) = false := dff (by omega)
   have t3 := eq_false hlt
   have HLT := ak hlt
   clear hlt
   go_wp2
   go_ret2
   have ho : o = none := by
    rw [← HN.out.2.2.2, show V + 1 - s = 0 from by have := HLT.out; omega, firstSize]
   obtain ⟨h1, h2⟩ := HNN.out ho
   subst h1 h2
   exact ⟨_, rfl, Kd.R_nil _ _ _ _ _, HJr.out.below⟩
theorem smallest_err (a0_0 : Int) (A0_1 : Option Addr) (c0_1 : Nat) (l0_1 : List (List Int)) (w : World) (hr0_1 : Kd.C (Kd.slice 3 (Kd.int .i64)) w A0_1 l0_1.length l0_1) (hc0_1 : l0_1.length ≤ c0_1) (er : Int) (hck : peel_Check.f a0_0 l0_1 = some er) (he : er ≠ 0) :
  Calls Try.prog 26 #[.agg #[.int .i64 a0_0, .slice A0_1 l0_1.length c0_1]] w fun e w' => ∃ v0_ : Value, e = .returned (.tuple #[v0_, .int .i64 er]) ∧ Kd.R (Kd.int .i64) 3 w' w.heap.size (fun _ => True) v0_ [] ∧ Below w.heap.size w w' := by
 have hu31 := Try.underlying31
 have HR := ak hr0_1
 have HC := ak hc0_1
 have HCK := ak hck
 have t1 : (er != 0) = true := by simpa using he
 clear hr0_1 hc0_1 hck he
 go_enter Try.func26, Try.ntmps26
 go_wp2_with (first | ((with_reducible refine gate_dst (N := 1) rfl ?_); refine box_event ?hg (N := 1) ?hd (cs := #[.int .i64 a0_0, .slice A0_1 l0_1.length c0_1]) (t := 31) ?hr ?_; (case hd => rfl); (case hg => rfl); (case hr => first | (go_simp; done) | (go_simp; rfl)); intro gb hgb w1 hbox hb; have HGB := ak (show w.heap.size ≤ gb by omega); have HBK := ak hbox; have HB := ak hb; clear hgb; have hcz0 : w1.cell? ⟨gb, 0, none⟩ = some (.int .i64 a0_0) := (kce hbox 0).trans rfl; have hcz1 : w1.cell? ⟨gb, 1, none⟩ = some (.slice A0_1 l0_1.length c0_1) := (kce hbox 1).trans rfl; clear hbox hb) | (go_at_call 22; (with_reducible refine (peel_Check.calls a0_0 A0_1 c0_1 l0_1 er w1 (Kd.C_below HR.out HB.out) HC.out HCK.out).mono ?_); rintro e w2 ⟨rfl, hB⟩; have HB2 := ak hB; replace hcz0 := cbl hcz0 hB; replace hcz1 := cbl hcz1 hB; have HBK2 := ak (blk_grown HBK.out (grown_of_below hB none) (by simp)); clear hB))
 go_ret2
 exact ⟨_, rfl, Kd.R_nil _ _ _ _ _, bsp HB.out HB2.out⟩
theorem smallest_big (V : Nat) (A0_1 : Option Addr) (c0_1 : Nat) (l0_1 : List (List Int)) (w : World) (hr0_1 : Kd.C (Kd.slice 3 (Kd.int .i64)) w A0_1 l0_1.length l0_1) (hc0_1 : l0_1.length ≤ c0_1) (hck : peel_Check.f V l0_1 = some 0) (hV : 16 < V) (hV2 : V ≤ 64) :
  Calls Try.prog 26 #[.agg #[.int .i64 V, .slice A0_1 l0_1.length c0_1]] w fun e w' => ∃ v0_ : Value, e = .returned (.tuple #[v0_, .int .i64 8]) ∧ Kd.R (Kd.int .i64) 3 w' w.heap.size (fun _ => True) v0_ [] ∧ Below w.heap.size w w' := by
 have hu31 := Try.underlying31
 have HR := ak hr0_1
 have HC := ak hc0_1
 have HCK := ak hck
 have hall : ∀ v : Fin 65, 16 < v.val → v.val ≤ 62 → 65536 < wrap64 (2 ^ v.val) := by decide +kernel
 have hall2 : ∀ v : Fin 65, 62 < v.val → wrap64 (2 ^ v.val) ≤ 65536 := by decide +kernel
 have hm : min V 64 = V := Nat.min_eq_left hV2
 by_cases h : V ≤ 62
 ·have h1 := hall ⟨V, by omega⟩ hV h
  have hp1 := eq_true (show 65536 < wrap64 (2 ^ min V 64) by rw [hm]; exact h1)
  have hp2 : decide (65536 < wrap64 (2 ^ min V 64)) = true := det (by rw [hm]; exact h1)
  clear hr0_1 hc0_1 hck hV hV2 hall hall2 h h1 hm
  go_enter Try.func26, Try.ntmps26
  go_wp2_with (first | ((with_reducible refine gate_dst (N := 1) rfl ?_); refine box_event ?hg (N := 1) ?hd (cs := #[.int .i64 V, .slice A0_1 l0_1.length c0_1]) (t := 31) ?hr ?_; (case hd => rfl); (case hg => rfl); (case hr => first | (go_simp; done) | (go_simp; rfl)); intro gb hgb w1 hbox hb; have HGB := ak (show w.heap.size ≤ gb by omega); have HBK := ak hbox; have HB := ak hb; clear hgb; have hcz0 : w1.cell? ⟨gb, 0, none⟩ = some (.int .i64 V) := (kce hbox 0).trans rfl; have hcz1 : w1.cell? ⟨gb, 1, none⟩ = some (.slice A0_1 l0_1.length c0_1) := (kce hbox 1).trans rfl; clear hbox hb) | (go_at_call 22; (with_reducible refine (peel_Check.calls (V : Int) A0_1 c0_1 l0_1 0 w1 (Kd.C_below HR.out HB.out) HC.out HCK.out).mono ?_); rintro e w2 ⟨rfl, hB⟩; have HB2 := ak hB; replace hcz0 := cbl hcz0 hB; replace hcz1 := cbl hcz1 hB; have HBK2 := ak (blk_grown HBK.out (grown_of_below hB none) (by simp)); clear hB))
  go_ret2
  exact ⟨_, rfl, Kd.R_nil _ _ _ _ _, bsp HB.out HB2.out⟩
 ·have h1 := hall2 ⟨V, by omega⟩ (by show 62 < V; omega)
  have hp1 := eq_false (show ¬ 65536 < wrap64 (2 ^ min V 64) by rw [hm]; show ¬ 65536 < wrap64 (2 ^ V); have h2 : wrap64 (2 ^ V) ≤ 65536 := h1; omega)
  have hp2 : decide (65536 < wrap64 (2 ^ min V 64)) = false := dff (of_eq_false hp1)
  have hp3 := eq_true (show 62 < (V : Int) by omega)
  have hp4 : decide (62 < (V : Int)) = true := det (by omega)
  clear hr0_1 hc0_1 hck hV hV2 hall hall2 h h1 hm
  go_enter Try.func26, Try.ntmps26
  go_wp2_with (first | ((with_reducible refine gate_dst (N := 1) rfl ?_); refine box_event ?hg (N := 1) ?hd (cs := #[.int .i64 V, .slice A0_1 l0_1.length c0_1]) (t := 31) ?hr ?_; (case hd => rfl); (case hg => rfl); (case hr => first | (go_simp; done) | (go_simp; rfl)); intro gb hgb w1 hbox hb; have HGB := ak (show w.heap.size ≤ gb by omega); have HBK := ak hbox; have HB := ak hb; clear hgb; have hcz0 : w1.cell? ⟨gb, 0, none⟩ = some (.int .i64 V) := (kce hbox 0).trans rfl; have hcz1 : w1.cell? ⟨gb, 1, none⟩ = some (.slice A0_1 l0_1.length c0_1) := (kce hbox 1).trans rfl; clear hbox hb) | (go_at_call 22; (with_reducible refine (peel_Check.calls (V : Int) A0_1 c0_1 l0_1 0 w1 (Kd.C_below HR.out HB.out) HC.out HCK.out).mono ?_); rintro e w2 ⟨rfl, hB⟩; have HB2 := ak hB; replace hcz0 := cbl hcz0 hB; replace hcz1 := cbl hcz1 hB; have HBK2 := ak (blk_grown HBK.out (grown_of_below hB none) (by simp)); clear hB))
  go_ret2
  exact ⟨_, rfl, Kd.R_nil _ _ _ _ _, bsp HB.out HB2.out⟩
theorem peel_Smallest.calls (a0_0 : Int) (A0_1 : Option Addr) (c0_1 : Nat) (l0_1 : List (List Int)) (r1 : List Int) (r2 : Int) (w : World) (hr0_1 : Kd.C (Kd.slice 3 (Kd.int .i64)) w A0_1 l0_1.length l0_1) (hc0_1 : l0_1.length ≤ c0_1) (h : peel_Smallest.f a0_0 l0_1 = some (r1, r2)) :
  Calls Try.prog 26 #[.agg #[.int .i64 a0_0, .slice A0_1 l0_1.length c0_1]] w fun e w' => ∃ v0_ : Value, e = .returned (.tuple #[v0_, .int .i64 r2]) ∧ Kd.R (Kd.int .i64) 3 w' w.heap.size (fun _ => True) v0_ r1 ∧ Below w.heap.size w w' := by
 unfold peel_Smallest.f at h
 obtain ⟨e, he, h⟩ := Option.bind_eq_some_iff.1 h
 by_cases h0 : e = 0
 ·rw [if_pos h0] at h
  subst h0
  have hz := check_zero he
  obtain ⟨V, rfl⟩ := Int.eq_ofNat_of_zero_le (show 0 ≤ a0_0 by omega)
  by_cases h1 : (V : Int) > 16
  ·rw [if_pos h1] at h
   have h := osi h
   injection h with ha hb
   subst ha hb
   exact smallest_big V A0_1 c0_1 l0_1 w hr0_1 hc0_1 he (by omega) (by omega)
  ·rw [if_neg h1, Int.toNat_natCast] at h
   cases hf : firstSize V l0_1 V 1 with
   | some r =>
    rw [hf] at h
    obtain ⟨l, hl, hp⟩ := Option.map_eq_some_iff.1 h
    injection hp with ha hb
    subst ha hb
    exact smallest_ok V A0_1 c0_1 l0_1 w hr0_1 hc0_1 he (by omega) _ hf l 0 (fun r' hr' => by injection hr' with hr'; subst hr'; exact ⟨rfl, hl⟩) (fun hn => by simp at hn)
   | none =>
    rw [hf] at h
    have h := osi h
    injection h with ha hb
    subst ha hb
    exact smallest_ok V A0_1 c0_1 l0_1 w hr0_1 hc0_1 he (by omega) _ hf [] 11 (fun r' hr' => by simp at hr') (fun _ => ⟨rfl, rfl⟩)
 ·rw [if_neg h0] at h
  have h := osi h
  injection h with ha hb
  subst ha hb
  exact smallest_err a0_0 A0_1 c0_1 l0_1 w hr0_1 hc0_1 e he h0
end Go.Proofs.Ytkifipakikbhcaa.Hand
namespace Go.Proofs.Ytkifipakikbhcaa.Pk
open Ytkifipakikbhcaa.Ref Ytkifipakikbhcaa.Pg Ytkifipakikbhcaa.Hand
open Go.RowKit YtkifipakikbhcaaW.PrintWords YtkifipakikbhcaaW.PrintLast YtkifipakikbhcaaW.PrintMore
def rd_L1 (xs : List (List Int)) (i : Int) : (List Int) := xs.getD i.toNat ([] : List Int)
def peel_Girth.l0 : Nat → List (List Int) → Int → Int → Int → Option (Int × Int)
 | 0, _, _, _, _ => none
 | k + 1, x5, x6, x17, x18 => if x18 < x17 then ((peel_around.f k x5 x18).bind fun t106 => (if t106 > 0 then (if x6 = 0 then (peel_Girth.l0 k x5 t106 x17 (wrap64 (x18 + 1))) else (if t106 < x6 then (peel_Girth.l0 k x5 t106 x17 (wrap64 (x18 + 1))) else (peel_Girth.l0 k x5 x6 x17 (wrap64 (x18 + 1))))) else (peel_Girth.l0 k x5 x6 x17 (wrap64 (x18 + 1))))) else (some (x6, 0))
def peel_Girth.f (k : Nat) (a0_0 : Int) (l0_1 : List (List Int)) : Option (Int × Int) := (peel_Check.f a0_0 l0_1).bind fun t102 => (if t102 = 0 then ((peel_neighbors.f k a0_0 l0_1).bind fun t103 => (peel_Girth.l0 k t103 0 a0_0 0)) else (some (0, t102)))
theorem peel_Girth.calls (k : Nat) (a0_0 : Int) (A0_1 : Option Addr) (c0_1 : Nat) (l0_1 : List (List Int)) (r1 : Int) (r2 : Int) (w : World) (hr0_1 : Kd.C (Kd.slice 3 (Kd.int .i64)) w A0_1 l0_1.length l0_1) (hc0_1 : l0_1.length ≤ c0_1) (h : peel_Girth.f k a0_0 l0_1 = some (r1, r2)) :
  Calls Try.prog 18 #[.agg #[.int .i64 a0_0, .slice A0_1 l0_1.length c0_1]] w fun e w' => e = .returned (.tuple #[.int .i64 r1, .int .i64 r2]) ∧ Below w.heap.size w w' := by
 have hu31 := Try.underlying31
 have HR0_1 := ak hr0_1
 have HC0_1 := ak hc0_1
 clear hr0_1 hc0_1
 have HB := ak (Below.refl w.heap.size w)
 have H : ((peel_Check.f a0_0 l0_1).bind fun t102 => (if t102 = 0 then ((peel_neighbors.f k a0_0 l0_1).bind fun t103 => (peel_Girth.l0 k t103 0 a0_0 0)) else (some (0, t102)))) = some (r1, r2) := h
 clear h
 replace H := obm H
 obtain ⟨t102, A20, H⟩ := H
 replace H : (if t102 = 0 then ((peel_neighbors.f k a0_0 l0_1).bind fun t103 => (peel_Girth.l0 k t103 0 a0_0 0)) else (some (0, t102))) = some (r1, r2) := H
 have A2 := ak A20
 clear A20
 by_cases c3 : t102 = 0
 ·rw [if_pos c3] at H
  have c3b0 : (t102 == 0) = true := beq_iff_eq.mpr c3
  have c3b1 : (t102 != 0) = false := bnm c3
  clear c3
  replace H := obm H
  obtain ⟨t103, A40, H⟩ := H
  replace H : (peel_Girth.l0 k t103 0 a0_0 0) = some (r1, r2) := H
  have A4 := ak A40
  clear A40
  have H' := ak H
  clear H
  go_enter Try.func18, Try.ntmps18
  go_wp2_with (first | ((with_reducible refine gate_dst (N := 1) rfl ?_); refine box_event ?hg (N := 1) ?hd (cs := #[.int .i64 a0_0, .slice A0_1 l0_1.length c0_1]) (t := 31) ?hr ?_; (case hd => rfl); (case hg => rfl); (case hr => first | (go_simp; done) | (go_simp; rfl)); intro gb101 hg w5 hbox hb; have n0_ := ak (bsp HB.out hb); have n1_ := ak (hbox); have n2_ := ak ((by rw [hg]; exact (bsz HB.out) : w.heap.size ≤ gb101)); have n3_ := ak ((by rw [hg]; exact (bsz HB.out) : w.heap.size ≤ gb101)); clear HB; have HB := n0_; have BK101 := n1_; have GW101 := n2_; have GE101 := n3_; clear n0_ n1_ n2_ n3_; clear hb hbox hg; have hcz6_0 : w5.cell? ⟨gb101, 0, none⟩ = some (.int .i64 a0_0) := (kce BK101.out 0).trans rfl; have hcz6_1 : w5.cell? ⟨gb101, 1, none⟩ = some (.slice A0_1 l0_1.length c0_1) := (kce BK101.out 1).trans rfl) | ((with_reducible refine gate_callee (f := 22) rfl ?_); refine goesL_ (some 10) rfl rfl Try.func22 (by kernel_rfl) rfl #[.agg #[.int .i64 a0_0, .slice A0_1 l0_1.length c0_1]] rfl (by (try simp only [List.map_toArray, List.map_cons, List.map_nil]); first | done | rfl) ?_; (with_reducible refine (peel_Check.calls a0_0 _ _ l0_1 t102 _ ?side1 ?side2 A2.out).mono ?_); (case side1 => repeat (first | exact (Kd.C_below HR0_1.out HB.out) | (with_reducible refine Kd.C_alloc ?_ _) | (with_reducible refine Kd.C_drewN ?_ _) | (with_reducible refine Kd.C_drew ?_))); (case side2 => exact HC0_1.out); rintro e w7 ⟨rfl, hb⟩; refine ⟨_, rfl, ?_⟩; have n0_ := ak (kbe BK101.out hb); have n1_ := ak (bsp HB.out hb); clear BK101 HB; have BK101 := n0_; have HB := n1_; clear n0_ n1_; have hcz8_0 : w7.cell? ⟨gb101, 0, none⟩ = some (.int .i64 a0_0) := (kce BK101.out 0).trans rfl; have hcz8_1 : w7.cell? ⟨gb101, 1, none⟩ = some (.slice A0_1 l0_1.length c0_1) := (kce BK101.out 1).trans rfl) | ((with_reducible refine gate_callee (f := 45) rfl ?_); refine goesL_ (some 15) rfl rfl Try.func45 (by kernel_rfl) rfl #[.agg #[.int .i64 a0_0, .slice A0_1 l0_1.length c0_1]] rfl (by (try simp only [List.map_toArray, List.map_cons, List.map_nil]); first | done | rfl) ?_; (with_reducible refine (peel_neighbors.calls k a0_0 _ _ l0_1 t103 _ ?side1 ?side2 A4.out).mono ?_); (case side1 => repeat (first | exact (Kd.C_below HR0_1.out HB.out) | (with_reducible refine Kd.C_alloc ?_ _) | (with_reducible refine Kd.C_drewN ?_ _) | (with_reducible refine Kd.C_drew ?_))); (case side2 => exact HC0_1.out); rintro e w9 ⟨v104, rfl, ho0, hb⟩; refine ⟨_, rfl, ?_⟩; have n0_ := ak (Kd.S_lower ho0 (bsz HB.out)); have n1_ := ak (kbe BK101.out hb); have n2_ := ak (bsp HB.out hb); clear BK101 HB; have HO105 := n0_; have BK101 := n1_; have HB := n2_; clear n0_ n1_ n2_; (try clear ho0); have hcz10_0 : w9.cell? ⟨gb101, 0, none⟩ = some (.int .i64 a0_0) := (kce BK101.out 0).trans rfl; have hcz10_1 : w9.cell? ⟨gb101, 1, none⟩ = some (.slice A0_1 l0_1.length c0_1) := (kce BK101.out 1).trans rfl))
  go_loopg [6, 18] k (fun kq v6 v18 w' => ∃ (x6_1 : Int) (x18_1 : Int), v6 = .int .i64 x6_1 ∧ v18 = .int .i64 x18_1 ∧ Aside0 (peel_Girth.l0 kq t103 x6_1 a0_0 x18_1 = some (r1, r2)) ∧ Aside0 (kq ≤ k) ∧ Aside0 (Kd.S (Kd.slice 3 (Kd.int .i64)) 22 w' w.heap.size (fun _ => True) v104 t103) ∧ Aside0 (w'.heap[gb101]? = some (.cells #[.int .i64 a0_0, (.slice A0_1 l0_1.length c0_1)] 31 (0, 0))) ∧ Aside0 (Below w.heap.size w w'))
  case atStart => exact ⟨(0), (0), (by first | rfl | (simp; done) | (simp [*]; done)), (by first | rfl | (simp; done) | (simp [*]; done)), H', ⟨Nat.le_refl _⟩, ⟨by (with_reducible repeat (first | apply Kd.S_alloc | apply Kd.S_drewN | apply Kd.S_drew)); exact HO105.out⟩, ⟨by (with_reducible repeat (first | refine kdn ?_ _ | refine kdr ?_ | refine kal ?_ _)); exact BK101.out⟩, ⟨by repeat (first | (with_reducible first | exact HB.out | apply bal | apply pbn | apply bd1 | refine bst ?_ GE101.out) | exact HB.out)⟩⟩
  case round =>
   clear H'
   obtain ⟨x6_1, x18_1, rfl, rfl, HA, HK1, HO_5, BK101, HB⟩ := hrel
   cases gk with
   | zero => exact absurd HA.out (by simp [peel_Girth.l0])
   | succ k1 =>
    have H := HA.out
    clear HA
    simp only [peel_Girth.l0] at H
    by_cases c11 : x18_1 < a0_0
    ·rw [if_pos c11] at H
     have c11b0 : decide (x18_1 < a0_0) = true := det c11
     clear c11
     replace H := obm H
     obtain ⟨t106, A120, H⟩ := H
     replace H : (if t106 > 0 then (if x6_1 = 0 then (peel_Girth.l0 k1 t103 t106 a0_0 (wrap64 (x18_1 + 1))) else (if t106 < x6_1 then (peel_Girth.l0 k1 t103 t106 a0_0 (wrap64 (x18_1 + 1))) else (peel_Girth.l0 k1 t103 x6_1 a0_0 (wrap64 (x18_1 + 1))))) else (peel_Girth.l0 k1 t103 x6_1 a0_0 (wrap64 (x18_1 + 1)))) = some (r1, r2) := H
     have A12 := ak A120
     clear A120
     by_cases c13 : t106 > 0
     ·rw [if_pos c13] at H
      have c13b0 : decide (0 < t106) = true := det c13
      clear c13
      by_cases c14 : x6_1 = 0
      ·rw [if_pos c14] at H
       have c14b0 : (x6_1 == 0) = true := beq_iff_eq.mpr c14
       have c14b1 : (x6_1 != 0) = false := bnm c14
       clear c14
       have H' := ak H
       clear H
       obtain ⟨Ao15, co15, eo15⟩ := Kd.S_slice HO_5.out
       subst eo15
       go_wp2_with (first | ((with_reducible refine gate_callee (f := 46) rfl ?_); refine goesL_ (some 23) rfl rfl Try.func46 (by kernel_rfl) rfl #[.slice Ao15 t103.length co15, .int .i64 x18_1] rfl (by (try simp only [List.map_toArray, List.map_cons, List.map_nil]); first | done | rfl) ?_; (with_reducible refine (peel_around.calls k1 _ _ t103 x18_1 t106 _ ?side1 ?side2 A12.out).mono ?_); (case side1 => exact (Kd.S_reads' HO_5.out).2.2); (case side2 => exact (Kd.S_reads' HO_5.out).2.1); rintro e w16 ⟨rfl, hb⟩; refine ⟨_, rfl, ?_⟩; have n0_ := ak (Kd.S_below (by (with_reducible repeat (first | apply Kd.S_alloc | apply Kd.S_drewN | apply Kd.S_drew)); exact HO_5.out) hb); have n1_ := ak (kbe BK101.out hb); have n2_ := ak (bsp HB.out hb); clear HO_5 BK101 HB; have HO_5 := n0_; have BK101 := n1_; have HB := n2_; clear n0_ n1_ n2_; (try clear hb); (try clear hb2); (try clear hk); (try clear hi)))
       go_roundg k1
       case measure => have := HK1.out; omega
       case rel => exact ⟨(t106), (wrap64 (x18_1 + 1)), (by first | rfl | (simp; done) | (simp [*]; done)), (by first | rfl | (simp; done) | (simp [*]; done)), H', ⟨by have := HK1.out; omega⟩, ⟨by (with_reducible repeat (first | apply Kd.S_alloc | apply Kd.S_drewN | apply Kd.S_drew)); exact HO_5.out⟩, ⟨by (with_reducible repeat (first | refine kdn ?_ _ | refine kdr ?_ | refine kal ?_ _)); exact BK101.out⟩, ⟨by repeat (first | (with_reducible first | exact HB.out | apply bal | apply pbn | apply bd1 | refine bst ?_ GE101.out) | exact HB.out)⟩⟩
      ·rw [if_neg c14] at H
       have c14b0 : (x6_1 == 0) = false := bqm c14
       have c14b1 : (x6_1 != 0) = true := bne_iff_ne.mpr c14
       by_cases c17 : t106 < x6_1
       ·rw [if_pos c17] at H
        have c17b0 : decide (t106 < x6_1) = true := det c17
        clear c17
        have H' := ak H
        clear H
        obtain ⟨Ao18, co18, eo18⟩ := Kd.S_slice HO_5.out
        subst eo18
        go_wp2_with (first | ((with_reducible refine gate_callee (f := 46) rfl ?_); refine goesL_ (some 23) rfl rfl Try.func46 (by kernel_rfl) rfl #[.slice Ao18 t103.length co18, .int .i64 x18_1] rfl (by (try simp only [List.map_toArray, List.map_cons, List.map_nil]); first | done | rfl) ?_; (with_reducible refine (peel_around.calls k1 _ _ t103 x18_1 t106 _ ?side1 ?side2 A12.out).mono ?_); (case side1 => exact (Kd.S_reads' HO_5.out).2.2); (case side2 => exact (Kd.S_reads' HO_5.out).2.1); rintro e w19 ⟨rfl, hb⟩; refine ⟨_, rfl, ?_⟩; have n0_ := ak (Kd.S_below (by (with_reducible repeat (first | apply Kd.S_alloc | apply Kd.S_drewN | apply Kd.S_drew)); exact HO_5.out) hb); have n1_ := ak (kbe BK101.out hb); have n2_ := ak (bsp HB.out hb); clear HO_5 BK101 HB; have HO_5 := n0_; have BK101 := n1_; have HB := n2_; clear n0_ n1_ n2_; (try clear hb); (try clear hb2); (try clear hk); (try clear hi)))
        go_roundg k1
        case measure => have := HK1.out; omega
        case rel => exact ⟨(t106), (wrap64 (x18_1 + 1)), (by first | rfl | (simp; done) | (simp [*]; done)), (by first | rfl | (simp; done) | (simp [*]; done)), H', ⟨by have := HK1.out; omega⟩, ⟨by (with_reducible repeat (first | apply Kd.S_alloc | apply Kd.S_drewN | apply Kd.S_drew)); exact HO_5.out⟩, ⟨by (with_reducible repeat (first | refine kdn ?_ _ | refine kdr ?_ | refine kal ?_ _)); exact BK101.out⟩, ⟨by repeat (first | (with_reducible first | exact HB.out | apply bal | apply pbn | apply bd1 | refine bst ?_ GE101.out) | exact HB.out)⟩⟩
       ·rw [if_neg c17] at H
        have c17b0 : decide (t106 < x6_1) = false := dff c17
        clear c17
        have H' := ak H
        clear H
        obtain ⟨Ao20, co20, eo20⟩ := Kd.S_slice HO_5.out
        subst eo20
        go_wp2_with (first | ((with_reducible refine gate_callee (f := 46) rfl ?_); refine goesL_ (some 23) rfl rfl Try.func46 (by kernel_rfl) rfl #[.slice Ao20 t103.length co20, .int .i64 x18_1] rfl (by (try simp only [List.map_toArray, List.map_cons, List.map_nil]); first | done | rfl) ?_; (with_reducible refine (peel_around.calls k1 _ _ t103 x18_1 t106 _ ?side1 ?side2 A12.out).mono ?_); (case side1 => exact (Kd.S_reads' HO_5.out).2.2); (case side2 => exact (Kd.S_reads' HO_5.out).2.1); rintro e w21 ⟨rfl, hb⟩; refine ⟨_, rfl, ?_⟩; have n0_ := ak (Kd.S_below (by (with_reducible repeat (first | apply Kd.S_alloc | apply Kd.S_drewN | apply Kd.S_drew)); exact HO_5.out) hb); have n1_ := ak (kbe BK101.out hb); have n2_ := ak (bsp HB.out hb); clear HO_5 BK101 HB; have HO_5 := n0_; have BK101 := n1_; have HB := n2_; clear n0_ n1_ n2_; (try clear hb); (try clear hb2); (try clear hk); (try clear hi)))
        go_roundg k1
        case measure => have := HK1.out; omega
        case rel => exact ⟨(x6_1), (wrap64 (x18_1 + 1)), (by first | rfl | (simp; done) | (simp [*]; done)), (by first | rfl | (simp; done) | (simp [*]; done)), H', ⟨by have := HK1.out; omega⟩, ⟨by (with_reducible repeat (first | apply Kd.S_alloc | apply Kd.S_drewN | apply Kd.S_drew)); exact HO_5.out⟩, ⟨by (with_reducible repeat (first | refine kdn ?_ _ | refine kdr ?_ | refine kal ?_ _)); exact BK101.out⟩, ⟨by repeat (first | (with_reducible first | exact HB.out | apply bal | apply pbn | apply bd1 | refine bst ?_ GE101.out) | exact HB.out)⟩⟩
     ·rw [if_neg c13] at H
      have c13b0 : decide (0 < t106) = false := dff c13
      clear c13
      have H' := ak H
      clear H
      obtain ⟨Ao22, co22, eo22⟩ := Kd.S_slice HO_5.out
      subst eo22
      go_wp2_with (first | ((with_reducible refine gate_callee (f := 46) rfl ?_); refine goesL_ (some 23) rfl rfl Try.func46 (by kernel_rfl) rfl #[.slice Ao22 t103.length co22, .int .i64 x18_1] rfl (by (try simp only [List.map_toArray, List.map_cons, List.map_nil]); first | done | rfl) ?_; (with_reducible refine (peel_around.calls k1 _ _ t103 x18_1 t106 _ ?side1 ?side2 A12.out).mono ?_); (case side1 => exact (Kd.S_reads' HO_5.out).2.2); (case side2 => exact (Kd.S_reads' HO_5.out).2.1); rintro e w23 ⟨rfl, hb⟩; refine ⟨_, rfl, ?_⟩; have n0_ := ak (Kd.S_below (by (with_reducible repeat (first | apply Kd.S_alloc | apply Kd.S_drewN | apply Kd.S_drew)); exact HO_5.out) hb); have n1_ := ak (kbe BK101.out hb); have n2_ := ak (bsp HB.out hb); clear HO_5 BK101 HB; have HO_5 := n0_; have BK101 := n1_; have HB := n2_; clear n0_ n1_ n2_; (try clear hb); (try clear hb2); (try clear hk); (try clear hi)))
      go_roundg k1
      case measure => have := HK1.out; omega
      case rel => exact ⟨(x6_1), (wrap64 (x18_1 + 1)), (by first | rfl | (simp; done) | (simp [*]; done)), (by first | rfl | (simp; done) | (simp [*]; done)), H', ⟨by have := HK1.out; omega⟩, ⟨by (with_reducible repeat (first | apply Kd.S_alloc | apply Kd.S_drewN | apply Kd.S_drew)); exact HO_5.out⟩, ⟨by (with_reducible repeat (first | refine kdn ?_ _ | refine kdr ?_ | refine kal ?_ _)); exact BK101.out⟩, ⟨by repeat (first | (with_reducible first | exact HB.out | apply bal | apply pbn | apply bd1 | refine bst ?_ GE101.out) | exact HB.out)⟩⟩
    ·rw [if_neg c11] at H
     have c11b0 : decide (x18_1 < a0_0) = false := dff c11
     clear c11
     simp only [Option.some.injEq, Prod.mk.injEq] at H
     obtain ⟨rfl, rfl⟩ := H
     go_wp2
     go_ret2
     exact ⟨by first | rfl | (simp <;> rfl) | (simp [*] <;> rfl), by repeat (first | (with_reducible first | exact HB.out | apply bal | apply pbn | apply bd1 | refine bst ?_ GE101.out) | exact HB.out)⟩
 ·rw [if_neg c3] at H
  have c3b0 : (t102 == 0) = false := bqm c3
  have c3b1 : (t102 != 0) = true := bne_iff_ne.mpr c3
  simp only [Option.some.injEq, Prod.mk.injEq] at H
  obtain ⟨rfl, rfl⟩ := H
  go_enter Try.func18, Try.ntmps18
  go_wp2_with (first | ((with_reducible refine gate_dst (N := 1) rfl ?_); refine box_event ?hg (N := 1) ?hd (cs := #[.int .i64 a0_0, .slice A0_1 l0_1.length c0_1]) (t := 31) ?hr ?_; (case hd => rfl); (case hg => rfl); (case hr => first | (go_simp; done) | (go_simp; rfl)); intro gb101 hg w24 hbox hb; have n0_ := ak (bsp HB.out hb); have n1_ := ak (hbox); have n2_ := ak ((by rw [hg]; exact (bsz HB.out) : w.heap.size ≤ gb101)); have n3_ := ak ((by rw [hg]; exact (bsz HB.out) : w.heap.size ≤ gb101)); clear HB; have HB := n0_; have BK101 := n1_; have GW101 := n2_; have GE101 := n3_; clear n0_ n1_ n2_ n3_; clear hb hbox hg; have hcz25_0 : w24.cell? ⟨gb101, 0, none⟩ = some (.int .i64 a0_0) := (kce BK101.out 0).trans rfl; have hcz25_1 : w24.cell? ⟨gb101, 1, none⟩ = some (.slice A0_1 l0_1.length c0_1) := (kce BK101.out 1).trans rfl) | ((with_reducible refine gate_callee (f := 22) rfl ?_); refine goesL_ (some 10) rfl rfl Try.func22 (by kernel_rfl) rfl #[.agg #[.int .i64 a0_0, .slice A0_1 l0_1.length c0_1]] rfl (by (try simp only [List.map_toArray, List.map_cons, List.map_nil]); first | done | rfl) ?_; (with_reducible refine (peel_Check.calls a0_0 _ _ l0_1 t102 _ ?side1 ?side2 A2.out).mono ?_); (case side1 => repeat (first | exact (Kd.C_below HR0_1.out HB.out) | (with_reducible refine Kd.C_alloc ?_ _) | (with_reducible refine Kd.C_drewN ?_ _) | (with_reducible refine Kd.C_drew ?_))); (case side2 => exact HC0_1.out); rintro e w26 ⟨rfl, hb⟩; refine ⟨_, rfl, ?_⟩; have n0_ := ak (kbe BK101.out hb); have n1_ := ak (bsp HB.out hb); clear BK101 HB; have BK101 := n0_; have HB := n1_; clear n0_ n1_; (try clear hb); (try clear hb2); (try clear hk); (try clear hi)))
  go_ret2
  exact ⟨by first | rfl | (simp <;> rfl) | (simp [*] <;> rfl), by repeat (first | (with_reducible first | exact HB.out | apply bal | apply pbn | apply bd1 | refine bst ?_ GE101.out) | exact HB.out)⟩
end Go.Proofs.Ytkifipakikbhcaa.Pk
