/- Part 4 of the claim: what the law reaches, walked (merged by slim.py out of the texts in wip). -/
import Derived.Test.YtkifipakikbhcaaUn3
set_option maxHeartbeats 8000000
set_option maxRecDepth 100000
set_option linter.unusedSimpArgs false
set_option linter.unusedVariables false
namespace Go.Proofs.Ytkifipakikbhcaa.Pg
open Go.Proofs.Ytkifipakikbhcaa.Ref
open Go.RowKit Go.Proofs.YtkifipakikbhcaaW.PrintWords Go.Proofs.YtkifipakikbhcaaW.PrintLast Go.Proofs.YtkifipakikbhcaaW.PrintMore
attribute [local go_sem] max2_int min2_int max_two min_two max_three min_three max_four min_four
mutual
def peel_neighbors.l0 : Nat → List (List Int) → List (List Int) → Int → Int → Int → List (List Int) → Option ((List (List Int)))
 | 0, _, _, _, _, _, _ => none
 | k + 1, x3, x16, x17, x18, x128000, x128001 => if x18 < x17 then (if 0 ≤ x18 then (if x18 < (x16.length : Int) then (peel_neighbors.l1 k x3 x18 x16 x17 x18 (rd_L2 x16 x18) ((rd_L2 x16 x18).length : Int) 0 x128000 x128001) else (none)) else (none)) else (some x3)
def peel_neighbors.l1 : Nat → List (List Int) → Int → List (List Int) → Int → Int → List Int → Int → Int → Int → List (List Int) → Option ((List (List Int)))
 | 0, _, _, _, _, _, _, _, _, _, _ => none
 | k + 1, x3, x4, x16, x17, x18, x23, x24, x25, x128000, x128001 => if x25 < x24 then (if 0 ≤ x25 then (if x25 < (x23.length : Int) then (if 0 ≤ (rd x23 x25) then (if (rd x23 x25) < (x3.length : Int) then (if (rd_L2 x3 (rd x23 x25)).length < 17592186044416 then ((some (x3.set ((rd x23 x25) : Int).toNat ((rd_L2 x3 (rd x23 x25)) ++ [wrap64 (x128000 + x4)]) : List (List Int))).bind fun y137 => (if 0 ≤ (wrap64 (x128000 + x4)) then (if (wrap64 (x128000 + x4)) < (x3.length : Int) then (if (rd_L2 y137 (wrap64 (x128000 + x4))).length < 17592186044416 then (peel_neighbors.l1 k (y137.set ((wrap64 (x128000 + x4)) : Int).toNat ((rd_L2 y137 (wrap64 (x128000 + x4))) ++ [rd x23 x25])) x4 x16 x17 x18 x23 x24 (wrap64 (x25 + 1)) x128000 x128001) else (none)) else (none)) else (none))) else (none)) else (none)) else (none)) else (none)) else (none)) else (peel_neighbors.l0 k x3 x16 x17 (wrap64 (x18 + 1)) x128000 x128001)
end
def peel_neighbors.f (k : Nat) (a0_0 : Int) (l0_1 : List (List Int)) : Option ((List (List Int))) := if 0 ≤ (wrap64 (a0_0 + (l0_1.length : Int))) then (if (wrap64 (a0_0 + (l0_1.length : Int)) : Int).toNat ≤ 11728124029610 then (peel_neighbors.l0 k (List.replicate (wrap64 (a0_0 + (l0_1.length : Int)) : Int).toNat []) l0_1 (l0_1.length : Int) 0 a0_0 l0_1) else (none)) else (none)
def peel_neighbors.T8 : Bool × List (List Nat × List Nat) := (true, [([], []), ([], []), ([], []), ([], []), ([2, 3], [2, 3]), ([4], [4]), ([], []), ([6], [6]), ([], []), ([7, 8], [7, 8]), ([9], [9]), ([5, 10], [5, 10]), ([0, 1, 0, 1, 2, 3, 4, 5, 6, 7, 8, 9, 10, 11], [0, 1]), ([12, 11, 11, 0, 1, 2, 3, 4, 5, 6, 7, 8, 9, 10, 11], [11, 12])])
def peel_neighbors.B8 : List Nat := [0, 0, 0, 0, 12, 28, 0, 64, 0, 448, 960, 2044, 4095, 8191]
theorem peel_neighbors.tab8 : rtab .any (opsOf Try.f45 8) = peel_neighbors.T8 := by kernel_rfl
theorem peel_neighbors.bits8 : waitsOk peel_neighbors.T8.2 peel_neighbors.B8 = true := by kernel_rfl
def peel_neighbors.T9 : Bool × List (List Nat × List Nat) := (true, [([], []), ([], []), ([1], [1]), ([], []), ([2, 3], [2, 3]), ([], []), ([], []), ([6], [6]), ([], []), ([7, 8], [7, 8]), ([5, 9], [5, 9]), ([10], [10]), ([], []), ([12], [12]), ([11, 13], [11, 13]), ([0, 4, 0, 1, 2, 3, 4, 5, 6, 7, 8, 9, 10, 11, 12, 13, 14], [0, 4]), ([15, 14, 14, 0, 1, 2, 3, 4, 5, 6, 7, 8, 9, 10, 11, 12, 13, 14], [14, 15])])
def peel_neighbors.B9 : List Nat := [0, 0, 2, 0, 14, 0, 0, 64, 0, 448, 992, 2016, 0, 4096, 16352, 32767, 65535]
theorem peel_neighbors.tab9 : rtab .any (opsOf Try.f45 9) = peel_neighbors.T9 := by kernel_rfl
theorem peel_neighbors.bits9 : waitsOk peel_neighbors.T9.2 peel_neighbors.B9 = true := by kernel_rfl
theorem peel_neighbors.calls (k : Nat) (a0_0 : Int) (A0_1 : Option Addr) (c0_1 : Nat) (l0_1 : List (List Int)) (r : List (List Int)) (w : World) (hr0_1 : Kd.C (Kd.slice 3 (Kd.int .i64)) w A0_1 l0_1.length l0_1) (hc0_1 : l0_1.length ≤ c0_1) (h : peel_neighbors.f k a0_0 l0_1 = some r) :
  Calls Try.prog 45 #[.agg #[.int .i64 a0_0, .slice A0_1 l0_1.length c0_1]] w fun e w' => ∃ v0_ : Value, e = .returned (v0_) ∧ Kd.S (Kd.slice 3 (Kd.int .i64)) 22 w' w.heap.size (fun _ => True) v0_ r ∧ Below w.heap.size w w' := by
 have hu31 := Try.underlying31
 have HR0_1 := Aside0.mk hr0_1
 have HC0_1 := Aside0.mk hc0_1
 clear hr0_1 hc0_1
 have HB := Aside0.mk (Below.refl w.heap.size w)
 have H : (if 0 ≤ (wrap64 (a0_0 + (l0_1.length : Int))) then (if (wrap64 (a0_0 + (l0_1.length : Int)) : Int).toNat ≤ 11728124029610 then (peel_neighbors.l0 k (List.replicate (wrap64 (a0_0 + (l0_1.length : Int)) : Int).toNat []) l0_1 (l0_1.length : Int) 0 a0_0 l0_1) else (none)) else (none)) = some r := h
 clear h
 obtain ⟨ji2, hji2⟩ : ∃ j_ : Int, (wrap64 (a0_0 + (l0_1.length : Int))) = j_ := ⟨_, rfl⟩
 replace H : (if 0 ≤ (ji2) then (if (ji2 : Int).toNat ≤ 11728124029610 then (peel_neighbors.l0 k (List.replicate (ji2 : Int).toNat []) l0_1 (l0_1.length : Int) 0 a0_0 l0_1) else (none)) else (none)) = some r := by first | (rw [hji2] at H; exact H) | (simp only [hji2] at H ⊢; exact H)
 have hji2w : (IntKind.i64.wrap (a0_0 + (l0_1.length : Int))) = ji2 := (i64_w _).trans hji2
 by_cases c3 : 0 ≤ (ji2)
 ·rw [if_pos c3] at H
  have c3b0 := eq_true c3
  have c3b1 : decide (0 ≤ (ji2)) = true := decide_eq_true c3
  clear c3
  by_cases c4 : (ji2 : Int).toNat ≤ 11728124029610
  ·rw [if_pos c4] at H
   have c4b0 := eq_true c4
   have c4b1 : decide ((ji2 : Int).toNat ≤ 11728124029610) = true := decide_eq_true c4
   clear c4
   obtain ⟨y128, hy128⟩ : ∃ y_ : List (List Int), y_ = (List.replicate (ji2 : Int).toNat []) := ⟨_, rfl⟩
   replace H : (peel_neighbors.l0 k y128 l0_1 (l0_1.length : Int) 0 a0_0 l0_1) = some r := by first | (rw [hy128]; with_reducible exact H) | (have H2_ := (Option.bind_some _ _).symm.trans H; rw [hy128]; with_reducible exact H2_) | (have H2_ := (Option.bind_some _ _).symm.trans H; with_reducible exact H2_) | with_reducible exact H | (rw [hy128]; exact H) | exact H
   have Ny128 := Aside0.mk hy128
   clear hy128
   have H' := Aside0.mk H
   clear H
   go_enter Try.func45, Try.ntmps45
   go_wp2_with (first | ((with_reducible refine gate_dst (N := 1) rfl ?_); refine box_event ?hg (N := 1) ?hd (cs := #[.int .i64 a0_0, .slice A0_1 l0_1.length c0_1]) (t := 31) ?hr ?_; (case hd => rfl); (case hg => rfl); (case hr => first | (go_simp; done) | (go_simp; rfl)); intro gb127 hg w5 hbox hb; have n0_ := Aside0.mk (below_step (by repeat (first | (with_reducible first | exact HB.out | apply below_alloc | apply pw_below_drewN | apply below_drew1) | exact HB.out)) hb); have n1_ := Aside0.mk (hbox); have n2_ := Aside0.mk ((by rw [hg]; exact (below_size (by repeat (first | (with_reducible first | exact HB.out | apply below_alloc | apply pw_below_drewN | apply below_drew1) | exact HB.out))) : w.heap.size ≤ gb127)); have n3_ := Aside0.mk ((by rw [hg]; exact (below_size (by repeat (first | (with_reducible first | exact HB.out | apply below_alloc | apply pw_below_drewN | apply below_drew1) | exact HB.out))) : w.heap.size ≤ gb127)); clear HB; have HB := n0_; have BK127 := n1_; have GW127 := n2_; have GE127 := n3_; clear n0_ n1_ n2_ n3_; clear hb hbox hg; have hcz6_0 : w5.cell? ⟨gb127, 0, none⟩ = some (.int .i64 a0_0) := (blk_cell BK127.out 0).trans rfl; have hcz6_1 : w5.cell? ⟨gb127, 1, none⟩ = some (.slice A0_1 l0_1.length c0_1) := (blk_cell BK127.out 1).trans rfl; have hfz6_0 := blk_frozen BK127.out 0; have hfz6_1 := blk_frozen BK127.out 1) | ((with_reducible refine gate_dst (N := 14) rfl ?_); refine Kd.S_make (Kd.slice 3 (Kd.int .i64)) _ 22 rfl (N := 14) rfl 25 _ _ rfl ji2 rfl rfl Try.underlying25 (.slice none 0 0) 24 info22 rfl (by decide) (by omega) [] (ok := fun _ => True) (okp := fun _ => True) ⟨_, rfl, Kd.R_nil _ _ _ _ _⟩ (fun _ hk => hk) trivial (of_decide_eq_true (by first | (with_reducible assumption) | assumption)) (Nat.le_trans (Nat.mul_le_mul_right _ (of_decide_eq_true (by first | (with_reducible assumption) | assumption) : ji2.toNat ≤ 11728124029610)) (by omega)) (Below.refl _ _) (Nat.le_refl _) ?_; intro v129 w7 ho8 hb hg_ hnew_; clear hg_ hnew_; (first | rw [← Ny128.out] at ho8 | (simp only [Int.reduceToNat] at ho8; rw [← Ny128.out] at ho8)); have n0_ := Aside0.mk (Kd.S_lower ho8 (below_size (by repeat (first | (with_reducible first | exact HB.out | apply below_alloc | apply pw_below_drewN | apply below_drew1 | refine below_set ?_ GE127.out) | exact HB.out)))); have n1_ := Aside0.mk (blk_below (g := gb127) (o := .cells #[.int .i64 a0_0, .slice A0_1 l0_1.length c0_1] 31 (0, 0)) (by (with_reducible repeat (first | refine blk_drewN ?_ _ | refine blk_drew ?_ | refine blk_alloc ?_ _)); exact BK127.out) hb); have n2_ := Aside0.mk (below_step (by repeat (first | (with_reducible first | exact HB.out | apply below_alloc | apply pw_below_drewN | apply below_drew1 | refine below_set ?_ GE127.out) | exact HB.out)) hb); clear BK127; clear HB; have HO130 := n0_; have BK127 := n1_; have HB := n2_; clear n0_ n1_ n2_; clear hb ho8; have hcz9_0 : w7.cell? ⟨gb127, 0, none⟩ = some (.int .i64 a0_0) := (blk_cell BK127.out 0).trans rfl; have hcz9_1 : w7.cell? ⟨gb127, 1, none⟩ = some (.slice A0_1 l0_1.length c0_1) := (blk_cell BK127.out 1).trans rfl; have hfz9_0 := blk_frozen BK127.out 0; have hfz9_1 := blk_frozen BK127.out 1))
   go_loopg [18] k (fun kq v18 w' => ∃ (x3_1 : List (List Int)) (x18_1 : Int), v18 = .int .i64 x18_1 ∧ Aside0 (peel_neighbors.l0 kq x3_1 l0_1 (l0_1.length : Int) x18_1 a0_0 l0_1 = some r) ∧ Aside0 (kq ≤ k) ∧ Aside0 (Kd.S (Kd.slice 3 (Kd.int .i64)) 22 w' w.heap.size (fun _ => True) v129 x3_1) ∧ Aside0 (w'.heap[gb127]? = some (.cells #[.int .i64 a0_0, (.slice A0_1 l0_1.length c0_1)] 31 (0, 0))) ∧ Aside0 (Below w.heap.size w w'))
   case atStart => exact ⟨(y128), (0), (by first | rfl | (simp; done) | (simp [*]; done)), H', ⟨Nat.le_refl _⟩, ⟨by (with_reducible repeat (first | apply Kd.S_alloc | apply Kd.S_drewN | apply Kd.S_drew)); exact HO130.out⟩, ⟨by (with_reducible repeat (first | refine blk_drewN ?_ _ | refine blk_drew ?_ | refine blk_alloc ?_ _)); exact BK127.out⟩, ⟨by repeat (first | (with_reducible first | exact HB.out | apply below_alloc | apply pw_below_drewN | apply below_drew1 | refine below_set ?_ GE127.out) | exact HB.out)⟩⟩
   case round =>
    clear H'
    try clear p2
    try clear c3
    try clear c3b0
    try clear c3b1
    try clear c4
    try clear c4b0
    try clear c4b1
    try clear p6
    try clear hcz6_0
    try clear hcz6_1
    try clear hcz9_0
    try clear hcz9_1
    try clear hfz6_0
    try clear hfz6_1
    try clear hfz9_0
    try clear hfz9_1
    obtain ⟨x3_1, x18_1, rfl, HA, HK1, HO_3, BK127, HB⟩ := hrel
    cases gk with
    | zero => exact absurd HA.out (by simp [peel_neighbors.l0])
    | succ k1 =>
     have H := HA.out
     clear HA
     simp only [peel_neighbors.l0] at H
     by_cases c10 : x18_1 < (l0_1.length : Int)
     ·rw [if_pos c10] at H
      have c10b0 : decide (x18_1 < (l0_1.length : Int)) = true := decide_eq_true c10
      clear c10
      by_cases c11 : 0 ≤ x18_1
      ·rw [if_pos c11] at H
       have c11b0 : decide (0 ≤ x18_1) = true := decide_eq_true c11
       clear c11
       by_cases c12 : x18_1 < (l0_1.length : Int)
       ·rw [if_pos c12] at H
        have c12b0 : decide (x18_1 < (l0_1.length : Int)) = true := decide_eq_true c12
        clear c12
        have H' := Aside0.mk H
        clear H
        have p131 : 0 ≤ (x18_1 : Int) := of_decide_eq_true (by first | (with_reducible assumption) | assumption)
        have q131 : x18_1 < (l0_1.length : Int) := of_decide_eq_true (by first | (with_reducible assumption) | assumption)
        obtain ⟨ad131, A131_0, c131_0, e131, hx131_0, hl131_0, hi131_0⟩ := at_L2 HR0_1.out x18_1 p131 q131
        cases e131
        replace hx131_0 := (HB.out.cell (World.block_lt_of_cell? w _ hx131_0)).trans hx131_0
        have HR131_0 := Aside0.mk hi131_0
        have HC131_0 := Aside0.mk hl131_0
        clear hi131_0 hl131_0
        replace p131 := eq_true p131
        replace q131 := eq_true q131
        go_wp2
        go_loopg [25] k1 (fun kq v25 w' => ∃ (x3_2 : List (List Int)) (x25_2 : Int), v25 = .int .i64 x25_2 ∧ Aside0 (peel_neighbors.l1 kq x3_2 x18_1 l0_1 (l0_1.length : Int) x18_1 (rd_L2 l0_1 x18_1) ((rd_L2 l0_1 x18_1).length : Int) x25_2 a0_0 l0_1 = some r) ∧ Aside0 (kq ≤ k1) ∧ Aside0 (Kd.S (Kd.slice 3 (Kd.int .i64)) 22 w' w.heap.size (fun _ => True) v129 x3_2) ∧ Aside0 (w'.heap[gb127]? = some (.cells #[.int .i64 a0_0, (.slice (some ad131) l0_1.length c0_1)] 31 (0, 0))) ∧ Aside0 (Below w.heap.size w w'))
        case atStart => exact ⟨(x3_1), (0), (by first | rfl | (simp; done) | (simp [*]; done)), H', ⟨Nat.le_refl _⟩, ⟨by (with_reducible repeat (first | apply Kd.S_alloc | apply Kd.S_drewN | apply Kd.S_drew)); exact HO_3.out⟩, ⟨by (with_reducible repeat (first | refine blk_drewN ?_ _ | refine blk_drew ?_ | refine blk_alloc ?_ _)); exact BK127.out⟩, ⟨by repeat (first | (with_reducible first | exact HB.out | apply below_alloc | apply pw_below_drewN | apply below_drew1 | refine below_set ?_ GE127.out) | exact HB.out)⟩⟩
        case round =>
         clear H'
         try clear c1
         try clear p1
         try clear q1
         try clear hx1
         try clear p2
         try clear c3
         try clear c3b0
         try clear c3b1
         try clear c4
         try clear c4b0
         try clear c4b1
         try clear p6
         try clear c10
         try clear c10b0
         try clear c11
         try clear c11b0
         try clear c12
         try clear c12b0
         try clear hcz6_0
         try clear hcz6_1
         try clear hcz9_0
         try clear hcz9_1
         try clear hfz6_0
         try clear hfz6_1
         try clear hfz9_0
         try clear hfz9_1
         try clear hx131_0
         try clear p131
         try clear p2
         try clear p6
         try clear q131
         obtain ⟨x3_2, x25_2, rfl, HA, HK2, HO_3, BK127, HB⟩ := hrel
         cases gk with
         | zero => exact absurd HA.out (by simp [peel_neighbors.l1])
         | succ k2 =>
          have H := HA.out
          clear HA
          simp only [peel_neighbors.l1] at H
          by_cases c13 : x25_2 < ((rd_L2 l0_1 x18_1).length : Int)
          ·rw [if_pos c13] at H
           have c13b0 : decide (x25_2 < ((rd_L2 l0_1 x18_1).length : Int)) = true := decide_eq_true c13
           clear c13
           by_cases c14 : 0 ≤ x25_2
           ·rw [if_pos c14] at H
            have c14b0 : decide (0 ≤ x25_2) = true := decide_eq_true c14
            clear c14
            by_cases c15 : x25_2 < ((rd_L2 l0_1 x18_1).length : Int)
            ·rw [if_pos c15] at H
             have c15b0 : decide (x25_2 < ((rd_L2 l0_1 x18_1).length : Int)) = true := decide_eq_true c15
             clear c15
             by_cases c16 : 0 ≤ (rd (rd_L2 l0_1 x18_1) x25_2)
             ·rw [if_pos c16] at H
              have c16b0 : decide (0 ≤ (rd (rd_L2 l0_1 x18_1) x25_2)) = true := decide_eq_true c16
              clear c16
              by_cases c17 : (rd (rd_L2 l0_1 x18_1) x25_2) < (x3_2.length : Int)
              ·rw [if_pos c17] at H
               have c17b0 : decide ((rd (rd_L2 l0_1 x18_1) x25_2) < (x3_2.length : Int)) = true := decide_eq_true c17
               clear c17
               by_cases c18 : (rd_L2 x3_2 (rd (rd_L2 l0_1 x18_1) x25_2)).length < 17592186044416
               ·rw [if_pos c18] at H
                have LMc18 := Aside0.mk c18
                clear c18
                obtain ⟨y134, hy134⟩ : ∃ y_ : List Int, y_ = ((rd_L2 x3_2 (rd (rd_L2 l0_1 x18_1) x25_2)) ++ [wrap64 (a0_0 + x18_1)]) := ⟨_, rfl⟩
                replace H : ((some (x3_2.set ((rd (rd_L2 l0_1 x18_1) x25_2) : Int).toNat y134 : List (List Int))).bind fun y137 => (if 0 ≤ (wrap64 (a0_0 + x18_1)) then (if (wrap64 (a0_0 + x18_1)) < (x3_2.length : Int) then (if (rd_L2 y137 (wrap64 (a0_0 + x18_1))).length < 17592186044416 then (peel_neighbors.l1 k2 (y137.set ((wrap64 (a0_0 + x18_1)) : Int).toNat ((rd_L2 y137 (wrap64 (a0_0 + x18_1))) ++ [rd (rd_L2 l0_1 x18_1) x25_2])) x18_1 l0_1 (l0_1.length : Int) x18_1 (rd_L2 l0_1 x18_1) ((rd_L2 l0_1 x18_1).length : Int) (wrap64 (x25_2 + 1)) a0_0 l0_1) else (none)) else (none)) else (none))) = some r := by first | (rw [hy134]; with_reducible exact H) | (have H2_ := (Option.bind_some _ _).symm.trans H; rw [hy134]; with_reducible exact H2_) | (have H2_ := (Option.bind_some _ _).symm.trans H; with_reducible exact H2_) | with_reducible exact H | (rw [hy134]; exact H) | exact H
                have Ny134 := Aside0.mk hy134
                clear hy134
                obtain ⟨y137, hy137⟩ : ∃ y_ : List (List Int), y_ = (x3_2.set ((rd (rd_L2 l0_1 x18_1) x25_2) : Int).toNat y134) := ⟨_, rfl⟩
                replace H : (if 0 ≤ (wrap64 (a0_0 + x18_1)) then (if (wrap64 (a0_0 + x18_1)) < (x3_2.length : Int) then (if (rd_L2 y137 (wrap64 (a0_0 + x18_1))).length < 17592186044416 then (peel_neighbors.l1 k2 (y137.set ((wrap64 (a0_0 + x18_1)) : Int).toNat ((rd_L2 y137 (wrap64 (a0_0 + x18_1))) ++ [rd (rd_L2 l0_1 x18_1) x25_2])) x18_1 l0_1 (l0_1.length : Int) x18_1 (rd_L2 l0_1 x18_1) ((rd_L2 l0_1 x18_1).length : Int) (wrap64 (x25_2 + 1)) a0_0 l0_1) else (none)) else (none)) else (none)) = some r := by first | (rw [hy137]; with_reducible exact H) | (have H2_ := (Option.bind_some _ _).symm.trans H; rw [hy137]; with_reducible exact H2_) | (have H2_ := (Option.bind_some _ _).symm.trans H; with_reducible exact H2_) | with_reducible exact H | (rw [hy137]; exact H) | exact H
                have Ny137 := Aside0.mk hy137
                clear hy137
                obtain ⟨ji20, hji20⟩ : ∃ j_ : Int, (wrap64 (a0_0 + x18_1)) = j_ := ⟨_, rfl⟩
                replace H : (if 0 ≤ (ji20) then (if (ji20) < (x3_2.length : Int) then (if (rd_L2 y137 (ji20)).length < 17592186044416 then (peel_neighbors.l1 k2 (y137.set ((ji20) : Int).toNat ((rd_L2 y137 (ji20)) ++ [rd (rd_L2 l0_1 x18_1) x25_2])) x18_1 l0_1 (l0_1.length : Int) x18_1 (rd_L2 l0_1 x18_1) ((rd_L2 l0_1 x18_1).length : Int) (wrap64 (x25_2 + 1)) a0_0 l0_1) else (none)) else (none)) else (none)) = some r := by first | (rw [hji20] at H; exact H) | (simp only [hji20] at H ⊢; exact H)
                (try rw [hji20] at Ny134)
                have hji20w : (IntKind.i64.wrap (a0_0 + x18_1)) = ji20 := (i64_w _).trans hji20
                by_cases c21 : 0 ≤ (ji20)
                ·rw [if_pos c21] at H
                 have c21b0 : decide (0 ≤ (ji20)) = true := decide_eq_true c21
                 clear c21
                 by_cases c22 : (ji20) < (x3_2.length : Int)
                 ·rw [if_pos c22] at H
                  have c22b0 : decide ((ji20) < (x3_2.length : Int)) = true := decide_eq_true c22
                  clear c22
                  by_cases c23 : (rd_L2 y137 (ji20)).length < 17592186044416
                  ·rw [if_pos c23] at H
                   have LMc23 := Aside0.mk c23
                   clear c23
                   obtain ⟨y139, hy139⟩ : ∃ y_ : List Int, y_ = ((rd_L2 y137 (ji20)) ++ [rd (rd_L2 l0_1 x18_1) x25_2]) := ⟨_, rfl⟩
                   replace H : (peel_neighbors.l1 k2 (y137.set ((ji20) : Int).toNat y139) x18_1 l0_1 (l0_1.length : Int) x18_1 (rd_L2 l0_1 x18_1) ((rd_L2 l0_1 x18_1).length : Int) (wrap64 (x25_2 + 1)) a0_0 l0_1) = some r := by first | (rw [hy139]; with_reducible exact H) | (have H2_ := (Option.bind_some _ _).symm.trans H; rw [hy139]; with_reducible exact H2_) | (have H2_ := (Option.bind_some _ _).symm.trans H; with_reducible exact H2_) | with_reducible exact H | (rw [hy139]; exact H) | exact H
                   have Ny139 := Aside0.mk hy139
                   clear hy139
                   obtain ⟨y142, hy142⟩ : ∃ y_ : List (List Int), y_ = (y137.set ((ji20) : Int).toNat y139) := ⟨_, rfl⟩
                   replace H : (peel_neighbors.l1 k2 y142 x18_1 l0_1 (l0_1.length : Int) x18_1 (rd_L2 l0_1 x18_1) ((rd_L2 l0_1 x18_1).length : Int) (wrap64 (x25_2 + 1)) a0_0 l0_1) = some r := by first | (rw [hy142]; with_reducible exact H) | (have H2_ := (Option.bind_some _ _).symm.trans H; rw [hy142]; with_reducible exact H2_) | (have H2_ := (Option.bind_some _ _).symm.trans H; with_reducible exact H2_) | with_reducible exact H | (rw [hy142]; exact H) | exact H
                   have Ny142 := Aside0.mk hy142
                   clear hy142
                   have H' := Aside0.mk H
                   clear H
                   have p132 : 0 ≤ (x25_2 : Int) := of_decide_eq_true (by first | (with_reducible assumption) | assumption)
                   have q132 : x25_2 < ((rd_L2 l0_1 x18_1).length : Int) := of_decide_eq_true (by first | (with_reducible assumption) | assumption)
                   obtain ⟨ad132, e132, hx132_0⟩ := Kd.at_int HR131_0.out x25_2 p132 q132
                   cases e132
                   replace hx132_0 := (HB.out.cell (World.block_lt_of_cell? w _ hx132_0)).trans hx132_0
                   replace p132 := eq_true p132
                   replace q132 := eq_true q132
                   try go_wp2
                   have n0_ := Aside0.mk (Kd.S_drew HO_3.out)
                   have n1_ := Aside0.mk (blk_drew BK127.out)
                   have n2_ := Aside0.mk (below_drew1 HB.out)
                   clear HO_3
                   clear BK127
                   clear HB
                   have HO_3 := n0_
                   have BK127 := n1_
                   have HB := n2_
                   clear n0_ n1_ n2_
                   obtain ⟨Ao26, co26, eo26⟩ := Kd.S_slice HO_3.out
                   (first | subst eo26 | (injection eo26 with f1_ f2_ f3_; have f4_ := f1_.symm; have f5_ := f3_.symm; clear f1_ f2_ f3_; subst f4_; subst f5_))
                   have p133 : 0 ≤ ((rd (rd_L2 l0_1 x18_1) x25_2) : Int) := of_decide_eq_true (by first | (with_reducible assumption) | assumption)
                   have q133 : (rd (rd_L2 l0_1 x18_1) x25_2) < (x3_2.length : Int) := of_decide_eq_true (by first | (with_reducible assumption) | assumption)
                   obtain ⟨ad133, A133_0, c133_0, e133, hx133_0, hl133_0, hi133_0⟩ := at_L2 (Kd.S_reads' HO_3.out).2.2 (rd (rd_L2 l0_1 x18_1) x25_2) p133 q133
                   cases e133
                   obtain ⟨ce133, hce133, hMe133, hcc133⟩ := Kd.S_get HO_3.out [] (rd (rd_L2 l0_1 x18_1) x25_2) p133 (by first | exact q133 | exact of_decide_eq_true (by first | (with_reducible assumption) | assumption) | (have e_ := (Kd.S_reads' HO_3.out).1; omega))
                   obtain ⟨ve133_0, rfl, ge133_0⟩ := hMe133
                   have hv133_0 := hcc133 0 _ rfl
                   rw [Nat.add_zero, show ((Kd.slice 3 (Kd.int .i64))).sz = 1 from rfl, Nat.mul_one] at hv133_0
                   replace hv133_0 := Option.some.inj (hv133_0.symm.trans hx133_0)
                   rw [hv133_0] at ge133_0
                   have HL133_0 := Aside0.mk (show Kd.R (Kd.int .i64) 3 _ _ _ _ (rd_L2 x3_2 (rd (rd_L2 l0_1 x18_1) x25_2)) from ge133_0)
                   clear hv133_0 ge133_0
                   have HX133_0 := Aside0.mk hx133_0
                   clear hcc133 hce133
                   have HR133_0 := Aside0.mk hi133_0
                   have HC133_0 := Aside0.mk hl133_0
                   clear hi133_0 hl133_0
                   replace p133 := eq_true p133
                   replace q133 := eq_true q133
                   obtain ⟨go27, co27, eo27, gb27, gl27, cl27, HG27⟩ := Kd.S_form HO_3.out (by have h_ : ((rd (rd_L2 l0_1 x18_1) x25_2) : Int) < ((x3_2.length : Int) : Int) := of_decide_eq_true (by first | (with_reducible assumption) | assumption); have h2_ : 0 ≤ ((rd (rd_L2 l0_1 x18_1) x25_2) : Int) := (of_decide_eq_true (by first | (with_reducible assumption) | assumption)); omega)
                   (first | cases eo27 | (injection eo27 with ea_ en_ ec_; (first | subst ea_ | (injection ea_ with ea_; subst ea_)); subst ec_; clear en_))
                   have GB27 := Aside0.mk gb27
                   have GG27 := Aside0.mk HG27
                   clear gb27 gl27 HG27
                   (first | simp only [add_plain] at hx133_0 | skip)
                   obtain ⟨oki27, ce27, hcl27, hM27, hcc27, _, _, hH27⟩ := Kd.S_elem HO_3.out [] ((rd (rd_L2 l0_1 x18_1) x25_2) : Int) (of_decide_eq_true (by first | (with_reducible assumption) | assumption)) (by have h_ : ((rd (rd_L2 l0_1 x18_1) x25_2) : Int) < ((x3_2.length : Int) : Int) := of_decide_eq_true (by first | (with_reducible assumption) | assumption); first | exact h_ | (have e_ := (Kd.S_reads' HO_3.out).1; omega) | simpa using h_)
                   obtain ⟨ve27_0, rfl, ge27_0⟩ := hM27
                   have hv27 := hcc27 0 _ rfl
                   have hX27 := HX133_0.out
                   (try simp only [add_plain] at hX27)
                   (try simp only [Nat.add_zero] at hv27)
                   (try rw [show ((Kd.slice 3 (Kd.int .i64))).sz = 1 from rfl, Nat.mul_one] at hv27)
                   replace hv27 := Option.some.inj (hv27.symm.trans hX27)
                   subst hv27
                   clear hX27 hcc27 hcl27
                   have UU27 := Aside0.mk (show Kd.R (Kd.int .i64) 3 _ w.heap.size oki27 (.slice A133_0 (rd_L2 x3_2 (rd (rd_L2 l0_1 x18_1) x25_2)).length c133_0) (rd_L2 x3_2 (rd (rd_L2 l0_1 x18_1) x25_2)) from ge27_0)
                   have HH27 := Aside0.mk hH27
                   have HN27 := Aside0.mk (Kd.S_reads' HO_3.out).1
                   clear hH27 ge27_0
                   refine start_ (n := 14) (S := fun w' => w'.cell? ⟨gb127, 0, none⟩ = some (.int .i64 a0_0) ∧ w'.cell? ⟨gb127, 1, none⟩ = some (.slice (some ad131) l0_1.length c0_1) ∧ w'.cell? (⟨go27, (rd (rd_L2 l0_1 x18_1) x25_2).toNat, none⟩ : Addr) = some (.slice A133_0 (rd_L2 x3_2 (rd (rd_L2 l0_1 x18_1) x25_2)).length c133_0)) (ds := [13]) #[false, false, false, false, false, false, false, false, false, false, false, false, false, false] (by kernel_rfl) rfl rfl ⟨(blk_cell BK127.out 0).trans rfl, (blk_cell BK127.out 1).trans rfl, hx133_0⟩ (fun hHeld => ?_); refine with_tabW peel_neighbors.tab8 peel_neighbors.bits8 (fun HT_ HW_ => ?_)
                   generalize wr.drew = w25 at HO_3 BK127 HB GG27 HH27 HL133_0 HR133_0 HX133_0 UU27 hx133_0 hHeld ⊢
                   refine pure_ (i := 0) (N := some 29) (v := ?_) (a' := ?_) #[true, false, false, false, false, false, false, false, false, false, false, false, false, false] rfl rfl (any_of HT_.out (by kernel_rfl)) (fun _ _ _ h => h) (Or.inl ⟨by rfl, ?_⟩) ?_ ?_
                   rotate_left
                   ·intro w'
                    go_simp
                    with_reducible rfl
                   rotate_left
                   ·simp only [Act.put, List.setIfInBounds_toArray, List.set_cons_zero, List.set_cons_succ, i64_w, i32_w]
                    rfl
                   refine pure_ (i := 1) (N := some 30) (v := ?_) (a' := ?_) #[true, true, false, false, false, false, false, false, false, false, false, false, false, false] rfl rfl (any_of HT_.out (by kernel_rfl)) (fun _ _ _ h => h) (Or.inl ⟨by rfl, ?_⟩) ?_ ?_
                   rotate_left
                   ·intro w'
                    go_simp
                    with_reducible rfl
                   rotate_left
                   ·simp only [Act.put, List.setIfInBounds_toArray, List.set_cons_zero, List.set_cons_succ, i64_w, i32_w]
                    rfl
                   refine pure_ (i := 2) (N := some 31) (v := ?_) (a' := ?_) #[true, true, true, false, false, false, false, false, false, false, false, false, false, false] rfl rfl (any_of HT_.out (by kernel_rfl)) (fun _ _ _ h => h) (Or.inl ⟨by rfl, ?_⟩) ?_ ?_
                   rotate_left
                   ·intro w'
                    go_simp
                    with_reducible rfl
                   rotate_left
                   ·simp only [Act.put, List.setIfInBounds_toArray, List.set_cons_zero, List.set_cons_succ, i64_w, i32_w]
                    rfl
                   refine pure_ (i := 3) (N := some 32) (v := ?_) (a' := ?_) #[true, true, true, true, false, false, false, false, false, false, false, false, false, false] rfl rfl (any_of HT_.out (by kernel_rfl)) (fun _ _ _ h => h) (Or.inl ⟨by rfl, ?_⟩) ?_ ?_
                   rotate_left
                   ·intro w'
                    go_simp
                    with_reducible rfl
                   rotate_left
                   ·simp only [Act.put, List.setIfInBounds_toArray, List.set_cons_zero, List.set_cons_succ, i64_w, i32_w]
                    rfl
                   refine pure_ (i := 4) (N := some 33) (v := ?_) (a' := ?_) #[true, true, true, true, true, false, false, false, false, false, false, false, false, false] rfl rfl (any_of HT_.out (by kernel_rfl)) (fun _ _ _ h => h) (Or.inl ⟨by rfl, ?_⟩) ?_ ?_
                   rotate_left
                   ·intro w'
                    go_simp
                    with_reducible rfl
                   rotate_left
                   ·simp only [Act.put, List.setIfInBounds_toArray, List.set_cons_zero, List.set_cons_succ, i64_w, i32_w]
                    rfl
                   refine pure_ (i := 6) (N := some 35) (v := ?_) (a' := ?_) #[true, true, true, true, true, false, true, false, false, false, false, false, false, false] rfl rfl (any_of HT_.out (by kernel_rfl)) (fun _ _ _ h => h) (Or.inl ⟨by rfl, ?_⟩) ?_ ?_
                   rotate_left
                   ·intro w'
                    go_simp
                    with_reducible rfl
                   rotate_left
                   ·simp only [Act.put, List.setIfInBounds_toArray, List.set_cons_zero, List.set_cons_succ, i64_w, i32_w]
                    rfl
                   refine pure_ (i := 8) (N := some 37) (v := ?_) (a' := ?_) #[true, true, true, true, true, false, true, false, true, false, false, false, false, false] rfl rfl (any_of HT_.out (by kernel_rfl)) (fun _ _ _ h => h) (Or.inl ⟨by rfl, ?_⟩) ?_ ?_
                   rotate_left
                   ·intro w'
                    go_simp
                    with_reducible rfl
                   rotate_left
                   ·simp only [Act.put, List.setIfInBounds_toArray, List.set_cons_zero, List.set_cons_succ, i64_w, i32_w]
                    rfl
                   refine take_ (i := 5) (N := some 34) (v := ?_) (a' := ?_) #[true, true, true, true, true, true, true, false, true, false, false, false, false, false] rfl rfl (take_ofW HT_.out HW_.out (by kernel_rfl)) (fun _ _ _ h => h) (Or.inl ⟨by rfl, ?_⟩) hHeld ?_ ?_
                   rotate_left
                   ·rintro w' ⟨s0, s1, s2⟩
                    go_simp
                    with_reducible rfl
                   rotate_left
                   ·simp only [Act.put, List.setIfInBounds_toArray, List.set_cons_zero, List.set_cons_succ, i64_w, i32_w]
                    rfl
                   refine take_ (i := 7) (N := some 36) (v := ?_) (a' := ?_) #[true, true, true, true, true, true, true, true, true, false, false, false, false, false] rfl rfl (take_ofW HT_.out HW_.out (by kernel_rfl)) (fun _ _ _ h => h) (Or.inl ⟨by rfl, ?_⟩) hHeld ?_ ?_
                   rotate_left
                   ·rintro w' ⟨s0, s1, s2⟩
                    go_simp
                    with_reducible rfl
                   rotate_left
                   ·simp only [Act.put, List.setIfInBounds_toArray, List.set_cons_zero, List.set_cons_succ, i64_w, i32_w]
                    rfl
                   refine pure_ (i := 9) (N := some 38) (v := ?_) (a' := ?_) #[true, true, true, true, true, true, true, true, true, true, false, false, false, false] rfl rfl (any_of HT_.out (by kernel_rfl)) (fun _ _ _ h => h) (Or.inl ⟨by rfl, ?_⟩) ?_ ?_
                   rotate_left
                   ·intro w'
                    go_simp
                    with_reducible rfl
                   rotate_left
                   ·simp only [Act.put, List.setIfInBounds_toArray, List.set_cons_zero, List.set_cons_succ, i64_w, i32_w]
                    rfl
                   refine one_ (i := 10) (N := some 39) #[true, true, true, true, true, true, true, true, true, true, true, false, false, false] rfl rfl (one_of HT_.out (by kernel_rfl)) (by decide) (fun K hK => ?_)
                   refine value_ (w1 := ?_) (v := ?_) (by rfl) rfl ?_ ?_
                   rotate_left 2
                   ·go_simp
                    constructor
                    ·rfl
                    ·rfl
                   refine hK.out _ _ ⟨(blk_cell (blk_alloc BK127.out _) 0).trans rfl, (blk_cell (blk_alloc BK127.out _) 1).trans rfl, (World.cell?_alloc_lt _ _ _ (World.block_lt_of_cell? _ _ (hHeld.2.2))).trans (hHeld.2.2)⟩ (fun hHeld => ?_)
                   clear hK K
                   refine norm_ (a' := ?_) ?_ ?_
                   rotate_left
                   ·show Act.put _ (some 39) _ = _
                    simp only [Act.put, List.setIfInBounds_toArray, List.set_cons_zero, List.set_cons_succ, i64_w, i32_w]
                    rfl
                   refine one_ (i := 11) (N := some 40) #[true, true, true, true, true, true, true, true, true, true, true, true, false, false] rfl rfl (one_of HT_.out (by kernel_rfl)) (by decide) (fun K hK => ?_)
                   refine Kd.R_append_step (Kd.int .i64) (w0 := w) w.heap.size (by rfl) (.tmp 34) (.tmp 39) 22 3 (.int .i64 0) 8 rfl Try.underlying22 info3 rfl (by decide) (by omega) (.slice A133_0 (rd_L2 x3_2 (rd (rd_L2 l0_1 x18_1) x25_2)).length c133_0) (rd_L2 x3_2 (rd (rd_L2 l0_1 x18_1) x25_2)) ji20 [.int .i64 ji20] (fun k_ => oki27 k_ ∨ ((fun _ => True)) k_ ∧ w25.heap.size ≤ k_) (fun _ => False) rfl rfl ?aP (fun _ hk => hk.elim) ?aF ?aO ?aB ?aS ?aL ?_
                   (case aP => exact rfl)
                   (case aB => exact (by repeat (first | (with_reducible first | exact HB.out | apply below_alloc | apply pw_below_drewN | apply below_drew1 | refine below_set ?_ GE127.out) | exact HB.out)))
                   (case aF => exact (fun k_ hk => .inr ⟨trivial, hk⟩))
                   (case aO => exact (by (with_reducible repeat (first | apply Kd.R_alloc | apply Kd.R_drewN | apply Kd.R_drew)); exact Kd.R_mono UU27.out (fun _ hk => .inl hk)))
                   (case aS => exact (below_size (by repeat (first | (with_reducible first | exact HB.out | apply below_alloc | apply pw_below_drewN | apply below_drew1 | refine below_set ?_ GE127.out) | exact HB.out))))
                   (case aL => have := LMc18.out; omega)
                   intro v135 w28 ho hb hg hat
                   (first | have HS2_ := cell_grown hg (hHeld.2.2) (by first | (rw [add_block]; exact (fun e_ => ((HL133_0.out.1 _ e_.symm).2) rfl)) | (show some (Addr.add _ _).block ≠ _; rw [add_block]; exact (fun e_ => ((HL133_0.out.1 _ e_.symm).2) rfl)) | exact (fun e_ => ((HL133_0.out.1 _ e_.symm).2) rfl)) | have HS2_ := cell_grown hg (cell_unalloc (hHeld.2.2) (by first | (rw [add_block]; exact Kd.S_lt HO_3.out _ rfl) | (show (Addr.add _ _).block < _; rw [add_block]; exact Kd.S_lt HO_3.out _ rfl) | exact Kd.S_lt HO_3.out _ rfl)) (by first | (rw [add_block]; exact (fun e_ => ((HL133_0.out.1 _ e_.symm).2) rfl)) | (show some (Addr.add _ _).block ≠ _; rw [add_block]; exact (fun e_ => ((HL133_0.out.1 _ e_.symm).2) rfl)) | exact (fun e_ => ((HL133_0.out.1 _ e_.symm).2) rfl)))
                   rw [← Ny134.out] at ho
                   have n0_ := Aside0.mk (blk_grown (g := gb127) (o := .cells #[.int .i64 a0_0, .slice (some ad131) l0_1.length c0_1] 31 (0, 0)) (by (with_reducible repeat (first | refine blk_drewN ?_ _ | refine blk_drew ?_ | refine blk_alloc ?_ _)); exact BK127.out) hg (Kd.R_ne HL133_0.out BK127.out (by decide)))
                   have n1_ := Aside0.mk (hb)
                   have n2_ := Aside0.mk (Kd.H_grown (Kd.H_widen (by repeat (first | exact HH27.out | refine Kd.H_alloc ?_ _ | refine Kd.H_drewN ?_ _ | refine Kd.H_drew ?_))) hg (fun k_ e_ => .inl (UU27.out.1 k_ e_)))
                   have n3_ := Aside0.mk (ho)
                   clear BK127
                   clear HB
                   clear HH27
                   clear HO_3
                   clear UU27
                   clear HL133_0
                   have BK127 := n0_
                   have HB := n1_
                   have HH27 := n2_
                   have HO136 := n3_
                   clear n0_ n1_ n2_ n3_
                   clear ho hb hg hat
                   have p19 : 0 ≤ ((rd (rd_L2 l0_1 x18_1) x25_2) : Int) := of_decide_eq_true (by first | (with_reducible assumption) | assumption)
                   have q19 : ((rd (rd_L2 l0_1 x18_1) x25_2) : Int) < ((x3_2.length : Int) : Int) := of_decide_eq_true (by first | (with_reducible assumption) | assumption)
                   replace p19 := eq_true p19
                   replace q19 := eq_true q19
                   obtain ⟨Ao31, co31, eo31⟩ := Kd.R_slice HO136.out
                   (first | subst eo31 | (injection eo31 with f1_ f2_ f3_; have f4_ := f1_.symm; have f5_ := f3_.symm; clear f1_ f2_ f3_; subst f4_; subst f5_))
                   obtain ⟨_, _, hraw29, _, _, hcc29, _⟩ := Kd.H_raw HH27.out (of_decide_eq_true (by first | (with_reducible assumption) | assumption)) (by have h_ : ((rd (rd_L2 l0_1 x18_1) x25_2) : Int) < ((x3_2.length : Int) : Int) := of_decide_eq_true (by first | (with_reducible assumption) | assumption); first | exact h_ | (have e_ := (HN27.out); omega) | simpa using h_)
                   obtain ⟨_, hfr29⟩ := Kd.H_at HH27.out (of_decide_eq_true (by first | (with_reducible assumption) | assumption)) (by have h_ : ((rd (rd_L2 l0_1 x18_1) x25_2) : Int) < ((x3_2.length : Int) : Int) := of_decide_eq_true (by first | (with_reducible assumption) | assumption); first | exact h_ | (have e_ := (HN27.out); omega) | simpa using h_)
                   have hx29_0 := hcc29 0 _ rfl
                   have hf29_0 := hfr29 0
                   (try simp only [Nat.add_zero] at hx29_0 hf29_0)
                   (try rw [show ((Kd.slice 3 (Kd.int .i64))).sz = 1 from rfl, Nat.mul_one] at hx29_0)
                   (try rw [show ((Kd.slice 3 (Kd.int .i64))).sz = 1 from rfl, Nat.mul_one] at hf29_0)
                   have HP29 := Kd.S_seg0 HH27.out (of_decide_eq_true (by first | (with_reducible assumption) | assumption)) (by have h_ : ((rd (rd_L2 l0_1 x18_1) x25_2) : Int) < ((x3_2.length : Int) : Int) := of_decide_eq_true (by first | (with_reducible assumption) | assumption); first | exact h_ | (have e_ := (HN27.out); omega) | simpa using h_) (seg := [.slice Ao31 y134.length co31]) (j := 0) (show 1 ≤ 1 from by decide) (x' := y134) (Kd.M_row HO136.out) (fun _ hk => hk)
                   (try simp only [show ((Kd.slice 3 (Kd.int .i64))).sz = 1 from rfl, Nat.mul_one, Nat.add_zero] at HP29)
                   clear hcc29 hfr29
                   have HNB127_go27 := Aside0.mk (show gb127 ≠ go27 from by have h_ := Kd.R_ne hraw29 BK127.out (by decide); intro e_; exact h_ (by rw [e_]; rfl))
                   have HS29 := HP29.1
                   rw [← Ny137.out] at HS29
                   have HQ29 := Aside0.mk HS29
                   obtain ⟨_, hgg29⟩ := Kd.R_typed hraw29 go27 rfl
                   have GG29_ := Aside0.mk hgg29
                   clear HP29 HS29 hgg29
                   refine hK.out _ _ ⟨(blk_cell BK127.out 0).trans rfl, (blk_cell BK127.out 1).trans rfl, HS2_⟩ (fun hHeld => ?_)
                   clear hK K
                   refine norm_ (a' := ?_) ?_ ?_
                   rotate_left
                   ·show Act.put _ (some 40) _ = _
                    simp only [Act.put, List.setIfInBounds_toArray, List.set_cons_zero, List.set_cons_succ, i64_w, i32_w]
                    rfl
                   refine pure_ (i := 12) (N := some 41) (v := ?_) (a' := ?_) #[true, true, true, true, true, true, true, true, true, true, true, true, true, false] rfl rfl (any_of HT_.out (by kernel_rfl)) (fun _ _ _ h => h) (Or.inl ⟨by rfl, ?_⟩) ?_ ?_
                   rotate_left
                   ·intro w'
                    go_simp
                    with_reducible rfl
                   rotate_left
                   ·simp only [Act.put, List.setIfInBounds_toArray, List.set_cons_zero, List.set_cons_succ, i64_w, i32_w]
                    rfl
                   refine last_ (i := 13) (N := none) #[true, true, true, true, true, true, true, true, true, true, true, true, true, true] rfl rfl (one_of HT_.out (by kernel_rfl)) (by decide) (fun K hK => ?_)
                   refine skip_ (w1 := ?_) (by rfl) rfl ?_ ?_
                   rotate_left
                   ·go_simp
                    rfl
                   refine hK.out _ _ ?_
                   clear hK K
                   refine done_ (done_of HT_.out (by kernel_rfl)) ?_
                   try go_wp2
                   have n0_ : Aside0 (Kd.S (Kd.slice 3 (Kd.int .i64)) 22 (w28.setCell ⟨go27, ((rd (rd_L2 l0_1 x18_1) x25_2) : Int).toNat, none⟩ (.slice Ao31 y134.length co31)) w.heap.size (fun _ => True) (.slice (some ⟨go27, 0, none⟩) x3_2.length co26) y137) := ⟨by (with_reducible repeat (first | apply Kd.S_alloc | apply Kd.S_drewN | apply Kd.S_drew)); exact HQ29.out⟩
                   have n1_ : Aside0 ((w28.setCell ⟨go27, ((rd (rd_L2 l0_1 x18_1) x25_2) : Int).toNat, none⟩ (.slice Ao31 y134.length co31)).heap[gb127]? = some (.cells #[.int .i64 a0_0, .slice (some ad131) l0_1.length c0_1] 31 (0, 0))) := ⟨by (with_reducible repeat (first | refine blk_drewN ?_ _ | refine blk_drew ?_ | refine blk_alloc ?_ _)); refine blk_far ?_ HNB127_go27.out _; (with_reducible repeat (first | refine blk_drewN ?_ _ | refine blk_drew ?_ | refine blk_alloc ?_ _)); exact BK127.out⟩
                   have n2_ : Aside0 (Below w.heap.size w (w28.setCell ⟨go27, ((rd (rd_L2 l0_1 x18_1) x25_2) : Int).toNat, none⟩ (.slice Ao31 y134.length co31))) := ⟨by repeat (first | (with_reducible first | exact HB.out | apply below_alloc | apply pw_below_drewN | apply below_drew1 | refine below_set ?_ GB27.out | refine below_set ?_ GE127.out) | exact HB.out)⟩
                   (try clear HO_3)
                   (try clear BK127)
                   (try clear HB)
                   generalize (w28.setCell ⟨go27, ((rd (rd_L2 l0_1 x18_1) x25_2) : Int).toNat, none⟩ (.slice Ao31 y134.length co31)) = w32 at n0_ n1_ n2_ ⊢
                   have HO_3 := n0_
                   have BK127 := n1_
                   have HB := n2_
                   clear n0_ n1_ n2_
                   have n0_ := Aside0.mk (Kd.S_drew HO_3.out)
                   have n1_ := Aside0.mk (blk_drew BK127.out)
                   have n2_ := Aside0.mk (below_drew1 HB.out)
                   clear HO_3
                   clear BK127
                   clear HB
                   have HO_3 := n0_
                   have BK127 := n1_
                   have HB := n2_
                   clear n0_ n1_ n2_
                   have p138 : 0 ≤ ((ji20) : Int) := of_decide_eq_true (by first | (with_reducible assumption) | assumption)
                   have q138 : (ji20) < (y137.length : Int) := (by have h_ : ((ji20) : Int) < ((x3_2.length : Int) : Int) := of_decide_eq_true (by first | (with_reducible assumption) | assumption); first | (have e_ := (Kd.S_reads' HO_3.out).1; omega) | simpa only [Ny137.out, List.length_set] using h_)
                   have ql138 : (((ji20) : Int) < ((x3_2.length : Int) : Int)) = True := eq_true (of_decide_eq_true (by first | (with_reducible assumption) | assumption))
                   obtain ⟨ad138, A138_0, c138_0, e138, hx138_0, hl138_0, hi138_0⟩ := at_L2 (Kd.S_reads' HO_3.out).2.2 (ji20) p138 q138
                   obtain rfl : (⟨go27, 0, none⟩ : Addr) = ad138 := (by injection e138)
                   obtain ⟨ce138, hce138, hMe138, hcc138⟩ := Kd.S_get HO_3.out [] (ji20) p138 (by first | exact q138 | exact of_decide_eq_true (by first | (with_reducible assumption) | assumption) | (have e_ := (Kd.S_reads' HO_3.out).1; omega))
                   obtain ⟨ve138_0, rfl, ge138_0⟩ := hMe138
                   have hv138_0 := hcc138 0 _ rfl
                   rw [Nat.add_zero, show ((Kd.slice 3 (Kd.int .i64))).sz = 1 from rfl, Nat.mul_one] at hv138_0
                   replace hv138_0 := Option.some.inj (hv138_0.symm.trans hx138_0)
                   rw [hv138_0] at ge138_0
                   have HL138_0 := Aside0.mk (show Kd.R (Kd.int .i64) 3 _ _ _ _ (rd_L2 y137 (ji20)) from ge138_0)
                   clear hv138_0 ge138_0
                   have HX138_0 := Aside0.mk hx138_0
                   clear hcc138 hce138
                   (first | simp only [add_plain] at hx138_0 | simp only [add_at] at hx138_0 | simp only [Addr.add, Nat.zero_add] at hx138_0 | skip)
                   have HR138_0 := Aside0.mk hi138_0
                   have HC138_0 := Aside0.mk hl138_0
                   clear hi138_0 hl138_0
                   replace p138 := eq_true p138
                   replace q138 := eq_true q138
                   obtain ⟨oki34, ce34, hcl34, hM34, hcc34, _, _, hH34⟩ := Kd.S_elem HO_3.out [] ((ji20) : Int) (of_decide_eq_true (by first | (with_reducible assumption) | assumption)) (by have h_ : ((ji20) : Int) < ((x3_2.length : Int) : Int) := of_decide_eq_true (by first | (with_reducible assumption) | assumption); first | exact h_ | (have e_ := (Kd.S_reads' HO_3.out).1; omega) | simpa using h_)
                   obtain ⟨ve34_0, rfl, ge34_0⟩ := hM34
                   have hv34 := hcc34 0 _ rfl
                   have hX34 := HX138_0.out
                   (try simp only [add_plain] at hX34)
                   (try simp only [Nat.add_zero] at hv34)
                   (try rw [show ((Kd.slice 3 (Kd.int .i64))).sz = 1 from rfl, Nat.mul_one] at hv34)
                   replace hv34 := Option.some.inj (hv34.symm.trans hX34)
                   subst hv34
                   clear hX34 hcc34 hcl34
                   have UU34 := Aside0.mk (show Kd.R (Kd.int .i64) 3 _ w.heap.size oki34 (.slice A138_0 (rd_L2 y137 (ji20)).length c138_0) (rd_L2 y137 (ji20)) from ge34_0)
                   have HH34 := Aside0.mk hH34
                   have HN34 := Aside0.mk (Kd.S_reads' HO_3.out).1
                   clear hH34 ge34_0
                   refine start_ (n := 17) (S := fun w' => w'.cell? ⟨gb127, 0, none⟩ = some (.int .i64 a0_0) ∧ w'.cell? ⟨gb127, 1, none⟩ = some (.slice (some ad131) l0_1.length c0_1) ∧ w'.cell? ⟨go27, ((ji20)).toNat, none⟩ = some (.slice A138_0 (rd_L2 y137 (ji20)).length c138_0)) (ds := [16]) #[false, false, false, false, false, false, false, false, false, false, false, false, false, false, false, false, false] (by kernel_rfl) rfl rfl ⟨(blk_cell BK127.out 0).trans rfl, (blk_cell BK127.out 1).trans rfl, hx138_0⟩ (fun hHeld => ?_); refine with_tabW peel_neighbors.tab9 peel_neighbors.bits9 (fun HT_ HW_ => ?_)
                   generalize w32.drew = w33 at HO_3 BK127 HB HH34 HL138_0 HQ29 HR138_0 HX138_0 UU34 hx138_0 hHeld ⊢
                   refine pure_ (i := 0) (N := some 42) (v := ?_) (a' := ?_) #[true, false, false, false, false, false, false, false, false, false, false, false, false, false, false, false, false] rfl rfl (any_of HT_.out (by kernel_rfl)) (fun _ _ _ h => h) (Or.inl ⟨by rfl, ?_⟩) ?_ ?_
                   rotate_left
                   ·intro w'
                    go_simp
                    with_reducible rfl
                   rotate_left
                   ·simp only [Act.put, List.setIfInBounds_toArray, List.set_cons_zero, List.set_cons_succ, i64_w, i32_w]
                    rfl
                   refine pure_ (i := 1) (N := some 43) (v := ?_) (a' := ?_) #[true, true, false, false, false, false, false, false, false, false, false, false, false, false, false, false, false] rfl rfl (any_of HT_.out (by kernel_rfl)) (fun _ _ _ h => h) (Or.inl ⟨by rfl, ?_⟩) ?_ ?_
                   rotate_left
                   ·intro w'
                    go_simp
                    with_reducible rfl
                   rotate_left
                   ·simp only [Act.put, List.setIfInBounds_toArray, List.set_cons_zero, List.set_cons_succ, i64_w, i32_w]
                    rfl
                   refine pure_ (i := 3) (N := some 45) (v := ?_) (a' := ?_) #[true, true, false, true, false, false, false, false, false, false, false, false, false, false, false, false, false] rfl rfl (any_of HT_.out (by kernel_rfl)) (fun _ _ _ h => h) (Or.inl ⟨by rfl, ?_⟩) ?_ ?_
                   rotate_left
                   ·intro w'
                    go_simp
                    with_reducible rfl
                   rotate_left
                   ·simp only [Act.put, List.setIfInBounds_toArray, List.set_cons_zero, List.set_cons_succ, i64_w, i32_w]
                    rfl
                   refine pure_ (i := 5) (N := some 47) (v := ?_) (a' := ?_) #[true, true, false, true, false, true, false, false, false, false, false, false, false, false, false, false, false] rfl rfl (any_of HT_.out (by kernel_rfl)) (fun _ _ _ h => h) (Or.inl ⟨by rfl, ?_⟩) ?_ ?_
                   rotate_left
                   ·intro w'
                    go_simp
                    with_reducible rfl
                   rotate_left
                   ·simp only [Act.put, List.setIfInBounds_toArray, List.set_cons_zero, List.set_cons_succ, i64_w, i32_w]
                    rfl
                   refine pure_ (i := 6) (N := some 48) (v := ?_) (a' := ?_) #[true, true, false, true, false, true, true, false, false, false, false, false, false, false, false, false, false] rfl rfl (any_of HT_.out (by kernel_rfl)) (fun _ _ _ h => h) (Or.inl ⟨by rfl, ?_⟩) ?_ ?_
                   rotate_left
                   ·intro w'
                    go_simp
                    with_reducible rfl
                   rotate_left
                   ·simp only [Act.put, List.setIfInBounds_toArray, List.set_cons_zero, List.set_cons_succ, i64_w, i32_w]
                    rfl
                   refine pure_ (i := 8) (N := some 50) (v := ?_) (a' := ?_) #[true, true, false, true, false, true, true, false, true, false, false, false, false, false, false, false, false] rfl rfl (any_of HT_.out (by kernel_rfl)) (fun _ _ _ h => h) (Or.inl ⟨by rfl, ?_⟩) ?_ ?_
                   rotate_left
                   ·intro w'
                    go_simp
                    with_reducible rfl
                   rotate_left
                   ·simp only [Act.put, List.setIfInBounds_toArray, List.set_cons_zero, List.set_cons_succ, i64_w, i32_w]
                    rfl
                   refine pure_ (i := 12) (N := some 54) (v := ?_) (a' := ?_) #[true, true, false, true, false, true, true, false, true, false, false, false, true, false, false, false, false] rfl rfl (any_of HT_.out (by kernel_rfl)) (fun _ _ _ h => h) (Or.inl ⟨by rfl, ?_⟩) ?_ ?_
                   rotate_left
                   ·intro w'
                    go_simp
                    with_reducible rfl
                   rotate_left
                   ·simp only [Act.put, List.setIfInBounds_toArray, List.set_cons_zero, List.set_cons_succ, i64_w, i32_w]
                    rfl
                   refine take_ (i := 2) (N := some 44) (v := ?_) (a' := ?_) #[true, true, true, true, false, true, true, false, true, false, false, false, true, false, false, false, false] rfl rfl (take_ofW HT_.out HW_.out (by kernel_rfl)) (fun _ _ _ h => h) (Or.inl ⟨by rfl, ?_⟩) hHeld ?_ ?_
                   rotate_left
                   ·rintro w' ⟨s0, s1, s2⟩
                    go_simp
                    with_reducible rfl
                   rotate_left
                   ·simp only [Act.put, List.setIfInBounds_toArray, List.set_cons_zero, List.set_cons_succ, i64_w, i32_w]
                    rfl
                   refine pure_ (i := 4) (N := some 46) (v := ?_) (a' := ?_) #[true, true, true, true, true, true, true, false, true, false, false, false, true, false, false, false, false] rfl rfl (any_of HT_.out (by kernel_rfl)) (fun _ _ _ h => h) (Or.inl ⟨by rfl, ?_⟩) ?_ ?_
                   rotate_left
                   ·intro w'
                    go_simp
                    with_reducible rfl
                   rotate_left
                   ·simp only [Act.put, List.setIfInBounds_toArray, List.set_cons_zero, List.set_cons_succ, i64_w, i32_w]
                    rfl
                   refine take_ (i := 7) (N := some 49) (v := ?_) (a' := ?_) #[true, true, true, true, true, true, true, true, true, false, false, false, true, false, false, false, false] rfl rfl (take_ofW HT_.out HW_.out (by kernel_rfl)) (fun _ _ _ h => h) (Or.inl ⟨by rfl, ?_⟩) hHeld ?_ ?_
                   rotate_left
                   ·rintro w' ⟨s0, s1, s2⟩
                    go_simp
                    with_reducible rfl
                   rotate_left
                   ·simp only [Act.put, List.setIfInBounds_toArray, List.set_cons_zero, List.set_cons_succ, i64_w, i32_w]
                    rfl
                   refine pure_ (i := 9) (N := some 51) (v := ?_) (a' := ?_) #[true, true, true, true, true, true, true, true, true, true, false, false, true, false, false, false, false] rfl rfl (any_of HT_.out (by kernel_rfl)) (fun _ _ _ h => h) (Or.inl ⟨by rfl, ?_⟩) ?_ ?_
                   rotate_left
                   ·intro w'
                    go_simp
                    with_reducible rfl
                   rotate_left
                   ·simp only [Act.put, List.setIfInBounds_toArray, List.set_cons_zero, List.set_cons_succ, i64_w, i32_w]
                    rfl
                   refine pure_ (i := 10) (N := some 52) (v := ?_) (a' := ?_) #[true, true, true, true, true, true, true, true, true, true, true, false, true, false, false, false, false] rfl rfl (any_of HT_.out (by kernel_rfl)) (fun _ _ _ h => h) (Or.inl ⟨by rfl, ?_⟩) ?_ ?_
                   rotate_left
                   ·intro w'
                    go_simp
                    with_reducible rfl
                   rotate_left
                   ·simp only [Act.put, List.setIfInBounds_toArray, List.set_cons_zero, List.set_cons_succ, i64_w, i32_w]
                    rfl
                   refine take_ (i := 11) (N := some 53) (v := ?_) (a' := ?_) #[true, true, true, true, true, true, true, true, true, true, true, true, true, false, false, false, false] rfl rfl (take_ofW HT_.out HW_.out (by kernel_rfl)) (fun _ _ _ h => h) (Or.inl ⟨by rfl, ?_⟩) hHeld ?_ ?_
                   rotate_left
                   ·rintro w' ⟨s0, s1, s2⟩
                    go_simp
                    with_reducible rfl
                   rotate_left
                   ·simp only [Act.put, List.setIfInBounds_toArray, List.set_cons_zero, List.set_cons_succ, i64_w, i32_w]
                    rfl
                   refine one_ (i := 13) (N := some 55) #[true, true, true, true, true, true, true, true, true, true, true, true, true, true, false, false, false] rfl rfl (one_of HT_.out (by kernel_rfl)) (by decide) (fun K hK => ?_)
                   refine value_ (w1 := ?_) (v := ?_) (by rfl) rfl ?_ ?_
                   rotate_left 2
                   ·go_simp
                    constructor
                    ·rfl
                    ·rfl
                   refine hK.out _ _ ⟨(blk_cell (blk_alloc BK127.out _) 0).trans rfl, (blk_cell (blk_alloc BK127.out _) 1).trans rfl, (World.cell?_alloc_lt _ _ _ (World.block_lt_of_cell? _ _ (hHeld.2.2))).trans (hHeld.2.2)⟩ (fun hHeld => ?_)
                   clear hK K
                   refine norm_ (a' := ?_) ?_ ?_
                   rotate_left
                   ·show Act.put _ (some 55) _ = _
                    simp only [Act.put, List.setIfInBounds_toArray, List.set_cons_zero, List.set_cons_succ, i64_w, i32_w]
                    rfl
                   refine one_ (i := 14) (N := some 56) #[true, true, true, true, true, true, true, true, true, true, true, true, true, true, true, false, false] rfl rfl (one_of HT_.out (by kernel_rfl)) (by decide) (fun K hK => ?_)
                   refine Kd.R_append_step (Kd.int .i64) (w0 := w) w.heap.size (by rfl) (.tmp 53) (.tmp 55) 22 3 (.int .i64 0) 8 rfl Try.underlying22 info3 rfl (by decide) (by omega) (.slice A138_0 (rd_L2 y137 (ji20)).length c138_0) (rd_L2 y137 (ji20)) (rd (rd_L2 l0_1 x18_1) x25_2) [.int .i64 (rd (rd_L2 l0_1 x18_1) x25_2)] (fun k_ => oki34 k_ ∨ ((fun _ => True)) k_ ∧ w33.heap.size ≤ k_) (fun _ => False) rfl rfl ?aP (fun _ hk => hk.elim) ?aF ?aO ?aB ?aS ?aL ?_
                   (case aP => exact rfl)
                   (case aB => exact (by repeat (first | (with_reducible first | exact HB.out | apply below_alloc | apply pw_below_drewN | apply below_drew1 | refine below_set ?_ GE127.out) | exact HB.out)))
                   (case aF => exact (fun k_ hk => .inr ⟨trivial, hk⟩))
                   (case aO => exact (by (with_reducible repeat (first | apply Kd.R_alloc | apply Kd.R_drewN | apply Kd.R_drew)); exact Kd.R_mono UU34.out (fun _ hk => .inl hk)))
                   (case aS => exact (below_size (by repeat (first | (with_reducible first | exact HB.out | apply below_alloc | apply pw_below_drewN | apply below_drew1 | refine below_set ?_ GE127.out) | exact HB.out))))
                   (case aL => have := LMc23.out; omega)
                   intro v140 w35 ho hb hg hat
                   (first | have HS2_ := cell_grown hg (hHeld.2.2) (by first | (rw [add_block]; exact (fun e_ => ((HL138_0.out.1 _ e_.symm).2) rfl)) | (show some (Addr.add _ _).block ≠ _; rw [add_block]; exact (fun e_ => ((HL138_0.out.1 _ e_.symm).2) rfl)) | exact (fun e_ => ((HL138_0.out.1 _ e_.symm).2) rfl)) | have HS2_ := cell_grown hg (cell_unalloc (hHeld.2.2) (by first | (rw [add_block]; exact Kd.S_lt HO_3.out _ rfl) | (show (Addr.add _ _).block < _; rw [add_block]; exact Kd.S_lt HO_3.out _ rfl) | exact Kd.S_lt HO_3.out _ rfl)) (by first | (rw [add_block]; exact (fun e_ => ((HL138_0.out.1 _ e_.symm).2) rfl)) | (show some (Addr.add _ _).block ≠ _; rw [add_block]; exact (fun e_ => ((HL138_0.out.1 _ e_.symm).2) rfl)) | exact (fun e_ => ((HL138_0.out.1 _ e_.symm).2) rfl)))
                   rw [← Ny139.out] at ho
                   have n0_ := Aside0.mk (blk_grown (g := gb127) (o := .cells #[.int .i64 a0_0, .slice (some ad131) l0_1.length c0_1] 31 (0, 0)) (by (with_reducible repeat (first | refine blk_drewN ?_ _ | refine blk_drew ?_ | refine blk_alloc ?_ _)); exact BK127.out) hg (Kd.R_ne HL138_0.out BK127.out (by decide)))
                   have n1_ := Aside0.mk (hb)
                   have n2_ := Aside0.mk (Kd.H_grown (Kd.H_widen (by repeat (first | exact HH34.out | refine Kd.H_alloc ?_ _ | refine Kd.H_drewN ?_ _ | refine Kd.H_drew ?_))) hg (fun k_ e_ => .inl (UU34.out.1 k_ e_)))
                   have n3_ := Aside0.mk (ho)
                   clear BK127
                   clear HB
                   clear HH34
                   clear HO_3
                   clear UU34
                   clear HL138_0
                   have BK127 := n0_
                   have HB := n1_
                   have HH34 := n2_
                   have HO141 := n3_
                   clear n0_ n1_ n2_ n3_
                   clear ho hb hg hat
                   have p24 : 0 ≤ ((ji20) : Int) := of_decide_eq_true (by first | (with_reducible assumption) | assumption)
                   have q24 : ((ji20) : Int) < ((x3_2.length : Int) : Int) := of_decide_eq_true (by first | (with_reducible assumption) | assumption)
                   replace p24 := eq_true p24
                   replace q24 := eq_true q24
                   obtain ⟨Ao38, co38, eo38⟩ := Kd.R_slice HO141.out
                   (first | subst eo38 | (injection eo38 with f1_ f2_ f3_; have f4_ := f1_.symm; have f5_ := f3_.symm; clear f1_ f2_ f3_; subst f4_; subst f5_))
                   obtain ⟨_, _, hraw36, _, _, hcc36, _⟩ := Kd.H_raw HH34.out (of_decide_eq_true (by first | (with_reducible assumption) | assumption)) (by have h_ : ((ji20) : Int) < ((x3_2.length : Int) : Int) := of_decide_eq_true (by first | (with_reducible assumption) | assumption); first | exact h_ | (have e_ := (HN34.out); omega) | simpa using h_)
                   obtain ⟨_, hfr36⟩ := Kd.H_at HH34.out (of_decide_eq_true (by first | (with_reducible assumption) | assumption)) (by have h_ : ((ji20) : Int) < ((x3_2.length : Int) : Int) := of_decide_eq_true (by first | (with_reducible assumption) | assumption); first | exact h_ | (have e_ := (HN34.out); omega) | simpa using h_)
                   have hx36_0 := hcc36 0 _ rfl
                   have hf36_0 := hfr36 0
                   (try simp only [Nat.add_zero] at hx36_0 hf36_0)
                   (try rw [show ((Kd.slice 3 (Kd.int .i64))).sz = 1 from rfl, Nat.mul_one] at hx36_0)
                   (try rw [show ((Kd.slice 3 (Kd.int .i64))).sz = 1 from rfl, Nat.mul_one] at hf36_0)
                   have HP36 := Kd.S_seg0 HH34.out (of_decide_eq_true (by first | (with_reducible assumption) | assumption)) (by have h_ : ((ji20) : Int) < ((x3_2.length : Int) : Int) := of_decide_eq_true (by first | (with_reducible assumption) | assumption); first | exact h_ | (have e_ := (HN34.out); omega) | simpa using h_) (seg := [.slice Ao38 y139.length co38]) (j := 0) (show 1 ≤ 1 from by decide) (x' := y139) (Kd.M_row HO141.out) (fun _ hk => hk)
                   (try simp only [show ((Kd.slice 3 (Kd.int .i64))).sz = 1 from rfl, Nat.mul_one, Nat.add_zero] at HP36)
                   clear hcc36 hfr36
                   have HNB127_go27 := Aside0.mk (show gb127 ≠ go27 from by have h_ := Kd.R_ne hraw36 BK127.out (by decide); intro e_; exact h_ (by rw [e_]; rfl))
                   have HS36 := HP36.1
                   rw [← Ny142.out] at HS36
                   have HQ36 := Aside0.mk HS36
                   obtain ⟨_, hgg36⟩ := Kd.R_typed hraw36 go27 rfl
                   have GG36_ := Aside0.mk hgg36
                   clear HP36 HS36 hgg36
                   refine hK.out _ _ ⟨(blk_cell BK127.out 0).trans rfl, (blk_cell BK127.out 1).trans rfl, HS2_⟩ (fun hHeld => ?_)
                   clear hK K
                   refine norm_ (a' := ?_) ?_ ?_
                   rotate_left
                   ·show Act.put _ (some 56) _ = _
                    simp only [Act.put, List.setIfInBounds_toArray, List.set_cons_zero, List.set_cons_succ, i64_w, i32_w]
                    rfl
                   refine pure_ (i := 15) (N := some 57) (v := ?_) (a' := ?_) #[true, true, true, true, true, true, true, true, true, true, true, true, true, true, true, true, false] rfl rfl (any_of HT_.out (by kernel_rfl)) (fun _ _ _ h => h) (Or.inl ⟨by rfl, ?_⟩) ?_ ?_
                   rotate_left
                   ·intro w'
                    go_simp
                    with_reducible rfl
                   rotate_left
                   ·simp only [Act.put, List.setIfInBounds_toArray, List.set_cons_zero, List.set_cons_succ, i64_w, i32_w]
                    rfl
                   refine last_ (i := 16) (N := none) #[true, true, true, true, true, true, true, true, true, true, true, true, true, true, true, true, true] rfl rfl (one_of HT_.out (by kernel_rfl)) (by decide) (fun K hK => ?_)
                   refine skip_ (w1 := ?_) (by rfl) rfl ?_ ?_
                   rotate_left
                   ·go_simp
                    rfl
                   refine hK.out _ _ ?_
                   clear hK K
                   refine done_ (done_of HT_.out (by kernel_rfl)) ?_
                   try go_wp2
                   go_roundg k2
                   case measure => have := HK1.out; have := HK2.out; omega
                   case rel => exact ⟨(y142), (wrap64 (x25_2 + 1)), (by first | rfl | (simp; done) | (simp [*]; done)), H', ⟨by have := HK1.out; have := HK2.out; omega⟩, ⟨by (with_reducible repeat (first | apply Kd.S_alloc | apply Kd.S_drewN | apply Kd.S_drew)); exact HQ36.out⟩, ⟨by (with_reducible repeat (first | refine blk_drewN ?_ _ | refine blk_drew ?_ | refine blk_alloc ?_ _)); refine blk_far ?_ HNB127_go27.out _; (with_reducible repeat (first | refine blk_drewN ?_ _ | refine blk_drew ?_ | refine blk_alloc ?_ _)); exact BK127.out⟩, ⟨by repeat (first | (with_reducible first | exact HB.out | apply below_alloc | apply pw_below_drewN | apply below_drew1 | refine below_set ?_ GB27.out | refine below_set ?_ GE127.out) | exact HB.out)⟩⟩
                  ·rw [if_neg c23] at H
                   exact absurd H (by simp)
                 ·rw [if_neg c22] at H
                  exact absurd H (by simp)
                ·rw [if_neg c21] at H
                 exact absurd H (by simp)
               ·rw [if_neg c18] at H
                exact absurd H (by simp)
              ·rw [if_neg c17] at H
               exact absurd H (by simp)
             ·rw [if_neg c16] at H
              exact absurd H (by simp)
            ·rw [if_neg c15] at H
             exact absurd H (by simp)
           ·rw [if_neg c14] at H
            exact absurd H (by simp)
          ·rw [if_neg c13] at H
           have c13b0 : decide (x25_2 < ((rd_L2 l0_1 x18_1).length : Int)) = false := decide_eq_false c13
           clear c13
           have H' := Aside0.mk H
           clear H
           go_wp2
           go_roundg k2
           case measure => have := HK1.out; have := HK2.out; omega
           case rel => exact ⟨(x3_2), (wrap64 (x18_1 + 1)), (by first | rfl | (simp; done) | (simp [*]; done)), H', ⟨by have := HK1.out; have := HK2.out; omega⟩, ⟨by (with_reducible repeat (first | apply Kd.S_alloc | apply Kd.S_drewN | apply Kd.S_drew)); exact HO_3.out⟩, ⟨by (with_reducible repeat (first | refine blk_drewN ?_ _ | refine blk_drew ?_ | refine blk_alloc ?_ _)); exact BK127.out⟩, ⟨by repeat (first | (with_reducible first | exact HB.out | apply below_alloc | apply pw_below_drewN | apply below_drew1 | refine below_set ?_ GE127.out) | exact HB.out)⟩⟩
       ·rw [if_neg c12] at H
        exact absurd H (by simp)
      ·rw [if_neg c11] at H
       exact absurd H (by simp)
     ·rw [if_neg c10] at H
      have c10b0 : decide (x18_1 < (l0_1.length : Int)) = false := decide_eq_false c10
      clear c10
      obtain rfl := Option.some.inj H
      go_wp2
      go_ret
      exact ⟨_, by first | rfl | (simp [errW_none, errW_some] <;> rfl) | (simp only [← hji2]; first | rfl | (simp [errW_none, errW_some] <;> rfl)) | (simp [*, errW_none, errW_some] <;> rfl), by (with_reducible repeat (first | apply Kd.S_alloc | apply Kd.S_drewN | apply Kd.S_drew)); exact HO_3.out, by repeat (first | (with_reducible first | exact HB.out | apply below_alloc | apply pw_below_drewN | apply below_drew1 | refine below_set ?_ GE127.out) | exact HB.out)⟩
  ·rw [if_neg c4] at H
   exact absurd H (by simp)
 ·rw [if_neg c3] at H
  exact absurd H (by simp)
end Go.Proofs.Ytkifipakikbhcaa.Pg
namespace Go.Proofs.Ytkifipakikbhcaa.Pg
open Go.Proofs.Ytkifipakikbhcaa.Ref
open Go.RowKit Go.Proofs.YtkifipakikbhcaaW.PrintWords Go.Proofs.YtkifipakikbhcaaW.PrintLast Go.Proofs.YtkifipakikbhcaaW.PrintMore
attribute [local go_sem] max2_int min2_int max_two min_two max_three min_three max_four min_four
mutual
def peel_around.l0 : Nat → List (List Int) → Int → List Int → List Int → Int → Int → Option (Int)
 | 0, _, _, _, _, _, _ => none
 | k + 1, x0, x1, x5, x6, x21, x22 => if x22 < x21 then (if 0 ≤ x22 then (if x22 < (x5.length : Int) then (peel_around.l0 k x0 x1 (x5.set (x22 : Int).toNat (-1)) x6 x21 (wrap64 (x22 + 1))) else (none)) else (none)) else (if 0 ≤ x1 then (if x1 < (x5.length : Int) then (if x1 < (x6.length : Int) then (peel_around.l1 k x0 (x5.set (x1 : Int).toNat 0) (x6.set (x1 : Int).toNat (-1)) (([x1] : List Int)) 0 0) else (none)) else (none)) else (none))
def peel_around.l1 : Nat → List (List Int) → List Int → List Int → List Int → Int → Int → Option (Int)
 | 0, _, _, _, _, _, _ => none
 | k + 1, x0, x5, x6, x8, x9, x10 => if x10 < (x8.length : Int) then (if 0 ≤ x10 then (if 0 ≤ (rd x8 x10) then (if (rd x8 x10) < (x0.length : Int) then (peel_around.l2 k x0 x5 x6 x8 x9 x10 (rd x8 x10) (rd_L2 x0 (rd x8 x10)) ((rd_L2 x0 (rd x8 x10)).length : Int) 0) else (none)) else (none)) else (none)) else (some x9)
def peel_around.l2 : Nat → List (List Int) → List Int → List Int → List Int → Int → Int → Int → List Int → Int → Int → Option (Int)
 | 0, _, _, _, _, _, _, _, _, _, _ => none
 | k + 1, x0, x5, x6, x8, x9, x10, x11, x50, x51, x52 => if x52 < x51 then (if 0 ≤ x52 then (if x52 < (x50.length : Int) then (if 0 ≤ (rd x50 x52) then (if (rd x50 x52) < (x5.length : Int) then (if (rd x5 (rd x50 x52)) < 0 then (if 0 ≤ x11 then (if x11 < (x5.length : Int) then (if (rd x50 x52) < (x6.length : Int) then (if x8.length < 17592186044416 then (peel_around.l2 k x0 (x5.set ((rd x50 x52) : Int).toNat (wrap64 ((rd x5 x11) + 1))) (x6.set ((rd x50 x52) : Int).toNat x11) (x8 ++ [rd x50 x52]) x9 x10 x11 x50 x51 (wrap64 (x52 + 1))) else (none)) else (none)) else (none)) else (none)) else (if 0 ≤ x11 then (if x11 < (x6.length : Int) then (if (rd x50 x52) = (rd x6 x11) then (peel_around.l2 k x0 x5 x6 x8 x9 x10 x11 x50 x51 (wrap64 (x52 + 1))) else (if x9 = 0 then (if x11 < (x5.length : Int) then (peel_around.l2 k x0 x5 x6 x8 (wrap64 ((wrap64 ((rd x5 x11) + (rd x5 (rd x50 x52)))) + 1)) x10 x11 x50 x51 (wrap64 (x52 + 1))) else (none)) else (if x11 < (x5.length : Int) then (if (wrap64 ((wrap64 ((rd x5 x11) + (rd x5 (rd x50 x52)))) + 1)) < x9 then (peel_around.l2 k x0 x5 x6 x8 (wrap64 ((wrap64 ((rd x5 x11) + (rd x5 (rd x50 x52)))) + 1)) x10 x11 x50 x51 (wrap64 (x52 + 1))) else (peel_around.l2 k x0 x5 x6 x8 x9 x10 x11 x50 x51 (wrap64 (x52 + 1)))) else (none)))) else (none)) else (none))) else (none)) else (none)) else (none)) else (none)) else (peel_around.l1 k x0 x5 x6 x8 x9 (wrap64 (x10 + 1)))
end
def peel_around.f (k : Nat) (l0 : List (List Int)) (a1 : Int) : Option (Int) := if 0 ≤ (l0.length : Int) then (if ((l0.length : Int) : Int).toNat ≤ 35184372088832 then ((some (List.replicate ((l0.length : Int) : Int).toNat 0 : List Int)).bind fun y143 => (peel_around.l0 k l0 a1 y143 (List.replicate ((l0.length : Int) : Int).toNat 0) (y143.length : Int) 0)) else (none)) else (none)
theorem peel_around.calls (k : Nat) (A0 : Option Addr) (c0 : Nat) (l0 : List (List Int)) (a1 : Int) (r : Int) (w : World) (hr0 : Kd.C (Kd.slice 3 (Kd.int .i64)) w A0 l0.length l0) (hc0 : l0.length ≤ c0) (h : peel_around.f k l0 a1 = some r) :
  Calls Try.prog 46 #[.slice A0 l0.length c0, .int .i64 a1] w fun e w' => e = .returned (.int .i64 r) ∧ Below w.heap.size w w' := by
 have HR0 := Aside0.mk hr0
 have HC0 := Aside0.mk hc0
 clear hr0 hc0
 have HB := Aside0.mk (Below.refl w.heap.size w)
 have H : (if 0 ≤ (l0.length : Int) then (if ((l0.length : Int) : Int).toNat ≤ 35184372088832 then ((some (List.replicate ((l0.length : Int) : Int).toNat 0 : List Int)).bind fun y143 => (peel_around.l0 k l0 a1 y143 (List.replicate ((l0.length : Int) : Int).toNat 0) (y143.length : Int) 0)) else (none)) else (none)) = some r := h
 clear h
 by_cases c3 : 0 ≤ (l0.length : Int)
 ·rw [if_pos c3] at H
  have c3b0 := eq_true c3
  have c3b1 : decide (0 ≤ (l0.length : Int)) = true := decide_eq_true c3
  clear c3
  by_cases c4 : ((l0.length : Int) : Int).toNat ≤ 35184372088832
  ·rw [if_pos c4] at H
   have c4b0 := eq_true c4
   have c4b1 : decide (((l0.length : Int) : Int).toNat ≤ 35184372088832) = true := decide_eq_true c4
   clear c4
   obtain ⟨y143, hy143⟩ : ∃ y_ : List Int, y_ = (List.replicate ((l0.length : Int) : Int).toNat 0) := ⟨_, rfl⟩
   replace H : (peel_around.l0 k l0 a1 y143 (List.replicate ((l0.length : Int) : Int).toNat 0) (y143.length : Int) 0) = some r := by first | (rw [hy143]; with_reducible exact H) | (have H2_ := (Option.bind_some _ _).symm.trans H; rw [hy143]; with_reducible exact H2_) | (have H2_ := (Option.bind_some _ _).symm.trans H; with_reducible exact H2_) | with_reducible exact H | (rw [hy143]; exact H) | exact H
   have Ny143 := Aside0.mk hy143
   clear hy143
   obtain ⟨y146, hy146⟩ : ∃ y_ : List Int, y_ = (List.replicate ((l0.length : Int) : Int).toNat 0) := ⟨_, rfl⟩
   replace H : (peel_around.l0 k l0 a1 y143 y146 (y143.length : Int) 0) = some r := by first | (rw [hy146]; with_reducible exact H) | (have H2_ := (Option.bind_some _ _).symm.trans H; rw [hy146]; with_reducible exact H2_) | (have H2_ := (Option.bind_some _ _).symm.trans H; with_reducible exact H2_) | with_reducible exact H | (rw [hy146]; exact H) | exact H
   have Ny146 := Aside0.mk hy146
   clear hy146
   have H' := Aside0.mk H
   clear H
   go_enter Try.func46, Try.ntmps46
   go_wp2_with (first | ((with_reducible refine gate_dst (N := 16) rfl ?_); refine Kd.R_make (Kd.int .i64) _ 3 rfl (N := 16) rfl 22 _ _ rfl (l0.length : Int) rfl rfl Try.underlying22 (.int .i64 0) 8 info3 rfl (by decide) (by omega) 0 (ok := fun _ => True) (okp := fun _ => True) rfl (fun _ hk => hk) trivial (of_decide_eq_true (by first | (with_reducible assumption) | assumption)) (Nat.le_trans (Nat.mul_le_mul_right _ (of_decide_eq_true (by first | (with_reducible assumption) | assumption) : (l0.length : Int).toNat ≤ 35184372088832)) (by omega)) (Below.refl _ _) (Nat.le_refl _) ?_; intro v144 w5 ho6 hb hg_ hnew_; clear hg_ hnew_; (first | rw [← Ny143.out] at ho6 | (simp only [Int.reduceToNat] at ho6; rw [← Ny143.out] at ho6)); have n0_ := Aside0.mk (Kd.R_lower ho6 (below_size (by repeat (first | (with_reducible first | exact HB.out | apply below_alloc | apply pw_below_drewN | apply below_drew1) | exact HB.out)))); have n1_ := Aside0.mk (below_step (by repeat (first | (with_reducible first | exact HB.out | apply below_alloc | apply pw_below_drewN | apply below_drew1) | exact HB.out)) hb); clear HB; have HO145 := n0_; have HB := n1_; clear n0_ n1_; clear hb ho6) | ((with_reducible refine gate_dst (N := 19) rfl ?_); refine Kd.R_make (Kd.int .i64) _ 3 rfl (N := 19) rfl 22 _ _ rfl (l0.length : Int) rfl rfl Try.underlying22 (.int .i64 0) 8 info3 rfl (by decide) (by omega) 0 (ok := fun _ => True) (okp := fun _ => True) rfl (fun _ hk => hk) trivial (of_decide_eq_true (by first | (with_reducible assumption) | assumption)) (Nat.le_trans (Nat.mul_le_mul_right _ (of_decide_eq_true (by first | (with_reducible assumption) | assumption) : (l0.length : Int).toNat ≤ 35184372088832)) (by omega)) (Below.refl _ _) (Nat.le_refl _) ?_; intro v147 w7 ho8 hb hg_ hnew_; clear hg_ hnew_; (first | rw [← Ny146.out] at ho8 | (simp only [Int.reduceToNat] at ho8; rw [← Ny146.out] at ho8)); have n0_ := Aside0.mk (Kd.R_elder' (by (with_reducible repeat (first | apply Kd.R_alloc | apply Kd.R_drewN | apply Kd.R_drew)); exact HO145.out) (Kd.R_base ho8) hb); have n1_ := Aside0.mk (Kd.R_lower (Kd.R_new' ho8 (Kd.R_lt (by (with_reducible repeat (first | apply Kd.R_alloc | apply Kd.R_drewN | apply Kd.R_drew)); exact HO145.out))) (below_size (by repeat (first | (with_reducible first | exact HB.out | apply below_alloc | apply pw_below_drewN | apply below_drew1) | exact HB.out)))); have n2_ := Aside0.mk (below_step (by repeat (first | (with_reducible first | exact HB.out | apply below_alloc | apply pw_below_drewN | apply below_drew1) | exact HB.out)) hb); clear HO145; clear HB; have HO145 := n0_; have HO148 := n1_; have HB := n2_; clear n0_ n1_ n2_; clear hb ho8; obtain ⟨Ao9, co9, eo9⟩ := Kd.R_slice HO145.out; subst eo9))
   repeat (go_quiet (first | ((with_reducible refine gate_dst (N := 16) rfl ?_); refine Kd.R_make (Kd.int .i64) _ 3 rfl (N := 16) rfl 22 _ _ rfl (l0.length : Int) rfl rfl Try.underlying22 (.int .i64 0) 8 info3 rfl (by decide) (by omega) 0 (ok := fun _ => True) (okp := fun _ => True) rfl (fun _ hk => hk) trivial (of_decide_eq_true (by first | (with_reducible assumption) | assumption)) (Nat.le_trans (Nat.mul_le_mul_right _ (of_decide_eq_true (by first | (with_reducible assumption) | assumption) : (l0.length : Int).toNat ≤ 35184372088832)) (by omega)) (Below.refl _ _) (Nat.le_refl _) ?_; intro v144 w5 ho6 hb hg_ hnew_; clear hg_ hnew_; (first | rw [← Ny143.out] at ho6 | (simp only [Int.reduceToNat] at ho6; rw [← Ny143.out] at ho6)); have n0_ := Aside0.mk (Kd.R_lower ho6 (below_size (by repeat (first | (with_reducible first | exact HB.out | apply below_alloc | apply pw_below_drewN | apply below_drew1) | exact HB.out)))); have n1_ := Aside0.mk (below_step (by repeat (first | (with_reducible first | exact HB.out | apply below_alloc | apply pw_below_drewN | apply below_drew1) | exact HB.out)) hb); clear HB; have HO145 := n0_; have HB := n1_; clear n0_ n1_; clear hb ho6) | ((with_reducible refine gate_dst (N := 19) rfl ?_); refine Kd.R_make (Kd.int .i64) _ 3 rfl (N := 19) rfl 22 _ _ rfl (l0.length : Int) rfl rfl Try.underlying22 (.int .i64 0) 8 info3 rfl (by decide) (by omega) 0 (ok := fun _ => True) (okp := fun _ => True) rfl (fun _ hk => hk) trivial (of_decide_eq_true (by first | (with_reducible assumption) | assumption)) (Nat.le_trans (Nat.mul_le_mul_right _ (of_decide_eq_true (by first | (with_reducible assumption) | assumption) : (l0.length : Int).toNat ≤ 35184372088832)) (by omega)) (Below.refl _ _) (Nat.le_refl _) ?_; intro v147 w7 ho8 hb hg_ hnew_; clear hg_ hnew_; (first | rw [← Ny146.out] at ho8 | (simp only [Int.reduceToNat] at ho8; rw [← Ny146.out] at ho8)); have n0_ := Aside0.mk (Kd.R_elder' (by (with_reducible repeat (first | apply Kd.R_alloc | apply Kd.R_drewN | apply Kd.R_drew)); exact HO145.out) (Kd.R_base ho8) hb); have n1_ := Aside0.mk (Kd.R_lower (Kd.R_new' ho8 (Kd.R_lt (by (with_reducible repeat (first | apply Kd.R_alloc | apply Kd.R_drewN | apply Kd.R_drew)); exact HO145.out))) (below_size (by repeat (first | (with_reducible first | exact HB.out | apply below_alloc | apply pw_below_drewN | apply below_drew1) | exact HB.out)))); have n2_ := Aside0.mk (below_step (by repeat (first | (with_reducible first | exact HB.out | apply below_alloc | apply pw_below_drewN | apply below_drew1) | exact HB.out)) hb); clear HO145; clear HB; have HO145 := n0_; have HO148 := n1_; have HB := n2_; clear n0_ n1_ n2_; clear hb ho8; obtain ⟨Ao9, co9, eo9⟩ := Kd.R_slice HO145.out; subst eo9)); try go_wp2_with (first | ((with_reducible refine gate_dst (N := 16) rfl ?_); refine Kd.R_make (Kd.int .i64) _ 3 rfl (N := 16) rfl 22 _ _ rfl (l0.length : Int) rfl rfl Try.underlying22 (.int .i64 0) 8 info3 rfl (by decide) (by omega) 0 (ok := fun _ => True) (okp := fun _ => True) rfl (fun _ hk => hk) trivial (of_decide_eq_true (by first | (with_reducible assumption) | assumption)) (Nat.le_trans (Nat.mul_le_mul_right _ (of_decide_eq_true (by first | (with_reducible assumption) | assumption) : (l0.length : Int).toNat ≤ 35184372088832)) (by omega)) (Below.refl _ _) (Nat.le_refl _) ?_; intro v144 w5 ho6 hb hg_ hnew_; clear hg_ hnew_; (first | rw [← Ny143.out] at ho6 | (simp only [Int.reduceToNat] at ho6; rw [← Ny143.out] at ho6)); have n0_ := Aside0.mk (Kd.R_lower ho6 (below_size (by repeat (first | (with_reducible first | exact HB.out | apply below_alloc | apply pw_below_drewN | apply below_drew1) | exact HB.out)))); have n1_ := Aside0.mk (below_step (by repeat (first | (with_reducible first | exact HB.out | apply below_alloc | apply pw_below_drewN | apply below_drew1) | exact HB.out)) hb); clear HB; have HO145 := n0_; have HB := n1_; clear n0_ n1_; clear hb ho6) | ((with_reducible refine gate_dst (N := 19) rfl ?_); refine Kd.R_make (Kd.int .i64) _ 3 rfl (N := 19) rfl 22 _ _ rfl (l0.length : Int) rfl rfl Try.underlying22 (.int .i64 0) 8 info3 rfl (by decide) (by omega) 0 (ok := fun _ => True) (okp := fun _ => True) rfl (fun _ hk => hk) trivial (of_decide_eq_true (by first | (with_reducible assumption) | assumption)) (Nat.le_trans (Nat.mul_le_mul_right _ (of_decide_eq_true (by first | (with_reducible assumption) | assumption) : (l0.length : Int).toNat ≤ 35184372088832)) (by omega)) (Below.refl _ _) (Nat.le_refl _) ?_; intro v147 w7 ho8 hb hg_ hnew_; clear hg_ hnew_; (first | rw [← Ny146.out] at ho8 | (simp only [Int.reduceToNat] at ho8; rw [← Ny146.out] at ho8)); have n0_ := Aside0.mk (Kd.R_elder' (by (with_reducible repeat (first | apply Kd.R_alloc | apply Kd.R_drewN | apply Kd.R_drew)); exact HO145.out) (Kd.R_base ho8) hb); have n1_ := Aside0.mk (Kd.R_lower (Kd.R_new' ho8 (Kd.R_lt (by (with_reducible repeat (first | apply Kd.R_alloc | apply Kd.R_drewN | apply Kd.R_drew)); exact HO145.out))) (below_size (by repeat (first | (with_reducible first | exact HB.out | apply below_alloc | apply pw_below_drewN | apply below_drew1) | exact HB.out)))); have n2_ := Aside0.mk (below_step (by repeat (first | (with_reducible first | exact HB.out | apply below_alloc | apply pw_below_drewN | apply below_drew1) | exact HB.out)) hb); clear HO145; clear HB; have HO145 := n0_; have HO148 := n1_; have HB := n2_; clear n0_ n1_ n2_; clear hb ho8; obtain ⟨Ao9, co9, eo9⟩ := Kd.R_slice HO145.out; subst eo9)))
   go_loopg [22] k (fun kq v22 w' => ∃ (x5_1 : List Int) (x22_1 : Int), v22 = .int .i64 x22_1 ∧ Aside0 (peel_around.l0 kq l0 a1 x5_1 y146 (y143.length : Int) x22_1 = some r) ∧ Aside0 (kq ≤ k) ∧ Aside0 (Kd.R (Kd.int .i64) 3 w' w.heap.size (fun k_ => some k_ ≠ (v147 : Value).ownBlock) (.slice Ao9 y143.length co9) x5_1) ∧ Aside0 (Kd.R (Kd.int .i64) 3 w' w.heap.size (fun k_ => some k_ ≠ ((.slice Ao9 y143.length co9) : Value).ownBlock) v147 y146) ∧ Aside0 (Below w.heap.size w w'))
   case atStart => exact ⟨(y143), (0), (by first | rfl | (simp; done) | (simp [*]; done)), H', ⟨Nat.le_refl _⟩, ⟨by (with_reducible repeat (first | apply Kd.R_alloc | apply Kd.R_drewN | apply Kd.R_drew)); exact Kd.R_mono HO145.out (fun _ hk => hk.2)⟩, ⟨by (with_reducible repeat (first | apply Kd.R_alloc | apply Kd.R_drewN | apply Kd.R_drew)); exact Kd.R_mono HO148.out (fun _ hk => hk.2)⟩, ⟨by repeat (first | (with_reducible first | exact HB.out | apply below_alloc | apply pw_below_drewN | apply below_drew1) | exact HB.out)⟩⟩
   case round =>
    clear H'
    try clear p2
    try clear c3
    try clear c3b0
    try clear c3b1
    try clear c4
    try clear c4b0
    try clear c4b1
    obtain ⟨x5_1, x22_1, rfl, HA, HK1, HO_5, HO_6, HB⟩ := hrel
    have hl5_1 := (Kd.R_reads' HO_5.out).1
    rw [hl5_1] at HO_5
    (try simp only [hl5_1])
    (try simp only [hl5_1] at HO_6)
    cases gk with
    | zero => exact absurd HA.out (by simp [peel_around.l0])
    | succ k1 =>
     have H := HA.out
     clear HA
     simp only [peel_around.l0] at H
     by_cases c10 : x22_1 < (y143.length : Int)
     ·rw [if_pos c10] at H
      have c10b0 : decide (x22_1 < (y143.length : Int)) = true := decide_eq_true c10
      (try simp only [hl5_1] at c10b0)
      clear c10
      by_cases c11 : 0 ≤ x22_1
      ·rw [if_pos c11] at H
       have c11b0 : decide (0 ≤ x22_1) = true := decide_eq_true c11
       clear c11
       by_cases c12 : x22_1 < (x5_1.length : Int)
       ·rw [if_pos c12] at H
        have c12b0 : decide (x22_1 < (x5_1.length : Int)) = true := decide_eq_true c12
        clear c12
        obtain ⟨y149, hy149⟩ : ∃ y_ : List Int, y_ = (x5_1.set (x22_1 : Int).toNat (-1)) := ⟨_, rfl⟩
        replace H : (peel_around.l0 k1 l0 a1 y149 y146 (y143.length : Int) (wrap64 (x22_1 + 1))) = some r := by first | (rw [hy149]; with_reducible exact H) | (have H2_ := (Option.bind_some _ _).symm.trans H; rw [hy149]; with_reducible exact H2_) | (have H2_ := (Option.bind_some _ _).symm.trans H; with_reducible exact H2_) | with_reducible exact H | (rw [hy149]; exact H) | exact H
        have Ny149 := Aside0.mk hy149
        clear hy149
        have H' := Aside0.mk H
        clear H
        have p13 : 0 ≤ (x22_1 : Int) := of_decide_eq_true (by first | (with_reducible assumption) | assumption)
        have q13 : (x22_1 : Int) < ((x5_1.length : Int) : Int) := of_decide_eq_true (by first | (with_reducible assumption) | assumption)
        obtain ⟨go13, co13, eo13, gb13, gl13, cl13, HG13⟩ := Kd.R_form HO_5.out (by omega)
        (first | cases eo13 | (injection eo13 with ea_ en_ ec_; (first | subst ea_ | (injection ea_ with ea_; subst ea_)); subst ec_; clear en_))
        have GB13 := Aside0.mk gb13
        have GG13 := Aside0.mk HG13
        clear gb13 gl13 HG13
        obtain ⟨hx13_0, hf13_0⟩ := Kd.R_celln 0 HO_5.out (x22_1 : Int) p13 q13
        replace p13 := eq_true p13
        replace q13 := eq_true q13
        have HP14 := Kd.R_putg HO_5.out (x22_1 : Int) (-1)
        go_wp2_with (first | ((with_reducible refine gate_store (t := 3) (p := 27) rfl ?_); (try (rw [drewN_self wr]; generalize hq_ : World.drewN wr _ = wr; have n0_ := Aside0.mk (Kd.R_at hq_ HO_5.out); have n1_ := Aside0.mk (Kd.R_at hq_ HO_6.out); have n2_ := Aside0.mk (below_at hq_ HB.out); clear hq_ HO_5 HO_6 HB; have HO_5 := n0_; have HO_6 := n1_; have HB := n2_; clear n0_ n1_ n2_; (try (have HP14 := Kd.R_putg HO_5.out (x22_1 : Int) (-1))))); refine store_event (t := 3) (p := 27) (v := ?vo_w15) (w1 := (wr.setCell ⟨go13, (x22_1 : Int).toNat, none⟩ (.int .i64 (-1)))) ?hg ?ho ?hn ?hr ?_; (case ho => rfl); (case hg => rfl); (case hn => rfl); (case hr => first | (go_simp; done) | (go_simp; rfl)); intro w15 hw; have hg : wr.grownBy w15 (some go13) := (by rw [hw]; exact HP14.2); have hp_ : Kd.R (Kd.int .i64) 3 w15 w.heap.size (fun k_ => some k_ ≠ (v147 : Value).ownBlock) (.slice (some ⟨go13, 0, none⟩) x5_1.length co9) y149 := (by rw [hw, Ny149.out]; exact HP14.1); clear HP14; have n0_ := Aside0.mk (hp_); have n1_ := Aside0.mk (Kd.R_after (v := (.slice (some ⟨go13, 0, none⟩) x5_1.length co9)) (v1 := (.slice (some ⟨go13, 0, none⟩) x5_1.length co9)) (ok := (fun _ => True)) (by (with_reducible repeat (first | apply Kd.R_alloc | apply Kd.R_drewN | apply Kd.R_drew)); exact Kd.R_mono HO_6.out (fun _ hk => ⟨trivial, hk⟩)) hg (.inl rfl)); have n2_ := Aside0.mk ((by rw [hw]; exact below_set (HB.out) GB13.out : Below w.heap.size w w15)); clear HO_5; clear HO_6; clear HB; have HO_5 := n0_; have HO_6 := n1_; have HB := n2_; clear n0_ n1_ n2_; clear hg hw hp_))
        repeat (go_quiet (first | ((with_reducible refine gate_store (t := 3) (p := 27) rfl ?_); (try (rw [drewN_self wr]; generalize hq_ : World.drewN wr _ = wr; have n0_ := Aside0.mk (Kd.R_at hq_ HO_5.out); have n1_ := Aside0.mk (Kd.R_at hq_ HO_6.out); have n2_ := Aside0.mk (below_at hq_ HB.out); clear hq_ HO_5 HO_6 HB; have HO_5 := n0_; have HO_6 := n1_; have HB := n2_; clear n0_ n1_ n2_; (try (have HP14 := Kd.R_putg HO_5.out (x22_1 : Int) (-1))))); refine store_event (t := 3) (p := 27) (v := ?vo_w15) (w1 := (wr.setCell ⟨go13, (x22_1 : Int).toNat, none⟩ (.int .i64 (-1)))) ?hg ?ho ?hn ?hr ?_; (case ho => rfl); (case hg => rfl); (case hn => rfl); (case hr => first | (go_simp; done) | (go_simp; rfl)); intro w15 hw; have hg : wr.grownBy w15 (some go13) := (by rw [hw]; exact HP14.2); have hp_ : Kd.R (Kd.int .i64) 3 w15 w.heap.size (fun k_ => some k_ ≠ (v147 : Value).ownBlock) (.slice (some ⟨go13, 0, none⟩) x5_1.length co9) y149 := (by rw [hw, Ny149.out]; exact HP14.1); clear HP14; have n0_ := Aside0.mk (hp_); have n1_ := Aside0.mk (Kd.R_after (v := (.slice (some ⟨go13, 0, none⟩) x5_1.length co9)) (v1 := (.slice (some ⟨go13, 0, none⟩) x5_1.length co9)) (ok := (fun _ => True)) (by (with_reducible repeat (first | apply Kd.R_alloc | apply Kd.R_drewN | apply Kd.R_drew)); exact Kd.R_mono HO_6.out (fun _ hk => ⟨trivial, hk⟩)) hg (.inl rfl)); have n2_ := Aside0.mk ((by rw [hw]; exact below_set (HB.out) GB13.out : Below w.heap.size w w15)); clear HO_5; clear HO_6; clear HB; have HO_5 := n0_; have HO_6 := n1_; have HB := n2_; clear n0_ n1_ n2_; clear hg hw hp_)); try go_wp2_with (first | ((with_reducible refine gate_store (t := 3) (p := 27) rfl ?_); (try (rw [drewN_self wr]; generalize hq_ : World.drewN wr _ = wr; have n0_ := Aside0.mk (Kd.R_at hq_ HO_5.out); have n1_ := Aside0.mk (Kd.R_at hq_ HO_6.out); have n2_ := Aside0.mk (below_at hq_ HB.out); clear hq_ HO_5 HO_6 HB; have HO_5 := n0_; have HO_6 := n1_; have HB := n2_; clear n0_ n1_ n2_; (try (have HP14 := Kd.R_putg HO_5.out (x22_1 : Int) (-1))))); refine store_event (t := 3) (p := 27) (v := ?vo_w15) (w1 := (wr.setCell ⟨go13, (x22_1 : Int).toNat, none⟩ (.int .i64 (-1)))) ?hg ?ho ?hn ?hr ?_; (case ho => rfl); (case hg => rfl); (case hn => rfl); (case hr => first | (go_simp; done) | (go_simp; rfl)); intro w15 hw; have hg : wr.grownBy w15 (some go13) := (by rw [hw]; exact HP14.2); have hp_ : Kd.R (Kd.int .i64) 3 w15 w.heap.size (fun k_ => some k_ ≠ (v147 : Value).ownBlock) (.slice (some ⟨go13, 0, none⟩) x5_1.length co9) y149 := (by rw [hw, Ny149.out]; exact HP14.1); clear HP14; have n0_ := Aside0.mk (hp_); have n1_ := Aside0.mk (Kd.R_after (v := (.slice (some ⟨go13, 0, none⟩) x5_1.length co9)) (v1 := (.slice (some ⟨go13, 0, none⟩) x5_1.length co9)) (ok := (fun _ => True)) (by (with_reducible repeat (first | apply Kd.R_alloc | apply Kd.R_drewN | apply Kd.R_drew)); exact Kd.R_mono HO_6.out (fun _ hk => ⟨trivial, hk⟩)) hg (.inl rfl)); have n2_ := Aside0.mk ((by rw [hw]; exact below_set (HB.out) GB13.out : Below w.heap.size w w15)); clear HO_5; clear HO_6; clear HB; have HO_5 := n0_; have HO_6 := n1_; have HB := n2_; clear n0_ n1_ n2_; clear hg hw hp_)))
        (try simp only [← hl5_1])
        go_roundg k1
        case measure => have := HK1.out; omega
        case rel => exact ⟨(y149), (wrap64 (x22_1 + 1)), (by first | rfl | (simp; done) | (simp [*]; done)), H', ⟨by have := HK1.out; omega⟩, ⟨by (try simp only [hl5_1]); (with_reducible repeat (first | apply Kd.R_alloc | apply Kd.R_drewN | apply Kd.R_drew)); exact HO_5.out⟩, ⟨by (try simp only [hl5_1]); (with_reducible repeat (first | apply Kd.R_alloc | apply Kd.R_drewN | apply Kd.R_drew)); exact Kd.R_mono HO_6.out (fun _ hk => hk.2)⟩, ⟨by repeat (first | (with_reducible first | exact HB.out | apply below_alloc | apply pw_below_drewN | apply below_drew1) | exact HB.out)⟩⟩
       ·rw [if_neg c12] at H
        exact absurd H (by simp)
      ·rw [if_neg c11] at H
       exact absurd H (by simp)
     ·rw [if_neg c10] at H
      have c10b0 : decide (x22_1 < (y143.length : Int)) = false := decide_eq_false c10
      (try simp only [hl5_1] at c10b0)
      clear c10
      by_cases c16 : 0 ≤ a1
      ·rw [if_pos c16] at H
       have c16b0 : decide (0 ≤ a1) = true := decide_eq_true c16
       clear c16
       by_cases c17 : a1 < (x5_1.length : Int)
       ·rw [if_pos c17] at H
        have c17b0 : decide (a1 < (x5_1.length : Int)) = true := decide_eq_true c17
        clear c17
        obtain ⟨y150, hy150⟩ : ∃ y_ : List Int, y_ = (x5_1.set (a1 : Int).toNat 0) := ⟨_, rfl⟩
        replace H : (if a1 < (y146.length : Int) then (peel_around.l1 k1 l0 y150 (y146.set (a1 : Int).toNat (-1)) (([a1] : List Int)) 0 0) else (none)) = some r := by first | (rw [hy150]; with_reducible exact H) | (have H2_ := (Option.bind_some _ _).symm.trans H; rw [hy150]; with_reducible exact H2_) | (have H2_ := (Option.bind_some _ _).symm.trans H; with_reducible exact H2_) | with_reducible exact H | (rw [hy150]; exact H) | exact H
        have Ny150 := Aside0.mk hy150
        clear hy150
        by_cases c19 : a1 < (y146.length : Int)
        ·rw [if_pos c19] at H
         have c19b0 : decide (a1 < (y146.length : Int)) = true := decide_eq_true c19
         clear c19
         obtain ⟨y151, hy151⟩ : ∃ y_ : List Int, y_ = (y146.set (a1 : Int).toNat (-1)) := ⟨_, rfl⟩
         replace H : (peel_around.l1 k1 l0 y150 y151 (([a1] : List Int)) 0 0) = some r := by first | (rw [hy151]; with_reducible exact H) | (have H2_ := (Option.bind_some _ _).symm.trans H; rw [hy151]; with_reducible exact H2_) | (have H2_ := (Option.bind_some _ _).symm.trans H; with_reducible exact H2_) | with_reducible exact H | (rw [hy151]; exact H) | exact H
         have Ny151 := Aside0.mk hy151
         clear hy151
         obtain ⟨y152, hy152⟩ : ∃ y_ : List Int, y_ = (([a1] : List Int)) := ⟨_, rfl⟩
         replace H : (peel_around.l1 k1 l0 y150 y151 y152 0 0) = some r := by first | (rw [hy152]; with_reducible exact H) | (have H2_ := (Option.bind_some _ _).symm.trans H; rw [hy152]; with_reducible exact H2_) | (have H2_ := (Option.bind_some _ _).symm.trans H; with_reducible exact H2_) | with_reducible exact H | (rw [hy152]; exact H) | exact H
         have Ny152 := Aside0.mk hy152
         clear hy152
         have H' := Aside0.mk H
         clear H
         have p18 : 0 ≤ (a1 : Int) := of_decide_eq_true (by first | (with_reducible assumption) | assumption)
         have q18 : (a1 : Int) < ((x5_1.length : Int) : Int) := of_decide_eq_true (by first | (with_reducible assumption) | assumption)
         obtain ⟨go18, co18, eo18, gb18, gl18, cl18, HG18⟩ := Kd.R_form HO_5.out (by omega)
         (first | cases eo18 | (injection eo18 with ea_ en_ ec_; (first | subst ea_ | (injection ea_ with ea_; subst ea_)); subst ec_; clear en_))
         have GB18 := Aside0.mk gb18
         have GG18 := Aside0.mk HG18
         clear gb18 gl18 HG18
         obtain ⟨hx18_0, hf18_0⟩ := Kd.R_celln 0 HO_5.out (a1 : Int) p18 q18
         replace p18 := eq_true p18
         replace q18 := eq_true q18
         have HP21 := Kd.R_putg HO_5.out (a1 : Int) 0
         go_wp2_with (first | ((with_reducible refine gate_store (t := 3) (p := 33) rfl ?_); (try (rw [drewN_self wr]; generalize hq_ : World.drewN wr _ = wr; have n0_ := Aside0.mk (Kd.R_at hq_ HO_5.out); have n1_ := Aside0.mk (Kd.R_at hq_ HO_6.out); have n2_ := Aside0.mk (below_at hq_ HB.out); clear hq_ HO_5 HO_6 HB; have HO_5 := n0_; have HO_6 := n1_; have HB := n2_; clear n0_ n1_ n2_; (try (have HP21 := Kd.R_putg HO_5.out (a1 : Int) 0)))); refine store_event (t := 3) (p := 33) (v := ?vo_w22) (w1 := (wr.setCell ⟨go18, (a1 : Int).toNat, none⟩ (.int .i64 0))) ?hg ?ho ?hn ?hr ?_; (case ho => rfl); (case hg => rfl); (case hn => rfl); (case hr => first | (go_simp; done) | (go_simp; rfl)); intro w22 hw; have hg : wr.grownBy w22 (some go18) := (by rw [hw]; exact HP21.2); have hp_ : Kd.R (Kd.int .i64) 3 w22 w.heap.size (fun k_ => some k_ ≠ (v147 : Value).ownBlock) (.slice (some ⟨go18, 0, none⟩) x5_1.length co9) y150 := (by rw [hw, Ny150.out]; exact HP21.1); clear HP21; have n0_ := Aside0.mk (hp_); have n1_ := Aside0.mk (Kd.R_after (v := (.slice (some ⟨go18, 0, none⟩) x5_1.length co9)) (v1 := (.slice (some ⟨go18, 0, none⟩) x5_1.length co9)) (ok := (fun _ => True)) (by (with_reducible repeat (first | apply Kd.R_alloc | apply Kd.R_drewN | apply Kd.R_drew)); exact Kd.R_mono HO_6.out (fun _ hk => ⟨trivial, hk⟩)) hg (.inl rfl)); have n2_ := Aside0.mk ((by rw [hw]; exact below_set (HB.out) GB18.out : Below w.heap.size w w22)); clear HO_5; clear HO_6; clear HB; have HO_5 := n0_; have HO_6 := n1_; have HB := n2_; clear n0_ n1_ n2_; clear hg hw hp_; have p20 : 0 ≤ (a1 : Int) := of_decide_eq_true (by first | (with_reducible assumption) | assumption); have q20 : (a1 : Int) < ((y146.length : Int) : Int) := of_decide_eq_true (by first | (with_reducible assumption) | assumption); obtain ⟨go20, co20, eo20, gb20, gl20, cl20, HG20⟩ := Kd.R_form HO_6.out (by omega); (first | cases eo20 | (injection eo20 with ea_ en_ ec_; (first | subst ea_ | (injection ea_ with ea_; subst ea_)); subst ec_; clear en_)); have GB20 := Aside0.mk gb20; have GG20 := Aside0.mk HG20; clear gb20 gl20 HG20; obtain ⟨hx20_0, hf20_0⟩ := Kd.R_celln 0 HO_6.out (a1 : Int) p20 q20; replace p20 := eq_true p20; replace q20 := eq_true q20; have n_ := Aside0.mk (Kd.R_mono (ok' := (fun k_ => some k_ ≠ (.slice (some ⟨go18, 0, none⟩) x5_1.length co9 : Value).ownBlock)) HO_6.out (fun k_ hk => hk.2)); clear HO_6; have HO_6 := n_; clear n_; obtain ⟨hy23_, hz23_⟩ := Kd.R_celln 0 HO_6.out (a1 : Int) (of_decide_eq_true (by first | (with_reducible assumption) | assumption)) (of_decide_eq_true (by first | (with_reducible assumption) | assumption)); have HP23 := Kd.R_putg HO_6.out (a1 : Int) (-1)) | ((with_reducible refine gate_store (t := 3) (p := 34) rfl ?_); (try (rw [drewN_self w22]; generalize hq_ : World.drewN w22 _ = w22; have n0_ := Aside0.mk (Kd.R_at hq_ HO_5.out); have n1_ := Aside0.mk (Kd.R_at hq_ HO_6.out); have n2_ := Aside0.mk (below_at hq_ HB.out); clear hq_ HO_5 HO_6 HB; have HO_5 := n0_; have HO_6 := n1_; have HB := n2_; clear n0_ n1_ n2_; (try (have n_ := Aside0.mk (Kd.R_mono (ok' := (fun k_ => some k_ ≠ (.slice (some ⟨go18, 0, none⟩) x5_1.length co9 : Value).ownBlock)) HO_6.out (fun k_ hk => hk.2)); clear HO_6; have HO_6 := n_; clear n_)); (try (obtain ⟨hy23_, hz23_⟩ := Kd.R_celln 0 HO_6.out (a1 : Int) (of_decide_eq_true (by first | (with_reducible assumption) | assumption)) (of_decide_eq_true (by first | (with_reducible assumption) | assumption)))); (try (have HP23 := Kd.R_putg HO_6.out (a1 : Int) (-1))))); refine store_event (t := 3) (p := 34) (v := ?vo_w24) (w1 := (w22.setCell ⟨go20, (a1 : Int).toNat, none⟩ (.int .i64 (-1)))) ?hg ?ho ?hn ?hr ?_; (case ho => rfl); (case hg => rfl); (case hn => rfl); (case hr => first | (go_simp; done) | (go_simp; rfl)); intro w24 hw; have hg : w22.grownBy w24 (some go20) := (by rw [hw]; exact HP23.2); have hp_ : Kd.R (Kd.int .i64) 3 w24 w.heap.size (fun k_ => some k_ ≠ (.slice (some ⟨go18, 0, none⟩) x5_1.length co9 : Value).ownBlock) (.slice (some ⟨go20, 0, none⟩) y146.length co20) y151 := (by rw [hw, Ny151.out]; exact HP23.1); clear HP23; have n0_ := Aside0.mk (Kd.R_after (v := (.slice (some ⟨go20, 0, none⟩) y146.length co20)) (v1 := (.slice (some ⟨go20, 0, none⟩) y146.length co20)) (ok := (fun _ => True)) (by (with_reducible repeat (first | apply Kd.R_alloc | apply Kd.R_drewN | apply Kd.R_drew)); exact Kd.R_mono HO_5.out (fun _ hk => ⟨trivial, hk⟩)) hg (.inl rfl)); have n1_ := Aside0.mk (hp_); have n2_ := Aside0.mk ((by rw [hw]; exact below_set (HB.out) GB20.out : Below w.heap.size w w24)); clear HO_5; clear HO_6; clear HB; have HO_5 := n0_; have HO_6 := n1_; have HB := n2_; clear n0_ n1_ n2_; clear hg hw hp_) | ((with_reducible refine gate_dst (N := 36) rfl ?_); refine Kd.R_lit (Kd.int .i64) _ 3 ?hg (N := 36) ?hd (xs := ([a1] : List Int)) (inner := [.int .i64 a1]) (ok := fun _ => True) (okp := fun _ => True) ?hr ?hp (fun _ hk => hk) trivial (Below.refl _ _) (Nat.le_refl _) (by simp) ?_; (case hd => rfl); (case hg => rfl); (case hr => first | (go_simp; done) | (go_simp; rfl)); (case hp => exact (Reps.one (show Kd.M (Kd.int .i64) _ _ _ a1 [.int .i64 a1] from rfl) (Reps.none _ _))); intro v153 w25 ho26 hb hg_ hnew_; clear hg_ hnew_; (first | rw [← Ny152.out] at ho26 | (simp only [Int.reduceToNat] at ho26; rw [← Ny152.out] at ho26)); have n0_ := Aside0.mk (Kd.R_elder' (by (with_reducible repeat (first | apply Kd.R_alloc | apply Kd.R_drewN | apply Kd.R_drew)); exact HO_5.out) (Kd.R_base ho26) hb); have n1_ := Aside0.mk (Kd.R_elder' (by (with_reducible repeat (first | apply Kd.R_alloc | apply Kd.R_drewN | apply Kd.R_drew)); exact HO_6.out) (Kd.R_base ho26) hb); have n2_ := Aside0.mk (Kd.R_lower (Kd.R_new' (Kd.R_new' ho26 (Kd.R_lt (by (with_reducible repeat (first | apply Kd.R_alloc | apply Kd.R_drewN | apply Kd.R_drew)); exact HO_5.out))) (Kd.R_lt (by (with_reducible repeat (first | apply Kd.R_alloc | apply Kd.R_drewN | apply Kd.R_drew)); exact HO_6.out))) (below_size (by repeat (first | (with_reducible first | exact HB.out | apply below_alloc | apply pw_below_drewN | apply below_drew1) | exact HB.out)))); have n3_ := Aside0.mk (below_step (by repeat (first | (with_reducible first | exact HB.out | apply below_alloc | apply pw_below_drewN | apply below_drew1) | exact HB.out)) hb); clear HO_5; clear HO_6; clear HB; have HO_5 := n0_; have HO_6 := n1_; have HO154 := n2_; have HB := n3_; clear n0_ n1_ n2_ n3_; clear hb ho26))
         repeat (go_quiet (first | ((with_reducible refine gate_store (t := 3) (p := 33) rfl ?_); (try (rw [drewN_self wr]; generalize hq_ : World.drewN wr _ = wr; have n0_ := Aside0.mk (Kd.R_at hq_ HO_5.out); have n1_ := Aside0.mk (Kd.R_at hq_ HO_6.out); have n2_ := Aside0.mk (below_at hq_ HB.out); clear hq_ HO_5 HO_6 HB; have HO_5 := n0_; have HO_6 := n1_; have HB := n2_; clear n0_ n1_ n2_; (try (have HP21 := Kd.R_putg HO_5.out (a1 : Int) 0)))); refine store_event (t := 3) (p := 33) (v := ?vo_w22) (w1 := (wr.setCell ⟨go18, (a1 : Int).toNat, none⟩ (.int .i64 0))) ?hg ?ho ?hn ?hr ?_; (case ho => rfl); (case hg => rfl); (case hn => rfl); (case hr => first | (go_simp; done) | (go_simp; rfl)); intro w22 hw; have hg : wr.grownBy w22 (some go18) := (by rw [hw]; exact HP21.2); have hp_ : Kd.R (Kd.int .i64) 3 w22 w.heap.size (fun k_ => some k_ ≠ (v147 : Value).ownBlock) (.slice (some ⟨go18, 0, none⟩) x5_1.length co9) y150 := (by rw [hw, Ny150.out]; exact HP21.1); clear HP21; have n0_ := Aside0.mk (hp_); have n1_ := Aside0.mk (Kd.R_after (v := (.slice (some ⟨go18, 0, none⟩) x5_1.length co9)) (v1 := (.slice (some ⟨go18, 0, none⟩) x5_1.length co9)) (ok := (fun _ => True)) (by (with_reducible repeat (first | apply Kd.R_alloc | apply Kd.R_drewN | apply Kd.R_drew)); exact Kd.R_mono HO_6.out (fun _ hk => ⟨trivial, hk⟩)) hg (.inl rfl)); have n2_ := Aside0.mk ((by rw [hw]; exact below_set (HB.out) GB18.out : Below w.heap.size w w22)); clear HO_5; clear HO_6; clear HB; have HO_5 := n0_; have HO_6 := n1_; have HB := n2_; clear n0_ n1_ n2_; clear hg hw hp_; have p20 : 0 ≤ (a1 : Int) := of_decide_eq_true (by first | (with_reducible assumption) | assumption); have q20 : (a1 : Int) < ((y146.length : Int) : Int) := of_decide_eq_true (by first | (with_reducible assumption) | assumption); obtain ⟨go20, co20, eo20, gb20, gl20, cl20, HG20⟩ := Kd.R_form HO_6.out (by omega); (first | cases eo20 | (injection eo20 with ea_ en_ ec_; (first | subst ea_ | (injection ea_ with ea_; subst ea_)); subst ec_; clear en_)); have GB20 := Aside0.mk gb20; have GG20 := Aside0.mk HG20; clear gb20 gl20 HG20; obtain ⟨hx20_0, hf20_0⟩ := Kd.R_celln 0 HO_6.out (a1 : Int) p20 q20; replace p20 := eq_true p20; replace q20 := eq_true q20; have n_ := Aside0.mk (Kd.R_mono (ok' := (fun k_ => some k_ ≠ (.slice (some ⟨go18, 0, none⟩) x5_1.length co9 : Value).ownBlock)) HO_6.out (fun k_ hk => hk.2)); clear HO_6; have HO_6 := n_; clear n_; obtain ⟨hy23_, hz23_⟩ := Kd.R_celln 0 HO_6.out (a1 : Int) (of_decide_eq_true (by first | (with_reducible assumption) | assumption)) (of_decide_eq_true (by first | (with_reducible assumption) | assumption)); have HP23 := Kd.R_putg HO_6.out (a1 : Int) (-1)) | ((with_reducible refine gate_store (t := 3) (p := 34) rfl ?_); (try (rw [drewN_self w22]; generalize hq_ : World.drewN w22 _ = w22; have n0_ := Aside0.mk (Kd.R_at hq_ HO_5.out); have n1_ := Aside0.mk (Kd.R_at hq_ HO_6.out); have n2_ := Aside0.mk (below_at hq_ HB.out); clear hq_ HO_5 HO_6 HB; have HO_5 := n0_; have HO_6 := n1_; have HB := n2_; clear n0_ n1_ n2_; (try (have n_ := Aside0.mk (Kd.R_mono (ok' := (fun k_ => some k_ ≠ (.slice (some ⟨go18, 0, none⟩) x5_1.length co9 : Value).ownBlock)) HO_6.out (fun k_ hk => hk.2)); clear HO_6; have HO_6 := n_; clear n_)); (try (obtain ⟨hy23_, hz23_⟩ := Kd.R_celln 0 HO_6.out (a1 : Int) (of_decide_eq_true (by first | (with_reducible assumption) | assumption)) (of_decide_eq_true (by first | (with_reducible assumption) | assumption)))); (try (have HP23 := Kd.R_putg HO_6.out (a1 : Int) (-1))))); refine store_event (t := 3) (p := 34) (v := ?vo_w24) (w1 := (w22.setCell ⟨go20, (a1 : Int).toNat, none⟩ (.int .i64 (-1)))) ?hg ?ho ?hn ?hr ?_; (case ho => rfl); (case hg => rfl); (case hn => rfl); (case hr => first | (go_simp; done) | (go_simp; rfl)); intro w24 hw; have hg : w22.grownBy w24 (some go20) := (by rw [hw]; exact HP23.2); have hp_ : Kd.R (Kd.int .i64) 3 w24 w.heap.size (fun k_ => some k_ ≠ (.slice (some ⟨go18, 0, none⟩) x5_1.length co9 : Value).ownBlock) (.slice (some ⟨go20, 0, none⟩) y146.length co20) y151 := (by rw [hw, Ny151.out]; exact HP23.1); clear HP23; have n0_ := Aside0.mk (Kd.R_after (v := (.slice (some ⟨go20, 0, none⟩) y146.length co20)) (v1 := (.slice (some ⟨go20, 0, none⟩) y146.length co20)) (ok := (fun _ => True)) (by (with_reducible repeat (first | apply Kd.R_alloc | apply Kd.R_drewN | apply Kd.R_drew)); exact Kd.R_mono HO_5.out (fun _ hk => ⟨trivial, hk⟩)) hg (.inl rfl)); have n1_ := Aside0.mk (hp_); have n2_ := Aside0.mk ((by rw [hw]; exact below_set (HB.out) GB20.out : Below w.heap.size w w24)); clear HO_5; clear HO_6; clear HB; have HO_5 := n0_; have HO_6 := n1_; have HB := n2_; clear n0_ n1_ n2_; clear hg hw hp_) | ((with_reducible refine gate_dst (N := 36) rfl ?_); refine Kd.R_lit (Kd.int .i64) _ 3 ?hg (N := 36) ?hd (xs := ([a1] : List Int)) (inner := [.int .i64 a1]) (ok := fun _ => True) (okp := fun _ => True) ?hr ?hp (fun _ hk => hk) trivial (Below.refl _ _) (Nat.le_refl _) (by simp) ?_; (case hd => rfl); (case hg => rfl); (case hr => first | (go_simp; done) | (go_simp; rfl)); (case hp => exact (Reps.one (show Kd.M (Kd.int .i64) _ _ _ a1 [.int .i64 a1] from rfl) (Reps.none _ _))); intro v153 w25 ho26 hb hg_ hnew_; clear hg_ hnew_; (first | rw [← Ny152.out] at ho26 | (simp only [Int.reduceToNat] at ho26; rw [← Ny152.out] at ho26)); have n0_ := Aside0.mk (Kd.R_elder' (by (with_reducible repeat (first | apply Kd.R_alloc | apply Kd.R_drewN | apply Kd.R_drew)); exact HO_5.out) (Kd.R_base ho26) hb); have n1_ := Aside0.mk (Kd.R_elder' (by (with_reducible repeat (first | apply Kd.R_alloc | apply Kd.R_drewN | apply Kd.R_drew)); exact HO_6.out) (Kd.R_base ho26) hb); have n2_ := Aside0.mk (Kd.R_lower (Kd.R_new' (Kd.R_new' ho26 (Kd.R_lt (by (with_reducible repeat (first | apply Kd.R_alloc | apply Kd.R_drewN | apply Kd.R_drew)); exact HO_5.out))) (Kd.R_lt (by (with_reducible repeat (first | apply Kd.R_alloc | apply Kd.R_drewN | apply Kd.R_drew)); exact HO_6.out))) (below_size (by repeat (first | (with_reducible first | exact HB.out | apply below_alloc | apply pw_below_drewN | apply below_drew1) | exact HB.out)))); have n3_ := Aside0.mk (below_step (by repeat (first | (with_reducible first | exact HB.out | apply below_alloc | apply pw_below_drewN | apply below_drew1) | exact HB.out)) hb); clear HO_5; clear HO_6; clear HB; have HO_5 := n0_; have HO_6 := n1_; have HO154 := n2_; have HB := n3_; clear n0_ n1_ n2_ n3_; clear hb ho26)); try go_wp2_with (first | ((with_reducible refine gate_store (t := 3) (p := 33) rfl ?_); (try (rw [drewN_self wr]; generalize hq_ : World.drewN wr _ = wr; have n0_ := Aside0.mk (Kd.R_at hq_ HO_5.out); have n1_ := Aside0.mk (Kd.R_at hq_ HO_6.out); have n2_ := Aside0.mk (below_at hq_ HB.out); clear hq_ HO_5 HO_6 HB; have HO_5 := n0_; have HO_6 := n1_; have HB := n2_; clear n0_ n1_ n2_; (try (have HP21 := Kd.R_putg HO_5.out (a1 : Int) 0)))); refine store_event (t := 3) (p := 33) (v := ?vo_w22) (w1 := (wr.setCell ⟨go18, (a1 : Int).toNat, none⟩ (.int .i64 0))) ?hg ?ho ?hn ?hr ?_; (case ho => rfl); (case hg => rfl); (case hn => rfl); (case hr => first | (go_simp; done) | (go_simp; rfl)); intro w22 hw; have hg : wr.grownBy w22 (some go18) := (by rw [hw]; exact HP21.2); have hp_ : Kd.R (Kd.int .i64) 3 w22 w.heap.size (fun k_ => some k_ ≠ (v147 : Value).ownBlock) (.slice (some ⟨go18, 0, none⟩) x5_1.length co9) y150 := (by rw [hw, Ny150.out]; exact HP21.1); clear HP21; have n0_ := Aside0.mk (hp_); have n1_ := Aside0.mk (Kd.R_after (v := (.slice (some ⟨go18, 0, none⟩) x5_1.length co9)) (v1 := (.slice (some ⟨go18, 0, none⟩) x5_1.length co9)) (ok := (fun _ => True)) (by (with_reducible repeat (first | apply Kd.R_alloc | apply Kd.R_drewN | apply Kd.R_drew)); exact Kd.R_mono HO_6.out (fun _ hk => ⟨trivial, hk⟩)) hg (.inl rfl)); have n2_ := Aside0.mk ((by rw [hw]; exact below_set (HB.out) GB18.out : Below w.heap.size w w22)); clear HO_5; clear HO_6; clear HB; have HO_5 := n0_; have HO_6 := n1_; have HB := n2_; clear n0_ n1_ n2_; clear hg hw hp_; have p20 : 0 ≤ (a1 : Int) := of_decide_eq_true (by first | (with_reducible assumption) | assumption); have q20 : (a1 : Int) < ((y146.length : Int) : Int) := of_decide_eq_true (by first | (with_reducible assumption) | assumption); obtain ⟨go20, co20, eo20, gb20, gl20, cl20, HG20⟩ := Kd.R_form HO_6.out (by omega); (first | cases eo20 | (injection eo20 with ea_ en_ ec_; (first | subst ea_ | (injection ea_ with ea_; subst ea_)); subst ec_; clear en_)); have GB20 := Aside0.mk gb20; have GG20 := Aside0.mk HG20; clear gb20 gl20 HG20; obtain ⟨hx20_0, hf20_0⟩ := Kd.R_celln 0 HO_6.out (a1 : Int) p20 q20; replace p20 := eq_true p20; replace q20 := eq_true q20; have n_ := Aside0.mk (Kd.R_mono (ok' := (fun k_ => some k_ ≠ (.slice (some ⟨go18, 0, none⟩) x5_1.length co9 : Value).ownBlock)) HO_6.out (fun k_ hk => hk.2)); clear HO_6; have HO_6 := n_; clear n_; obtain ⟨hy23_, hz23_⟩ := Kd.R_celln 0 HO_6.out (a1 : Int) (of_decide_eq_true (by first | (with_reducible assumption) | assumption)) (of_decide_eq_true (by first | (with_reducible assumption) | assumption)); have HP23 := Kd.R_putg HO_6.out (a1 : Int) (-1)) | ((with_reducible refine gate_store (t := 3) (p := 34) rfl ?_); (try (rw [drewN_self w22]; generalize hq_ : World.drewN w22 _ = w22; have n0_ := Aside0.mk (Kd.R_at hq_ HO_5.out); have n1_ := Aside0.mk (Kd.R_at hq_ HO_6.out); have n2_ := Aside0.mk (below_at hq_ HB.out); clear hq_ HO_5 HO_6 HB; have HO_5 := n0_; have HO_6 := n1_; have HB := n2_; clear n0_ n1_ n2_; (try (have n_ := Aside0.mk (Kd.R_mono (ok' := (fun k_ => some k_ ≠ (.slice (some ⟨go18, 0, none⟩) x5_1.length co9 : Value).ownBlock)) HO_6.out (fun k_ hk => hk.2)); clear HO_6; have HO_6 := n_; clear n_)); (try (obtain ⟨hy23_, hz23_⟩ := Kd.R_celln 0 HO_6.out (a1 : Int) (of_decide_eq_true (by first | (with_reducible assumption) | assumption)) (of_decide_eq_true (by first | (with_reducible assumption) | assumption)))); (try (have HP23 := Kd.R_putg HO_6.out (a1 : Int) (-1))))); refine store_event (t := 3) (p := 34) (v := ?vo_w24) (w1 := (w22.setCell ⟨go20, (a1 : Int).toNat, none⟩ (.int .i64 (-1)))) ?hg ?ho ?hn ?hr ?_; (case ho => rfl); (case hg => rfl); (case hn => rfl); (case hr => first | (go_simp; done) | (go_simp; rfl)); intro w24 hw; have hg : w22.grownBy w24 (some go20) := (by rw [hw]; exact HP23.2); have hp_ : Kd.R (Kd.int .i64) 3 w24 w.heap.size (fun k_ => some k_ ≠ (.slice (some ⟨go18, 0, none⟩) x5_1.length co9 : Value).ownBlock) (.slice (some ⟨go20, 0, none⟩) y146.length co20) y151 := (by rw [hw, Ny151.out]; exact HP23.1); clear HP23; have n0_ := Aside0.mk (Kd.R_after (v := (.slice (some ⟨go20, 0, none⟩) y146.length co20)) (v1 := (.slice (some ⟨go20, 0, none⟩) y146.length co20)) (ok := (fun _ => True)) (by (with_reducible repeat (first | apply Kd.R_alloc | apply Kd.R_drewN | apply Kd.R_drew)); exact Kd.R_mono HO_5.out (fun _ hk => ⟨trivial, hk⟩)) hg (.inl rfl)); have n1_ := Aside0.mk (hp_); have n2_ := Aside0.mk ((by rw [hw]; exact below_set (HB.out) GB20.out : Below w.heap.size w w24)); clear HO_5; clear HO_6; clear HB; have HO_5 := n0_; have HO_6 := n1_; have HB := n2_; clear n0_ n1_ n2_; clear hg hw hp_) | ((with_reducible refine gate_dst (N := 36) rfl ?_); refine Kd.R_lit (Kd.int .i64) _ 3 ?hg (N := 36) ?hd (xs := ([a1] : List Int)) (inner := [.int .i64 a1]) (ok := fun _ => True) (okp := fun _ => True) ?hr ?hp (fun _ hk => hk) trivial (Below.refl _ _) (Nat.le_refl _) (by simp) ?_; (case hd => rfl); (case hg => rfl); (case hr => first | (go_simp; done) | (go_simp; rfl)); (case hp => exact (Reps.one (show Kd.M (Kd.int .i64) _ _ _ a1 [.int .i64 a1] from rfl) (Reps.none _ _))); intro v153 w25 ho26 hb hg_ hnew_; clear hg_ hnew_; (first | rw [← Ny152.out] at ho26 | (simp only [Int.reduceToNat] at ho26; rw [← Ny152.out] at ho26)); have n0_ := Aside0.mk (Kd.R_elder' (by (with_reducible repeat (first | apply Kd.R_alloc | apply Kd.R_drewN | apply Kd.R_drew)); exact HO_5.out) (Kd.R_base ho26) hb); have n1_ := Aside0.mk (Kd.R_elder' (by (with_reducible repeat (first | apply Kd.R_alloc | apply Kd.R_drewN | apply Kd.R_drew)); exact HO_6.out) (Kd.R_base ho26) hb); have n2_ := Aside0.mk (Kd.R_lower (Kd.R_new' (Kd.R_new' ho26 (Kd.R_lt (by (with_reducible repeat (first | apply Kd.R_alloc | apply Kd.R_drewN | apply Kd.R_drew)); exact HO_5.out))) (Kd.R_lt (by (with_reducible repeat (first | apply Kd.R_alloc | apply Kd.R_drewN | apply Kd.R_drew)); exact HO_6.out))) (below_size (by repeat (first | (with_reducible first | exact HB.out | apply below_alloc | apply pw_below_drewN | apply below_drew1) | exact HB.out)))); have n3_ := Aside0.mk (below_step (by repeat (first | (with_reducible first | exact HB.out | apply below_alloc | apply pw_below_drewN | apply below_drew1) | exact HB.out)) hb); clear HO_5; clear HO_6; clear HB; have HO_5 := n0_; have HO_6 := n1_; have HO154 := n2_; have HB := n3_; clear n0_ n1_ n2_ n3_; clear hb ho26)))
         go_loopg [8, 9, 10] k1 (fun kq v8 v9 v10 w' => ∃ (x5_2 : List Int) (x6_2 : List Int) (x8_2 : List Int) (x9_2 : Int) (x10_2 : Int), v9 = .int .i64 x9_2 ∧ v10 = .int .i64 x10_2 ∧ Aside0 (peel_around.l1 kq l0 x5_2 x6_2 x8_2 x9_2 x10_2 = some r) ∧ Aside0 (kq ≤ k1) ∧ Aside0 (Kd.R (Kd.int .i64) 3 w' w.heap.size (fun k_ => some k_ ≠ ((.slice (some ⟨go20, 0, none⟩) y146.length co20) : Value).ownBlock ∧ some k_ ≠ (v8 : Value).ownBlock) (.slice (some ⟨go18, 0, none⟩) x5_1.length co9) x5_2) ∧ Aside0 (Kd.R (Kd.int .i64) 3 w' w.heap.size (fun k_ => some k_ ≠ ((.slice (some ⟨go18, 0, none⟩) x5_1.length co9) : Value).ownBlock ∧ some k_ ≠ (v8 : Value).ownBlock) (.slice (some ⟨go20, 0, none⟩) y146.length co20) x6_2) ∧ Aside0 (Kd.R (Kd.int .i64) 3 w' w.heap.size (fun k_ => some k_ ≠ ((.slice (some ⟨go18, 0, none⟩) x5_1.length co9) : Value).ownBlock ∧ some k_ ≠ ((.slice (some ⟨go20, 0, none⟩) y146.length co20) : Value).ownBlock) v8 x8_2) ∧ Aside0 (Below w.heap.size w w'))
         case atStart => exact ⟨(y150), (y151), (y152), (0), (0), (by first | rfl | (simp; done) | (simp [*]; done)), (by first | rfl | (simp; done) | (simp [*]; done)), H', ⟨Nat.le_refl _⟩, ⟨by (try simp only [hl5_1]); (with_reducible repeat (first | apply Kd.R_alloc | apply Kd.R_drewN | apply Kd.R_drew)); exact Kd.R_mono HO_5.out (fun _ hk => ⟨hk.1.2, hk.2⟩)⟩, ⟨by (try simp only [hl5_1]); (with_reducible repeat (first | apply Kd.R_alloc | apply Kd.R_drewN | apply Kd.R_drew)); exact HO_6.out⟩, ⟨by (try simp only [hl5_1]); (with_reducible repeat (first | apply Kd.R_alloc | apply Kd.R_drewN | apply Kd.R_drew)); exact Kd.R_mono HO154.out (fun _ hk => ⟨hk.1.2, hk.2⟩)⟩, ⟨by repeat (first | (with_reducible first | exact HB.out | apply below_alloc | apply pw_below_drewN | apply below_drew1) | exact HB.out)⟩⟩
         case round =>
          clear H'
          try clear c1
          try clear p1
          try clear q1
          try clear hx1
          try clear p2
          try clear q2
          try clear hx2
          try clear hf2
          try clear c3
          try clear c3b0
          try clear c3b1
          try clear c4
          try clear c4b0
          try clear c4b1
          try clear p6
          try clear c10
          try clear c10b0
          try clear c11
          try clear c11b0
          try clear c12
          try clear c12b0
          try clear p13
          try clear q13
          try clear hx13
          try clear hf13
          try clear c16
          try clear c16b0
          try clear c17
          try clear c17b0
          try clear p18
          try clear q18
          try clear hx18
          try clear hf18
          try clear c19
          try clear c19b0
          try clear p20
          try clear q20
          try clear hx20
          try clear hf20
          try clear hx13_0
          try clear hx18_0
          try clear hx20_0
          try clear p13
          try clear p18
          try clear p2
          try clear p20
          try clear q13
          try clear q18
          try clear q20
          obtain ⟨x5_2, x6_2, x8_2, x9_2, x10_2, rfl, rfl, HA, HK2, HO_5, HO_6, HO_8, HB⟩ := hrel
          have hl5_2 := (Kd.R_reads' HO_5.out).1
          rw [hl5_2] at HO_5
          (try simp only [hl5_2])
          (try simp only [hl5_2] at HO_6)
          (try simp only [hl5_2] at HO_8)
          have hl6_2 := (Kd.R_reads' HO_6.out).1
          rw [hl6_2] at HO_6
          (try simp only [hl6_2])
          (try simp only [hl6_2] at HO_5)
          (try simp only [hl6_2] at HO_8)
          cases gk with
          | zero => exact absurd HA.out (by simp [peel_around.l1])
          | succ k2 =>
           have H := HA.out
           clear HA
           simp only [peel_around.l1] at H
           by_cases c27 : x10_2 < (x8_2.length : Int)
           ·rw [if_pos c27] at H
            have c27b0 : decide (x10_2 < (x8_2.length : Int)) = true := decide_eq_true c27
            clear c27
            by_cases c28 : 0 ≤ x10_2
            ·rw [if_pos c28] at H
             have c28b0 : decide (0 ≤ x10_2) = true := decide_eq_true c28
             clear c28
             by_cases c29 : 0 ≤ (rd x8_2 x10_2)
             ·rw [if_pos c29] at H
              have c29b0 : decide (0 ≤ (rd x8_2 x10_2)) = true := decide_eq_true c29
              clear c29
              by_cases c30 : (rd x8_2 x10_2) < (l0.length : Int)
              ·rw [if_pos c30] at H
               have c30b0 : decide ((rd x8_2 x10_2) < (l0.length : Int)) = true := decide_eq_true c30
               clear c30
               have H' := Aside0.mk H
               clear H
               obtain ⟨Ao31, co31, eo31⟩ := Kd.R_slice HO_8.out
               subst eo31
               have p155 : 0 ≤ (x10_2 : Int) := of_decide_eq_true (by first | (with_reducible assumption) | assumption)
               have q155 : x10_2 < (x8_2.length : Int) := of_decide_eq_true (by first | (with_reducible assumption) | assumption)
               obtain ⟨ad155, e155, hx155_0⟩ := Kd.at_int (Kd.R_reads' HO_8.out).2.2 x10_2 p155 q155
               cases e155
               replace p155 := eq_true p155
               replace q155 := eq_true q155
               have p156 : 0 ≤ ((rd x8_2 x10_2) : Int) := of_decide_eq_true (by first | (with_reducible assumption) | assumption)
               have q156 : (rd x8_2 x10_2) < (l0.length : Int) := of_decide_eq_true (by first | (with_reducible assumption) | assumption)
               obtain ⟨ad156, A156_0, c156_0, e156, hx156_0, hl156_0, hi156_0⟩ := at_L2 HR0.out (rd x8_2 x10_2) p156 q156
               cases e156
               replace hx156_0 := (HB.out.cell (World.block_lt_of_cell? w _ hx156_0)).trans hx156_0
               have HR156_0 := Aside0.mk hi156_0
               have HC156_0 := Aside0.mk hl156_0
               clear hi156_0 hl156_0
               replace p156 := eq_true p156
               replace q156 := eq_true q156
               go_wp2
               repeat (go_quiet (fail); try go_wp2)
               go_loopg [8, 9, 52] k2 (fun kq v8 v9 v52 w' => ∃ (x5_3 : List Int) (x6_3 : List Int) (x8_3 : List Int) (x9_3 : Int) (x52_3 : Int), v9 = .int .i64 x9_3 ∧ v52 = .int .i64 x52_3 ∧ Aside0 (peel_around.l2 kq l0 x5_3 x6_3 x8_3 x9_3 x10_2 (rd x8_2 x10_2) (rd_L2 l0 (rd x8_2 x10_2)) ((rd_L2 l0 (rd x8_2 x10_2)).length : Int) x52_3 = some r) ∧ Aside0 (kq ≤ k2) ∧ Aside0 (Kd.R (Kd.int .i64) 3 w' w.heap.size (fun k_ => some k_ ≠ ((.slice (some ⟨go20, 0, none⟩) x6_2.length co20) : Value).ownBlock ∧ some k_ ≠ (v8 : Value).ownBlock) (.slice (some ⟨go18, 0, none⟩) x5_2.length co9) x5_3) ∧ Aside0 (Kd.R (Kd.int .i64) 3 w' w.heap.size (fun k_ => some k_ ≠ ((.slice (some ⟨go18, 0, none⟩) x5_2.length co9) : Value).ownBlock ∧ some k_ ≠ (v8 : Value).ownBlock) (.slice (some ⟨go20, 0, none⟩) x6_2.length co20) x6_3) ∧ Aside0 (Kd.R (Kd.int .i64) 3 w' w.heap.size (fun k_ => some k_ ≠ ((.slice (some ⟨go18, 0, none⟩) x5_2.length co9) : Value).ownBlock ∧ some k_ ≠ ((.slice (some ⟨go20, 0, none⟩) x6_2.length co20) : Value).ownBlock) v8 x8_3) ∧ Aside0 (Below w.heap.size w w'))
               case atStart => exact ⟨(x5_2), (x6_2), (x8_2), (x9_2), (0), (by first | rfl | (simp; done) | (simp [*]; done)), (by first | rfl | (simp; done) | (simp [*]; done)), H', ⟨Nat.le_refl _⟩, ⟨by (try simp only [hl5_1]); (try simp only [hl5_2]); (try simp only [hl6_2]); (with_reducible repeat (first | apply Kd.R_alloc | apply Kd.R_drewN | apply Kd.R_drew)); exact HO_5.out⟩, ⟨by (try simp only [hl5_1]); (try simp only [hl5_2]); (try simp only [hl6_2]); (with_reducible repeat (first | apply Kd.R_alloc | apply Kd.R_drewN | apply Kd.R_drew)); exact HO_6.out⟩, ⟨by (try simp only [hl5_1]); (try simp only [hl5_2]); (try simp only [hl6_2]); (with_reducible repeat (first | apply Kd.R_alloc | apply Kd.R_drewN | apply Kd.R_drew)); exact HO_8.out⟩, ⟨by repeat (first | (with_reducible first | exact HB.out | apply below_alloc | apply pw_below_drewN | apply below_drew1) | exact HB.out)⟩⟩
               case round =>
                clear H'
                try clear c1
                try clear p1
                try clear q1
                try clear hx1
                try clear c2
                try clear p2
                try clear q2
                try clear hx2
                try clear hf2
                try clear c3
                try clear c3b0
                try clear c3b1
                try clear c4
                try clear c4b0
                try clear c4b1
                try clear p6
                try clear c10
                try clear c10b0
                try clear c11
                try clear c11b0
                try clear c12
                try clear c12b0
                try clear p13
                try clear q13
                try clear hx13
                try clear hf13
                try clear c15
                try clear p15
                try clear q15
                try clear hx15
                try clear c16
                try clear c16b0
                try clear c17
                try clear c17b0
                try clear p18
                try clear q18
                try clear hx18
                try clear hf18
                try clear c19
                try clear c19b0
                try clear p20
                try clear q20
                try clear hx20
                try clear hf20
                try clear c27
                try clear c27b0
                try clear c28
                try clear c28b0
                try clear c29
                try clear c29b0
                try clear c30
                try clear c30b0
                try clear hx13_0
                try clear hx155_0
                try clear hx156_0
                try clear hx18_0
                try clear hx20_0
                try clear p1
                try clear p13
                try clear p155
                try clear p156
                try clear p18
                try clear p2
                try clear p20
                try clear p6
                try clear q1
                try clear q13
                try clear q155
                try clear q156
                try clear q18
                try clear q2
                try clear q20
                obtain ⟨x5_3, x6_3, x8_3, x9_3, x52_3, rfl, rfl, HA, HK3, HO_5, HO_6, HO_8, HB⟩ := hrel
                have hl5_3 := (Kd.R_reads' HO_5.out).1
                rw [hl5_3] at HO_5
                (try simp only [hl5_3])
                (try simp only [hl5_3] at HO_6)
                (try simp only [hl5_3] at HO_8)
                have hl6_3 := (Kd.R_reads' HO_6.out).1
                rw [hl6_3] at HO_6
                (try simp only [hl6_3])
                (try simp only [hl6_3] at HO_5)
                (try simp only [hl6_3] at HO_8)
                cases gk with
                | zero => exact absurd HA.out (by simp [peel_around.l2])
                | succ k3 =>
                 have H := HA.out
                 clear HA
                 simp only [peel_around.l2] at H
                 by_cases c32 : x52_3 < ((rd_L2 l0 (rd x8_2 x10_2)).length : Int)
                 ·rw [if_pos c32] at H
                  have c32b0 : decide (x52_3 < ((rd_L2 l0 (rd x8_2 x10_2)).length : Int)) = true := decide_eq_true c32
                  clear c32
                  by_cases c33 : 0 ≤ x52_3
                  ·rw [if_pos c33] at H
                   have c33b0 : decide (0 ≤ x52_3) = true := decide_eq_true c33
                   clear c33
                   by_cases c34 : x52_3 < ((rd_L2 l0 (rd x8_2 x10_2)).length : Int)
                   ·rw [if_pos c34] at H
                    have c34b0 : decide (x52_3 < ((rd_L2 l0 (rd x8_2 x10_2)).length : Int)) = true := decide_eq_true c34
                    clear c34
                    by_cases c35 : 0 ≤ (rd (rd_L2 l0 (rd x8_2 x10_2)) x52_3)
                    ·rw [if_pos c35] at H
                     have c35b0 : decide (0 ≤ (rd (rd_L2 l0 (rd x8_2 x10_2)) x52_3)) = true := decide_eq_true c35
                     clear c35
                     by_cases c36 : (rd (rd_L2 l0 (rd x8_2 x10_2)) x52_3) < (x5_3.length : Int)
                     ·rw [if_pos c36] at H
                      have c36b0 : decide ((rd (rd_L2 l0 (rd x8_2 x10_2)) x52_3) < (x5_3.length : Int)) = true := decide_eq_true c36
                      clear c36
                      by_cases c37 : (rd x5_3 (rd (rd_L2 l0 (rd x8_2 x10_2)) x52_3)) < 0
                      ·rw [if_pos c37] at H
                       have c37b0 : decide ((rd x5_3 (rd (rd_L2 l0 (rd x8_2 x10_2)) x52_3)) < 0) = true := decide_eq_true c37
                       clear c37
                       by_cases c38 : 0 ≤ (rd x8_2 x10_2)
                       ·rw [if_pos c38] at H
                        have c38b0 : decide (0 ≤ (rd x8_2 x10_2)) = true := decide_eq_true c38
                        clear c38
                        by_cases c39 : (rd x8_2 x10_2) < (x5_3.length : Int)
                        ·rw [if_pos c39] at H
                         have c39b0 : decide ((rd x8_2 x10_2) < (x5_3.length : Int)) = true := decide_eq_true c39
                         clear c39
                         obtain ⟨y160, hy160⟩ : ∃ y_ : List Int, y_ = (x5_3.set ((rd (rd_L2 l0 (rd x8_2 x10_2)) x52_3) : Int).toNat (wrap64 ((rd x5_3 (rd x8_2 x10_2)) + 1))) := ⟨_, rfl⟩
                         replace H : (if (rd (rd_L2 l0 (rd x8_2 x10_2)) x52_3) < (x6_3.length : Int) then (if x8_3.length < 17592186044416 then (peel_around.l2 k3 l0 y160 (x6_3.set ((rd (rd_L2 l0 (rd x8_2 x10_2)) x52_3) : Int).toNat (rd x8_2 x10_2)) (x8_3 ++ [rd (rd_L2 l0 (rd x8_2 x10_2)) x52_3]) x9_3 x10_2 (rd x8_2 x10_2) (rd_L2 l0 (rd x8_2 x10_2)) ((rd_L2 l0 (rd x8_2 x10_2)).length : Int) (wrap64 (x52_3 + 1))) else (none)) else (none)) = some r := by first | (rw [hy160]; with_reducible exact H) | (have H2_ := (Option.bind_some _ _).symm.trans H; rw [hy160]; with_reducible exact H2_) | (have H2_ := (Option.bind_some _ _).symm.trans H; with_reducible exact H2_) | with_reducible exact H | (rw [hy160]; exact H) | exact H
                         have Ny160 := Aside0.mk hy160
                         clear hy160
                         by_cases c41 : (rd (rd_L2 l0 (rd x8_2 x10_2)) x52_3) < (x6_3.length : Int)
                         ·rw [if_pos c41] at H
                          have c41b0 : decide ((rd (rd_L2 l0 (rd x8_2 x10_2)) x52_3) < (x6_3.length : Int)) = true := decide_eq_true c41
                          clear c41
                          obtain ⟨y161, hy161⟩ : ∃ y_ : List Int, y_ = (x6_3.set ((rd (rd_L2 l0 (rd x8_2 x10_2)) x52_3) : Int).toNat (rd x8_2 x10_2)) := ⟨_, rfl⟩
                          replace H : (if x8_3.length < 17592186044416 then (peel_around.l2 k3 l0 y160 y161 (x8_3 ++ [rd (rd_L2 l0 (rd x8_2 x10_2)) x52_3]) x9_3 x10_2 (rd x8_2 x10_2) (rd_L2 l0 (rd x8_2 x10_2)) ((rd_L2 l0 (rd x8_2 x10_2)).length : Int) (wrap64 (x52_3 + 1))) else (none)) = some r := by first | (rw [hy161]; with_reducible exact H) | (have H2_ := (Option.bind_some _ _).symm.trans H; rw [hy161]; with_reducible exact H2_) | (have H2_ := (Option.bind_some _ _).symm.trans H; with_reducible exact H2_) | with_reducible exact H | (rw [hy161]; exact H) | exact H
                          have Ny161 := Aside0.mk hy161
                          clear hy161
                          by_cases c43 : x8_3.length < 17592186044416
                          ·rw [if_pos c43] at H
                           have LMc43 := Aside0.mk c43
                           clear c43
                           obtain ⟨y162, hy162⟩ : ∃ y_ : List Int, y_ = (x8_3 ++ [rd (rd_L2 l0 (rd x8_2 x10_2)) x52_3]) := ⟨_, rfl⟩
                           replace H : (peel_around.l2 k3 l0 y160 y161 y162 x9_3 x10_2 (rd x8_2 x10_2) (rd_L2 l0 (rd x8_2 x10_2)) ((rd_L2 l0 (rd x8_2 x10_2)).length : Int) (wrap64 (x52_3 + 1))) = some r := by first | (rw [hy162]; with_reducible exact H) | (have H2_ := (Option.bind_some _ _).symm.trans H; rw [hy162]; with_reducible exact H2_) | (have H2_ := (Option.bind_some _ _).symm.trans H; with_reducible exact H2_) | with_reducible exact H | (rw [hy162]; exact H) | exact H
                           have Ny162 := Aside0.mk hy162
                           clear hy162
                           have H' := Aside0.mk H
                           clear H
                           have p157 : 0 ≤ (x52_3 : Int) := of_decide_eq_true (by first | (with_reducible assumption) | assumption)
                           have q157 : x52_3 < ((rd_L2 l0 (rd x8_2 x10_2)).length : Int) := of_decide_eq_true (by first | (with_reducible assumption) | assumption)
                           obtain ⟨ad157, e157, hx157_0⟩ := Kd.at_int HR156_0.out x52_3 p157 q157
                           cases e157
                           replace hx157_0 := (HB.out.cell (World.block_lt_of_cell? w _ hx157_0)).trans hx157_0
                           replace p157 := eq_true p157
                           replace q157 := eq_true q157
                           have p158 : 0 ≤ ((rd (rd_L2 l0 (rd x8_2 x10_2)) x52_3) : Int) := of_decide_eq_true (by first | (with_reducible assumption) | assumption)
                           have q158 : (rd (rd_L2 l0 (rd x8_2 x10_2)) x52_3) < (x5_3.length : Int) := of_decide_eq_true (by first | (with_reducible assumption) | assumption)
                           obtain ⟨ad158, e158, hx158_0⟩ := Kd.at_int (Kd.R_reads' HO_5.out).2.2 (rd (rd_L2 l0 (rd x8_2 x10_2)) x52_3) p158 q158
                           obtain rfl : (⟨go18, 0, none⟩ : Addr) = ad158 := (by injection e158)
                           (first | simp only [add_plain] at hx158_0 | simp only [add_at] at hx158_0 | simp only [Addr.add, Nat.zero_add] at hx158_0 | skip)
                           replace p158 := eq_true p158
                           replace q158 := eq_true q158
                           have p159 : 0 ≤ ((rd x8_2 x10_2) : Int) := of_decide_eq_true (by first | (with_reducible assumption) | assumption)
                           have q159 : (rd x8_2 x10_2) < (x5_3.length : Int) := of_decide_eq_true (by first | (with_reducible assumption) | assumption)
                           obtain ⟨ad159, e159, hx159_0⟩ := Kd.at_int (Kd.R_reads' HO_5.out).2.2 (rd x8_2 x10_2) p159 q159
                           obtain rfl : (⟨go18, 0, none⟩ : Addr) = ad159 := (by injection e159)
                           (first | simp only [add_plain] at hx159_0 | simp only [add_at] at hx159_0 | simp only [Addr.add, Nat.zero_add] at hx159_0 | skip)
                           replace p159 := eq_true p159
                           replace q159 := eq_true q159
                           have p40 : 0 ≤ ((rd (rd_L2 l0 (rd x8_2 x10_2)) x52_3) : Int) := of_decide_eq_true (by first | (with_reducible assumption) | assumption)
                           have q40 : ((rd (rd_L2 l0 (rd x8_2 x10_2)) x52_3) : Int) < ((x5_3.length : Int) : Int) := of_decide_eq_true (by first | (with_reducible assumption) | assumption)
                           obtain ⟨hx40_0, hf40_0⟩ := Kd.R_celln 0 HO_5.out ((rd (rd_L2 l0 (rd x8_2 x10_2)) x52_3) : Int) p40 q40
                           replace p40 := eq_true p40
                           replace q40 := eq_true q40
                           have HP44 := Kd.R_putg HO_5.out ((rd (rd_L2 l0 (rd x8_2 x10_2)) x52_3) : Int) (wrap64 ((rd x5_3 (rd x8_2 x10_2)) + 1))
                           go_wp2_with (first | ((with_reducible refine gate_store (t := 3) (p := 72) rfl ?_); (try (rw [drewN_self wr]; generalize hq_ : World.drewN wr _ = wr; have n0_ := Aside0.mk (Kd.R_at hq_ HO_5.out); have n1_ := Aside0.mk (Kd.R_at hq_ HO_6.out); have n2_ := Aside0.mk (Kd.R_at hq_ HO_8.out); have n3_ := Aside0.mk (below_at hq_ HB.out); clear hq_ HO_5 HO_6 HO_8 HB; have HO_5 := n0_; have HO_6 := n1_; have HO_8 := n2_; have HB := n3_; clear n0_ n1_ n2_ n3_; (try (have HP44 := Kd.R_putg HO_5.out ((rd (rd_L2 l0 (rd x8_2 x10_2)) x52_3) : Int) (wrap64 ((rd x5_3 (rd x8_2 x10_2)) + 1)))))); refine store_event (t := 3) (p := 72) (v := ?vo_w45) (w1 := (wr.setCell ⟨go18, ((rd (rd_L2 l0 (rd x8_2 x10_2)) x52_3) : Int).toNat, none⟩ (.int .i64 (wrap64 ((rd x5_3 (rd x8_2 x10_2)) + 1))))) ?hg ?ho ?hn ?hr ?_; (case ho => rfl); (case hg => rfl); (case hn => rfl); (case hr => first | (go_simp; done) | (go_simp; rfl)); intro w45 hw; have hg : wr.grownBy w45 (some go18) := (by rw [hw]; exact HP44.2); have hp_ : Kd.R (Kd.int .i64) 3 w45 w.heap.size (fun k_ => some k_ ≠ (.slice (some ⟨go20, 0, none⟩) x6_3.length co20 : Value).ownBlock ∧ some k_ ≠ (u8 : Value).ownBlock) (.slice (some ⟨go18, 0, none⟩) x5_3.length co9) y160 := (by rw [hw, Ny160.out]; exact HP44.1); clear HP44; have n0_ := Aside0.mk (hp_); have n1_ := Aside0.mk (Kd.R_after (v := (.slice (some ⟨go18, 0, none⟩) x5_3.length co9)) (v1 := (.slice (some ⟨go18, 0, none⟩) x5_3.length co9)) (ok := (fun k_ => some k_ ≠ (u8 : Value).ownBlock)) (by (with_reducible repeat (first | apply Kd.R_alloc | apply Kd.R_drewN | apply Kd.R_drew)); exact Kd.R_mono HO_6.out (fun _ hk => ⟨hk.2, hk.1⟩)) hg (.inl rfl)); have n2_ := Aside0.mk (Kd.R_after (v := (.slice (some ⟨go18, 0, none⟩) x5_3.length co9)) (v1 := (.slice (some ⟨go18, 0, none⟩) x5_3.length co9)) (ok := (fun k_ => some k_ ≠ (.slice (some ⟨go20, 0, none⟩) x6_3.length co20 : Value).ownBlock)) (by (with_reducible repeat (first | apply Kd.R_alloc | apply Kd.R_drewN | apply Kd.R_drew)); exact Kd.R_mono HO_8.out (fun _ hk => ⟨hk.2, hk.1⟩)) hg (.inl rfl)); have n3_ := Aside0.mk ((by rw [hw]; exact below_set (HB.out) GB18.out : Below w.heap.size w w45)); clear HO_5; clear HO_6; clear HO_8; clear HB; have HO_5 := n0_; have HO_6 := n1_; have HO_8 := n2_; have HB := n3_; clear n0_ n1_ n2_ n3_; clear hg hw hp_; have p42 : 0 ≤ ((rd (rd_L2 l0 (rd x8_2 x10_2)) x52_3) : Int) := of_decide_eq_true (by first | (with_reducible assumption) | assumption); have q42 : ((rd (rd_L2 l0 (rd x8_2 x10_2)) x52_3) : Int) < ((x6_3.length : Int) : Int) := of_decide_eq_true (by first | (with_reducible assumption) | assumption); obtain ⟨hx42_0, hf42_0⟩ := Kd.R_celln 0 HO_6.out ((rd (rd_L2 l0 (rd x8_2 x10_2)) x52_3) : Int) p42 q42; replace p42 := eq_true p42; replace q42 := eq_true q42; obtain ⟨hy46_, hz46_⟩ := Kd.R_celln 0 HO_6.out ((rd (rd_L2 l0 (rd x8_2 x10_2)) x52_3) : Int) (of_decide_eq_true (by first | (with_reducible assumption) | assumption)) (of_decide_eq_true (by first | (with_reducible assumption) | assumption)); have HP46 := Kd.R_putg HO_6.out ((rd (rd_L2 l0 (rd x8_2 x10_2)) x52_3) : Int) (rd x8_2 x10_2)) | ((with_reducible refine gate_store (t := 3) (p := 73) rfl ?_); (try (rw [drewN_self w45]; generalize hq_ : World.drewN w45 _ = w45; have n0_ := Aside0.mk (Kd.R_at hq_ HO_5.out); have n1_ := Aside0.mk (Kd.R_at hq_ HO_6.out); have n2_ := Aside0.mk (Kd.R_at hq_ HO_8.out); have n3_ := Aside0.mk (below_at hq_ HB.out); clear hq_ HO_5 HO_6 HO_8 HB; have HO_5 := n0_; have HO_6 := n1_; have HO_8 := n2_; have HB := n3_; clear n0_ n1_ n2_ n3_; (try (obtain ⟨hy46_, hz46_⟩ := Kd.R_celln 0 HO_6.out ((rd (rd_L2 l0 (rd x8_2 x10_2)) x52_3) : Int) (of_decide_eq_true (by first | (with_reducible assumption) | assumption)) (of_decide_eq_true (by first | (with_reducible assumption) | assumption)))); (try (have HP46 := Kd.R_putg HO_6.out ((rd (rd_L2 l0 (rd x8_2 x10_2)) x52_3) : Int) (rd x8_2 x10_2))))); refine store_event (t := 3) (p := 73) (v := ?vo_w47) (w1 := (w45.setCell ⟨go20, ((rd (rd_L2 l0 (rd x8_2 x10_2)) x52_3) : Int).toNat, none⟩ (.int .i64 (rd x8_2 x10_2)))) ?hg ?ho ?hn ?hr ?_; (case ho => rfl); (case hg => rfl); (case hn => rfl); (case hr => first | (go_simp; done) | (go_simp; rfl)); intro w47 hw; have hg : w45.grownBy w47 (some go20) := (by rw [hw]; exact HP46.2); have hp_ : Kd.R (Kd.int .i64) 3 w47 w.heap.size (fun k_ => some k_ ≠ (u8 : Value).ownBlock ∧ some k_ ≠ (.slice (some ⟨go18, 0, none⟩) x5_3.length co9 : Value).ownBlock) (.slice (some ⟨go20, 0, none⟩) x6_3.length co20) y161 := (by rw [hw, Ny161.out]; exact HP46.1); clear HP46; have n0_ := Aside0.mk (Kd.R_after (v := (.slice (some ⟨go20, 0, none⟩) x6_3.length co20)) (v1 := (.slice (some ⟨go20, 0, none⟩) x6_3.length co20)) (ok := (fun k_ => some k_ ≠ (u8 : Value).ownBlock)) (by (with_reducible repeat (first | apply Kd.R_alloc | apply Kd.R_drewN | apply Kd.R_drew)); exact Kd.R_mono HO_5.out (fun _ hk => ⟨hk.2, hk.1⟩)) hg (.inl rfl)); have n1_ := Aside0.mk (hp_); have n2_ := Aside0.mk (Kd.R_after (v := (.slice (some ⟨go20, 0, none⟩) x6_3.length co20)) (v1 := (.slice (some ⟨go20, 0, none⟩) x6_3.length co20)) (ok := (fun k_ => some k_ ≠ (.slice (some ⟨go18, 0, none⟩) x5_3.length co9 : Value).ownBlock)) (by (with_reducible repeat (first | apply Kd.R_alloc | apply Kd.R_drewN | apply Kd.R_drew)); exact Kd.R_mono HO_8.out (fun _ hk => ⟨hk.2, hk.1⟩)) hg (.inl rfl)); have n3_ := Aside0.mk ((by rw [hw]; exact below_set (HB.out) GB20.out : Below w.heap.size w w47)); clear HO_5; clear HO_6; clear HO_8; clear HB; have HO_5 := n0_; have HO_6 := n1_; have HO_8 := n2_; have HB := n3_; clear n0_ n1_ n2_ n3_; clear hg hw hp_) | ((with_reducible refine gate_builtin (b := .append) (xs := #[.tmp 74, .tmp 76]) rfl ?_); at_builtin; refine Kd.R_append (Kd.int .i64) (w0 := w) w.heap.size rfl (.tmp 74) (.tmp 76) 22 3 (.int .i64 0) 8 rfl Try.underlying22 info3 rfl (by decide) (by omega) u8 x8_3 (rd (rd_L2 l0 (rd x8_2 x10_2)) x52_3) [.int .i64 (rd (rd_L2 l0 (rd x8_2 x10_2)) x52_3)] (fun k_ => some k_ ≠ (.slice (some ⟨go18, 0, none⟩) x5_3.length co9 : Value).ownBlock ∧ some k_ ≠ (.slice (some ⟨go20, 0, none⟩) x6_3.length co20 : Value).ownBlock) (fun _ => False) rfl rfl ?aP (fun _ hk => hk.elim) ?aF ?aO ?aB ?aS ?aL ?_; (case aP => exact rfl); (case aB => exact (by repeat (first | (with_reducible first | exact HB.out | apply below_alloc | apply pw_below_drewN | apply below_drew1) | exact HB.out))); (case aF => exact (fun k_ hk => ⟨Kd.fresh' (Kd.R_lt (by (with_reducible repeat (first | apply Kd.R_alloc | apply Kd.R_drewN | apply Kd.R_drew)); exact HO_5.out)) k_ hk, Kd.fresh' (Kd.R_lt (by (with_reducible repeat (first | apply Kd.R_alloc | apply Kd.R_drewN | apply Kd.R_drew)); exact HO_6.out)) k_ hk⟩)); (case aO => exact (by (with_reducible repeat (first | apply Kd.R_alloc | apply Kd.R_drewN | apply Kd.R_drew)); exact HO_8.out)); (case aS => exact (below_size (by repeat (first | (with_reducible first | exact HB.out | apply below_alloc | apply pw_below_drewN | apply below_drew1) | exact HB.out)))); (case aL => have := LMc43.out; omega); intro v163 w48 ho hb hg hat; rw [← Ny162.out] at ho; have n0_ := Aside0.mk (Kd.R_after (ok := (fun k_ => some k_ ≠ (.slice (some ⟨go20, 0, none⟩) x6_3.length co20 : Value).ownBlock)) (by (with_reducible repeat (first | apply Kd.R_alloc | apply Kd.R_drewN | apply Kd.R_drew)); exact Kd.R_mono HO_5.out (fun _ hk => ⟨hk.2, hk.1⟩)) hg hat); have n1_ := Aside0.mk (Kd.R_after (ok := (fun k_ => some k_ ≠ (.slice (some ⟨go18, 0, none⟩) x5_3.length co9 : Value).ownBlock)) (by (with_reducible repeat (first | apply Kd.R_alloc | apply Kd.R_drewN | apply Kd.R_drew)); exact Kd.R_mono HO_6.out (fun _ hk => ⟨hk.2, hk.1⟩)) hg hat); have n2_ := Aside0.mk (hb); have n3_ := Aside0.mk (ho); clear HO_5; clear HO_6; clear HB; clear HO_8; have HO_5 := n0_; have HO_6 := n1_; have HB := n2_; have HO164 := n3_; clear n0_ n1_ n2_ n3_; clear ho hb hg hat))
                           repeat (go_quiet (first | ((with_reducible refine gate_store (t := 3) (p := 72) rfl ?_); (try (rw [drewN_self wr]; generalize hq_ : World.drewN wr _ = wr; have n0_ := Aside0.mk (Kd.R_at hq_ HO_5.out); have n1_ := Aside0.mk (Kd.R_at hq_ HO_6.out); have n2_ := Aside0.mk (Kd.R_at hq_ HO_8.out); have n3_ := Aside0.mk (below_at hq_ HB.out); clear hq_ HO_5 HO_6 HO_8 HB; have HO_5 := n0_; have HO_6 := n1_; have HO_8 := n2_; have HB := n3_; clear n0_ n1_ n2_ n3_; (try (have HP44 := Kd.R_putg HO_5.out ((rd (rd_L2 l0 (rd x8_2 x10_2)) x52_3) : Int) (wrap64 ((rd x5_3 (rd x8_2 x10_2)) + 1)))))); refine store_event (t := 3) (p := 72) (v := ?vo_w45) (w1 := (wr.setCell ⟨go18, ((rd (rd_L2 l0 (rd x8_2 x10_2)) x52_3) : Int).toNat, none⟩ (.int .i64 (wrap64 ((rd x5_3 (rd x8_2 x10_2)) + 1))))) ?hg ?ho ?hn ?hr ?_; (case ho => rfl); (case hg => rfl); (case hn => rfl); (case hr => first | (go_simp; done) | (go_simp; rfl)); intro w45 hw; have hg : wr.grownBy w45 (some go18) := (by rw [hw]; exact HP44.2); have hp_ : Kd.R (Kd.int .i64) 3 w45 w.heap.size (fun k_ => some k_ ≠ (.slice (some ⟨go20, 0, none⟩) x6_3.length co20 : Value).ownBlock ∧ some k_ ≠ (u8 : Value).ownBlock) (.slice (some ⟨go18, 0, none⟩) x5_3.length co9) y160 := (by rw [hw, Ny160.out]; exact HP44.1); clear HP44; have n0_ := Aside0.mk (hp_); have n1_ := Aside0.mk (Kd.R_after (v := (.slice (some ⟨go18, 0, none⟩) x5_3.length co9)) (v1 := (.slice (some ⟨go18, 0, none⟩) x5_3.length co9)) (ok := (fun k_ => some k_ ≠ (u8 : Value).ownBlock)) (by (with_reducible repeat (first | apply Kd.R_alloc | apply Kd.R_drewN | apply Kd.R_drew)); exact Kd.R_mono HO_6.out (fun _ hk => ⟨hk.2, hk.1⟩)) hg (.inl rfl)); have n2_ := Aside0.mk (Kd.R_after (v := (.slice (some ⟨go18, 0, none⟩) x5_3.length co9)) (v1 := (.slice (some ⟨go18, 0, none⟩) x5_3.length co9)) (ok := (fun k_ => some k_ ≠ (.slice (some ⟨go20, 0, none⟩) x6_3.length co20 : Value).ownBlock)) (by (with_reducible repeat (first | apply Kd.R_alloc | apply Kd.R_drewN | apply Kd.R_drew)); exact Kd.R_mono HO_8.out (fun _ hk => ⟨hk.2, hk.1⟩)) hg (.inl rfl)); have n3_ := Aside0.mk ((by rw [hw]; exact below_set (HB.out) GB18.out : Below w.heap.size w w45)); clear HO_5; clear HO_6; clear HO_8; clear HB; have HO_5 := n0_; have HO_6 := n1_; have HO_8 := n2_; have HB := n3_; clear n0_ n1_ n2_ n3_; clear hg hw hp_; have p42 : 0 ≤ ((rd (rd_L2 l0 (rd x8_2 x10_2)) x52_3) : Int) := of_decide_eq_true (by first | (with_reducible assumption) | assumption); have q42 : ((rd (rd_L2 l0 (rd x8_2 x10_2)) x52_3) : Int) < ((x6_3.length : Int) : Int) := of_decide_eq_true (by first | (with_reducible assumption) | assumption); obtain ⟨hx42_0, hf42_0⟩ := Kd.R_celln 0 HO_6.out ((rd (rd_L2 l0 (rd x8_2 x10_2)) x52_3) : Int) p42 q42; replace p42 := eq_true p42; replace q42 := eq_true q42; obtain ⟨hy46_, hz46_⟩ := Kd.R_celln 0 HO_6.out ((rd (rd_L2 l0 (rd x8_2 x10_2)) x52_3) : Int) (of_decide_eq_true (by first | (with_reducible assumption) | assumption)) (of_decide_eq_true (by first | (with_reducible assumption) | assumption)); have HP46 := Kd.R_putg HO_6.out ((rd (rd_L2 l0 (rd x8_2 x10_2)) x52_3) : Int) (rd x8_2 x10_2)) | ((with_reducible refine gate_store (t := 3) (p := 73) rfl ?_); (try (rw [drewN_self w45]; generalize hq_ : World.drewN w45 _ = w45; have n0_ := Aside0.mk (Kd.R_at hq_ HO_5.out); have n1_ := Aside0.mk (Kd.R_at hq_ HO_6.out); have n2_ := Aside0.mk (Kd.R_at hq_ HO_8.out); have n3_ := Aside0.mk (below_at hq_ HB.out); clear hq_ HO_5 HO_6 HO_8 HB; have HO_5 := n0_; have HO_6 := n1_; have HO_8 := n2_; have HB := n3_; clear n0_ n1_ n2_ n3_; (try (obtain ⟨hy46_, hz46_⟩ := Kd.R_celln 0 HO_6.out ((rd (rd_L2 l0 (rd x8_2 x10_2)) x52_3) : Int) (of_decide_eq_true (by first | (with_reducible assumption) | assumption)) (of_decide_eq_true (by first | (with_reducible assumption) | assumption)))); (try (have HP46 := Kd.R_putg HO_6.out ((rd (rd_L2 l0 (rd x8_2 x10_2)) x52_3) : Int) (rd x8_2 x10_2))))); refine store_event (t := 3) (p := 73) (v := ?vo_w47) (w1 := (w45.setCell ⟨go20, ((rd (rd_L2 l0 (rd x8_2 x10_2)) x52_3) : Int).toNat, none⟩ (.int .i64 (rd x8_2 x10_2)))) ?hg ?ho ?hn ?hr ?_; (case ho => rfl); (case hg => rfl); (case hn => rfl); (case hr => first | (go_simp; done) | (go_simp; rfl)); intro w47 hw; have hg : w45.grownBy w47 (some go20) := (by rw [hw]; exact HP46.2); have hp_ : Kd.R (Kd.int .i64) 3 w47 w.heap.size (fun k_ => some k_ ≠ (u8 : Value).ownBlock ∧ some k_ ≠ (.slice (some ⟨go18, 0, none⟩) x5_3.length co9 : Value).ownBlock) (.slice (some ⟨go20, 0, none⟩) x6_3.length co20) y161 := (by rw [hw, Ny161.out]; exact HP46.1); clear HP46; have n0_ := Aside0.mk (Kd.R_after (v := (.slice (some ⟨go20, 0, none⟩) x6_3.length co20)) (v1 := (.slice (some ⟨go20, 0, none⟩) x6_3.length co20)) (ok := (fun k_ => some k_ ≠ (u8 : Value).ownBlock)) (by (with_reducible repeat (first | apply Kd.R_alloc | apply Kd.R_drewN | apply Kd.R_drew)); exact Kd.R_mono HO_5.out (fun _ hk => ⟨hk.2, hk.1⟩)) hg (.inl rfl)); have n1_ := Aside0.mk (hp_); have n2_ := Aside0.mk (Kd.R_after (v := (.slice (some ⟨go20, 0, none⟩) x6_3.length co20)) (v1 := (.slice (some ⟨go20, 0, none⟩) x6_3.length co20)) (ok := (fun k_ => some k_ ≠ (.slice (some ⟨go18, 0, none⟩) x5_3.length co9 : Value).ownBlock)) (by (with_reducible repeat (first | apply Kd.R_alloc | apply Kd.R_drewN | apply Kd.R_drew)); exact Kd.R_mono HO_8.out (fun _ hk => ⟨hk.2, hk.1⟩)) hg (.inl rfl)); have n3_ := Aside0.mk ((by rw [hw]; exact below_set (HB.out) GB20.out : Below w.heap.size w w47)); clear HO_5; clear HO_6; clear HO_8; clear HB; have HO_5 := n0_; have HO_6 := n1_; have HO_8 := n2_; have HB := n3_; clear n0_ n1_ n2_ n3_; clear hg hw hp_) | ((with_reducible refine gate_builtin (b := .append) (xs := #[.tmp 74, .tmp 76]) rfl ?_); at_builtin; refine Kd.R_append (Kd.int .i64) (w0 := w) w.heap.size rfl (.tmp 74) (.tmp 76) 22 3 (.int .i64 0) 8 rfl Try.underlying22 info3 rfl (by decide) (by omega) u8 x8_3 (rd (rd_L2 l0 (rd x8_2 x10_2)) x52_3) [.int .i64 (rd (rd_L2 l0 (rd x8_2 x10_2)) x52_3)] (fun k_ => some k_ ≠ (.slice (some ⟨go18, 0, none⟩) x5_3.length co9 : Value).ownBlock ∧ some k_ ≠ (.slice (some ⟨go20, 0, none⟩) x6_3.length co20 : Value).ownBlock) (fun _ => False) rfl rfl ?aP (fun _ hk => hk.elim) ?aF ?aO ?aB ?aS ?aL ?_; (case aP => exact rfl); (case aB => exact (by repeat (first | (with_reducible first | exact HB.out | apply below_alloc | apply pw_below_drewN | apply below_drew1) | exact HB.out))); (case aF => exact (fun k_ hk => ⟨Kd.fresh' (Kd.R_lt (by (with_reducible repeat (first | apply Kd.R_alloc | apply Kd.R_drewN | apply Kd.R_drew)); exact HO_5.out)) k_ hk, Kd.fresh' (Kd.R_lt (by (with_reducible repeat (first | apply Kd.R_alloc | apply Kd.R_drewN | apply Kd.R_drew)); exact HO_6.out)) k_ hk⟩)); (case aO => exact (by (with_reducible repeat (first | apply Kd.R_alloc | apply Kd.R_drewN | apply Kd.R_drew)); exact HO_8.out)); (case aS => exact (below_size (by repeat (first | (with_reducible first | exact HB.out | apply below_alloc | apply pw_below_drewN | apply below_drew1) | exact HB.out)))); (case aL => have := LMc43.out; omega); intro v163 w48 ho hb hg hat; rw [← Ny162.out] at ho; have n0_ := Aside0.mk (Kd.R_after (ok := (fun k_ => some k_ ≠ (.slice (some ⟨go20, 0, none⟩) x6_3.length co20 : Value).ownBlock)) (by (with_reducible repeat (first | apply Kd.R_alloc | apply Kd.R_drewN | apply Kd.R_drew)); exact Kd.R_mono HO_5.out (fun _ hk => ⟨hk.2, hk.1⟩)) hg hat); have n1_ := Aside0.mk (Kd.R_after (ok := (fun k_ => some k_ ≠ (.slice (some ⟨go18, 0, none⟩) x5_3.length co9 : Value).ownBlock)) (by (with_reducible repeat (first | apply Kd.R_alloc | apply Kd.R_drewN | apply Kd.R_drew)); exact Kd.R_mono HO_6.out (fun _ hk => ⟨hk.2, hk.1⟩)) hg hat); have n2_ := Aside0.mk (hb); have n3_ := Aside0.mk (ho); clear HO_5; clear HO_6; clear HB; clear HO_8; have HO_5 := n0_; have HO_6 := n1_; have HB := n2_; have HO164 := n3_; clear n0_ n1_ n2_ n3_; clear ho hb hg hat)); try go_wp2_with (first | ((with_reducible refine gate_store (t := 3) (p := 72) rfl ?_); (try (rw [drewN_self wr]; generalize hq_ : World.drewN wr _ = wr; have n0_ := Aside0.mk (Kd.R_at hq_ HO_5.out); have n1_ := Aside0.mk (Kd.R_at hq_ HO_6.out); have n2_ := Aside0.mk (Kd.R_at hq_ HO_8.out); have n3_ := Aside0.mk (below_at hq_ HB.out); clear hq_ HO_5 HO_6 HO_8 HB; have HO_5 := n0_; have HO_6 := n1_; have HO_8 := n2_; have HB := n3_; clear n0_ n1_ n2_ n3_; (try (have HP44 := Kd.R_putg HO_5.out ((rd (rd_L2 l0 (rd x8_2 x10_2)) x52_3) : Int) (wrap64 ((rd x5_3 (rd x8_2 x10_2)) + 1)))))); refine store_event (t := 3) (p := 72) (v := ?vo_w45) (w1 := (wr.setCell ⟨go18, ((rd (rd_L2 l0 (rd x8_2 x10_2)) x52_3) : Int).toNat, none⟩ (.int .i64 (wrap64 ((rd x5_3 (rd x8_2 x10_2)) + 1))))) ?hg ?ho ?hn ?hr ?_; (case ho => rfl); (case hg => rfl); (case hn => rfl); (case hr => first | (go_simp; done) | (go_simp; rfl)); intro w45 hw; have hg : wr.grownBy w45 (some go18) := (by rw [hw]; exact HP44.2); have hp_ : Kd.R (Kd.int .i64) 3 w45 w.heap.size (fun k_ => some k_ ≠ (.slice (some ⟨go20, 0, none⟩) x6_3.length co20 : Value).ownBlock ∧ some k_ ≠ (u8 : Value).ownBlock) (.slice (some ⟨go18, 0, none⟩) x5_3.length co9) y160 := (by rw [hw, Ny160.out]; exact HP44.1); clear HP44; have n0_ := Aside0.mk (hp_); have n1_ := Aside0.mk (Kd.R_after (v := (.slice (some ⟨go18, 0, none⟩) x5_3.length co9)) (v1 := (.slice (some ⟨go18, 0, none⟩) x5_3.length co9)) (ok := (fun k_ => some k_ ≠ (u8 : Value).ownBlock)) (by (with_reducible repeat (first | apply Kd.R_alloc | apply Kd.R_drewN | apply Kd.R_drew)); exact Kd.R_mono HO_6.out (fun _ hk => ⟨hk.2, hk.1⟩)) hg (.inl rfl)); have n2_ := Aside0.mk (Kd.R_after (v := (.slice (some ⟨go18, 0, none⟩) x5_3.length co9)) (v1 := (.slice (some ⟨go18, 0, none⟩) x5_3.length co9)) (ok := (fun k_ => some k_ ≠ (.slice (some ⟨go20, 0, none⟩) x6_3.length co20 : Value).ownBlock)) (by (with_reducible repeat (first | apply Kd.R_alloc | apply Kd.R_drewN | apply Kd.R_drew)); exact Kd.R_mono HO_8.out (fun _ hk => ⟨hk.2, hk.1⟩)) hg (.inl rfl)); have n3_ := Aside0.mk ((by rw [hw]; exact below_set (HB.out) GB18.out : Below w.heap.size w w45)); clear HO_5; clear HO_6; clear HO_8; clear HB; have HO_5 := n0_; have HO_6 := n1_; have HO_8 := n2_; have HB := n3_; clear n0_ n1_ n2_ n3_; clear hg hw hp_; have p42 : 0 ≤ ((rd (rd_L2 l0 (rd x8_2 x10_2)) x52_3) : Int) := of_decide_eq_true (by first | (with_reducible assumption) | assumption); have q42 : ((rd (rd_L2 l0 (rd x8_2 x10_2)) x52_3) : Int) < ((x6_3.length : Int) : Int) := of_decide_eq_true (by first | (with_reducible assumption) | assumption); obtain ⟨hx42_0, hf42_0⟩ := Kd.R_celln 0 HO_6.out ((rd (rd_L2 l0 (rd x8_2 x10_2)) x52_3) : Int) p42 q42; replace p42 := eq_true p42; replace q42 := eq_true q42; obtain ⟨hy46_, hz46_⟩ := Kd.R_celln 0 HO_6.out ((rd (rd_L2 l0 (rd x8_2 x10_2)) x52_3) : Int) (of_decide_eq_true (by first | (with_reducible assumption) | assumption)) (of_decide_eq_true (by first | (with_reducible assumption) | assumption)); have HP46 := Kd.R_putg HO_6.out ((rd (rd_L2 l0 (rd x8_2 x10_2)) x52_3) : Int) (rd x8_2 x10_2)) | ((with_reducible refine gate_store (t := 3) (p := 73) rfl ?_); (try (rw [drewN_self w45]; generalize hq_ : World.drewN w45 _ = w45; have n0_ := Aside0.mk (Kd.R_at hq_ HO_5.out); have n1_ := Aside0.mk (Kd.R_at hq_ HO_6.out); have n2_ := Aside0.mk (Kd.R_at hq_ HO_8.out); have n3_ := Aside0.mk (below_at hq_ HB.out); clear hq_ HO_5 HO_6 HO_8 HB; have HO_5 := n0_; have HO_6 := n1_; have HO_8 := n2_; have HB := n3_; clear n0_ n1_ n2_ n3_; (try (obtain ⟨hy46_, hz46_⟩ := Kd.R_celln 0 HO_6.out ((rd (rd_L2 l0 (rd x8_2 x10_2)) x52_3) : Int) (of_decide_eq_true (by first | (with_reducible assumption) | assumption)) (of_decide_eq_true (by first | (with_reducible assumption) | assumption)))); (try (have HP46 := Kd.R_putg HO_6.out ((rd (rd_L2 l0 (rd x8_2 x10_2)) x52_3) : Int) (rd x8_2 x10_2))))); refine store_event (t := 3) (p := 73) (v := ?vo_w47) (w1 := (w45.setCell ⟨go20, ((rd (rd_L2 l0 (rd x8_2 x10_2)) x52_3) : Int).toNat, none⟩ (.int .i64 (rd x8_2 x10_2)))) ?hg ?ho ?hn ?hr ?_; (case ho => rfl); (case hg => rfl); (case hn => rfl); (case hr => first | (go_simp; done) | (go_simp; rfl)); intro w47 hw; have hg : w45.grownBy w47 (some go20) := (by rw [hw]; exact HP46.2); have hp_ : Kd.R (Kd.int .i64) 3 w47 w.heap.size (fun k_ => some k_ ≠ (u8 : Value).ownBlock ∧ some k_ ≠ (.slice (some ⟨go18, 0, none⟩) x5_3.length co9 : Value).ownBlock) (.slice (some ⟨go20, 0, none⟩) x6_3.length co20) y161 := (by rw [hw, Ny161.out]; exact HP46.1); clear HP46; have n0_ := Aside0.mk (Kd.R_after (v := (.slice (some ⟨go20, 0, none⟩) x6_3.length co20)) (v1 := (.slice (some ⟨go20, 0, none⟩) x6_3.length co20)) (ok := (fun k_ => some k_ ≠ (u8 : Value).ownBlock)) (by (with_reducible repeat (first | apply Kd.R_alloc | apply Kd.R_drewN | apply Kd.R_drew)); exact Kd.R_mono HO_5.out (fun _ hk => ⟨hk.2, hk.1⟩)) hg (.inl rfl)); have n1_ := Aside0.mk (hp_); have n2_ := Aside0.mk (Kd.R_after (v := (.slice (some ⟨go20, 0, none⟩) x6_3.length co20)) (v1 := (.slice (some ⟨go20, 0, none⟩) x6_3.length co20)) (ok := (fun k_ => some k_ ≠ (.slice (some ⟨go18, 0, none⟩) x5_3.length co9 : Value).ownBlock)) (by (with_reducible repeat (first | apply Kd.R_alloc | apply Kd.R_drewN | apply Kd.R_drew)); exact Kd.R_mono HO_8.out (fun _ hk => ⟨hk.2, hk.1⟩)) hg (.inl rfl)); have n3_ := Aside0.mk ((by rw [hw]; exact below_set (HB.out) GB20.out : Below w.heap.size w w47)); clear HO_5; clear HO_6; clear HO_8; clear HB; have HO_5 := n0_; have HO_6 := n1_; have HO_8 := n2_; have HB := n3_; clear n0_ n1_ n2_ n3_; clear hg hw hp_) | ((with_reducible refine gate_builtin (b := .append) (xs := #[.tmp 74, .tmp 76]) rfl ?_); at_builtin; refine Kd.R_append (Kd.int .i64) (w0 := w) w.heap.size rfl (.tmp 74) (.tmp 76) 22 3 (.int .i64 0) 8 rfl Try.underlying22 info3 rfl (by decide) (by omega) u8 x8_3 (rd (rd_L2 l0 (rd x8_2 x10_2)) x52_3) [.int .i64 (rd (rd_L2 l0 (rd x8_2 x10_2)) x52_3)] (fun k_ => some k_ ≠ (.slice (some ⟨go18, 0, none⟩) x5_3.length co9 : Value).ownBlock ∧ some k_ ≠ (.slice (some ⟨go20, 0, none⟩) x6_3.length co20 : Value).ownBlock) (fun _ => False) rfl rfl ?aP (fun _ hk => hk.elim) ?aF ?aO ?aB ?aS ?aL ?_; (case aP => exact rfl); (case aB => exact (by repeat (first | (with_reducible first | exact HB.out | apply below_alloc | apply pw_below_drewN | apply below_drew1) | exact HB.out))); (case aF => exact (fun k_ hk => ⟨Kd.fresh' (Kd.R_lt (by (with_reducible repeat (first | apply Kd.R_alloc | apply Kd.R_drewN | apply Kd.R_drew)); exact HO_5.out)) k_ hk, Kd.fresh' (Kd.R_lt (by (with_reducible repeat (first | apply Kd.R_alloc | apply Kd.R_drewN | apply Kd.R_drew)); exact HO_6.out)) k_ hk⟩)); (case aO => exact (by (with_reducible repeat (first | apply Kd.R_alloc | apply Kd.R_drewN | apply Kd.R_drew)); exact HO_8.out)); (case aS => exact (below_size (by repeat (first | (with_reducible first | exact HB.out | apply below_alloc | apply pw_below_drewN | apply below_drew1) | exact HB.out)))); (case aL => have := LMc43.out; omega); intro v163 w48 ho hb hg hat; rw [← Ny162.out] at ho; have n0_ := Aside0.mk (Kd.R_after (ok := (fun k_ => some k_ ≠ (.slice (some ⟨go20, 0, none⟩) x6_3.length co20 : Value).ownBlock)) (by (with_reducible repeat (first | apply Kd.R_alloc | apply Kd.R_drewN | apply Kd.R_drew)); exact Kd.R_mono HO_5.out (fun _ hk => ⟨hk.2, hk.1⟩)) hg hat); have n1_ := Aside0.mk (Kd.R_after (ok := (fun k_ => some k_ ≠ (.slice (some ⟨go18, 0, none⟩) x5_3.length co9 : Value).ownBlock)) (by (with_reducible repeat (first | apply Kd.R_alloc | apply Kd.R_drewN | apply Kd.R_drew)); exact Kd.R_mono HO_6.out (fun _ hk => ⟨hk.2, hk.1⟩)) hg hat); have n2_ := Aside0.mk (hb); have n3_ := Aside0.mk (ho); clear HO_5; clear HO_6; clear HB; clear HO_8; have HO_5 := n0_; have HO_6 := n1_; have HB := n2_; have HO164 := n3_; clear n0_ n1_ n2_ n3_; clear ho hb hg hat)))
                           (try simp only [← hl5_3, ← hl6_3])
                           go_roundg k3
                           case measure => have := HK1.out; have := HK2.out; have := HK3.out; omega
                           case rel => exact ⟨(y160), (y161), (y162), (x9_3), (wrap64 (x52_3 + 1)), (by first | rfl | (simp; done) | (simp [*]; done)), (by first | rfl | (simp; done) | (simp [*]; done)), H', ⟨by have := HK1.out; have := HK2.out; have := HK3.out; omega⟩, ⟨by (try simp only [hl5_1]); (try simp only [hl5_2]); (try simp only [hl6_2]); (try simp only [hl5_3]); (try simp only [hl6_3]); (with_reducible repeat (first | apply Kd.R_alloc | apply Kd.R_drewN | apply Kd.R_drew)); exact HO_5.out⟩, ⟨by (try simp only [hl5_1]); (try simp only [hl5_2]); (try simp only [hl6_2]); (try simp only [hl5_3]); (try simp only [hl6_3]); (with_reducible repeat (first | apply Kd.R_alloc | apply Kd.R_drewN | apply Kd.R_drew)); exact HO_6.out⟩, ⟨by (try simp only [hl5_1]); (try simp only [hl5_2]); (try simp only [hl6_2]); (try simp only [hl5_3]); (try simp only [hl6_3]); (with_reducible repeat (first | apply Kd.R_alloc | apply Kd.R_drewN | apply Kd.R_drew)); exact HO164.out⟩, ⟨by repeat (first | (with_reducible first | exact HB.out | apply below_alloc | apply pw_below_drewN | apply below_drew1) | exact HB.out)⟩⟩
                          ·rw [if_neg c43] at H
                           exact absurd H (by simp)
                         ·rw [if_neg c41] at H
                          exact absurd H (by simp)
                        ·rw [if_neg c39] at H
                         exact absurd H (by simp)
                       ·rw [if_neg c38] at H
                        exact absurd H (by simp)
                      ·rw [if_neg c37] at H
                       have c37b0 : decide ((rd x5_3 (rd (rd_L2 l0 (rd x8_2 x10_2)) x52_3)) < 0) = false := decide_eq_false c37
                       clear c37
                       by_cases c49 : 0 ≤ (rd x8_2 x10_2)
                       ·rw [if_pos c49] at H
                        have c49b0 : decide (0 ≤ (rd x8_2 x10_2)) = true := decide_eq_true c49
                        clear c49
                        by_cases c50 : (rd x8_2 x10_2) < (x6_3.length : Int)
                        ·rw [if_pos c50] at H
                         have c50b0 : decide ((rd x8_2 x10_2) < (x6_3.length : Int)) = true := decide_eq_true c50
                         clear c50
                         by_cases c51 : (rd (rd_L2 l0 (rd x8_2 x10_2)) x52_3) = (rd x6_3 (rd x8_2 x10_2))
                         ·rw [if_pos c51] at H
                          have c51b0 : ((rd (rd_L2 l0 (rd x8_2 x10_2)) x52_3) == (rd x6_3 (rd x8_2 x10_2))) = true := beq_iff_eq.mpr c51
                          have c51b1 : ((rd (rd_L2 l0 (rd x8_2 x10_2)) x52_3) != (rd x6_3 (rd x8_2 x10_2))) = false := bne_eq_false_iff_eq.mpr c51
                          clear c51
                          have H' := Aside0.mk H
                          clear H
                          have p157 : 0 ≤ (x52_3 : Int) := of_decide_eq_true (by first | (with_reducible assumption) | assumption)
                          have q157 : x52_3 < ((rd_L2 l0 (rd x8_2 x10_2)).length : Int) := of_decide_eq_true (by first | (with_reducible assumption) | assumption)
                          obtain ⟨ad157, e157, hx157_0⟩ := Kd.at_int HR156_0.out x52_3 p157 q157
                          cases e157
                          replace hx157_0 := (HB.out.cell (World.block_lt_of_cell? w _ hx157_0)).trans hx157_0
                          replace p157 := eq_true p157
                          replace q157 := eq_true q157
                          have p158 : 0 ≤ ((rd (rd_L2 l0 (rd x8_2 x10_2)) x52_3) : Int) := of_decide_eq_true (by first | (with_reducible assumption) | assumption)
                          have q158 : (rd (rd_L2 l0 (rd x8_2 x10_2)) x52_3) < (x5_3.length : Int) := of_decide_eq_true (by first | (with_reducible assumption) | assumption)
                          obtain ⟨ad158, e158, hx158_0⟩ := Kd.at_int (Kd.R_reads' HO_5.out).2.2 (rd (rd_L2 l0 (rd x8_2 x10_2)) x52_3) p158 q158
                          obtain rfl : (⟨go18, 0, none⟩ : Addr) = ad158 := (by injection e158)
                          (first | simp only [add_plain] at hx158_0 | simp only [add_at] at hx158_0 | simp only [Addr.add, Nat.zero_add] at hx158_0 | skip)
                          replace p158 := eq_true p158
                          replace q158 := eq_true q158
                          have p165 : 0 ≤ ((rd x8_2 x10_2) : Int) := of_decide_eq_true (by first | (with_reducible assumption) | assumption)
                          have q165 : (rd x8_2 x10_2) < (x6_3.length : Int) := of_decide_eq_true (by first | (with_reducible assumption) | assumption)
                          obtain ⟨ad165, e165, hx165_0⟩ := Kd.at_int (Kd.R_reads' HO_6.out).2.2 (rd x8_2 x10_2) p165 q165
                          obtain rfl : (⟨go20, 0, none⟩ : Addr) = ad165 := (by injection e165)
                          (first | simp only [add_plain] at hx165_0 | simp only [add_at] at hx165_0 | simp only [Addr.add, Nat.zero_add] at hx165_0 | skip)
                          replace p165 := eq_true p165
                          replace q165 := eq_true q165
                          go_wp2
                          repeat (go_quiet (fail); try go_wp2)
                          (try simp only [← hl5_3, ← hl6_3])
                          go_roundg k3
                          case measure => have := HK1.out; have := HK2.out; have := HK3.out; omega
                          case rel => exact ⟨(x5_3), (x6_3), (x8_3), (x9_3), (wrap64 (x52_3 + 1)), (by first | rfl | (simp; done) | (simp [*]; done)), (by first | rfl | (simp; done) | (simp [*]; done)), H', ⟨by have := HK1.out; have := HK2.out; have := HK3.out; omega⟩, ⟨by (try simp only [hl5_1]); (try simp only [hl5_2]); (try simp only [hl6_2]); (try simp only [hl5_3]); (try simp only [hl6_3]); (with_reducible repeat (first | apply Kd.R_alloc | apply Kd.R_drewN | apply Kd.R_drew)); exact HO_5.out⟩, ⟨by (try simp only [hl5_1]); (try simp only [hl5_2]); (try simp only [hl6_2]); (try simp only [hl5_3]); (try simp only [hl6_3]); (with_reducible repeat (first | apply Kd.R_alloc | apply Kd.R_drewN | apply Kd.R_drew)); exact HO_6.out⟩, ⟨by (try simp only [hl5_1]); (try simp only [hl5_2]); (try simp only [hl6_2]); (try simp only [hl5_3]); (try simp only [hl6_3]); (with_reducible repeat (first | apply Kd.R_alloc | apply Kd.R_drewN | apply Kd.R_drew)); exact HO_8.out⟩, ⟨by repeat (first | (with_reducible first | exact HB.out | apply below_alloc | apply pw_below_drewN | apply below_drew1) | exact HB.out)⟩⟩
                         ·rw [if_neg c51] at H
                          have c51b0 : ((rd (rd_L2 l0 (rd x8_2 x10_2)) x52_3) == (rd x6_3 (rd x8_2 x10_2))) = false := beq_eq_false_iff_ne.mpr c51
                          have c51b1 : ((rd (rd_L2 l0 (rd x8_2 x10_2)) x52_3) != (rd x6_3 (rd x8_2 x10_2))) = true := bne_iff_ne.mpr c51
                          by_cases c52 : x9_3 = 0
                          ·rw [if_pos c52] at H
                           have c52b0 : (x9_3 == 0) = true := beq_iff_eq.mpr c52
                           have c52b1 : (x9_3 != 0) = false := bne_eq_false_iff_eq.mpr c52
                           clear c52
                           by_cases c53 : (rd x8_2 x10_2) < (x5_3.length : Int)
                           ·rw [if_pos c53] at H
                            have c53b0 : decide ((rd x8_2 x10_2) < (x5_3.length : Int)) = true := decide_eq_true c53
                            clear c53
                            have H' := Aside0.mk H
                            clear H
                            have p157 : 0 ≤ (x52_3 : Int) := of_decide_eq_true (by first | (with_reducible assumption) | assumption)
                            have q157 : x52_3 < ((rd_L2 l0 (rd x8_2 x10_2)).length : Int) := of_decide_eq_true (by first | (with_reducible assumption) | assumption)
                            obtain ⟨ad157, e157, hx157_0⟩ := Kd.at_int HR156_0.out x52_3 p157 q157
                            cases e157
                            replace hx157_0 := (HB.out.cell (World.block_lt_of_cell? w _ hx157_0)).trans hx157_0
                            replace p157 := eq_true p157
                            replace q157 := eq_true q157
                            have p158 : 0 ≤ ((rd (rd_L2 l0 (rd x8_2 x10_2)) x52_3) : Int) := of_decide_eq_true (by first | (with_reducible assumption) | assumption)
                            have q158 : (rd (rd_L2 l0 (rd x8_2 x10_2)) x52_3) < (x5_3.length : Int) := of_decide_eq_true (by first | (with_reducible assumption) | assumption)
                            obtain ⟨ad158, e158, hx158_0⟩ := Kd.at_int (Kd.R_reads' HO_5.out).2.2 (rd (rd_L2 l0 (rd x8_2 x10_2)) x52_3) p158 q158
                            obtain rfl : (⟨go18, 0, none⟩ : Addr) = ad158 := (by injection e158)
                            (first | simp only [add_plain] at hx158_0 | simp only [add_at] at hx158_0 | simp only [Addr.add, Nat.zero_add] at hx158_0 | skip)
                            replace p158 := eq_true p158
                            replace q158 := eq_true q158
                            have p165 : 0 ≤ ((rd x8_2 x10_2) : Int) := of_decide_eq_true (by first | (with_reducible assumption) | assumption)
                            have q165 : (rd x8_2 x10_2) < (x6_3.length : Int) := of_decide_eq_true (by first | (with_reducible assumption) | assumption)
                            obtain ⟨ad165, e165, hx165_0⟩ := Kd.at_int (Kd.R_reads' HO_6.out).2.2 (rd x8_2 x10_2) p165 q165
                            obtain rfl : (⟨go20, 0, none⟩ : Addr) = ad165 := (by injection e165)
                            (first | simp only [add_plain] at hx165_0 | simp only [add_at] at hx165_0 | simp only [Addr.add, Nat.zero_add] at hx165_0 | skip)
                            replace p165 := eq_true p165
                            replace q165 := eq_true q165
                            have p166 : 0 ≤ ((rd x8_2 x10_2) : Int) := of_decide_eq_true (by first | (with_reducible assumption) | assumption)
                            have q166 : (rd x8_2 x10_2) < (x5_3.length : Int) := of_decide_eq_true (by first | (with_reducible assumption) | assumption)
                            obtain ⟨ad166, e166, hx166_0⟩ := Kd.at_int (Kd.R_reads' HO_5.out).2.2 (rd x8_2 x10_2) p166 q166
                            obtain rfl : (⟨go18, 0, none⟩ : Addr) = ad166 := (by injection e166)
                            (first | simp only [add_plain] at hx166_0 | simp only [add_at] at hx166_0 | simp only [Addr.add, Nat.zero_add] at hx166_0 | skip)
                            replace p166 := eq_true p166
                            replace q166 := eq_true q166
                            have p167 : 0 ≤ ((rd (rd_L2 l0 (rd x8_2 x10_2)) x52_3) : Int) := of_decide_eq_true (by first | (with_reducible assumption) | assumption)
                            have q167 : (rd (rd_L2 l0 (rd x8_2 x10_2)) x52_3) < (x5_3.length : Int) := of_decide_eq_true (by first | (with_reducible assumption) | assumption)
                            obtain ⟨ad167, e167, hx167_0⟩ := Kd.at_int (Kd.R_reads' HO_5.out).2.2 (rd (rd_L2 l0 (rd x8_2 x10_2)) x52_3) p167 q167
                            obtain rfl : (⟨go18, 0, none⟩ : Addr) = ad167 := (by injection e167)
                            (first | simp only [add_plain] at hx167_0 | simp only [add_at] at hx167_0 | simp only [Addr.add, Nat.zero_add] at hx167_0 | skip)
                            replace p167 := eq_true p167
                            replace q167 := eq_true q167
                            go_wp2
                            repeat (go_quiet (fail); try go_wp2)
                            (try simp only [← hl5_3, ← hl6_3])
                            go_roundg k3
                            case measure => have := HK1.out; have := HK2.out; have := HK3.out; omega
                            case rel => exact ⟨(x5_3), (x6_3), (x8_3), (wrap64 ((wrap64 ((rd x5_3 (rd x8_2 x10_2)) + (rd x5_3 (rd (rd_L2 l0 (rd x8_2 x10_2)) x52_3)))) + 1)), (wrap64 (x52_3 + 1)), (by first | rfl | (simp; done) | (simp [*]; done)), (by first | rfl | (simp; done) | (simp [*]; done)), H', ⟨by have := HK1.out; have := HK2.out; have := HK3.out; omega⟩, ⟨by (try simp only [hl5_1]); (try simp only [hl5_2]); (try simp only [hl6_2]); (try simp only [hl5_3]); (try simp only [hl6_3]); (with_reducible repeat (first | apply Kd.R_alloc | apply Kd.R_drewN | apply Kd.R_drew)); exact HO_5.out⟩, ⟨by (try simp only [hl5_1]); (try simp only [hl5_2]); (try simp only [hl6_2]); (try simp only [hl5_3]); (try simp only [hl6_3]); (with_reducible repeat (first | apply Kd.R_alloc | apply Kd.R_drewN | apply Kd.R_drew)); exact HO_6.out⟩, ⟨by (try simp only [hl5_1]); (try simp only [hl5_2]); (try simp only [hl6_2]); (try simp only [hl5_3]); (try simp only [hl6_3]); (with_reducible repeat (first | apply Kd.R_alloc | apply Kd.R_drewN | apply Kd.R_drew)); exact HO_8.out⟩, ⟨by repeat (first | (with_reducible first | exact HB.out | apply below_alloc | apply pw_below_drewN | apply below_drew1) | exact HB.out)⟩⟩
                           ·rw [if_neg c53] at H
                            exact absurd H (by simp)
                          ·rw [if_neg c52] at H
                           have c52b0 : (x9_3 == 0) = false := beq_eq_false_iff_ne.mpr c52
                           have c52b1 : (x9_3 != 0) = true := bne_iff_ne.mpr c52
                           by_cases c54 : (rd x8_2 x10_2) < (x5_3.length : Int)
                           ·rw [if_pos c54] at H
                            have c54b0 : decide ((rd x8_2 x10_2) < (x5_3.length : Int)) = true := decide_eq_true c54
                            clear c54
                            by_cases c55 : (wrap64 ((wrap64 ((rd x5_3 (rd x8_2 x10_2)) + (rd x5_3 (rd (rd_L2 l0 (rd x8_2 x10_2)) x52_3)))) + 1)) < x9_3
                            ·rw [if_pos c55] at H
                             have c55b0 : decide ((wrap64 ((wrap64 ((rd x5_3 (rd x8_2 x10_2)) + (rd x5_3 (rd (rd_L2 l0 (rd x8_2 x10_2)) x52_3)))) + 1)) < x9_3) = true := decide_eq_true c55
                             clear c55
                             have H' := Aside0.mk H
                             clear H
                             have p157 : 0 ≤ (x52_3 : Int) := of_decide_eq_true (by first | (with_reducible assumption) | assumption)
                             have q157 : x52_3 < ((rd_L2 l0 (rd x8_2 x10_2)).length : Int) := of_decide_eq_true (by first | (with_reducible assumption) | assumption)
                             obtain ⟨ad157, e157, hx157_0⟩ := Kd.at_int HR156_0.out x52_3 p157 q157
                             cases e157
                             replace hx157_0 := (HB.out.cell (World.block_lt_of_cell? w _ hx157_0)).trans hx157_0
                             replace p157 := eq_true p157
                             replace q157 := eq_true q157
                             have p158 : 0 ≤ ((rd (rd_L2 l0 (rd x8_2 x10_2)) x52_3) : Int) := of_decide_eq_true (by first | (with_reducible assumption) | assumption)
                             have q158 : (rd (rd_L2 l0 (rd x8_2 x10_2)) x52_3) < (x5_3.length : Int) := of_decide_eq_true (by first | (with_reducible assumption) | assumption)
                             obtain ⟨ad158, e158, hx158_0⟩ := Kd.at_int (Kd.R_reads' HO_5.out).2.2 (rd (rd_L2 l0 (rd x8_2 x10_2)) x52_3) p158 q158
                             obtain rfl : (⟨go18, 0, none⟩ : Addr) = ad158 := (by injection e158)
                             (first | simp only [add_plain] at hx158_0 | simp only [add_at] at hx158_0 | simp only [Addr.add, Nat.zero_add] at hx158_0 | skip)
                             replace p158 := eq_true p158
                             replace q158 := eq_true q158
                             have p165 : 0 ≤ ((rd x8_2 x10_2) : Int) := of_decide_eq_true (by first | (with_reducible assumption) | assumption)
                             have q165 : (rd x8_2 x10_2) < (x6_3.length : Int) := of_decide_eq_true (by first | (with_reducible assumption) | assumption)
                             obtain ⟨ad165, e165, hx165_0⟩ := Kd.at_int (Kd.R_reads' HO_6.out).2.2 (rd x8_2 x10_2) p165 q165
                             obtain rfl : (⟨go20, 0, none⟩ : Addr) = ad165 := (by injection e165)
                             (first | simp only [add_plain] at hx165_0 | simp only [add_at] at hx165_0 | simp only [Addr.add, Nat.zero_add] at hx165_0 | skip)
                             replace p165 := eq_true p165
                             replace q165 := eq_true q165
                             have p168 : 0 ≤ ((rd x8_2 x10_2) : Int) := of_decide_eq_true (by first | (with_reducible assumption) | assumption)
                             have q168 : (rd x8_2 x10_2) < (x5_3.length : Int) := of_decide_eq_true (by first | (with_reducible assumption) | assumption)
                             obtain ⟨ad168, e168, hx168_0⟩ := Kd.at_int (Kd.R_reads' HO_5.out).2.2 (rd x8_2 x10_2) p168 q168
                             obtain rfl : (⟨go18, 0, none⟩ : Addr) = ad168 := (by injection e168)
                             (first | simp only [add_plain] at hx168_0 | simp only [add_at] at hx168_0 | simp only [Addr.add, Nat.zero_add] at hx168_0 | skip)
                             replace p168 := eq_true p168
                             replace q168 := eq_true q168
                             have p169 : 0 ≤ ((rd (rd_L2 l0 (rd x8_2 x10_2)) x52_3) : Int) := of_decide_eq_true (by first | (with_reducible assumption) | assumption)
                             have q169 : (rd (rd_L2 l0 (rd x8_2 x10_2)) x52_3) < (x5_3.length : Int) := of_decide_eq_true (by first | (with_reducible assumption) | assumption)
                             obtain ⟨ad169, e169, hx169_0⟩ := Kd.at_int (Kd.R_reads' HO_5.out).2.2 (rd (rd_L2 l0 (rd x8_2 x10_2)) x52_3) p169 q169
                             obtain rfl : (⟨go18, 0, none⟩ : Addr) = ad169 := (by injection e169)
                             (first | simp only [add_plain] at hx169_0 | simp only [add_at] at hx169_0 | simp only [Addr.add, Nat.zero_add] at hx169_0 | skip)
                             replace p169 := eq_true p169
                             replace q169 := eq_true q169
                             have p170 : 0 ≤ ((rd x8_2 x10_2) : Int) := of_decide_eq_true (by first | (with_reducible assumption) | assumption)
                             have q170 : (rd x8_2 x10_2) < (x5_3.length : Int) := of_decide_eq_true (by first | (with_reducible assumption) | assumption)
                             obtain ⟨ad170, e170, hx170_0⟩ := Kd.at_int (Kd.R_reads' HO_5.out).2.2 (rd x8_2 x10_2) p170 q170
                             obtain rfl : (⟨go18, 0, none⟩ : Addr) = ad170 := (by injection e170)
                             (first | simp only [add_plain] at hx170_0 | simp only [add_at] at hx170_0 | simp only [Addr.add, Nat.zero_add] at hx170_0 | skip)
                             replace p170 := eq_true p170
                             replace q170 := eq_true q170
                             have p171 : 0 ≤ ((rd (rd_L2 l0 (rd x8_2 x10_2)) x52_3) : Int) := of_decide_eq_true (by first | (with_reducible assumption) | assumption)
                             have q171 : (rd (rd_L2 l0 (rd x8_2 x10_2)) x52_3) < (x5_3.length : Int) := of_decide_eq_true (by first | (with_reducible assumption) | assumption)
                             obtain ⟨ad171, e171, hx171_0⟩ := Kd.at_int (Kd.R_reads' HO_5.out).2.2 (rd (rd_L2 l0 (rd x8_2 x10_2)) x52_3) p171 q171
                             obtain rfl : (⟨go18, 0, none⟩ : Addr) = ad171 := (by injection e171)
                             (first | simp only [add_plain] at hx171_0 | simp only [add_at] at hx171_0 | simp only [Addr.add, Nat.zero_add] at hx171_0 | skip)
                             replace p171 := eq_true p171
                             replace q171 := eq_true q171
                             go_wp2
                             repeat (go_quiet (fail); try go_wp2)
                             (try simp only [← hl5_3, ← hl6_3])
                             go_roundg k3
                             case measure => have := HK1.out; have := HK2.out; have := HK3.out; omega
                             case rel => exact ⟨(x5_3), (x6_3), (x8_3), (wrap64 ((wrap64 ((rd x5_3 (rd x8_2 x10_2)) + (rd x5_3 (rd (rd_L2 l0 (rd x8_2 x10_2)) x52_3)))) + 1)), (wrap64 (x52_3 + 1)), (by first | rfl | (simp; done) | (simp [*]; done)), (by first | rfl | (simp; done) | (simp [*]; done)), H', ⟨by have := HK1.out; have := HK2.out; have := HK3.out; omega⟩, ⟨by (try simp only [hl5_1]); (try simp only [hl5_2]); (try simp only [hl6_2]); (try simp only [hl5_3]); (try simp only [hl6_3]); (with_reducible repeat (first | apply Kd.R_alloc | apply Kd.R_drewN | apply Kd.R_drew)); exact HO_5.out⟩, ⟨by (try simp only [hl5_1]); (try simp only [hl5_2]); (try simp only [hl6_2]); (try simp only [hl5_3]); (try simp only [hl6_3]); (with_reducible repeat (first | apply Kd.R_alloc | apply Kd.R_drewN | apply Kd.R_drew)); exact HO_6.out⟩, ⟨by (try simp only [hl5_1]); (try simp only [hl5_2]); (try simp only [hl6_2]); (try simp only [hl5_3]); (try simp only [hl6_3]); (with_reducible repeat (first | apply Kd.R_alloc | apply Kd.R_drewN | apply Kd.R_drew)); exact HO_8.out⟩, ⟨by repeat (first | (with_reducible first | exact HB.out | apply below_alloc | apply pw_below_drewN | apply below_drew1) | exact HB.out)⟩⟩
                            ·rw [if_neg c55] at H
                             have c55b0 : decide ((wrap64 ((wrap64 ((rd x5_3 (rd x8_2 x10_2)) + (rd x5_3 (rd (rd_L2 l0 (rd x8_2 x10_2)) x52_3)))) + 1)) < x9_3) = false := decide_eq_false c55
                             clear c55
                             have H' := Aside0.mk H
                             clear H
                             have p157 : 0 ≤ (x52_3 : Int) := of_decide_eq_true (by first | (with_reducible assumption) | assumption)
                             have q157 : x52_3 < ((rd_L2 l0 (rd x8_2 x10_2)).length : Int) := of_decide_eq_true (by first | (with_reducible assumption) | assumption)
                             obtain ⟨ad157, e157, hx157_0⟩ := Kd.at_int HR156_0.out x52_3 p157 q157
                             cases e157
                             replace hx157_0 := (HB.out.cell (World.block_lt_of_cell? w _ hx157_0)).trans hx157_0
                             replace p157 := eq_true p157
                             replace q157 := eq_true q157
                             have p158 : 0 ≤ ((rd (rd_L2 l0 (rd x8_2 x10_2)) x52_3) : Int) := of_decide_eq_true (by first | (with_reducible assumption) | assumption)
                             have q158 : (rd (rd_L2 l0 (rd x8_2 x10_2)) x52_3) < (x5_3.length : Int) := of_decide_eq_true (by first | (with_reducible assumption) | assumption)
                             obtain ⟨ad158, e158, hx158_0⟩ := Kd.at_int (Kd.R_reads' HO_5.out).2.2 (rd (rd_L2 l0 (rd x8_2 x10_2)) x52_3) p158 q158
                             obtain rfl : (⟨go18, 0, none⟩ : Addr) = ad158 := (by injection e158)
                             (first | simp only [add_plain] at hx158_0 | simp only [add_at] at hx158_0 | simp only [Addr.add, Nat.zero_add] at hx158_0 | skip)
                             replace p158 := eq_true p158
                             replace q158 := eq_true q158
                             have p165 : 0 ≤ ((rd x8_2 x10_2) : Int) := of_decide_eq_true (by first | (with_reducible assumption) | assumption)
                             have q165 : (rd x8_2 x10_2) < (x6_3.length : Int) := of_decide_eq_true (by first | (with_reducible assumption) | assumption)
                             obtain ⟨ad165, e165, hx165_0⟩ := Kd.at_int (Kd.R_reads' HO_6.out).2.2 (rd x8_2 x10_2) p165 q165
                             obtain rfl : (⟨go20, 0, none⟩ : Addr) = ad165 := (by injection e165)
                             (first | simp only [add_plain] at hx165_0 | simp only [add_at] at hx165_0 | simp only [Addr.add, Nat.zero_add] at hx165_0 | skip)
                             replace p165 := eq_true p165
                             replace q165 := eq_true q165
                             have p168 : 0 ≤ ((rd x8_2 x10_2) : Int) := of_decide_eq_true (by first | (with_reducible assumption) | assumption)
                             have q168 : (rd x8_2 x10_2) < (x5_3.length : Int) := of_decide_eq_true (by first | (with_reducible assumption) | assumption)
                             obtain ⟨ad168, e168, hx168_0⟩ := Kd.at_int (Kd.R_reads' HO_5.out).2.2 (rd x8_2 x10_2) p168 q168
                             obtain rfl : (⟨go18, 0, none⟩ : Addr) = ad168 := (by injection e168)
                             (first | simp only [add_plain] at hx168_0 | simp only [add_at] at hx168_0 | simp only [Addr.add, Nat.zero_add] at hx168_0 | skip)
                             replace p168 := eq_true p168
                             replace q168 := eq_true q168
                             have p169 : 0 ≤ ((rd (rd_L2 l0 (rd x8_2 x10_2)) x52_3) : Int) := of_decide_eq_true (by first | (with_reducible assumption) | assumption)
                             have q169 : (rd (rd_L2 l0 (rd x8_2 x10_2)) x52_3) < (x5_3.length : Int) := of_decide_eq_true (by first | (with_reducible assumption) | assumption)
                             obtain ⟨ad169, e169, hx169_0⟩ := Kd.at_int (Kd.R_reads' HO_5.out).2.2 (rd (rd_L2 l0 (rd x8_2 x10_2)) x52_3) p169 q169
                             obtain rfl : (⟨go18, 0, none⟩ : Addr) = ad169 := (by injection e169)
                             (first | simp only [add_plain] at hx169_0 | simp only [add_at] at hx169_0 | simp only [Addr.add, Nat.zero_add] at hx169_0 | skip)
                             replace p169 := eq_true p169
                             replace q169 := eq_true q169
                             go_wp2
                             repeat (go_quiet (fail); try go_wp2)
                             (try simp only [← hl5_3, ← hl6_3])
                             go_roundg k3
                             case measure => have := HK1.out; have := HK2.out; have := HK3.out; omega
                             case rel => exact ⟨(x5_3), (x6_3), (x8_3), (x9_3), (wrap64 (x52_3 + 1)), (by first | rfl | (simp; done) | (simp [*]; done)), (by first | rfl | (simp; done) | (simp [*]; done)), H', ⟨by have := HK1.out; have := HK2.out; have := HK3.out; omega⟩, ⟨by (try simp only [hl5_1]); (try simp only [hl5_2]); (try simp only [hl6_2]); (try simp only [hl5_3]); (try simp only [hl6_3]); (with_reducible repeat (first | apply Kd.R_alloc | apply Kd.R_drewN | apply Kd.R_drew)); exact HO_5.out⟩, ⟨by (try simp only [hl5_1]); (try simp only [hl5_2]); (try simp only [hl6_2]); (try simp only [hl5_3]); (try simp only [hl6_3]); (with_reducible repeat (first | apply Kd.R_alloc | apply Kd.R_drewN | apply Kd.R_drew)); exact HO_6.out⟩, ⟨by (try simp only [hl5_1]); (try simp only [hl5_2]); (try simp only [hl6_2]); (try simp only [hl5_3]); (try simp only [hl6_3]); (with_reducible repeat (first | apply Kd.R_alloc | apply Kd.R_drewN | apply Kd.R_drew)); exact HO_8.out⟩, ⟨by repeat (first | (with_reducible first | exact HB.out | apply below_alloc | apply pw_below_drewN | apply below_drew1) | exact HB.out)⟩⟩
                           ·rw [if_neg c54] at H
                            exact absurd H (by simp)
                        ·rw [if_neg c50] at H
                         exact absurd H (by simp)
                       ·rw [if_neg c49] at H
                        exact absurd H (by simp)
                     ·rw [if_neg c36] at H
                      exact absurd H (by simp)
                    ·rw [if_neg c35] at H
                     exact absurd H (by simp)
                   ·rw [if_neg c34] at H
                    exact absurd H (by simp)
                  ·rw [if_neg c33] at H
                   exact absurd H (by simp)
                 ·rw [if_neg c32] at H
                  have c32b0 : decide (x52_3 < ((rd_L2 l0 (rd x8_2 x10_2)).length : Int)) = false := decide_eq_false c32
                  clear c32
                  have H' := Aside0.mk H
                  clear H
                  go_wp2
                  repeat (go_quiet (fail); try go_wp2)
                  (try simp only [← hl5_2, ← hl6_2, ← hl5_3, ← hl6_3])
                  go_roundg k3
                  case measure => have := HK1.out; have := HK2.out; have := HK3.out; omega
                  case rel => exact ⟨(x5_3), (x6_3), (x8_3), (x9_3), (wrap64 (x10_2 + 1)), (by first | rfl | (simp; done) | (simp [*]; done)), (by first | rfl | (simp; done) | (simp [*]; done)), H', ⟨by have := HK1.out; have := HK2.out; have := HK3.out; omega⟩, ⟨by (try simp only [hl5_1]); (try simp only [hl5_2]); (try simp only [hl6_2]); (try simp only [hl5_3]); (try simp only [hl6_3]); (with_reducible repeat (first | apply Kd.R_alloc | apply Kd.R_drewN | apply Kd.R_drew)); exact HO_5.out⟩, ⟨by (try simp only [hl5_1]); (try simp only [hl5_2]); (try simp only [hl6_2]); (try simp only [hl5_3]); (try simp only [hl6_3]); (with_reducible repeat (first | apply Kd.R_alloc | apply Kd.R_drewN | apply Kd.R_drew)); exact HO_6.out⟩, ⟨by (try simp only [hl5_1]); (try simp only [hl5_2]); (try simp only [hl6_2]); (try simp only [hl5_3]); (try simp only [hl6_3]); (with_reducible repeat (first | apply Kd.R_alloc | apply Kd.R_drewN | apply Kd.R_drew)); exact HO_8.out⟩, ⟨by repeat (first | (with_reducible first | exact HB.out | apply below_alloc | apply pw_below_drewN | apply below_drew1) | exact HB.out)⟩⟩
              ·rw [if_neg c30] at H
               exact absurd H (by simp)
             ·rw [if_neg c29] at H
              exact absurd H (by simp)
            ·rw [if_neg c28] at H
             exact absurd H (by simp)
           ·rw [if_neg c27] at H
            have c27b0 : decide (x10_2 < (x8_2.length : Int)) = false := decide_eq_false c27
            clear c27
            obtain rfl := Option.some.inj H
            obtain ⟨Ao56, co56, eo56⟩ := Kd.R_slice HO_8.out
            subst eo56
            go_wp2
            repeat (go_quiet (fail); try go_wp2)
            go_ret
            exact ⟨by first | rfl | (simp [errW_none, errW_some] <;> rfl) | (simp [*, errW_none, errW_some] <;> rfl), by repeat (first | (with_reducible first | exact HB.out | apply below_alloc | apply pw_below_drewN | apply below_drew1) | exact HB.out)⟩
        ·rw [if_neg c19] at H
         exact absurd H (by simp)
       ·rw [if_neg c17] at H
        exact absurd H (by simp)
      ·rw [if_neg c16] at H
       exact absurd H (by simp)
  ·rw [if_neg c4] at H
   exact absurd H (by simp)
 ·rw [if_neg c3] at H
  exact absurd H (by simp)
end Go.Proofs.Ytkifipakikbhcaa.Pg
namespace Go.Proofs.Ytkifipakikbhcaa.Pk
open Go.Proofs.Ytkifipakikbhcaa.Ref Go.Proofs.Ytkifipakikbhcaa.Pg Go.Proofs.Ytkifipakikbhcaa.Hand
open Go.RowKit Go.Proofs.YtkifipakikbhcaaW.PrintWords Go.Proofs.YtkifipakikbhcaaW.PrintLast Go.Proofs.YtkifipakikbhcaaW.PrintMore
attribute [local go_sem] max2_int min2_int max_two min_two max_three min_three max_four min_four
def peel_Girth.l0 : Nat → List (List Int) → Int → Int → Int → Option (Int × Int)
 | 0, _, _, _, _ => none
 | k + 1, x5, x6, x17, x18 => if x18 < x17 then ((peel_around.f k x5 x18).bind fun t106 => (if t106 > 0 then (if x6 = 0 then (peel_Girth.l0 k x5 t106 x17 (wrap64 (x18 + 1))) else (if t106 < x6 then (peel_Girth.l0 k x5 t106 x17 (wrap64 (x18 + 1))) else (peel_Girth.l0 k x5 x6 x17 (wrap64 (x18 + 1))))) else (peel_Girth.l0 k x5 x6 x17 (wrap64 (x18 + 1))))) else (some (x6, 0))
def peel_Girth.f (k : Nat) (a0_0 : Int) (l0_1 : List (List Int)) : Option (Int × Int) := (peel_Check.f a0_0 l0_1).bind fun t102 => (if t102 = 0 then ((peel_neighbors.f k a0_0 l0_1).bind fun t103 => (peel_Girth.l0 k t103 0 a0_0 0)) else (some (0, t102)))
theorem peel_Girth.calls (k : Nat) (a0_0 : Int) (A0_1 : Option Addr) (c0_1 : Nat) (l0_1 : List (List Int)) (r1 : Int) (r2 : Int) (w : World) (hr0_1 : Kd.C (Kd.slice 3 (Kd.int .i64)) w A0_1 l0_1.length l0_1) (hc0_1 : l0_1.length ≤ c0_1) (h : peel_Girth.f k a0_0 l0_1 = some (r1, r2)) :
  Calls Try.prog 18 #[.agg #[.int .i64 a0_0, .slice A0_1 l0_1.length c0_1]] w fun e w' => e = .returned (.tuple #[.int .i64 r1, .int .i64 r2]) ∧ Below w.heap.size w w' := by
 have hu31 := Try.underlying31
 have HR0_1 := Aside0.mk hr0_1
 have HC0_1 := Aside0.mk hc0_1
 clear hr0_1 hc0_1
 have HB := Aside0.mk (Below.refl w.heap.size w)
 have H : ((peel_Check.f a0_0 l0_1).bind fun t102 => (if t102 = 0 then ((peel_neighbors.f k a0_0 l0_1).bind fun t103 => (peel_Girth.l0 k t103 0 a0_0 0)) else (some (0, t102)))) = some (r1, r2) := h
 clear h
 replace H := Option.bind_eq_some_iff.mp H
 obtain ⟨t102, A20, H⟩ := H
 replace H : (if t102 = 0 then ((peel_neighbors.f k a0_0 l0_1).bind fun t103 => (peel_Girth.l0 k t103 0 a0_0 0)) else (some (0, t102))) = some (r1, r2) := H
 have A2 := Aside0.mk A20
 clear A20
 by_cases c3 : t102 = 0
 ·rw [if_pos c3] at H
  have c3b0 : (t102 == 0) = true := beq_iff_eq.mpr c3
  have c3b1 : (t102 != 0) = false := bne_eq_false_iff_eq.mpr c3
  clear c3
  replace H := Option.bind_eq_some_iff.mp H
  obtain ⟨t103, A40, H⟩ := H
  replace H : (peel_Girth.l0 k t103 0 a0_0 0) = some (r1, r2) := H
  have A4 := Aside0.mk A40
  clear A40
  have H' := Aside0.mk H
  clear H
  go_enter Try.func18, Try.ntmps18
  go_wp2_with (first | ((with_reducible refine gate_dst (N := 1) rfl ?_); refine box_event ?hg (N := 1) ?hd (cs := #[.int .i64 a0_0, .slice A0_1 l0_1.length c0_1]) (t := 31) ?hr ?_; (case hd => rfl); (case hg => rfl); (case hr => first | (go_simp; done) | (go_simp; rfl)); intro gb101 hg w5 hbox hb; have n0_ := Aside0.mk (below_step (by repeat (first | (with_reducible first | exact HB.out | apply below_alloc | apply pw_below_drewN | apply below_drew1) | exact HB.out)) hb); have n1_ := Aside0.mk (hbox); have n2_ := Aside0.mk ((by rw [hg]; exact (below_size (by repeat (first | (with_reducible first | exact HB.out | apply below_alloc | apply pw_below_drewN | apply below_drew1) | exact HB.out))) : w.heap.size ≤ gb101)); have n3_ := Aside0.mk ((by rw [hg]; exact (below_size (by repeat (first | (with_reducible first | exact HB.out | apply below_alloc | apply pw_below_drewN | apply below_drew1) | exact HB.out))) : w.heap.size ≤ gb101)); clear HB; have HB := n0_; have BK101 := n1_; have GW101 := n2_; have GE101 := n3_; clear n0_ n1_ n2_ n3_; clear hb hbox hg; have hcz6_0 : w5.cell? ⟨gb101, 0, none⟩ = some (.int .i64 a0_0) := (blk_cell BK101.out 0).trans rfl; have hcz6_1 : w5.cell? ⟨gb101, 1, none⟩ = some (.slice A0_1 l0_1.length c0_1) := (blk_cell BK101.out 1).trans rfl; have hfz6_0 := blk_frozen BK101.out 0; have hfz6_1 := blk_frozen BK101.out 1) | ((with_reducible refine gate_callee (f := 22) rfl ?_); refine goesL_ (some 10) rfl rfl Try.func22 (by kernel_rfl) rfl #[.agg #[.int .i64 a0_0, .slice A0_1 l0_1.length c0_1]] rfl (by (try simp only [List.map_toArray, List.map_cons, List.map_nil]); first | done | rfl | (simp only [List.length_drop, List.length_take]; rfl)) ?_; (with_reducible refine (peel_Check.calls a0_0 _ _ l0_1 t102 _ ?side1 ?side2 A2.out).mono ?_); (case side1 => repeat (first | exact (Kd.C_below HR0_1.out HB.out) | (with_reducible refine Kd.C_alloc ?_ _) | (with_reducible refine Kd.C_drewN ?_ _) | (with_reducible refine Kd.C_drew ?_))); (case side2 => exact HC0_1.out); rintro e w7 ⟨rfl, hb⟩; refine ⟨_, rfl, ?_⟩; have n0_ := Aside0.mk (blk_below (g := gb101) (o := .cells #[.int .i64 a0_0, .slice A0_1 l0_1.length c0_1] 31 (0, 0)) (by (with_reducible repeat (first | refine blk_drewN ?_ _ | refine blk_drew ?_ | refine blk_alloc ?_ _)); exact BK101.out) hb); have n1_ := Aside0.mk (below_step (by repeat (first | (with_reducible first | exact HB.out | apply below_alloc | apply pw_below_drewN | apply below_drew1 | refine below_set ?_ GE101.out) | exact HB.out)) hb); clear BK101; clear HB; have BK101 := n0_; have HB := n1_; clear n0_ n1_; (try clear hb); (try clear hb2); (try clear hk); (try clear hi); have hcz8_0 : w7.cell? ⟨gb101, 0, none⟩ = some (.int .i64 a0_0) := (blk_cell BK101.out 0).trans rfl; have hcz8_1 : w7.cell? ⟨gb101, 1, none⟩ = some (.slice A0_1 l0_1.length c0_1) := (blk_cell BK101.out 1).trans rfl; have hfz8_0 := blk_frozen BK101.out 0; have hfz8_1 := blk_frozen BK101.out 1) | ((with_reducible refine gate_callee (f := 45) rfl ?_); refine goesL_ (some 15) rfl rfl Try.func45 (by kernel_rfl) rfl #[.agg #[.int .i64 a0_0, .slice A0_1 l0_1.length c0_1]] rfl (by (try simp only [List.map_toArray, List.map_cons, List.map_nil]); first | done | rfl | (simp only [List.length_drop, List.length_take]; rfl)) ?_; (with_reducible refine (peel_neighbors.calls k a0_0 _ _ l0_1 t103 _ ?side1 ?side2 A4.out).mono ?_); (case side1 => repeat (first | exact (Kd.C_below HR0_1.out HB.out) | (with_reducible refine Kd.C_alloc ?_ _) | (with_reducible refine Kd.C_drewN ?_ _) | (with_reducible refine Kd.C_drew ?_))); (case side2 => exact HC0_1.out); rintro e w9 ⟨v104, rfl, ho0, hb⟩; refine ⟨_, rfl, ?_⟩; have n0_ := Aside0.mk (Kd.S_lower ho0 (below_size (by repeat (first | (with_reducible first | exact HB.out | apply below_alloc | apply pw_below_drewN | apply below_drew1 | refine below_set ?_ GE101.out) | exact HB.out)))); have n1_ := Aside0.mk (blk_below (g := gb101) (o := .cells #[.int .i64 a0_0, .slice A0_1 l0_1.length c0_1] 31 (0, 0)) (by (with_reducible repeat (first | refine blk_drewN ?_ _ | refine blk_drew ?_ | refine blk_alloc ?_ _)); exact BK101.out) hb); have n2_ := Aside0.mk (below_step (by repeat (first | (with_reducible first | exact HB.out | apply below_alloc | apply pw_below_drewN | apply below_drew1 | refine below_set ?_ GE101.out) | exact HB.out)) hb); clear BK101; clear HB; have HO105 := n0_; have BK101 := n1_; have HB := n2_; clear n0_ n1_ n2_; (try clear hb); (try clear hb2); (try clear hk); (try clear hi); (try clear ho0); have hcz10_0 : w9.cell? ⟨gb101, 0, none⟩ = some (.int .i64 a0_0) := (blk_cell BK101.out 0).trans rfl; have hcz10_1 : w9.cell? ⟨gb101, 1, none⟩ = some (.slice A0_1 l0_1.length c0_1) := (blk_cell BK101.out 1).trans rfl; have hfz10_0 := blk_frozen BK101.out 0; have hfz10_1 := blk_frozen BK101.out 1))
  go_loopg [6, 18] k (fun kq v6 v18 w' => ∃ (x6_1 : Int) (x18_1 : Int), v6 = .int .i64 x6_1 ∧ v18 = .int .i64 x18_1 ∧ Aside0 (peel_Girth.l0 kq t103 x6_1 a0_0 x18_1 = some (r1, r2)) ∧ Aside0 (kq ≤ k) ∧ Aside0 (Kd.S (Kd.slice 3 (Kd.int .i64)) 22 w' w.heap.size (fun _ => True) v104 t103) ∧ Aside0 (w'.heap[gb101]? = some (.cells #[.int .i64 a0_0, (.slice A0_1 l0_1.length c0_1)] 31 (0, 0))) ∧ Aside0 (Below w.heap.size w w'))
  case atStart => exact ⟨(0), (0), (by first | rfl | (simp; done) | (simp [*]; done)), (by first | rfl | (simp; done) | (simp [*]; done)), H', ⟨Nat.le_refl _⟩, ⟨by (with_reducible repeat (first | apply Kd.S_alloc | apply Kd.S_drewN | apply Kd.S_drew)); exact HO105.out⟩, ⟨by (with_reducible repeat (first | refine blk_drewN ?_ _ | refine blk_drew ?_ | refine blk_alloc ?_ _)); exact BK101.out⟩, ⟨by repeat (first | (with_reducible first | exact HB.out | apply below_alloc | apply pw_below_drewN | apply below_drew1 | refine below_set ?_ GE101.out) | exact HB.out)⟩⟩
  case round =>
   clear H'
   try clear c1
   try clear c2
   try clear p2
   try clear c3
   try clear c3b0
   try clear c3b1
   try clear c4
   try clear hcz10_0
   try clear hcz10_1
   try clear hcz6_0
   try clear hcz6_1
   try clear hcz8_0
   try clear hcz8_1
   try clear hfz10_0
   try clear hfz10_1
   try clear hfz6_0
   try clear hfz6_1
   try clear hfz8_0
   try clear hfz8_1
   obtain ⟨x6_1, x18_1, rfl, rfl, HA, HK1, HO_5, BK101, HB⟩ := hrel
   cases gk with
   | zero => exact absurd HA.out (by simp [peel_Girth.l0])
   | succ k1 =>
    have H := HA.out
    clear HA
    simp only [peel_Girth.l0] at H
    by_cases c11 : x18_1 < a0_0
    ·rw [if_pos c11] at H
     have c11b0 : decide (x18_1 < a0_0) = true := decide_eq_true c11
     clear c11
     replace H := Option.bind_eq_some_iff.mp H
     obtain ⟨t106, A120, H⟩ := H
     replace H : (if t106 > 0 then (if x6_1 = 0 then (peel_Girth.l0 k1 t103 t106 a0_0 (wrap64 (x18_1 + 1))) else (if t106 < x6_1 then (peel_Girth.l0 k1 t103 t106 a0_0 (wrap64 (x18_1 + 1))) else (peel_Girth.l0 k1 t103 x6_1 a0_0 (wrap64 (x18_1 + 1))))) else (peel_Girth.l0 k1 t103 x6_1 a0_0 (wrap64 (x18_1 + 1)))) = some (r1, r2) := H
     have A12 := Aside0.mk A120
     clear A120
     by_cases c13 : t106 > 0
     ·rw [if_pos c13] at H
      have c13b0 : decide (0 < t106) = true := decide_eq_true c13
      clear c13
      by_cases c14 : x6_1 = 0
      ·rw [if_pos c14] at H
       have c14b0 : (x6_1 == 0) = true := beq_iff_eq.mpr c14
       have c14b1 : (x6_1 != 0) = false := bne_eq_false_iff_eq.mpr c14
       clear c14
       have H' := Aside0.mk H
       clear H
       obtain ⟨Ao15, co15, eo15⟩ := Kd.S_slice HO_5.out
       subst eo15
       go_wp2_with (first | ((with_reducible refine gate_callee (f := 46) rfl ?_); refine goesL_ (some 23) rfl rfl Try.func46 (by kernel_rfl) rfl #[.slice Ao15 t103.length co15, .int .i64 x18_1] rfl (by (try simp only [List.map_toArray, List.map_cons, List.map_nil]); first | done | rfl | (simp only [List.length_drop, List.length_take]; rfl)) ?_; (with_reducible refine (peel_around.calls k1 _ _ t103 x18_1 t106 _ ?side1 ?side2 A12.out).mono ?_); (case side1 => repeat (first | exact (Kd.S_reads' HO_5.out).2.2 | (with_reducible refine Kd.C_alloc ?_ _) | (with_reducible refine Kd.C_drewN ?_ _) | (with_reducible refine Kd.C_drew ?_))); (case side2 => exact (Kd.S_reads' HO_5.out).2.1); rintro e w16 ⟨rfl, hb⟩; refine ⟨_, rfl, ?_⟩; have n0_ := Aside0.mk (Kd.S_below (by (with_reducible repeat (first | apply Kd.S_alloc | apply Kd.S_drewN | apply Kd.S_drew)); exact HO_5.out) hb); have n1_ := Aside0.mk (blk_below (g := gb101) (o := .cells #[.int .i64 a0_0, .slice A0_1 l0_1.length c0_1] 31 (0, 0)) (by (with_reducible repeat (first | refine blk_drewN ?_ _ | refine blk_drew ?_ | refine blk_alloc ?_ _)); exact BK101.out) hb); have n2_ := Aside0.mk (below_step (by repeat (first | (with_reducible first | exact HB.out | apply below_alloc | apply pw_below_drewN | apply below_drew1 | refine below_set ?_ GE101.out) | exact HB.out)) hb); clear HO_5; clear BK101; clear HB; have HO_5 := n0_; have BK101 := n1_; have HB := n2_; clear n0_ n1_ n2_; (try clear hb); (try clear hb2); (try clear hk); (try clear hi)))
       go_roundg k1
       case measure => have := HK1.out; omega
       case rel => exact ⟨(t106), (wrap64 (x18_1 + 1)), (by first | rfl | (simp; done) | (simp [*]; done)), (by first | rfl | (simp; done) | (simp [*]; done)), H', ⟨by have := HK1.out; omega⟩, ⟨by (with_reducible repeat (first | apply Kd.S_alloc | apply Kd.S_drewN | apply Kd.S_drew)); exact HO_5.out⟩, ⟨by (with_reducible repeat (first | refine blk_drewN ?_ _ | refine blk_drew ?_ | refine blk_alloc ?_ _)); exact BK101.out⟩, ⟨by repeat (first | (with_reducible first | exact HB.out | apply below_alloc | apply pw_below_drewN | apply below_drew1 | refine below_set ?_ GE101.out) | exact HB.out)⟩⟩
      ·rw [if_neg c14] at H
       have c14b0 : (x6_1 == 0) = false := beq_eq_false_iff_ne.mpr c14
       have c14b1 : (x6_1 != 0) = true := bne_iff_ne.mpr c14
       by_cases c17 : t106 < x6_1
       ·rw [if_pos c17] at H
        have c17b0 : decide (t106 < x6_1) = true := decide_eq_true c17
        clear c17
        have H' := Aside0.mk H
        clear H
        obtain ⟨Ao18, co18, eo18⟩ := Kd.S_slice HO_5.out
        subst eo18
        go_wp2_with (first | ((with_reducible refine gate_callee (f := 46) rfl ?_); refine goesL_ (some 23) rfl rfl Try.func46 (by kernel_rfl) rfl #[.slice Ao18 t103.length co18, .int .i64 x18_1] rfl (by (try simp only [List.map_toArray, List.map_cons, List.map_nil]); first | done | rfl | (simp only [List.length_drop, List.length_take]; rfl)) ?_; (with_reducible refine (peel_around.calls k1 _ _ t103 x18_1 t106 _ ?side1 ?side2 A12.out).mono ?_); (case side1 => repeat (first | exact (Kd.S_reads' HO_5.out).2.2 | (with_reducible refine Kd.C_alloc ?_ _) | (with_reducible refine Kd.C_drewN ?_ _) | (with_reducible refine Kd.C_drew ?_))); (case side2 => exact (Kd.S_reads' HO_5.out).2.1); rintro e w19 ⟨rfl, hb⟩; refine ⟨_, rfl, ?_⟩; have n0_ := Aside0.mk (Kd.S_below (by (with_reducible repeat (first | apply Kd.S_alloc | apply Kd.S_drewN | apply Kd.S_drew)); exact HO_5.out) hb); have n1_ := Aside0.mk (blk_below (g := gb101) (o := .cells #[.int .i64 a0_0, .slice A0_1 l0_1.length c0_1] 31 (0, 0)) (by (with_reducible repeat (first | refine blk_drewN ?_ _ | refine blk_drew ?_ | refine blk_alloc ?_ _)); exact BK101.out) hb); have n2_ := Aside0.mk (below_step (by repeat (first | (with_reducible first | exact HB.out | apply below_alloc | apply pw_below_drewN | apply below_drew1 | refine below_set ?_ GE101.out) | exact HB.out)) hb); clear HO_5; clear BK101; clear HB; have HO_5 := n0_; have BK101 := n1_; have HB := n2_; clear n0_ n1_ n2_; (try clear hb); (try clear hb2); (try clear hk); (try clear hi)))
        go_roundg k1
        case measure => have := HK1.out; omega
        case rel => exact ⟨(t106), (wrap64 (x18_1 + 1)), (by first | rfl | (simp; done) | (simp [*]; done)), (by first | rfl | (simp; done) | (simp [*]; done)), H', ⟨by have := HK1.out; omega⟩, ⟨by (with_reducible repeat (first | apply Kd.S_alloc | apply Kd.S_drewN | apply Kd.S_drew)); exact HO_5.out⟩, ⟨by (with_reducible repeat (first | refine blk_drewN ?_ _ | refine blk_drew ?_ | refine blk_alloc ?_ _)); exact BK101.out⟩, ⟨by repeat (first | (with_reducible first | exact HB.out | apply below_alloc | apply pw_below_drewN | apply below_drew1 | refine below_set ?_ GE101.out) | exact HB.out)⟩⟩
       ·rw [if_neg c17] at H
        have c17b0 : decide (t106 < x6_1) = false := decide_eq_false c17
        clear c17
        have H' := Aside0.mk H
        clear H
        obtain ⟨Ao20, co20, eo20⟩ := Kd.S_slice HO_5.out
        subst eo20
        go_wp2_with (first | ((with_reducible refine gate_callee (f := 46) rfl ?_); refine goesL_ (some 23) rfl rfl Try.func46 (by kernel_rfl) rfl #[.slice Ao20 t103.length co20, .int .i64 x18_1] rfl (by (try simp only [List.map_toArray, List.map_cons, List.map_nil]); first | done | rfl | (simp only [List.length_drop, List.length_take]; rfl)) ?_; (with_reducible refine (peel_around.calls k1 _ _ t103 x18_1 t106 _ ?side1 ?side2 A12.out).mono ?_); (case side1 => repeat (first | exact (Kd.S_reads' HO_5.out).2.2 | (with_reducible refine Kd.C_alloc ?_ _) | (with_reducible refine Kd.C_drewN ?_ _) | (with_reducible refine Kd.C_drew ?_))); (case side2 => exact (Kd.S_reads' HO_5.out).2.1); rintro e w21 ⟨rfl, hb⟩; refine ⟨_, rfl, ?_⟩; have n0_ := Aside0.mk (Kd.S_below (by (with_reducible repeat (first | apply Kd.S_alloc | apply Kd.S_drewN | apply Kd.S_drew)); exact HO_5.out) hb); have n1_ := Aside0.mk (blk_below (g := gb101) (o := .cells #[.int .i64 a0_0, .slice A0_1 l0_1.length c0_1] 31 (0, 0)) (by (with_reducible repeat (first | refine blk_drewN ?_ _ | refine blk_drew ?_ | refine blk_alloc ?_ _)); exact BK101.out) hb); have n2_ := Aside0.mk (below_step (by repeat (first | (with_reducible first | exact HB.out | apply below_alloc | apply pw_below_drewN | apply below_drew1 | refine below_set ?_ GE101.out) | exact HB.out)) hb); clear HO_5; clear BK101; clear HB; have HO_5 := n0_; have BK101 := n1_; have HB := n2_; clear n0_ n1_ n2_; (try clear hb); (try clear hb2); (try clear hk); (try clear hi)))
        go_roundg k1
        case measure => have := HK1.out; omega
        case rel => exact ⟨(x6_1), (wrap64 (x18_1 + 1)), (by first | rfl | (simp; done) | (simp [*]; done)), (by first | rfl | (simp; done) | (simp [*]; done)), H', ⟨by have := HK1.out; omega⟩, ⟨by (with_reducible repeat (first | apply Kd.S_alloc | apply Kd.S_drewN | apply Kd.S_drew)); exact HO_5.out⟩, ⟨by (with_reducible repeat (first | refine blk_drewN ?_ _ | refine blk_drew ?_ | refine blk_alloc ?_ _)); exact BK101.out⟩, ⟨by repeat (first | (with_reducible first | exact HB.out | apply below_alloc | apply pw_below_drewN | apply below_drew1 | refine below_set ?_ GE101.out) | exact HB.out)⟩⟩
     ·rw [if_neg c13] at H
      have c13b0 : decide (0 < t106) = false := decide_eq_false c13
      clear c13
      have H' := Aside0.mk H
      clear H
      obtain ⟨Ao22, co22, eo22⟩ := Kd.S_slice HO_5.out
      subst eo22
      go_wp2_with (first | ((with_reducible refine gate_callee (f := 46) rfl ?_); refine goesL_ (some 23) rfl rfl Try.func46 (by kernel_rfl) rfl #[.slice Ao22 t103.length co22, .int .i64 x18_1] rfl (by (try simp only [List.map_toArray, List.map_cons, List.map_nil]); first | done | rfl | (simp only [List.length_drop, List.length_take]; rfl)) ?_; (with_reducible refine (peel_around.calls k1 _ _ t103 x18_1 t106 _ ?side1 ?side2 A12.out).mono ?_); (case side1 => repeat (first | exact (Kd.S_reads' HO_5.out).2.2 | (with_reducible refine Kd.C_alloc ?_ _) | (with_reducible refine Kd.C_drewN ?_ _) | (with_reducible refine Kd.C_drew ?_))); (case side2 => exact (Kd.S_reads' HO_5.out).2.1); rintro e w23 ⟨rfl, hb⟩; refine ⟨_, rfl, ?_⟩; have n0_ := Aside0.mk (Kd.S_below (by (with_reducible repeat (first | apply Kd.S_alloc | apply Kd.S_drewN | apply Kd.S_drew)); exact HO_5.out) hb); have n1_ := Aside0.mk (blk_below (g := gb101) (o := .cells #[.int .i64 a0_0, .slice A0_1 l0_1.length c0_1] 31 (0, 0)) (by (with_reducible repeat (first | refine blk_drewN ?_ _ | refine blk_drew ?_ | refine blk_alloc ?_ _)); exact BK101.out) hb); have n2_ := Aside0.mk (below_step (by repeat (first | (with_reducible first | exact HB.out | apply below_alloc | apply pw_below_drewN | apply below_drew1 | refine below_set ?_ GE101.out) | exact HB.out)) hb); clear HO_5; clear BK101; clear HB; have HO_5 := n0_; have BK101 := n1_; have HB := n2_; clear n0_ n1_ n2_; (try clear hb); (try clear hb2); (try clear hk); (try clear hi)))
      go_roundg k1
      case measure => have := HK1.out; omega
      case rel => exact ⟨(x6_1), (wrap64 (x18_1 + 1)), (by first | rfl | (simp; done) | (simp [*]; done)), (by first | rfl | (simp; done) | (simp [*]; done)), H', ⟨by have := HK1.out; omega⟩, ⟨by (with_reducible repeat (first | apply Kd.S_alloc | apply Kd.S_drewN | apply Kd.S_drew)); exact HO_5.out⟩, ⟨by (with_reducible repeat (first | refine blk_drewN ?_ _ | refine blk_drew ?_ | refine blk_alloc ?_ _)); exact BK101.out⟩, ⟨by repeat (first | (with_reducible first | exact HB.out | apply below_alloc | apply pw_below_drewN | apply below_drew1 | refine below_set ?_ GE101.out) | exact HB.out)⟩⟩
    ·rw [if_neg c11] at H
     have c11b0 : decide (x18_1 < a0_0) = false := decide_eq_false c11
     clear c11
     simp only [Option.some.injEq, Prod.mk.injEq] at H
     obtain ⟨rfl, rfl⟩ := H
     go_wp2
     go_ret2
     exact ⟨by first | rfl | (simp [errW_none, errW_some] <;> rfl) | (simp [*, errW_none, errW_some] <;> rfl), by repeat (first | (with_reducible first | exact HB.out | apply below_alloc | apply pw_below_drewN | apply below_drew1 | refine below_set ?_ GE101.out) | exact HB.out)⟩
 ·rw [if_neg c3] at H
  have c3b0 : (t102 == 0) = false := beq_eq_false_iff_ne.mpr c3
  have c3b1 : (t102 != 0) = true := bne_iff_ne.mpr c3
  simp only [Option.some.injEq, Prod.mk.injEq] at H
  obtain ⟨rfl, rfl⟩ := H
  go_enter Try.func18, Try.ntmps18
  go_wp2_with (first | ((with_reducible refine gate_dst (N := 1) rfl ?_); refine box_event ?hg (N := 1) ?hd (cs := #[.int .i64 a0_0, .slice A0_1 l0_1.length c0_1]) (t := 31) ?hr ?_; (case hd => rfl); (case hg => rfl); (case hr => first | (go_simp; done) | (go_simp; rfl)); intro gb101 hg w24 hbox hb; have n0_ := Aside0.mk (below_step (by repeat (first | (with_reducible first | exact HB.out | apply below_alloc | apply pw_below_drewN | apply below_drew1) | exact HB.out)) hb); have n1_ := Aside0.mk (hbox); have n2_ := Aside0.mk ((by rw [hg]; exact (below_size (by repeat (first | (with_reducible first | exact HB.out | apply below_alloc | apply pw_below_drewN | apply below_drew1) | exact HB.out))) : w.heap.size ≤ gb101)); have n3_ := Aside0.mk ((by rw [hg]; exact (below_size (by repeat (first | (with_reducible first | exact HB.out | apply below_alloc | apply pw_below_drewN | apply below_drew1) | exact HB.out))) : w.heap.size ≤ gb101)); clear HB; have HB := n0_; have BK101 := n1_; have GW101 := n2_; have GE101 := n3_; clear n0_ n1_ n2_ n3_; clear hb hbox hg; have hcz25_0 : w24.cell? ⟨gb101, 0, none⟩ = some (.int .i64 a0_0) := (blk_cell BK101.out 0).trans rfl; have hcz25_1 : w24.cell? ⟨gb101, 1, none⟩ = some (.slice A0_1 l0_1.length c0_1) := (blk_cell BK101.out 1).trans rfl; have hfz25_0 := blk_frozen BK101.out 0; have hfz25_1 := blk_frozen BK101.out 1) | ((with_reducible refine gate_callee (f := 22) rfl ?_); refine goesL_ (some 10) rfl rfl Try.func22 (by kernel_rfl) rfl #[.agg #[.int .i64 a0_0, .slice A0_1 l0_1.length c0_1]] rfl (by (try simp only [List.map_toArray, List.map_cons, List.map_nil]); first | done | rfl | (simp only [List.length_drop, List.length_take]; rfl)) ?_; (with_reducible refine (peel_Check.calls a0_0 _ _ l0_1 t102 _ ?side1 ?side2 A2.out).mono ?_); (case side1 => repeat (first | exact (Kd.C_below HR0_1.out HB.out) | (with_reducible refine Kd.C_alloc ?_ _) | (with_reducible refine Kd.C_drewN ?_ _) | (with_reducible refine Kd.C_drew ?_))); (case side2 => exact HC0_1.out); rintro e w26 ⟨rfl, hb⟩; refine ⟨_, rfl, ?_⟩; have n0_ := Aside0.mk (blk_below (g := gb101) (o := .cells #[.int .i64 a0_0, .slice A0_1 l0_1.length c0_1] 31 (0, 0)) (by (with_reducible repeat (first | refine blk_drewN ?_ _ | refine blk_drew ?_ | refine blk_alloc ?_ _)); exact BK101.out) hb); have n1_ := Aside0.mk (below_step (by repeat (first | (with_reducible first | exact HB.out | apply below_alloc | apply pw_below_drewN | apply below_drew1 | refine below_set ?_ GE101.out) | exact HB.out)) hb); clear BK101; clear HB; have BK101 := n0_; have HB := n1_; clear n0_ n1_; (try clear hb); (try clear hb2); (try clear hk); (try clear hi)))
  go_ret2
  exact ⟨by first | rfl | (simp [errW_none, errW_some] <;> rfl) | (simp [*, errW_none, errW_some] <;> rfl), by repeat (first | (with_reducible first | exact HB.out | apply below_alloc | apply pw_below_drewN | apply below_drew1 | refine below_set ?_ GE101.out) | exact HB.out)⟩
end Go.Proofs.Ytkifipakikbhcaa.Pk
namespace Go.Proofs.Ytkifipakikbhcaa.Pk
open Go.Proofs.Ytkifipakikbhcaa.Ref Go.Proofs.Ytkifipakikbhcaa.Pg Go.Proofs.Ytkifipakikbhcaa.Hand
open Go.RowKit Go.Proofs.YtkifipakikbhcaaW.PrintWords Go.Proofs.YtkifipakikbhcaaW.PrintLast Go.Proofs.YtkifipakikbhcaaW.PrintMore
attribute [local go_sem] max2_int min2_int max_two min_two max_three min_three max_four min_four
def peel_Stopping.f (k : Nat) (a0_0 : Int) (l0_1 : List (List Int)) (l1 : List Int) : Option (Bool × Int) := (peel_Check.f a0_0 l0_1).bind fun t108 => (if t108 = 0 then ((peel_set.f k l1 a0_0).bind fun t109 => (if t109 = true then ((peel_mask.f k a0_0 l0_1 l1).bind fun t110 => ((peel_alone.f a0_0 l0_1 t110).bind fun t113 => (some (decide (t113 < 0), 0)))) else (some (false, 6)))) else (some (false, t108)))
def peel_Stopping.T6 : Bool × List (List Nat × List Nat) := (true, [([], []), ([], []), ([], []), ([1, 2], [1, 2]), ([0, 3, 3], [0, 3]), ([4], [4]), ([5, 4, 0, 1, 2, 3, 4, 5], [5]), ([6, 0, 1, 2, 3, 4, 5, 6], [])])
def peel_Stopping.B6 : List Nat := [0, 0, 0, 6, 15, 31, 63, 127]
theorem peel_Stopping.tab6 : rtab .any (opsOf Try.f20 6) = peel_Stopping.T6 := by kernel_rfl
theorem peel_Stopping.bits6 : waitsOk peel_Stopping.T6.2 peel_Stopping.B6 = true := by kernel_rfl
theorem peel_Stopping.calls (k : Nat) (a0_0 : Int) (A0_1 : Option Addr) (c0_1 : Nat) (l0_1 : List (List Int)) (A1 : Option Addr) (c1 : Nat) (l1 : List Int) (r1 : Bool) (r2 : Int) (w : World) (hr0_1 : Kd.C (Kd.slice 3 (Kd.int .i64)) w A0_1 l0_1.length l0_1) (hc0_1 : l0_1.length ≤ c0_1) (hr1 : Kd.C (Kd.int .i64) w A1 l1.length l1) (hc1 : l1.length ≤ c1) (h : peel_Stopping.f k a0_0 l0_1 l1 = some (r1, r2)) :
  Calls Try.prog 20 #[.agg #[.int .i64 a0_0, .slice A0_1 l0_1.length c0_1], .slice A1 l1.length c1] w fun e w' => e = .returned (.tuple #[.bool r1, .int .i64 r2]) ∧ Below w.heap.size w w' := by
 have hu31 := Try.underlying31
 have HR0_1 := Aside0.mk hr0_1
 have HC0_1 := Aside0.mk hc0_1
 clear hr0_1 hc0_1
 have HR1 := Aside0.mk hr1
 have HC1 := Aside0.mk hc1
 clear hr1 hc1
 have HB := Aside0.mk (Below.refl w.heap.size w)
 have H : ((peel_Check.f a0_0 l0_1).bind fun t108 => (if t108 = 0 then ((peel_set.f k l1 a0_0).bind fun t109 => (if t109 = true then ((peel_mask.f k a0_0 l0_1 l1).bind fun t110 => ((peel_alone.f a0_0 l0_1 t110).bind fun t113 => (some (decide (t113 < 0), 0)))) else (some (false, 6)))) else (some (false, t108)))) = some (r1, r2) := h
 clear h
 replace H := Option.bind_eq_some_iff.mp H
 obtain ⟨t108, A30, H⟩ := H
 replace H : (if t108 = 0 then ((peel_set.f k l1 a0_0).bind fun t109 => (if t109 = true then ((peel_mask.f k a0_0 l0_1 l1).bind fun t110 => ((peel_alone.f a0_0 l0_1 t110).bind fun t113 => (some (decide (t113 < 0), 0)))) else (some (false, 6)))) else (some (false, t108))) = some (r1, r2) := H
 have A3 := Aside0.mk A30
 clear A30
 by_cases c4 : t108 = 0
 ·rw [if_pos c4] at H
  have c4b0 : (t108 == 0) = true := beq_iff_eq.mpr c4
  have c4b1 : (t108 != 0) = false := bne_eq_false_iff_eq.mpr c4
  clear c4
  replace H := Option.bind_eq_some_iff.mp H
  obtain ⟨t109, A50, H⟩ := H
  replace H : (if t109 = true then ((peel_mask.f k a0_0 l0_1 l1).bind fun t110 => ((peel_alone.f a0_0 l0_1 t110).bind fun t113 => (some (decide (t113 < 0), 0)))) else (some (false, 6))) = some (r1, r2) := H
  have A5 := Aside0.mk A50
  clear A50
  by_cases c6 : t109 = true
  ·subst c6
   have H1 : ((peel_mask.f k a0_0 l0_1 l1).bind fun t110 => ((peel_alone.f a0_0 l0_1 t110).bind fun t113 => (some (decide (t113 < 0), 0)))) = some (r1, r2) := by rw [if_pos rfl] at H; exact H
   clear H
   have H := H1
   clear H1
   replace H := Option.bind_eq_some_iff.mp H
   obtain ⟨t110, A70, H⟩ := H
   replace H : ((peel_alone.f a0_0 l0_1 t110).bind fun t113 => (some (decide (t113 < 0), 0))) = some (r1, r2) := H
   have A7 := Aside0.mk A70
   clear A70
   replace H := Option.bind_eq_some_iff.mp H
   obtain ⟨t113, A80, H⟩ := H
   replace H : (some (decide (t113 < 0), 0)) = some (r1, r2) := H
   have A8 := Aside0.mk A80
   clear A80
   simp only [Option.some.injEq, Prod.mk.injEq] at H
   obtain ⟨rfl, rfl⟩ := H
   go_enter Try.func20, Try.ntmps20
   try go_wp2_with (first | ((with_reducible refine gate_dst (N := 2) rfl ?_); refine box_event ?hg (N := 2) ?hd (cs := #[.int .i64 a0_0, .slice A0_1 l0_1.length c0_1]) (t := 31) ?hr ?_; (case hd => rfl); (case hg => rfl); (case hr => first | (go_simp; done) | (go_simp; rfl)); intro gb107 hg w9 hbox hb; have n0_ := Aside0.mk (below_step (by repeat (first | (with_reducible first | exact HB.out | apply below_alloc | apply pw_below_drewN | apply below_drew1) | exact HB.out)) hb); have n1_ := Aside0.mk (hbox); have n2_ := Aside0.mk ((by rw [hg]; exact (below_size (by repeat (first | (with_reducible first | exact HB.out | apply below_alloc | apply pw_below_drewN | apply below_drew1) | exact HB.out))) : w.heap.size ≤ gb107)); have n3_ := Aside0.mk ((by rw [hg]; exact (below_size (by repeat (first | (with_reducible first | exact HB.out | apply below_alloc | apply pw_below_drewN | apply below_drew1) | exact HB.out))) : w.heap.size ≤ gb107)); clear HB; have HB := n0_; have BK107 := n1_; have GW107 := n2_; have GE107 := n3_; clear n0_ n1_ n2_ n3_; clear hb hbox hg; have hcz10_0 : w9.cell? ⟨gb107, 0, none⟩ = some (.int .i64 a0_0) := (blk_cell BK107.out 0).trans rfl; have hcz10_1 : w9.cell? ⟨gb107, 1, none⟩ = some (.slice A0_1 l0_1.length c0_1) := (blk_cell BK107.out 1).trans rfl; have hfz10_0 := blk_frozen BK107.out 0; have hfz10_1 := blk_frozen BK107.out 1) | ((with_reducible refine gate_callee (f := 22) rfl ?_); refine goesL_ (some 8) rfl rfl Try.func22 (by kernel_rfl) rfl #[.agg #[.int .i64 a0_0, .slice A0_1 l0_1.length c0_1]] rfl (by (try simp only [List.map_toArray, List.map_cons, List.map_nil]); first | done | rfl | (simp only [List.length_drop, List.length_take]; rfl)) ?_; (with_reducible refine (peel_Check.calls a0_0 _ _ l0_1 t108 _ ?side1 ?side2 A3.out).mono ?_); (case side1 => repeat (first | exact (Kd.C_below HR0_1.out HB.out) | (with_reducible refine Kd.C_alloc ?_ _) | (with_reducible refine Kd.C_drewN ?_ _) | (with_reducible refine Kd.C_drew ?_))); (case side2 => exact HC0_1.out); rintro e w11 ⟨rfl, hb⟩; refine ⟨_, rfl, ?_⟩; have n0_ := Aside0.mk (blk_below (g := gb107) (o := .cells #[.int .i64 a0_0, .slice A0_1 l0_1.length c0_1] 31 (0, 0)) (by (with_reducible repeat (first | refine blk_drewN ?_ _ | refine blk_drew ?_ | refine blk_alloc ?_ _)); exact BK107.out) hb); have n1_ := Aside0.mk (below_step (by repeat (first | (with_reducible first | exact HB.out | apply below_alloc | apply pw_below_drewN | apply below_drew1 | refine below_set ?_ GE107.out) | exact HB.out)) hb); clear BK107; clear HB; have BK107 := n0_; have HB := n1_; clear n0_ n1_; (try clear hb); (try clear hb2); (try clear hk); (try clear hi); have hcz12_0 : w11.cell? ⟨gb107, 0, none⟩ = some (.int .i64 a0_0) := (blk_cell BK107.out 0).trans rfl; have hcz12_1 : w11.cell? ⟨gb107, 1, none⟩ = some (.slice A0_1 l0_1.length c0_1) := (blk_cell BK107.out 1).trans rfl; have hfz12_0 := blk_frozen BK107.out 0; have hfz12_1 := blk_frozen BK107.out 1) | ((with_reducible refine gate_callee (f := 48) rfl ?_); refine goesL_ (some 15) rfl rfl Try.func48 (by kernel_rfl) rfl #[.slice A1 l1.length c1, .int .i64 a0_0] rfl (by (try simp only [List.map_toArray, List.map_cons, List.map_nil]); first | done | rfl | (simp only [List.length_drop, List.length_take]; rfl)) ?_; (with_reducible refine (peel_set.calls k _ _ l1 a0_0 true _ ?side1 ?side2 A5.out).mono ?_); (case side1 => repeat (first | exact (Kd.C_below HR1.out HB.out) | (with_reducible refine Kd.C_alloc ?_ _) | (with_reducible refine Kd.C_drewN ?_ _) | (with_reducible refine Kd.C_drew ?_))); (case side2 => exact HC1.out); rintro e w' ⟨rfl, ⟨nd, rfl⟩⟩; refine ⟨_, rfl, ?_⟩))
   (try (rw [drewN_self w11]; generalize hq_ : World.drewN w11 _ = w11; have n0_ : Aside0 (w11.heap[gb107]? = some (.cells #[.int .i64 a0_0, .slice A0_1 l0_1.length c0_1] 31 (0, 0))) := ⟨by rw [← hq_]; exact (by (with_reducible repeat (first | refine blk_drewN ?_ _ | refine blk_drew ?_ | refine blk_alloc ?_ _)); exact BK107.out)⟩; have n1_ : Aside0 (Below w.heap.size w w11) := ⟨by rw [← hq_]; exact (by repeat (first | (with_reducible first | exact HB.out | apply below_alloc | apply pw_below_drewN | apply below_drew1 | refine below_set ?_ GE107.out) | exact HB.out))⟩; clear BK107 HB hq_; have BK107 := n0_; have HB := n1_; clear n0_ n1_))
   have n0_ := Aside0.mk (blk_drew BK107.out)
   have n1_ := Aside0.mk (below_drew1 HB.out)
   clear BK107
   clear HB
   have BK107 := n0_
   have HB := n1_
   clear n0_ n1_
   refine start_ (n := 8) (S := fun w' => w'.cell? ⟨gb107, 0, none⟩ = some (.int .i64 a0_0) ∧ w'.cell? ⟨gb107, 1, none⟩ = some (.slice A0_1 l0_1.length c0_1)) (ds := []) #[false, false, false, false, false, false, false, false] (by kernel_rfl) rfl rfl ⟨(blk_cell BK107.out 0).trans rfl, (blk_cell BK107.out 1).trans rfl⟩ (fun hHeld => ?_); refine with_tabW peel_Stopping.tab6 peel_Stopping.bits6 (fun HT_ HW_ => ?_)
   generalize w11.drew = w13 at BK107 HB hHeld ⊢
   refine pure_ (i := 2) (N := some 19) (v := ?_) (a' := ?_) #[false, false, true, false, false, false, false, false] rfl rfl (any_of HT_.out (by kernel_rfl)) (fun _ _ _ h => h) (Or.inl ⟨by rfl, ?_⟩) ?_ ?_
   rotate_left
   ·intro w'
    go_simp
    with_reducible rfl
   rotate_left
   ·simp only [Act.put, List.setIfInBounds_toArray, List.set_cons_zero, List.set_cons_succ, i64_w, i32_w]
    rfl
   refine take_ (i := 0) (N := some 17) (v := ?_) (a' := ?_) #[true, false, true, false, false, false, false, false] rfl rfl (take_ofW HT_.out HW_.out (by kernel_rfl)) (fun _ _ _ h => h) (Or.inl ⟨by rfl, ?_⟩) hHeld ?_ ?_
   rotate_left
   ·rintro w' ⟨s0, s1⟩
    go_simp
    with_reducible rfl
   rotate_left
   ·simp only [Act.put, List.setIfInBounds_toArray, List.set_cons_zero, List.set_cons_succ, i64_w, i32_w]
    rfl
   refine take_ (i := 1) (N := some 18) (v := ?_) (a' := ?_) #[true, true, true, false, false, false, false, false] rfl rfl (take_ofW HT_.out HW_.out (by kernel_rfl)) (fun _ _ _ h => h) (Or.inl ⟨by rfl, ?_⟩) hHeld ?_ ?_
   rotate_left
   ·rintro w' ⟨s0, s1⟩
    go_simp
    with_reducible rfl
   rotate_left
   ·simp only [Act.put, List.setIfInBounds_toArray, List.set_cons_zero, List.set_cons_succ, i64_w, i32_w]
    rfl
   refine one_ (i := 3) (N := some 20) #[true, true, true, true, false, false, false, false] rfl rfl (one_of HT_.out (by kernel_rfl)) (by decide) (fun K hK => ?_)
   refine goes_ Try.func50 (by kernel_rfl) rfl #[.agg #[.int .i64 a0_0, .slice A0_1 l0_1.length c0_1], .slice A1 l1.length c1] (by rfl) rfl rfl (by (try simp only [List.map_toArray, List.map_cons, List.map_nil]); first | done | rfl | (simp only [List.length_drop, List.length_take]; rfl)) ?_
   with_reducible refine (peel_mask.calls k a0_0 _ _ l0_1 _ _ l1 t110 _ ?side1 ?side2 ?side3 ?side4 A7.out).mono ?_
   (case side1 => repeat (first | exact (Kd.C_below HR0_1.out HB.out) | (with_reducible refine Kd.C_alloc ?_ _) | (with_reducible refine Kd.C_drewN ?_ _) | (with_reducible refine Kd.C_drew ?_)))
   (case side2 => exact HC0_1.out)
   (case side3 => repeat (first | exact (Kd.C_below HR1.out HB.out) | (with_reducible refine Kd.C_alloc ?_ _) | (with_reducible refine Kd.C_drewN ?_ _) | (with_reducible refine Kd.C_drew ?_)))
   (case side4 => exact HC1.out)
   rintro e w14 ⟨v111, rfl, ho0, hb⟩
   refine ⟨_, rfl, ?_⟩
   have n0_ := Aside0.mk (Kd.R_lower ho0 (below_size (by repeat (first | (with_reducible first | exact HB.out | apply below_alloc | apply pw_below_drewN | apply below_drew1 | refine below_set ?_ GE107.out) | exact HB.out))))
   have n1_ := Aside0.mk (blk_below (g := gb107) (o := .cells #[.int .i64 a0_0, .slice A0_1 l0_1.length c0_1] 31 (0, 0)) (by (with_reducible repeat (first | refine blk_drewN ?_ _ | refine blk_drew ?_ | refine blk_alloc ?_ _)); exact BK107.out) hb)
   have n2_ := Aside0.mk (below_step (by repeat (first | (with_reducible first | exact HB.out | apply below_alloc | apply pw_below_drewN | apply below_drew1 | refine below_set ?_ GE107.out) | exact HB.out)) hb)
   clear BK107
   clear HB
   have HO112 := n0_
   have BK107 := n1_
   have HB := n2_
   clear n0_ n1_ n2_
   (try clear hb)
   (try clear hb2)
   (try clear hk)
   (try clear hi)
   (try clear ho0)
   obtain ⟨Ao15, co15, eo15⟩ := Kd.R_slice HO112.out
   (first | subst eo15 | (injection eo15 with f1_ f2_ f3_; have f4_ := f1_.symm; have f5_ := f3_.symm; clear f1_ f2_ f3_; subst f4_; subst f5_))
   refine hK.out _ _ ⟨(blk_cell BK107.out 0).trans rfl, (blk_cell BK107.out 1).trans rfl⟩ (fun hHeld => ?_)
   clear hK K
   refine norm_ (a' := ?_) ?_ ?_
   rotate_left
   ·show Act.put _ (some 20) _ = _
    simp only [Act.put, List.setIfInBounds_toArray, List.set_cons_zero, List.set_cons_succ, i64_w, i32_w]
    rfl
   refine one_ (i := 4) (N := some 21) #[true, true, true, true, true, false, false, false] rfl rfl (one_of HT_.out (by kernel_rfl)) (by decide) (fun K hK => ?_)
   refine goes_ Try.func49 (by kernel_rfl) rfl #[.agg #[.int .i64 a0_0, .slice A0_1 l0_1.length c0_1], .slice Ao15 t110.length co15] (by rfl) rfl rfl (by (try simp only [List.map_toArray, List.map_cons, List.map_nil]); first | done | rfl | (simp only [List.length_drop, List.length_take]; rfl)) ?_
   with_reducible refine (peel_alone.calls a0_0 _ _ l0_1 _ _ t110 t113 _ ?side1 ?side2 ?side3 ?side4 A8.out).mono ?_
   (case side1 => repeat (first | exact (Kd.C_below HR0_1.out HB.out) | (with_reducible refine Kd.C_alloc ?_ _) | (with_reducible refine Kd.C_drewN ?_ _) | (with_reducible refine Kd.C_drew ?_)))
   (case side2 => exact HC0_1.out)
   (case side3 => repeat (first | exact (Kd.R_reads' HO112.out).2.2 | (with_reducible refine Kd.C_alloc ?_ _) | (with_reducible refine Kd.C_drewN ?_ _) | (with_reducible refine Kd.C_drew ?_)))
   (case side4 => exact (Kd.R_reads' HO112.out).2.1)
   rintro e w16 ⟨rfl, hb⟩
   refine ⟨_, rfl, ?_⟩
   have n0_ := Aside0.mk (Kd.R_below (by (with_reducible repeat (first | apply Kd.R_alloc | apply Kd.R_drewN | apply Kd.R_drew)); exact HO112.out) hb)
   have n1_ := Aside0.mk (blk_below (g := gb107) (o := .cells #[.int .i64 a0_0, .slice A0_1 l0_1.length c0_1] 31 (0, 0)) (by (with_reducible repeat (first | refine blk_drewN ?_ _ | refine blk_drew ?_ | refine blk_alloc ?_ _)); exact BK107.out) hb)
   have n2_ := Aside0.mk (below_step (by repeat (first | (with_reducible first | exact HB.out | apply below_alloc | apply pw_below_drewN | apply below_drew1 | refine below_set ?_ GE107.out) | exact HB.out)) hb)
   clear HO112
   clear BK107
   clear HB
   have HO112 := n0_
   have BK107 := n1_
   have HB := n2_
   clear n0_ n1_ n2_
   (try clear hb)
   (try clear hb2)
   (try clear hk)
   (try clear hi)
   refine hK.out _ _ ⟨(blk_cell BK107.out 0).trans rfl, (blk_cell BK107.out 1).trans rfl⟩ (fun hHeld => ?_)
   clear hK K
   refine norm_ (a' := ?_) ?_ ?_
   rotate_left
   ·show Act.put _ (some 21) _ = _
    simp only [Act.put, List.setIfInBounds_toArray, List.set_cons_zero, List.set_cons_succ, i64_w, i32_w]
    rfl
   refine pure_ (i := 5) (N := some 22) (v := ?_) (a' := ?_) #[true, true, true, true, true, true, false, false] rfl rfl (any_of HT_.out (by kernel_rfl)) (fun _ _ _ h => h) (Or.inl ⟨by rfl, ?_⟩) ?_ ?_
   rotate_left
   ·intro w'
    go_simp
    with_reducible rfl
   rotate_left
   ·simp only [Act.put, List.setIfInBounds_toArray, List.set_cons_zero, List.set_cons_succ, i64_w, i32_w]
    rfl
   refine pure_ (i := 6) (N := some 4) (v := ?_) (a' := ?_) #[true, true, true, true, true, true, true, false] rfl rfl (any_of HT_.out (by kernel_rfl)) (fun _ _ _ h => h) (Or.inl ⟨by rfl, ?_⟩) ?_ ?_
   rotate_left
   ·intro w'
    go_simp
    with_reducible rfl
   rotate_left
   ·simp only [Act.put, List.setIfInBounds_toArray, List.set_cons_zero, List.set_cons_succ, i64_w, i32_w]
    rfl
   refine pure_ (i := 7) (N := some 5) (v := ?_) (a' := ?_) #[true, true, true, true, true, true, true, true] rfl rfl (any_of HT_.out (by kernel_rfl)) (fun _ _ _ h => h) (Or.inl ⟨by rfl, ?_⟩) ?_ ?_
   rotate_left
   ·intro w'
    go_simp
    with_reducible rfl
   rotate_left
   ·simp only [Act.put, List.setIfInBounds_toArray, List.set_cons_zero, List.set_cons_succ, i64_w, i32_w]
    rfl
   refine done_ (done_of HT_.out (by kernel_rfl)) ?_
   try go_wp2
   go_ret2
   exact ⟨by first | rfl | (simp [errW_none, errW_some] <;> rfl) | (simp [*, errW_none, errW_some] <;> rfl), by repeat (first | (with_reducible first | exact HB.out | apply below_alloc | apply pw_below_drewN | apply below_drew1 | refine below_set ?_ GE107.out) | exact HB.out)⟩
  ·replace c6 := Bool.eq_false_iff.mpr c6
   subst c6
   have H1 : (some (false, 6)) = some (r1, r2) := by rw [if_neg (show ¬ (false = true) by decide)] at H; exact H
   clear H
   have H := H1
   clear H1
   simp only [Option.some.injEq, Prod.mk.injEq] at H
   obtain ⟨rfl, rfl⟩ := H
   go_enter Try.func20, Try.ntmps20
   go_wp2_with (first | ((with_reducible refine gate_dst (N := 2) rfl ?_); refine box_event ?hg (N := 2) ?hd (cs := #[.int .i64 a0_0, .slice A0_1 l0_1.length c0_1]) (t := 31) ?hr ?_; (case hd => rfl); (case hg => rfl); (case hr => first | (go_simp; done) | (go_simp; rfl)); intro gb107 hg w17 hbox hb; have n0_ := Aside0.mk (below_step (by repeat (first | (with_reducible first | exact HB.out | apply below_alloc | apply pw_below_drewN | apply below_drew1) | exact HB.out)) hb); have n1_ := Aside0.mk (hbox); have n2_ := Aside0.mk ((by rw [hg]; exact (below_size (by repeat (first | (with_reducible first | exact HB.out | apply below_alloc | apply pw_below_drewN | apply below_drew1) | exact HB.out))) : w.heap.size ≤ gb107)); have n3_ := Aside0.mk ((by rw [hg]; exact (below_size (by repeat (first | (with_reducible first | exact HB.out | apply below_alloc | apply pw_below_drewN | apply below_drew1) | exact HB.out))) : w.heap.size ≤ gb107)); clear HB; have HB := n0_; have BK107 := n1_; have GW107 := n2_; have GE107 := n3_; clear n0_ n1_ n2_ n3_; clear hb hbox hg; have hcz18_0 : w17.cell? ⟨gb107, 0, none⟩ = some (.int .i64 a0_0) := (blk_cell BK107.out 0).trans rfl; have hcz18_1 : w17.cell? ⟨gb107, 1, none⟩ = some (.slice A0_1 l0_1.length c0_1) := (blk_cell BK107.out 1).trans rfl; have hfz18_0 := blk_frozen BK107.out 0; have hfz18_1 := blk_frozen BK107.out 1) | ((with_reducible refine gate_callee (f := 22) rfl ?_); refine goesL_ (some 8) rfl rfl Try.func22 (by kernel_rfl) rfl #[.agg #[.int .i64 a0_0, .slice A0_1 l0_1.length c0_1]] rfl (by (try simp only [List.map_toArray, List.map_cons, List.map_nil]); first | done | rfl | (simp only [List.length_drop, List.length_take]; rfl)) ?_; (with_reducible refine (peel_Check.calls a0_0 _ _ l0_1 t108 _ ?side1 ?side2 A3.out).mono ?_); (case side1 => repeat (first | exact (Kd.C_below HR0_1.out HB.out) | (with_reducible refine Kd.C_alloc ?_ _) | (with_reducible refine Kd.C_drewN ?_ _) | (with_reducible refine Kd.C_drew ?_))); (case side2 => exact HC0_1.out); rintro e w19 ⟨rfl, hb⟩; refine ⟨_, rfl, ?_⟩; have n0_ := Aside0.mk (blk_below (g := gb107) (o := .cells #[.int .i64 a0_0, .slice A0_1 l0_1.length c0_1] 31 (0, 0)) (by (with_reducible repeat (first | refine blk_drewN ?_ _ | refine blk_drew ?_ | refine blk_alloc ?_ _)); exact BK107.out) hb); have n1_ := Aside0.mk (below_step (by repeat (first | (with_reducible first | exact HB.out | apply below_alloc | apply pw_below_drewN | apply below_drew1 | refine below_set ?_ GE107.out) | exact HB.out)) hb); clear BK107; clear HB; have BK107 := n0_; have HB := n1_; clear n0_ n1_; (try clear hb); (try clear hb2); (try clear hk); (try clear hi); have hcz20_0 : w19.cell? ⟨gb107, 0, none⟩ = some (.int .i64 a0_0) := (blk_cell BK107.out 0).trans rfl; have hcz20_1 : w19.cell? ⟨gb107, 1, none⟩ = some (.slice A0_1 l0_1.length c0_1) := (blk_cell BK107.out 1).trans rfl; have hfz20_0 := blk_frozen BK107.out 0; have hfz20_1 := blk_frozen BK107.out 1) | ((with_reducible refine gate_callee (f := 48) rfl ?_); refine goesL_ (some 15) rfl rfl Try.func48 (by kernel_rfl) rfl #[.slice A1 l1.length c1, .int .i64 a0_0] rfl (by (try simp only [List.map_toArray, List.map_cons, List.map_nil]); first | done | rfl | (simp only [List.length_drop, List.length_take]; rfl)) ?_; (with_reducible refine (peel_set.calls k _ _ l1 a0_0 false _ ?side1 ?side2 A5.out).mono ?_); (case side1 => repeat (first | exact (Kd.C_below HR1.out HB.out) | (with_reducible refine Kd.C_alloc ?_ _) | (with_reducible refine Kd.C_drewN ?_ _) | (with_reducible refine Kd.C_drew ?_))); (case side2 => exact HC1.out); rintro e w' ⟨rfl, ⟨nd, rfl⟩⟩; refine ⟨_, rfl, ?_⟩))
   go_ret2
   exact ⟨by first | rfl | (simp [errW_none, errW_some] <;> rfl) | (simp [*, errW_none, errW_some] <;> rfl), by repeat (first | (with_reducible first | exact HB.out | apply below_alloc | apply pw_below_drewN | apply below_drew1 | refine below_set ?_ GE107.out) | exact HB.out)⟩
 ·rw [if_neg c4] at H
  have c4b0 : (t108 == 0) = false := beq_eq_false_iff_ne.mpr c4
  have c4b1 : (t108 != 0) = true := bne_iff_ne.mpr c4
  simp only [Option.some.injEq, Prod.mk.injEq] at H
  obtain ⟨rfl, rfl⟩ := H
  go_enter Try.func20, Try.ntmps20
  go_wp2_with (first | ((with_reducible refine gate_dst (N := 2) rfl ?_); refine box_event ?hg (N := 2) ?hd (cs := #[.int .i64 a0_0, .slice A0_1 l0_1.length c0_1]) (t := 31) ?hr ?_; (case hd => rfl); (case hg => rfl); (case hr => first | (go_simp; done) | (go_simp; rfl)); intro gb107 hg w21 hbox hb; have n0_ := Aside0.mk (below_step (by repeat (first | (with_reducible first | exact HB.out | apply below_alloc | apply pw_below_drewN | apply below_drew1) | exact HB.out)) hb); have n1_ := Aside0.mk (hbox); have n2_ := Aside0.mk ((by rw [hg]; exact (below_size (by repeat (first | (with_reducible first | exact HB.out | apply below_alloc | apply pw_below_drewN | apply below_drew1) | exact HB.out))) : w.heap.size ≤ gb107)); have n3_ := Aside0.mk ((by rw [hg]; exact (below_size (by repeat (first | (with_reducible first | exact HB.out | apply below_alloc | apply pw_below_drewN | apply below_drew1) | exact HB.out))) : w.heap.size ≤ gb107)); clear HB; have HB := n0_; have BK107 := n1_; have GW107 := n2_; have GE107 := n3_; clear n0_ n1_ n2_ n3_; clear hb hbox hg; have hcz22_0 : w21.cell? ⟨gb107, 0, none⟩ = some (.int .i64 a0_0) := (blk_cell BK107.out 0).trans rfl; have hcz22_1 : w21.cell? ⟨gb107, 1, none⟩ = some (.slice A0_1 l0_1.length c0_1) := (blk_cell BK107.out 1).trans rfl; have hfz22_0 := blk_frozen BK107.out 0; have hfz22_1 := blk_frozen BK107.out 1) | ((with_reducible refine gate_callee (f := 22) rfl ?_); refine goesL_ (some 8) rfl rfl Try.func22 (by kernel_rfl) rfl #[.agg #[.int .i64 a0_0, .slice A0_1 l0_1.length c0_1]] rfl (by (try simp only [List.map_toArray, List.map_cons, List.map_nil]); first | done | rfl | (simp only [List.length_drop, List.length_take]; rfl)) ?_; (with_reducible refine (peel_Check.calls a0_0 _ _ l0_1 t108 _ ?side1 ?side2 A3.out).mono ?_); (case side1 => repeat (first | exact (Kd.C_below HR0_1.out HB.out) | (with_reducible refine Kd.C_alloc ?_ _) | (with_reducible refine Kd.C_drewN ?_ _) | (with_reducible refine Kd.C_drew ?_))); (case side2 => exact HC0_1.out); rintro e w23 ⟨rfl, hb⟩; refine ⟨_, rfl, ?_⟩; have n0_ := Aside0.mk (blk_below (g := gb107) (o := .cells #[.int .i64 a0_0, .slice A0_1 l0_1.length c0_1] 31 (0, 0)) (by (with_reducible repeat (first | refine blk_drewN ?_ _ | refine blk_drew ?_ | refine blk_alloc ?_ _)); exact BK107.out) hb); have n1_ := Aside0.mk (below_step (by repeat (first | (with_reducible first | exact HB.out | apply below_alloc | apply pw_below_drewN | apply below_drew1 | refine below_set ?_ GE107.out) | exact HB.out)) hb); clear BK107; clear HB; have BK107 := n0_; have HB := n1_; clear n0_ n1_; (try clear hb); (try clear hb2); (try clear hk); (try clear hi)))
  go_ret2
  exact ⟨by first | rfl | (simp [errW_none, errW_some] <;> rfl) | (simp [*, errW_none, errW_some] <;> rfl), by repeat (first | (with_reducible first | exact HB.out | apply below_alloc | apply pw_below_drewN | apply below_drew1 | refine below_set ?_ GE107.out) | exact HB.out)⟩
end Go.Proofs.Ytkifipakikbhcaa.Pk
namespace Go.Proofs.Ytkifipakikbhcaa.Pk
open Go.Proofs.Ytkifipakikbhcaa.Ref Go.Proofs.Ytkifipakikbhcaa.Pg Go.Proofs.Ytkifipakikbhcaa.Hand
open Go.RowKit Go.Proofs.YtkifipakikbhcaaW.PrintWords Go.Proofs.YtkifipakikbhcaaW.PrintLast Go.Proofs.YtkifipakikbhcaaW.PrintMore
attribute [local go_sem] max2_int min2_int max_two min_two max_three min_three max_four min_four
def peel_Greatest.l0 : Nat → List Bool → Int → Int → List (List Int) → Option (List Int × Int)
 | 0, _, _, _, _ => none
 | k + 1, x7, x8, x115000, x115001 => if x8 ≥ 0 then (if 0 ≤ x8 then (if x8 < (x7.length : Int) then ((some (x7.set (x8 : Int).toNat false : List Bool)).bind fun y121 => ((peel_alone.f x115000 x115001 y121).bind fun t122 => (peel_Greatest.l0 k y121 t122 x115000 x115001))) else (none)) else (none)) else ((peel_left.f k x7).bind fun t123 => (some (t123, 0)))
def peel_Greatest.f (k : Nat) (a0_0 : Int) (l0_1 : List (List Int)) (l1 : List Int) : Option (List Int × Int) := (peel_Check.f a0_0 l0_1).bind fun t115 => (if t115 = 0 then ((peel_set.f k l1 a0_0).bind fun t116 => (if t116 = true then ((peel_mask.f k a0_0 l0_1 l1).bind fun t117 => ((peel_alone.f a0_0 l0_1 t117).bind fun t120 => (peel_Greatest.l0 k t117 t120 a0_0 l0_1))) else (some (([] : List Int), 6)))) else (some (([] : List Int), t115)))
theorem peel_Greatest.calls (k : Nat) (a0_0 : Int) (A0_1 : Option Addr) (c0_1 : Nat) (l0_1 : List (List Int)) (A1 : Option Addr) (c1 : Nat) (l1 : List Int) (r1 : List Int) (r2 : Int) (w : World) (hr0_1 : Kd.C (Kd.slice 3 (Kd.int .i64)) w A0_1 l0_1.length l0_1) (hc0_1 : l0_1.length ≤ c0_1) (hr1 : Kd.C (Kd.int .i64) w A1 l1.length l1) (hc1 : l1.length ≤ c1) (h : peel_Greatest.f k a0_0 l0_1 l1 = some (r1, r2)) :
  Calls Try.prog 24 #[.agg #[.int .i64 a0_0, .slice A0_1 l0_1.length c0_1], .slice A1 l1.length c1] w fun e w' => ∃ v0_ : Value, e = .returned (.tuple #[v0_, .int .i64 r2]) ∧ Kd.R (Kd.int .i64) 3 w' w.heap.size (fun _ => True) v0_ r1 ∧ Below w.heap.size w w' := by
 have hu31 := Try.underlying31
 have HR0_1 := Aside0.mk hr0_1
 have HC0_1 := Aside0.mk hc0_1
 clear hr0_1 hc0_1
 have HR1 := Aside0.mk hr1
 have HC1 := Aside0.mk hc1
 clear hr1 hc1
 have HB := Aside0.mk (Below.refl w.heap.size w)
 have H : ((peel_Check.f a0_0 l0_1).bind fun t115 => (if t115 = 0 then ((peel_set.f k l1 a0_0).bind fun t116 => (if t116 = true then ((peel_mask.f k a0_0 l0_1 l1).bind fun t117 => ((peel_alone.f a0_0 l0_1 t117).bind fun t120 => (peel_Greatest.l0 k t117 t120 a0_0 l0_1))) else (some (([] : List Int), 6)))) else (some (([] : List Int), t115)))) = some (r1, r2) := h
 clear h
 replace H := Option.bind_eq_some_iff.mp H
 obtain ⟨t115, A30, H⟩ := H
 replace H : (if t115 = 0 then ((peel_set.f k l1 a0_0).bind fun t116 => (if t116 = true then ((peel_mask.f k a0_0 l0_1 l1).bind fun t117 => ((peel_alone.f a0_0 l0_1 t117).bind fun t120 => (peel_Greatest.l0 k t117 t120 a0_0 l0_1))) else (some (([] : List Int), 6)))) else (some (([] : List Int), t115))) = some (r1, r2) := H
 have A3 := Aside0.mk A30
 clear A30
 by_cases c4 : t115 = 0
 ·rw [if_pos c4] at H
  have c4b0 : (t115 == 0) = true := beq_iff_eq.mpr c4
  have c4b1 : (t115 != 0) = false := bne_eq_false_iff_eq.mpr c4
  clear c4
  replace H := Option.bind_eq_some_iff.mp H
  obtain ⟨t116, A50, H⟩ := H
  replace H : (if t116 = true then ((peel_mask.f k a0_0 l0_1 l1).bind fun t117 => ((peel_alone.f a0_0 l0_1 t117).bind fun t120 => (peel_Greatest.l0 k t117 t120 a0_0 l0_1))) else (some (([] : List Int), 6))) = some (r1, r2) := H
  have A5 := Aside0.mk A50
  clear A50
  by_cases c6 : t116 = true
  ·subst c6
   have H1 : ((peel_mask.f k a0_0 l0_1 l1).bind fun t117 => ((peel_alone.f a0_0 l0_1 t117).bind fun t120 => (peel_Greatest.l0 k t117 t120 a0_0 l0_1))) = some (r1, r2) := by rw [if_pos rfl] at H; exact H
   clear H
   have H := H1
   clear H1
   replace H := Option.bind_eq_some_iff.mp H
   obtain ⟨t117, A70, H⟩ := H
   replace H : ((peel_alone.f a0_0 l0_1 t117).bind fun t120 => (peel_Greatest.l0 k t117 t120 a0_0 l0_1)) = some (r1, r2) := H
   have A7 := Aside0.mk A70
   clear A70
   replace H := Option.bind_eq_some_iff.mp H
   obtain ⟨t120, A80, H⟩ := H
   replace H : (peel_Greatest.l0 k t117 t120 a0_0 l0_1) = some (r1, r2) := H
   have A8 := Aside0.mk A80
   clear A80
   have H' := Aside0.mk H
   clear H
   go_enter Try.func24, Try.ntmps24
   go_wp2_with (first | ((with_reducible refine gate_dst (N := 2) rfl ?_); refine box_event ?hg (N := 2) ?hd (cs := #[.int .i64 a0_0, .slice A0_1 l0_1.length c0_1]) (t := 31) ?hr ?_; (case hd => rfl); (case hg => rfl); (case hr => first | (go_simp; done) | (go_simp; rfl)); intro gb114 hg w9 hbox hb; have n0_ := Aside0.mk (below_step (by repeat (first | (with_reducible first | exact HB.out | apply below_alloc | apply pw_below_drewN | apply below_drew1) | exact HB.out)) hb); have n1_ := Aside0.mk (hbox); have n2_ := Aside0.mk ((by rw [hg]; exact (below_size (by repeat (first | (with_reducible first | exact HB.out | apply below_alloc | apply pw_below_drewN | apply below_drew1) | exact HB.out))) : w.heap.size ≤ gb114)); have n3_ := Aside0.mk ((by rw [hg]; exact (below_size (by repeat (first | (with_reducible first | exact HB.out | apply below_alloc | apply pw_below_drewN | apply below_drew1) | exact HB.out))) : w.heap.size ≤ gb114)); clear HB; have HB := n0_; have BK114 := n1_; have GW114 := n2_; have GE114 := n3_; clear n0_ n1_ n2_ n3_; clear hb hbox hg; have hcz10_0 : w9.cell? ⟨gb114, 0, none⟩ = some (.int .i64 a0_0) := (blk_cell BK114.out 0).trans rfl; have hcz10_1 : w9.cell? ⟨gb114, 1, none⟩ = some (.slice A0_1 l0_1.length c0_1) := (blk_cell BK114.out 1).trans rfl; have hfz10_0 := blk_frozen BK114.out 0; have hfz10_1 := blk_frozen BK114.out 1) | ((with_reducible refine gate_callee (f := 22) rfl ?_); refine goesL_ (some 10) rfl rfl Try.func22 (by kernel_rfl) rfl #[.agg #[.int .i64 a0_0, .slice A0_1 l0_1.length c0_1]] rfl (by (try simp only [List.map_toArray, List.map_cons, List.map_nil]); first | done | rfl | (simp only [List.length_drop, List.length_take]; rfl)) ?_; (with_reducible refine (peel_Check.calls a0_0 _ _ l0_1 t115 _ ?side1 ?side2 A3.out).mono ?_); (case side1 => repeat (first | exact (Kd.C_below HR0_1.out HB.out) | (with_reducible refine Kd.C_alloc ?_ _) | (with_reducible refine Kd.C_drewN ?_ _) | (with_reducible refine Kd.C_drew ?_))); (case side2 => exact HC0_1.out); rintro e w11 ⟨rfl, hb⟩; refine ⟨_, rfl, ?_⟩; have n0_ := Aside0.mk (blk_below (g := gb114) (o := .cells #[.int .i64 a0_0, .slice A0_1 l0_1.length c0_1] 31 (0, 0)) (by (with_reducible repeat (first | refine blk_drewN ?_ _ | refine blk_drew ?_ | refine blk_alloc ?_ _)); exact BK114.out) hb); have n1_ := Aside0.mk (below_step (by repeat (first | (with_reducible first | exact HB.out | apply below_alloc | apply pw_below_drewN | apply below_drew1 | refine below_set ?_ GE114.out) | exact HB.out)) hb); clear BK114; clear HB; have BK114 := n0_; have HB := n1_; clear n0_ n1_; (try clear hb); (try clear hb2); (try clear hk); (try clear hi); have hcz12_0 : w11.cell? ⟨gb114, 0, none⟩ = some (.int .i64 a0_0) := (blk_cell BK114.out 0).trans rfl; have hcz12_1 : w11.cell? ⟨gb114, 1, none⟩ = some (.slice A0_1 l0_1.length c0_1) := (blk_cell BK114.out 1).trans rfl; have hfz12_0 := blk_frozen BK114.out 0; have hfz12_1 := blk_frozen BK114.out 1) | ((with_reducible refine gate_callee (f := 48) rfl ?_); refine goesL_ (some 17) rfl rfl Try.func48 (by kernel_rfl) rfl #[.slice A1 l1.length c1, .int .i64 a0_0] rfl (by (try simp only [List.map_toArray, List.map_cons, List.map_nil]); first | done | rfl | (simp only [List.length_drop, List.length_take]; rfl)) ?_; (with_reducible refine (peel_set.calls k _ _ l1 a0_0 true _ ?side1 ?side2 A5.out).mono ?_); (case side1 => repeat (first | exact (Kd.C_below HR1.out HB.out) | (with_reducible refine Kd.C_alloc ?_ _) | (with_reducible refine Kd.C_drewN ?_ _) | (with_reducible refine Kd.C_drew ?_))); (case side2 => exact HC1.out); rintro e w' ⟨rfl, ⟨nd, rfl⟩⟩; refine ⟨_, rfl, ?_⟩) | ((with_reducible refine gate_callee (f := 50) rfl ?_); refine goesL_ (some 21) rfl rfl Try.func50 (by kernel_rfl) rfl #[.agg #[.int .i64 a0_0, .slice A0_1 l0_1.length c0_1], .slice A1 l1.length c1] rfl (by (try simp only [List.map_toArray, List.map_cons, List.map_nil]); first | done | rfl | (simp only [List.length_drop, List.length_take]; rfl)) ?_; (with_reducible refine (peel_mask.calls k a0_0 _ _ l0_1 _ _ l1 t117 _ ?side1 ?side2 ?side3 ?side4 A7.out).mono ?_); (case side1 => repeat (first | exact (Kd.C_below HR0_1.out (by repeat (first | (with_reducible first | exact HB.out | apply below_alloc | apply pw_below_drewN | apply below_drew1 | refine below_set ?_ GE114.out) | exact HB.out))) | (with_reducible refine Kd.C_alloc ?_ _) | (with_reducible refine Kd.C_drewN ?_ _) | (with_reducible refine Kd.C_drew ?_))); (case side2 => exact HC0_1.out); (case side3 => repeat (first | exact (Kd.C_below HR1.out (by repeat (first | (with_reducible first | exact HB.out | apply below_alloc | apply pw_below_drewN | apply below_drew1 | refine below_set ?_ GE114.out) | exact HB.out))) | (with_reducible refine Kd.C_alloc ?_ _) | (with_reducible refine Kd.C_drewN ?_ _) | (with_reducible refine Kd.C_drew ?_))); (case side4 => exact HC1.out); rintro e w13 ⟨v118, rfl, ho0, hb⟩; refine ⟨_, rfl, ?_⟩; have n0_ := Aside0.mk (Kd.R_lower ho0 (below_size (by repeat (first | (with_reducible first | exact HB.out | apply below_alloc | apply pw_below_drewN | apply below_drew1 | refine below_set ?_ GE114.out) | exact HB.out)))); have n1_ := Aside0.mk (blk_below (g := gb114) (o := .cells #[.int .i64 a0_0, .slice A0_1 l0_1.length c0_1] 31 (0, 0)) (by (with_reducible repeat (first | refine blk_drewN ?_ _ | refine blk_drew ?_ | refine blk_alloc ?_ _)); exact BK114.out) hb); have n2_ := Aside0.mk (below_step (by repeat (first | (with_reducible first | exact HB.out | apply below_alloc | apply pw_below_drewN | apply below_drew1 | refine below_set ?_ GE114.out) | exact HB.out)) hb); clear BK114; clear HB; have HO119 := n0_; have BK114 := n1_; have HB := n2_; clear n0_ n1_ n2_; (try clear hb); (try clear hb2); (try clear hk); (try clear hi); (try clear ho0); have hcz14_0 : w13.cell? ⟨gb114, 0, none⟩ = some (.int .i64 a0_0) := (blk_cell BK114.out 0).trans rfl; have hcz14_1 : w13.cell? ⟨gb114, 1, none⟩ = some (.slice A0_1 l0_1.length c0_1) := (blk_cell BK114.out 1).trans rfl; have hfz14_0 := blk_frozen BK114.out 0; have hfz14_1 := blk_frozen BK114.out 1; obtain ⟨Ao15, co15, eo15⟩ := Kd.R_slice HO119.out; subst eo15) | ((with_reducible refine gate_callee (f := 49) rfl ?_); refine goesL_ (some 24) rfl rfl Try.func49 (by kernel_rfl) rfl #[.agg #[.int .i64 a0_0, .slice A0_1 l0_1.length c0_1], .slice Ao15 t117.length co15] rfl (by (try simp only [List.map_toArray, List.map_cons, List.map_nil]); first | done | rfl | (simp only [List.length_drop, List.length_take]; rfl)) ?_; (with_reducible refine (peel_alone.calls a0_0 _ _ l0_1 _ _ t117 t120 _ ?side1 ?side2 ?side3 ?side4 A8.out).mono ?_); (case side1 => repeat (first | exact (Kd.C_below HR0_1.out HB.out) | (with_reducible refine Kd.C_alloc ?_ _) | (with_reducible refine Kd.C_drewN ?_ _) | (with_reducible refine Kd.C_drew ?_))); (case side2 => exact HC0_1.out); (case side3 => repeat (first | exact (Kd.R_reads' HO119.out).2.2 | (with_reducible refine Kd.C_alloc ?_ _) | (with_reducible refine Kd.C_drewN ?_ _) | (with_reducible refine Kd.C_drew ?_))); (case side4 => exact (Kd.R_reads' HO119.out).2.1); rintro e w16 ⟨rfl, hb⟩; refine ⟨_, rfl, ?_⟩; have n0_ := Aside0.mk (Kd.R_below (by (with_reducible repeat (first | apply Kd.R_alloc | apply Kd.R_drewN | apply Kd.R_drew)); exact HO119.out) hb); have n1_ := Aside0.mk (blk_below (g := gb114) (o := .cells #[.int .i64 a0_0, .slice A0_1 l0_1.length c0_1] 31 (0, 0)) (by (with_reducible repeat (first | refine blk_drewN ?_ _ | refine blk_drew ?_ | refine blk_alloc ?_ _)); exact BK114.out) hb); have n2_ := Aside0.mk (below_step (by repeat (first | (with_reducible first | exact HB.out | apply below_alloc | apply pw_below_drewN | apply below_drew1 | refine below_set ?_ GE114.out) | exact HB.out)) hb); clear HO119; clear BK114; clear HB; have HO119 := n0_; have BK114 := n1_; have HB := n2_; clear n0_ n1_ n2_; (try clear hb); (try clear hb2); (try clear hk); (try clear hi)))
   go_loopg [8] k (fun kq v8 w' => ∃ (x7_1 : List Bool) (x8_1 : Int), v8 = .int .i64 x8_1 ∧ Aside0 (peel_Greatest.l0 kq x7_1 x8_1 a0_0 l0_1 = some (r1, r2)) ∧ Aside0 (kq ≤ k) ∧ Aside0 (Kd.R Kd.bool 4 w' w.heap.size (fun _ => True) (.slice Ao15 t117.length co15) x7_1) ∧ Aside0 (w'.heap[gb114]? = some (.cells #[.int .i64 a0_0, (.slice A0_1 l0_1.length c0_1)] 31 (0, 0))) ∧ Aside0 (Below w.heap.size w w'))
   case atStart => exact ⟨(t117), (t120), (by first | rfl | (simp; done) | (simp [*]; done)), H', ⟨Nat.le_refl _⟩, ⟨by (with_reducible repeat (first | apply Kd.R_alloc | apply Kd.R_drewN | apply Kd.R_drew)); exact HO119.out⟩, ⟨by (with_reducible repeat (first | refine blk_drewN ?_ _ | refine blk_drew ?_ | refine blk_alloc ?_ _)); exact BK114.out⟩, ⟨by repeat (first | (with_reducible first | exact HB.out | apply below_alloc | apply pw_below_drewN | apply below_drew1 | refine below_set ?_ GE114.out) | exact HB.out)⟩⟩
   case round =>
    clear H'
    try clear c1
    try clear c2
    try clear p2
    try clear c4
    try clear c4b0
    try clear c4b1
    try clear c5
    try clear c6
    try clear hcz10_0
    try clear hcz10_1
    try clear hcz12_0
    try clear hcz12_1
    try clear hcz14_0
    try clear hcz14_1
    try clear hfz10_0
    try clear hfz10_1
    try clear hfz12_0
    try clear hfz12_1
    try clear hfz14_0
    try clear hfz14_1
    obtain ⟨x7_1, x8_1, rfl, HA, HK1, HO_7, BK114, HB⟩ := hrel
    have hl7_1 := (Kd.R_reads' HO_7.out).1
    rw [hl7_1] at HO_7
    (try simp only [hl7_1])
    (try simp only [hl7_1] at BK114)
    cases gk with
    | zero => exact absurd HA.out (by simp [peel_Greatest.l0])
    | succ k1 =>
     have H := HA.out
     clear HA
     simp only [peel_Greatest.l0] at H
     by_cases c17 : x8_1 ≥ 0
     ·rw [if_pos c17] at H
      have c17b0 : decide (0 ≤ x8_1) = true := decide_eq_true c17
      clear c17
      by_cases c18 : 0 ≤ x8_1
      ·rw [if_pos c18] at H
       have c18b0 : decide (0 ≤ x8_1) = true := decide_eq_true c18
       clear c18
       by_cases c19 : x8_1 < (x7_1.length : Int)
       ·rw [if_pos c19] at H
        have c19b0 : decide (x8_1 < (x7_1.length : Int)) = true := decide_eq_true c19
        clear c19
        obtain ⟨y121, hy121⟩ : ∃ y_ : List Bool, y_ = (x7_1.set (x8_1 : Int).toNat false) := ⟨_, rfl⟩
        replace H : ((peel_alone.f a0_0 l0_1 y121).bind fun t122 => (peel_Greatest.l0 k1 y121 t122 a0_0 l0_1)) = some (r1, r2) := by first | (rw [hy121]; with_reducible exact H) | (have H2_ := (Option.bind_some _ _).symm.trans H; rw [hy121]; with_reducible exact H2_) | (have H2_ := (Option.bind_some _ _).symm.trans H; with_reducible exact H2_) | with_reducible exact H | (rw [hy121]; exact H) | exact H
        have Ny121 := Aside0.mk hy121
        clear hy121
        replace H := Option.bind_eq_some_iff.mp H
        obtain ⟨t122, A210, H⟩ := H
        replace H : (peel_Greatest.l0 k1 y121 t122 a0_0 l0_1) = some (r1, r2) := H
        have A21 := Aside0.mk A210
        clear A210
        have H' := Aside0.mk H
        clear H
        have p20 : 0 ≤ (x8_1 : Int) := of_decide_eq_true (by first | (with_reducible assumption) | assumption)
        have q20 : (x8_1 : Int) < ((x7_1.length : Int) : Int) := of_decide_eq_true (by first | (with_reducible assumption) | assumption)
        obtain ⟨go20, co20, eo20, gb20, gl20, cl20, HG20⟩ := Kd.R_form HO_7.out (by omega)
        (first | cases eo20 | (injection eo20 with ea_ en_ ec_; (first | subst ea_ | (injection ea_ with ea_; subst ea_)); subst ec_; clear en_))
        have GB20 := Aside0.mk gb20
        have GG20 := Aside0.mk HG20
        clear gb20 gl20 HG20
        obtain ⟨hx20_0, hf20_0⟩ := Kd.R_celln false HO_7.out (x8_1 : Int) p20 q20
        replace p20 := eq_true p20
        replace q20 := eq_true q20
        have HP22 := Kd.R_putg HO_7.out (x8_1 : Int) false
        go_wp2_with (first | ((with_reducible refine gate_store (t := 4) (p := 32) rfl ?_); refine store_event (t := 4) (p := 32) (v := ?vo_w23) (w1 := (wr.setCell ⟨go20, (x8_1 : Int).toNat, none⟩ (.bool false))) ?hg ?ho ?hn ?hr ?_; (case ho => rfl); (case hg => rfl); (case hn => rfl); (case hr => first | (go_simp; done) | (go_simp; rfl)); intro w23 hw; have hg : wr.grownBy w23 (some go20) := (by rw [hw]; exact HP22.2); have hp_ : Kd.R Kd.bool 4 w23 w.heap.size (fun _ => True) (.slice (some ⟨go20, 0, none⟩) x7_1.length co15) y121 := (by rw [hw, Ny121.out]; exact HP22.1); clear HP22; have n0_ := Aside0.mk (hp_); have n1_ := Aside0.mk (blk_grown (g := gb114) (o := .cells #[.int .i64 a0_0, .slice A0_1 l0_1.length c0_1] 31 (0, 0)) (by (with_reducible repeat (first | refine blk_drewN ?_ _ | refine blk_drew ?_ | refine blk_alloc ?_ _)); exact BK114.out) hg (Kd.R_ne HO_7.out BK114.out (by decide))); have n2_ := Aside0.mk ((by rw [hw]; exact below_set (HB.out) GB20.out : Below w.heap.size w w23)); clear HO_7; clear BK114; clear HB; have HO_7 := n0_; have BK114 := n1_; have HB := n2_; clear n0_ n1_ n2_; clear hg hw hp_; have hcz24_0 : w23.cell? ⟨gb114, 0, none⟩ = some (.int .i64 a0_0) := (blk_cell BK114.out 0).trans rfl; have hcz24_1 : w23.cell? ⟨gb114, 1, none⟩ = some (.slice A0_1 l0_1.length c0_1) := (blk_cell BK114.out 1).trans rfl; have hfz24_0 := blk_frozen BK114.out 0; have hfz24_1 := blk_frozen BK114.out 1) | ((with_reducible refine gate_callee (f := 49) rfl ?_); refine goesL_ (some 29) rfl rfl Try.func49 (by kernel_rfl) rfl #[.agg #[.int .i64 a0_0, .slice A0_1 l0_1.length c0_1], .slice (some ⟨go20, 0, none⟩) y121.length co15] rfl (by (try simp only [List.map_toArray, List.map_cons, List.map_nil]); first | done | (rw [show y121.length = x7_1.length from (Kd.R_reads' HO_7.out).1.symm] <;> rfl) | rfl | (simp only [List.length_drop, List.length_take]; rfl)) ?_; (with_reducible refine (peel_alone.calls a0_0 _ _ l0_1 _ _ y121 t122 _ ?side1 ?side2 ?side3 ?side4 A21.out).mono ?_); (case side1 => repeat (first | exact (Kd.C_below HR0_1.out HB.out) | (with_reducible refine Kd.C_alloc ?_ _) | (with_reducible refine Kd.C_drewN ?_ _) | (with_reducible refine Kd.C_drew ?_))); (case side2 => exact HC0_1.out); (case side3 => repeat (first | exact (Kd.R_reads' HO_7.out).2.2 | (with_reducible refine Kd.C_alloc ?_ _) | (with_reducible refine Kd.C_drewN ?_ _) | (with_reducible refine Kd.C_drew ?_))); (case side4 => rw [show y121.length = x7_1.length from (Kd.R_reads' HO_7.out).1.symm]; exact (Kd.R_reads' HO_7.out).2.1); rintro e w25 ⟨rfl, hb⟩; refine ⟨_, rfl, ?_⟩; have n0_ := Aside0.mk (Kd.R_below (by (with_reducible repeat (first | apply Kd.R_alloc | apply Kd.R_drewN | apply Kd.R_drew)); exact HO_7.out) hb); have n1_ := Aside0.mk (blk_below (g := gb114) (o := .cells #[.int .i64 a0_0, .slice A0_1 l0_1.length c0_1] 31 (0, 0)) (by (with_reducible repeat (first | refine blk_drewN ?_ _ | refine blk_drew ?_ | refine blk_alloc ?_ _)); exact BK114.out) hb); have n2_ := Aside0.mk (below_step (by repeat (first | (with_reducible first | exact HB.out | apply below_alloc | apply pw_below_drewN | apply below_drew1 | refine below_set ?_ GE114.out) | exact HB.out)) hb); clear HO_7; clear BK114; clear HB; have HO_7 := n0_; have BK114 := n1_; have HB := n2_; clear n0_ n1_ n2_; (try clear hb); (try clear hb2); (try clear hk); (try clear hi)))
        (try simp only [← hl7_1])
        go_roundg k1
        case measure => have := HK1.out; omega
        case rel => exact ⟨(y121), (t122), (by first | rfl | (simp; done) | (simp [*]; done)), H', ⟨by have := HK1.out; omega⟩, ⟨by (try simp only [hl7_1]); (with_reducible repeat (first | apply Kd.R_alloc | apply Kd.R_drewN | apply Kd.R_drew)); exact HO_7.out⟩, ⟨by (try simp only [hl7_1]); (with_reducible repeat (first | refine blk_drewN ?_ _ | refine blk_drew ?_ | refine blk_alloc ?_ _)); exact BK114.out⟩, ⟨by repeat (first | (with_reducible first | exact HB.out | apply below_alloc | apply pw_below_drewN | apply below_drew1 | refine below_set ?_ GE114.out) | exact HB.out)⟩⟩
       ·rw [if_neg c19] at H
        exact absurd H (by simp)
      ·rw [if_neg c18] at H
       exact absurd H (by simp)
     ·rw [if_neg c17] at H
      have c17b0 : decide (0 ≤ x8_1) = false := decide_eq_false c17
      clear c17
      replace H := Option.bind_eq_some_iff.mp H
      obtain ⟨t123, A260, H⟩ := H
      replace H : (some (t123, 0)) = some (r1, r2) := H
      have A26 := Aside0.mk A260
      clear A260
      simp only [Option.some.injEq, Prod.mk.injEq] at H
      obtain ⟨rfl, rfl⟩ := H
      go_wp2_with (first | ((with_reducible refine gate_callee (f := 55) rfl ?_); refine goesL_ (some 34) rfl rfl Try.func55 (by kernel_rfl) rfl #[.slice Ao15 x7_1.length co15] rfl (by (try simp only [List.map_toArray, List.map_cons, List.map_nil]); first | done | rfl | (simp only [List.length_drop, List.length_take]; rfl)) ?_; (with_reducible refine (peel_left.calls k1 _ _ x7_1 t123 _ ?side1 ?side2 A26.out).mono ?_); (case side1 => repeat (first | exact (Kd.R_reads' HO_7.out).2.2 | (with_reducible refine Kd.C_alloc ?_ _) | (with_reducible refine Kd.C_drewN ?_ _) | (with_reducible refine Kd.C_drew ?_))); (case side2 => exact (Kd.R_reads' HO_7.out).2.1); rintro e w27 ⟨v124, rfl, ho0, hb⟩; refine ⟨_, rfl, ?_⟩; have n0_ := Aside0.mk (Kd.R_below (by (with_reducible repeat (first | apply Kd.R_alloc | apply Kd.R_drewN | apply Kd.R_drew)); exact HO_7.out) hb); have n1_ := Aside0.mk (Kd.R_lower ho0 (below_size (by repeat (first | (with_reducible first | exact HB.out | apply below_alloc | apply pw_below_drewN | apply below_drew1 | refine below_set ?_ GE114.out) | exact HB.out)))); have n2_ := Aside0.mk (blk_below (g := gb114) (o := .cells #[.int .i64 a0_0, .slice A0_1 l0_1.length c0_1] 31 (0, 0)) (by (with_reducible repeat (first | refine blk_drewN ?_ _ | refine blk_drew ?_ | refine blk_alloc ?_ _)); exact BK114.out) hb); have n3_ := Aside0.mk (below_step (by repeat (first | (with_reducible first | exact HB.out | apply below_alloc | apply pw_below_drewN | apply below_drew1 | refine below_set ?_ GE114.out) | exact HB.out)) hb); clear HO_7; clear BK114; clear HB; have HO_7 := n0_; have HO125 := n1_; have BK114 := n2_; have HB := n3_; clear n0_ n1_ n2_ n3_; (try clear hb); (try clear hb2); (try clear hk); (try clear hi); (try clear ho0)))
      go_ret2
      exact ⟨_, by first | rfl | (simp [errW_none, errW_some] <;> rfl) | (simp [*, errW_none, errW_some] <;> rfl), by (with_reducible repeat (first | apply Kd.R_alloc | apply Kd.R_drewN | apply Kd.R_drew)); exact HO125.out, by repeat (first | (with_reducible first | exact HB.out | apply below_alloc | apply pw_below_drewN | apply below_drew1 | refine below_set ?_ GE114.out) | exact HB.out)⟩
  ·replace c6 := Bool.eq_false_iff.mpr c6
   subst c6
   have H1 : (some (([] : List Int), 6)) = some (r1, r2) := by rw [if_neg (show ¬ (false = true) by decide)] at H; exact H
   clear H
   have H := H1
   clear H1
   simp only [Option.some.injEq, Prod.mk.injEq] at H
   obtain ⟨rfl, rfl⟩ := H
   go_enter Try.func24, Try.ntmps24
   go_wp2_with (first | ((with_reducible refine gate_dst (N := 2) rfl ?_); refine box_event ?hg (N := 2) ?hd (cs := #[.int .i64 a0_0, .slice A0_1 l0_1.length c0_1]) (t := 31) ?hr ?_; (case hd => rfl); (case hg => rfl); (case hr => first | (go_simp; done) | (go_simp; rfl)); intro gb114 hg w28 hbox hb; have n0_ := Aside0.mk (below_step (by repeat (first | (with_reducible first | exact HB.out | apply below_alloc | apply pw_below_drewN | apply below_drew1) | exact HB.out)) hb); have n1_ := Aside0.mk (hbox); have n2_ := Aside0.mk ((by rw [hg]; exact (below_size (by repeat (first | (with_reducible first | exact HB.out | apply below_alloc | apply pw_below_drewN | apply below_drew1) | exact HB.out))) : w.heap.size ≤ gb114)); have n3_ := Aside0.mk ((by rw [hg]; exact (below_size (by repeat (first | (with_reducible first | exact HB.out | apply below_alloc | apply pw_below_drewN | apply below_drew1) | exact HB.out))) : w.heap.size ≤ gb114)); clear HB; have HB := n0_; have BK114 := n1_; have GW114 := n2_; have GE114 := n3_; clear n0_ n1_ n2_ n3_; clear hb hbox hg; have hcz29_0 : w28.cell? ⟨gb114, 0, none⟩ = some (.int .i64 a0_0) := (blk_cell BK114.out 0).trans rfl; have hcz29_1 : w28.cell? ⟨gb114, 1, none⟩ = some (.slice A0_1 l0_1.length c0_1) := (blk_cell BK114.out 1).trans rfl; have hfz29_0 := blk_frozen BK114.out 0; have hfz29_1 := blk_frozen BK114.out 1) | ((with_reducible refine gate_callee (f := 22) rfl ?_); refine goesL_ (some 10) rfl rfl Try.func22 (by kernel_rfl) rfl #[.agg #[.int .i64 a0_0, .slice A0_1 l0_1.length c0_1]] rfl (by (try simp only [List.map_toArray, List.map_cons, List.map_nil]); first | done | rfl | (simp only [List.length_drop, List.length_take]; rfl)) ?_; (with_reducible refine (peel_Check.calls a0_0 _ _ l0_1 t115 _ ?side1 ?side2 A3.out).mono ?_); (case side1 => repeat (first | exact (Kd.C_below HR0_1.out HB.out) | (with_reducible refine Kd.C_alloc ?_ _) | (with_reducible refine Kd.C_drewN ?_ _) | (with_reducible refine Kd.C_drew ?_))); (case side2 => exact HC0_1.out); rintro e w30 ⟨rfl, hb⟩; refine ⟨_, rfl, ?_⟩; have n0_ := Aside0.mk (blk_below (g := gb114) (o := .cells #[.int .i64 a0_0, .slice A0_1 l0_1.length c0_1] 31 (0, 0)) (by (with_reducible repeat (first | refine blk_drewN ?_ _ | refine blk_drew ?_ | refine blk_alloc ?_ _)); exact BK114.out) hb); have n1_ := Aside0.mk (below_step (by repeat (first | (with_reducible first | exact HB.out | apply below_alloc | apply pw_below_drewN | apply below_drew1 | refine below_set ?_ GE114.out) | exact HB.out)) hb); clear BK114; clear HB; have BK114 := n0_; have HB := n1_; clear n0_ n1_; (try clear hb); (try clear hb2); (try clear hk); (try clear hi); have hcz31_0 : w30.cell? ⟨gb114, 0, none⟩ = some (.int .i64 a0_0) := (blk_cell BK114.out 0).trans rfl; have hcz31_1 : w30.cell? ⟨gb114, 1, none⟩ = some (.slice A0_1 l0_1.length c0_1) := (blk_cell BK114.out 1).trans rfl; have hfz31_0 := blk_frozen BK114.out 0; have hfz31_1 := blk_frozen BK114.out 1) | ((with_reducible refine gate_callee (f := 48) rfl ?_); refine goesL_ (some 17) rfl rfl Try.func48 (by kernel_rfl) rfl #[.slice A1 l1.length c1, .int .i64 a0_0] rfl (by (try simp only [List.map_toArray, List.map_cons, List.map_nil]); first | done | rfl | (simp only [List.length_drop, List.length_take]; rfl)) ?_; (with_reducible refine (peel_set.calls k _ _ l1 a0_0 false _ ?side1 ?side2 A5.out).mono ?_); (case side1 => repeat (first | exact (Kd.C_below HR1.out HB.out) | (with_reducible refine Kd.C_alloc ?_ _) | (with_reducible refine Kd.C_drewN ?_ _) | (with_reducible refine Kd.C_drew ?_))); (case side2 => exact HC1.out); rintro e w' ⟨rfl, ⟨nd, rfl⟩⟩; refine ⟨_, rfl, ?_⟩))
   go_ret2
   exact ⟨_, by first | rfl | (simp [errW_none, errW_some] <;> rfl) | (simp [*, errW_none, errW_some] <;> rfl), by first | exact Kd.R_nil _ _ _ _ _ | exact Kd.N_nil _ _ _ _ _ | exact Kd.V_nil _ _ _ _ _ | exact Kd.Q_nil _ _ _ _ _ | exact Kd.S_nil _ _ _ _ _, by repeat (first | (with_reducible first | exact HB.out | apply below_alloc | apply pw_below_drewN | apply below_drew1 | refine below_set ?_ GE114.out) | exact HB.out)⟩
 ·rw [if_neg c4] at H
  have c4b0 : (t115 == 0) = false := beq_eq_false_iff_ne.mpr c4
  have c4b1 : (t115 != 0) = true := bne_iff_ne.mpr c4
  simp only [Option.some.injEq, Prod.mk.injEq] at H
  obtain ⟨rfl, rfl⟩ := H
  go_enter Try.func24, Try.ntmps24
  go_wp2_with (first | ((with_reducible refine gate_dst (N := 2) rfl ?_); refine box_event ?hg (N := 2) ?hd (cs := #[.int .i64 a0_0, .slice A0_1 l0_1.length c0_1]) (t := 31) ?hr ?_; (case hd => rfl); (case hg => rfl); (case hr => first | (go_simp; done) | (go_simp; rfl)); intro gb114 hg w32 hbox hb; have n0_ := Aside0.mk (below_step (by repeat (first | (with_reducible first | exact HB.out | apply below_alloc | apply pw_below_drewN | apply below_drew1) | exact HB.out)) hb); have n1_ := Aside0.mk (hbox); have n2_ := Aside0.mk ((by rw [hg]; exact (below_size (by repeat (first | (with_reducible first | exact HB.out | apply below_alloc | apply pw_below_drewN | apply below_drew1) | exact HB.out))) : w.heap.size ≤ gb114)); have n3_ := Aside0.mk ((by rw [hg]; exact (below_size (by repeat (first | (with_reducible first | exact HB.out | apply below_alloc | apply pw_below_drewN | apply below_drew1) | exact HB.out))) : w.heap.size ≤ gb114)); clear HB; have HB := n0_; have BK114 := n1_; have GW114 := n2_; have GE114 := n3_; clear n0_ n1_ n2_ n3_; clear hb hbox hg; have hcz33_0 : w32.cell? ⟨gb114, 0, none⟩ = some (.int .i64 a0_0) := (blk_cell BK114.out 0).trans rfl; have hcz33_1 : w32.cell? ⟨gb114, 1, none⟩ = some (.slice A0_1 l0_1.length c0_1) := (blk_cell BK114.out 1).trans rfl; have hfz33_0 := blk_frozen BK114.out 0; have hfz33_1 := blk_frozen BK114.out 1) | ((with_reducible refine gate_callee (f := 22) rfl ?_); refine goesL_ (some 10) rfl rfl Try.func22 (by kernel_rfl) rfl #[.agg #[.int .i64 a0_0, .slice A0_1 l0_1.length c0_1]] rfl (by (try simp only [List.map_toArray, List.map_cons, List.map_nil]); first | done | rfl | (simp only [List.length_drop, List.length_take]; rfl)) ?_; (with_reducible refine (peel_Check.calls a0_0 _ _ l0_1 t115 _ ?side1 ?side2 A3.out).mono ?_); (case side1 => repeat (first | exact (Kd.C_below HR0_1.out HB.out) | (with_reducible refine Kd.C_alloc ?_ _) | (with_reducible refine Kd.C_drewN ?_ _) | (with_reducible refine Kd.C_drew ?_))); (case side2 => exact HC0_1.out); rintro e w34 ⟨rfl, hb⟩; refine ⟨_, rfl, ?_⟩; have n0_ := Aside0.mk (blk_below (g := gb114) (o := .cells #[.int .i64 a0_0, .slice A0_1 l0_1.length c0_1] 31 (0, 0)) (by (with_reducible repeat (first | refine blk_drewN ?_ _ | refine blk_drew ?_ | refine blk_alloc ?_ _)); exact BK114.out) hb); have n1_ := Aside0.mk (below_step (by repeat (first | (with_reducible first | exact HB.out | apply below_alloc | apply pw_below_drewN | apply below_drew1 | refine below_set ?_ GE114.out) | exact HB.out)) hb); clear BK114; clear HB; have BK114 := n0_; have HB := n1_; clear n0_ n1_; (try clear hb); (try clear hb2); (try clear hk); (try clear hi)))
  go_ret2
  exact ⟨_, by first | rfl | (simp [errW_none, errW_some] <;> rfl) | (simp [*, errW_none, errW_some] <;> rfl), by first | exact Kd.R_nil _ _ _ _ _ | exact Kd.N_nil _ _ _ _ _ | exact Kd.V_nil _ _ _ _ _ | exact Kd.Q_nil _ _ _ _ _ | exact Kd.S_nil _ _ _ _ _, by repeat (first | (with_reducible first | exact HB.out | apply below_alloc | apply pw_below_drewN | apply below_drew1 | refine below_set ?_ GE114.out) | exact HB.out)⟩
end Go.Proofs.Ytkifipakikbhcaa.Pk
namespace Go.Proofs.Ytkifipakikbhcaa.Ref
open Go.RowKit Go.Proofs.YtkifipakikbhcaaW.PrintWords Go.Proofs.YtkifipakikbhcaaW.PrintLast Go.Proofs.YtkifipakikbhcaaW.PrintMore
attribute [local go_sem] max2_int min2_int max_two min_two max_three min_three max_four min_four
def codewrightref09_SameInts.l0 : Nat → List Int → List Int → Int → Option (Bool)
 | 0, _, _, _ => none
 | k + 1, x0, x1, x5 => if x5 < (x0.length : Int) then (if 0 ≤ x5 then (if x5 < (x1.length : Int) then (if (rd x0 x5) = (rd x1 x5) then (codewrightref09_SameInts.l0 k x0 x1 (wrap64 (x5 + 1))) else (some false)) else (none)) else (none)) else (some true)
def codewrightref09_SameInts.f (k : Nat) (l0 : List Int) (l1 : List Int) : Option (Bool) := if (l0.length : Int) = (l1.length : Int) then (codewrightref09_SameInts.l0 k l0 l1 0) else (some false)
theorem codewrightref09_SameInts.calls (k : Nat) (A0 : Option Addr) (c0 : Nat) (l0 : List Int) (A1 : Option Addr) (c1 : Nat) (l1 : List Int) (r : Bool) (w : World) (hr0 : Kd.C (Kd.int .i64) w A0 l0.length l0) (hc0 : l0.length ≤ c0) (hr1 : Kd.C (Kd.int .i64) w A1 l1.length l1) (hc1 : l1.length ≤ c1) (h : codewrightref09_SameInts.f k l0 l1 = some r) :
  Calls Try.prog 28 #[.slice A0 l0.length c0, .slice A1 l1.length c1] w fun e w' => e = .returned (.bool r) ∧ Drawn0 w w' := by
 have HR0 := Aside0.mk hr0
 have HC0 := Aside0.mk hc0
 clear hr0 hc0
 have HR1 := Aside0.mk hr1
 have HC1 := Aside0.mk hc1
 clear hr1 hc1
 have H : (if (l0.length : Int) = (l1.length : Int) then (codewrightref09_SameInts.l0 k l0 l1 0) else (some false)) = some r := h
 clear h
 by_cases c3 : (l0.length : Int) = (l1.length : Int)
 ·rw [if_pos c3] at H
  have c3b0 : ((l0.length : Int) == (l1.length : Int)) = true := beq_iff_eq.mpr c3
  have c3b1 : ((l0.length : Int) != (l1.length : Int)) = false := bne_eq_false_iff_eq.mpr c3
  have c3b2 : (l0.length == l1.length) = true := by first | simpa using c3 | (simp at c3 ⊢; omega)
  clear c3
  have H' := Aside0.mk H
  clear H
  go_enter Try.func28, Try.ntmps28
  go_wp2
  repeat (go_quiet (fail); try go_wp2)
  go_loopg [5] k (fun kq v5 w' => ∃ (x5_1 : Int), v5 = .int .i64 x5_1 ∧ Aside0 (codewrightref09_SameInts.l0 kq l0 l1 x5_1 = some r) ∧ Aside0 (kq ≤ k) ∧ Drawn0 w w')
  case atStart => exact ⟨(0), (by first | rfl | (simp; done) | (simp [*]; done)), H', ⟨Nat.le_refl _⟩, by repeat (first | exact Drawn0.refl _ | apply Drawn0.step)⟩
  case round =>
   clear H'
   try clear c1
   try clear c2
   try clear p2
   try clear c3
   try clear c3b0
   try clear c3b1
   try clear c3b2
   obtain ⟨x5_1, rfl, HA, HK1, ⟨m1, rfl⟩⟩ := hrel
   cases gk with
   | zero => exact absurd HA.out (by simp [codewrightref09_SameInts.l0])
   | succ k1 =>
    have H := HA.out
    clear HA
    simp only [codewrightref09_SameInts.l0] at H
    by_cases c4 : x5_1 < (l0.length : Int)
    ·rw [if_pos c4] at H
     have c4b0 : decide (x5_1 < (l0.length : Int)) = true := decide_eq_true c4
     clear c4
     by_cases c5 : 0 ≤ x5_1
     ·rw [if_pos c5] at H
      have c5b0 : decide (0 ≤ x5_1) = true := decide_eq_true c5
      clear c5
      by_cases c6 : x5_1 < (l1.length : Int)
      ·rw [if_pos c6] at H
       have c6b0 : decide (x5_1 < (l1.length : Int)) = true := decide_eq_true c6
       clear c6
       by_cases c7 : (rd l0 x5_1) = (rd l1 x5_1)
       ·rw [if_pos c7] at H
        have c7b0 : ((rd l0 x5_1) == (rd l1 x5_1)) = true := beq_iff_eq.mpr c7
        have c7b1 : ((rd l0 x5_1) != (rd l1 x5_1)) = false := bne_eq_false_iff_eq.mpr c7
        clear c7
        have H' := Aside0.mk H
        clear H
        have p355 : 0 ≤ (x5_1 : Int) := of_decide_eq_true (by first | (with_reducible assumption) | assumption)
        have q355 : x5_1 < (l0.length : Int) := of_decide_eq_true (by first | (with_reducible assumption) | assumption)
        obtain ⟨ad355, e355, hx355_0⟩ := Kd.at_int HR0.out x5_1 p355 q355
        cases e355
        replace p355 := eq_true p355
        replace q355 := eq_true q355
        have p356 : 0 ≤ (x5_1 : Int) := of_decide_eq_true (by first | (with_reducible assumption) | assumption)
        have q356 : x5_1 < (l1.length : Int) := of_decide_eq_true (by first | (with_reducible assumption) | assumption)
        obtain ⟨ad356, e356, hx356_0⟩ := Kd.at_int HR1.out x5_1 p356 q356
        cases e356
        replace p356 := eq_true p356
        replace q356 := eq_true q356
        go_wp2
        repeat (go_quiet (fail); try go_wp2)
        go_roundg k1
        case measure => have := HK1.out; omega
        case rel => exact ⟨(wrap64 (x5_1 + 1)), (by first | rfl | (simp; done) | (simp [*]; done)), H', ⟨by have := HK1.out; omega⟩, by repeat (first | exact Drawn0.refl _ | apply Drawn0.step)⟩
       ·rw [if_neg c7] at H
        have c7b0 : ((rd l0 x5_1) == (rd l1 x5_1)) = false := beq_eq_false_iff_ne.mpr c7
        have c7b1 : ((rd l0 x5_1) != (rd l1 x5_1)) = true := bne_iff_ne.mpr c7
        obtain rfl := Option.some.inj H
        have p355 : 0 ≤ (x5_1 : Int) := of_decide_eq_true (by first | (with_reducible assumption) | assumption)
        have q355 : x5_1 < (l0.length : Int) := of_decide_eq_true (by first | (with_reducible assumption) | assumption)
        obtain ⟨ad355, e355, hx355_0⟩ := Kd.at_int HR0.out x5_1 p355 q355
        cases e355
        replace p355 := eq_true p355
        replace q355 := eq_true q355
        have p356 : 0 ≤ (x5_1 : Int) := of_decide_eq_true (by first | (with_reducible assumption) | assumption)
        have q356 : x5_1 < (l1.length : Int) := of_decide_eq_true (by first | (with_reducible assumption) | assumption)
        obtain ⟨ad356, e356, hx356_0⟩ := Kd.at_int HR1.out x5_1 p356 q356
        cases e356
        replace p356 := eq_true p356
        replace q356 := eq_true q356
        go_wp2
        repeat (go_quiet (fail); try go_wp2)
        go_ret
        exact ⟨by first | rfl | (simp; done) | (simp [*]; done), by repeat (first | exact Drawn0.refl _ | apply Drawn0.step)⟩
      ·rw [if_neg c6] at H
       exact absurd H (by simp)
     ·rw [if_neg c5] at H
      exact absurd H (by simp)
    ·rw [if_neg c4] at H
     have c4b0 : decide (x5_1 < (l0.length : Int)) = false := decide_eq_false c4
     clear c4
     obtain rfl := Option.some.inj H
     go_wp2
     repeat (go_quiet (fail); try go_wp2)
     go_ret
     exact ⟨by first | rfl | (simp; done) | (simp [*]; done), by repeat (first | exact Drawn0.refl _ | apply Drawn0.step)⟩
 ·rw [if_neg c3] at H
  have c3b0 : ((l0.length : Int) == (l1.length : Int)) = false := beq_eq_false_iff_ne.mpr c3
  have c3b1 : ((l0.length : Int) != (l1.length : Int)) = true := bne_iff_ne.mpr c3
  have c3b2 : (l0.length == l1.length) = false := by first | simpa using c3 | (simp at c3 ⊢; omega)
  obtain rfl := Option.some.inj H
  go_enter Try.func28, Try.ntmps28
  go_wp2
  repeat (go_quiet (fail); try go_wp2)
  go_ret
  exact ⟨by first | rfl | (simp; done) | (simp [*]; done), by repeat (first | exact Drawn0.refl _ | apply Drawn0.step)⟩
end Go.Proofs.Ytkifipakikbhcaa.Ref
