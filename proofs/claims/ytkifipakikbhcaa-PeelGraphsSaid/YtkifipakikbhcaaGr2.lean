/- Part 2 of the claim: what the law reaches, walked (merged by slim.py out of the texts in wip). -/
import Derived.Test.YtkifipakikbhcaaGr1
import Derived.ArgAppend
import Derived.Below
import Derived.BigQuiet
import Derived.Deep.AppendLies
import Derived.Deep.CutBlock
import Derived.Deep.DeepCutAuto
import Derived.Deep.Draws
import Derived.Deep.LoopGhost
import Derived.Deep.OwnRows
import Derived.Deep.QuietTactic
import Derived.Deep.RegionHeld3
import Derived.KernelRfl
import Derived.Laws.BitsLemmas
import Derived.Laws.BytesArg
import Derived.Laws.IdiomCopy
import Derived.Laws.MakeOwn
import Derived.Laws.OwnMore
import Derived.Laws.Rows
import Derived.Laws.Slices
import Derived.Lib.AppendStr
import Derived.Lib.ConvBytes
import Derived.Maps.AppendAt
import Derived.OrdersHeld
import Derived.OwnWalk
import Derived.RowKit
import Derived.RowKit3
import Derived.Tactics
import Derived.Test.YtkifipakikbhcaaProg
import Derived.WalkKit
import Derived.WideLaws
set_option maxHeartbeats 8000000
set_option maxRecDepth 100000
set_option linter.unusedSimpArgs false
set_option linter.unusedVariables false
namespace Go.Proofs.Ytkifipakikbhcaa.Ref
open Go.RowKit YtkifipakikbhcaaW.PrintWords YtkifipakikbhcaaW.PrintLast YtkifipakikbhcaaW.PrintMore
mutual
def r4_divides.l0 : Nat → List Int → Int → Int → List Int → Int → Option (Bool)
 | 0, _, _, _, _, _ => none
 | k + 1, x0, x2, x7, x8, x9 => if x9 ≥ x7 then (if 0 ≤ x9 then (if x9 < (x8.length : Int) then (r4_divides.l1 k x0 x2 x7 x8 x9 (rd x8 x9) 0) else (none)) else (none)) else (r4_divides.l2 k x8 0)
def r4_divides.l1 : Nat → List Int → Int → Int → List Int → Int → Int → Int → Option (Bool)
 | 0, _, _, _, _, _, _, _ => none
 | k + 1, x0, x2, x7, x8, x9, x10, x11 => if x11 < x7 then (if 0 ≤ (wrap64 ((wrap64 (x9 - x7)) + x11)) then (if (wrap64 ((wrap64 (x9 - x7)) + x11)) < (x8.length : Int) then (if 0 ≤ x11 then (if x11 < (x0.length : Int) then (if x2 = 0 then (none) else (r4_divides.l1 k x0 x2 x7 (x8.set ((wrap64 ((wrap64 (x9 - x7)) + x11)) : Int).toNat (Int.tmod (wrap64 ((rd x8 (wrap64 ((wrap64 (x9 - x7)) + x11))) + (wrap64 ((wrap64 (x2 - x10)) * (rd x0 x11))))) x2)) x9 x10 (wrap64 (x11 + 1)))) else (none)) else (none)) else (none)) else (none)) else (if 0 ≤ x9 then (if x9 < (x8.length : Int) then (r4_divides.l0 k x0 x2 x7 (x8.set (x9 : Int).toNat 0) (wrap64 (x9 - 1))) else (none)) else (none))
def r4_divides.l2 : Nat → List Int → Int → Option (Bool)
 | 0, _, _ => none
 | k + 1, x8, x12 => if x12 < (x8.length : Int) then (if 0 ≤ x12 then (if (rd x8 x12) = 0 then (r4_divides.l2 k x8 (wrap64 (x12 + 1))) else (some false)) else (none)) else (some true)
end
def r4_divides.f (k : Nat) (l0 : List Int) (l1 : List Int) (a2 : Int) : Option (Bool) := (some (([] : List Int) : List Int)).bind fun y118 => (if y118.length + l1.length < 17592186044416 then ((some (y118 ++ l1 : List Int)).bind fun y121 => (if y121.length < 17592186044416 then ((some (y121 ++ [1] : List Int)).bind fun y124 => (r4_divides.l0 k l0 a2 (l0.length : Int) y124 (wrap64 ((y124.length : Int) - 1)))) else (none))) else (none))
theorem r4_divides.mono_l : ∀ k, (∀ y0 y1 y2 y3 y4, LeO (r4_divides.l0 k y0 y1 y2 y3 y4) (r4_divides.l0 (k + 1) y0 y1 y2 y3 y4)) ∧ (∀ y0 y1 y2 y3 y4 y5 y6, LeO (r4_divides.l1 k y0 y1 y2 y3 y4 y5 y6) (r4_divides.l1 (k + 1) y0 y1 y2 y3 y4 y5 y6)) ∧ (∀ y0 y1, LeO (r4_divides.l2 k y0 y1) (r4_divides.l2 (k + 1) y0 y1))
 | 0 => ⟨fun _ _ _ _ _ r h => by simp [r4_divides.l0] at h, fun _ _ _ _ _ _ _ r h => by simp [r4_divides.l1] at h, fun _ _ r h => by simp [r4_divides.l2] at h⟩
 | k + 1 => by
  obtain ⟨ih0, ih1, ih2⟩ := r4_divides.mono_l k
  refine ⟨?_, ?_, ?_⟩
  ·intro y0 y1 y2 y3 y4
   unfold r4_divides.l0
   repeat' first
   | (with_reducible exact ih0 _ _ _ _ _)
   | (with_reducible exact ih1 _ _ _ _ _ _ _)
   | (with_reducible exact ih2 _ _)
   | (with_reducible exact LeO.refl _)
   | (with_reducible exact LeO.none _)
   | (with_reducible refine LeO.ite ?_ ?_)
   | (with_reducible refine LeO.bind ?_ (fun _ => ?_))
   | exact ih0 _ _ _ _ _
   | exact ih1 _ _ _ _ _ _ _
   | exact ih2 _ _
   | exact LeO.none _
   | refine LeO.ite ?_ ?_
   | refine LeO.bind ?_ (fun _ => ?_)
  ·intro y0 y1 y2 y3 y4 y5 y6
   unfold r4_divides.l1
   repeat' first
   | (with_reducible exact ih0 _ _ _ _ _)
   | (with_reducible exact ih1 _ _ _ _ _ _ _)
   | (with_reducible exact ih2 _ _)
   | (with_reducible exact LeO.refl _)
   | (with_reducible exact LeO.none _)
   | (with_reducible refine LeO.ite ?_ ?_)
   | (with_reducible refine LeO.bind ?_ (fun _ => ?_))
   | exact ih0 _ _ _ _ _
   | exact ih1 _ _ _ _ _ _ _
   | exact ih2 _ _
   | exact LeO.none _
   | refine LeO.ite ?_ ?_
   | refine LeO.bind ?_ (fun _ => ?_)
  ·intro y0 y1
   unfold r4_divides.l2
   repeat' first
   | (with_reducible exact ih0 _ _ _ _ _)
   | (with_reducible exact ih1 _ _ _ _ _ _ _)
   | (with_reducible exact ih2 _ _)
   | (with_reducible exact LeO.refl _)
   | (with_reducible exact LeO.none _)
   | (with_reducible refine LeO.ite ?_ ?_)
   | (with_reducible refine LeO.bind ?_ (fun _ => ?_))
   | exact ih0 _ _ _ _ _
   | exact ih1 _ _ _ _ _ _ _
   | exact ih2 _ _
   | exact LeO.none _
   | refine LeO.ite ?_ ?_
   | refine LeO.bind ?_ (fun _ => ?_)
theorem r4_divides.mono : ∀ a0 a1 a2 k, LeO (r4_divides.f k a0 a1 a2) (r4_divides.f (k + 1) a0 a1 a2) := by
 intro a0 a1 a2 k
 obtain ⟨ih0, ih1, ih2⟩ := r4_divides.mono_l k
 unfold r4_divides.f
 repeat' first
   | (with_reducible exact ih0 _ _ _ _ _)
   | (with_reducible exact ih1 _ _ _ _ _ _ _)
   | (with_reducible exact ih2 _ _)
   | (with_reducible exact LeO.refl _)
   | (with_reducible exact LeO.none _)
   | (with_reducible refine LeO.ite ?_ ?_)
   | (with_reducible refine LeO.bind ?_ (fun _ => ?_))
   | exact ih0 _ _ _ _ _
   | exact ih1 _ _ _ _ _ _ _
   | exact ih2 _ _
   | exact LeO.none _
   | refine LeO.ite ?_ ?_
   | refine LeO.bind ?_ (fun _ => ?_)
def r4_divides.T11 : Bool × List (List Nat × List Nat) := (true, [([], []), ([], []), ([], []), ([1, 2], [1, 2]), ([], []), ([3, 4], [3, 4]), ([], []), ([], []), ([], []), ([7, 8], [7, 8]), ([], []), ([9, 10], [9, 10]), ([6, 11], [6, 11]), ([12], [12]), ([], []), ([], []), ([14, 15], [14, 15]), ([], []), ([], []), ([17, 18], [17, 18]), ([19], [19]), ([16, 20], [16, 20]), ([13, 21], [13, 21]), ([], []), ([22, 23], [22, 23]), ([0, 5, 0, 1, 2, 3, 4, 5, 6, 7, 8, 9, 10, 11, 12, 13, 14, 15, 16, 17, 18, 19, 20, 21, 22, 23, 24], [0, 5]), ([25, 24, 0, 1, 2, 3, 4, 5, 6, 7, 8, 9, 10, 11, 12, 13, 14, 15, 16, 17, 18, 19, 20, 21, 22, 23, 24], [24, 25])])
def r4_divides.B11 : List Nat := [0, 0, 0, 6, 0, 30, 0, 0, 0, 384, 0, 1920, 4032, 8128, 0, 0, 49152, 0, 0, 393216, 917504, 2080768, 4194240, 0, 16777152, 33554431, 67108863]
theorem r4_divides.tab11 : rtab .any (opsOf Try.f107 11) = r4_divides.T11 := by kernel_rfl
theorem r4_divides.bits11 : waitsOk r4_divides.T11.2 r4_divides.B11 = true := by kernel_rfl
theorem r4_divides.calls (k : Nat) (A0 : Option Addr) (c0 : Nat) (l0 : List Int) (A1 : Option Addr) (c1 : Nat) (l1 : List Int) (a2 : Int) (r : Bool) (w : World) (hr0 : Kd.C (Kd.int .i64) w A0 l0.length l0) (hc0 : l0.length ≤ c0) (hr1 : Kd.C (Kd.int .i64) w A1 l1.length l1) (hc1 : l1.length ≤ c1) (h : r4_divides.f k l0 l1 a2 = some r) :
  Calls Try.prog 107 #[.slice A0 l0.length c0, .slice A1 l1.length c1, .int .i64 a2] w fun e w' => e = .returned (.bool r) ∧ Below w.heap.size w w' := by
 have HR0 := ak hr0
 have HC0 := ak hc0
 clear hr0 hc0
 have HR1 := ak hr1
 have HC1 := ak hc1
 clear hr1 hc1
 have HB := ak (Below.refl w.heap.size w)
 have H : ((some (([] : List Int) : List Int)).bind fun y118 => (if y118.length + l1.length < 17592186044416 then ((some (y118 ++ l1 : List Int)).bind fun y121 => (if y121.length < 17592186044416 then ((some (y121 ++ [1] : List Int)).bind fun y124 => (r4_divides.l0 k l0 a2 (l0.length : Int) y124 (wrap64 ((y124.length : Int) - 1)))) else (none))) else (none))) = some r := h
 clear h
 obtain ⟨y118, hy118⟩ : ∃ y_ : List Int, y_ = (([] : List Int)) := ⟨_, rfl⟩
 replace H : (if y118.length + l1.length < 17592186044416 then ((some (y118 ++ l1 : List Int)).bind fun y121 => (if y121.length < 17592186044416 then ((some (y121 ++ [1] : List Int)).bind fun y124 => (r4_divides.l0 k l0 a2 (l0.length : Int) y124 (wrap64 ((y124.length : Int) - 1)))) else (none))) else (none)) = some r := by (have H2_ := (Option.bind_some _ _).symm.trans H; rw [hy118]; with_reducible exact H2_)
 have Ny118 := ak hy118
 clear hy118
 by_cases c4 : y118.length + l1.length < 17592186044416
 ·rw [if_pos c4] at H
  have LMc4 := ak c4
  clear c4
  obtain ⟨y121, hy121⟩ : ∃ y_ : List Int, y_ = (y118 ++ l1) := ⟨_, rfl⟩
  replace H : (if y121.length < 17592186044416 then ((some (y121 ++ [1] : List Int)).bind fun y124 => (r4_divides.l0 k l0 a2 (l0.length : Int) y124 (wrap64 ((y124.length : Int) - 1)))) else (none)) = some r := by (have H2_ := (Option.bind_some _ _).symm.trans H; rw [hy121]; with_reducible exact H2_)
  have Ny121 := ak hy121
  clear hy121
  by_cases c5 : y121.length < 17592186044416
  ·rw [if_pos c5] at H
   have LMc5 := ak c5
   clear c5
   obtain ⟨y124, hy124⟩ : ∃ y_ : List Int, y_ = (y121 ++ [1]) := ⟨_, rfl⟩
   replace H : (r4_divides.l0 k l0 a2 (l0.length : Int) y124 (wrap64 ((y124.length : Int) - 1))) = some r := by (have H2_ := (Option.bind_some _ _).symm.trans H; rw [hy124]; with_reducible exact H2_)
   have Ny124 := ak hy124
   clear hy124
   have H' := ak H
   clear H
   go_enter Try.func107, Try.ntmps107
   go_wp2_with (first | ((with_reducible refine gate_dst (N := 15) rfl ?_); refine Kd.R_lit (Kd.int .i64) _ 3 ?hg (N := 15) ?hd (xs := ([] : List Int)) (inner := []) (ok := fun _ => True) (okp := fun _ => True) ?hr ?hp (fun _ hk => hk) trivial (Below.refl _ _) (Nat.le_refl _) (by simp) ?_; (case hd => rfl); (case hg => rfl); (case hr => first | (go_simp; done) | (go_simp; rfl)); (case hp => exact (Reps.none _ _)); intro v119 w6 ho7 hb hg_ hnew_; clear hg_ hnew_; (first | rw [← Ny118.out] at ho7 | (simp only [Int.reduceToNat] at ho7; rw [← Ny118.out] at ho7)); have n0_ := ak (Kd.R_lower ho7 (bsz HB.out)); have n1_ := ak (bsp HB.out hb); clear HB; have HO120 := n0_; have HB := n1_; clear n0_ n1_; clear hb ho7) | ((with_reducible refine gate_builtin (b := .append) (xs := #[.tmp 15, .tmp 16]) rfl ?_); at_builtin; refine Kd.R_append_rows (Kd.int .i64) (w0 := w) w.heap.size rfl (.tmp 15) (.tmp 16) 22 3 (.int .i64 0) 8 rfl Try.underlying22 info3 rfl (by decide) (by omega) v119 y118 l1 _ _ _ (fun _ => True) (fun _ => False) rfl rfl ?aO ?aR (fun _ _ h => h) (fun _ h => h.elim) ?aF ?aB ?aS ?aL ?_; (case aR => repeat (first | exact (Kd.C_below HR1.out HB.out) | (with_reducible refine Kd.C_alloc ?_ _) | (with_reducible refine Kd.C_drewN ?_ _) | (with_reducible refine Kd.C_drew ?_))); (case aB => exact HB.out); (case aF => exact (fun _ _ => trivial)); (case aO => exact HO120.out); (case aS => exact (bsz HB.out)); (case aL => have := LMc4.out; omega); intro v122 w8 ho hb hg hat; rw [← Ny121.out] at ho; have n0_ := ak (hb); have n1_ := ak (ho); clear HB HO120; have HB := n0_; have HO123 := n1_; clear n0_ n1_; clear ho hb hg hat) | ((with_reducible refine gate_builtin (b := .append) (xs := #[.tmp 18, .tmp 19]) rfl ?_); at_builtin; refine Kd.R_append (Kd.int .i64) (w0 := w) w.heap.size rfl (.tmp 18) (.tmp 19) 22 3 (.int .i64 0) 8 rfl Try.underlying22 info3 rfl (by decide) (by omega) v122 y121 1 [.int .i64 1] (fun _ => True) (fun _ => False) rfl rfl ?aP (fun _ hk => hk.elim) ?aF ?aO ?aB ?aS ?aL ?_; (case aP => exact rfl); (case aB => exact HB.out); (case aF => exact (fun _ _ => trivial)); (case aO => exact HO123.out); (case aS => exact (bsz HB.out)); (case aL => have := LMc5.out; omega); intro v125 w9 ho hb hg hat; rw [← Ny124.out] at ho; have n0_ := ak (hb); have n1_ := ak (ho); clear HB HO123; have HB := n0_; have HO126 := n1_; clear n0_ n1_; clear ho hb hg hat; obtain ⟨Ao10, co10, eo10⟩ := Kd.R_slice HO126.out; subst eo10))
   go_loopg [9] k (fun kq v9 w' => ∃ (x8_1 : List Int) (x9_1 : Int), v9 = .int .i64 x9_1 ∧ Aside0 (r4_divides.l0 kq l0 a2 (l0.length : Int) x8_1 x9_1 = some r) ∧ Aside0 (kq ≤ k) ∧ Aside0 (Kd.R (Kd.int .i64) 3 w' w.heap.size (fun _ => True) (.slice Ao10 y124.length co10) x8_1) ∧ Aside0 (Below w.heap.size w w'))
   case atStart => exact ⟨(y124), (wrap64 ((y124.length : Int) - 1)), (by first | rfl | (simp; done) | (simp [*]; done)), H', ⟨Nat.le_refl _⟩, ⟨by (with_reducible repeat (first | apply Kd.R_alloc | apply Kd.R_drewN | apply Kd.R_drew)); exact HO126.out⟩, ⟨by repeat (first | (with_reducible first | exact HB.out | apply bal | apply pbn | apply bd1) | exact HB.out)⟩⟩
   case round =>
    clear H'
    obtain ⟨x8_1, x9_1, rfl, HA, HK1, HO_8, HB⟩ := hrel
    have hl8_1 := (Kd.R_reads' HO_8.out).1
    rw [hl8_1] at HO_8
    (try (simp only [hl8_1]))
    cases gk with
    | zero => exact absurd HA.out (by simp [r4_divides.l0])
    | succ k1 =>
     have H := HA.out
     clear HA
     simp only [r4_divides.l0] at H
     by_cases c11 : x9_1 ≥ (l0.length : Int)
     ·rw [if_pos c11] at H
      have c11b0 : decide ((l0.length : Int) ≤ x9_1) = true := det c11
      clear c11
      by_cases c12 : 0 ≤ x9_1
      ·rw [if_pos c12] at H
       have c12b0 : decide (0 ≤ x9_1) = true := det c12
       clear c12
       by_cases c13 : x9_1 < (x8_1.length : Int)
       ·rw [if_pos c13] at H
        have c13b0 : decide (x9_1 < (x8_1.length : Int)) = true := det c13
        clear c13
        have H' := ak H
        clear H
        have p127 : 0 ≤ (x9_1 : Int) := odt (by with_reducible assumption)
        have q127 : x9_1 < (x8_1.length : Int) := odt (by with_reducible assumption)
        obtain ⟨ad127, e127, hx127_0⟩ := Kd.at_int (Kd.R_reads' HO_8.out).2.2 x9_1 p127 q127
        cases e127
        replace p127 := eq_true p127
        replace q127 := eq_true q127
        go_wp2
        go_loopg [11] k1 (fun kq v11 w' => ∃ (x8_2 : List Int) (x11_2 : Int), v11 = .int .i64 x11_2 ∧ Aside0 (r4_divides.l1 kq l0 a2 (l0.length : Int) x8_2 x9_1 (rd x8_1 x9_1) x11_2 = some r) ∧ Aside0 (kq ≤ k1) ∧ Aside0 (Kd.R (Kd.int .i64) 3 w' w.heap.size (fun _ => True) (.slice (some ad127) x8_1.length co10) x8_2) ∧ Aside0 (Below w.heap.size w w'))
        case atStart => exact ⟨(x8_1), (0), (by first | rfl | (simp; done) | (simp [*]; done)), H', ⟨Nat.le_refl _⟩, ⟨by (try simp only [hl8_1]); (with_reducible repeat (first | apply Kd.R_alloc | apply Kd.R_drewN | apply Kd.R_drew)); exact HO_8.out⟩, ⟨by repeat (first | (with_reducible first | exact HB.out | apply bal | apply pbn | apply bd1) | exact HB.out)⟩⟩
        case round =>
         clear H'
         try (clear c11b0)
         try (clear c12b0)
         try (clear c13b0)
         try (clear hx127_0)
         try (clear p127)
         try (clear q127)
         obtain ⟨x8_2, x11_2, rfl, HA, HK2, HO_8, HB⟩ := hrel
         have hl8_2 := (Kd.R_reads' HO_8.out).1
         rw [hl8_2] at HO_8
         (try (simp only [hl8_2]))
         cases gk with
         | zero => exact absurd HA.out (by simp [r4_divides.l1])
         | succ k2 =>
          have H := HA.out
          clear HA
          simp only [r4_divides.l1] at H
          by_cases c14 : x11_2 < (l0.length : Int)
          ·rw [if_pos c14] at H
           have c14b0 : decide (x11_2 < (l0.length : Int)) = true := det c14
           clear c14
           obtain ⟨ji15, hji15⟩ : ∃ j_ : Int, (wrap64 ((wrap64 (x9_1 - (l0.length : Int))) + x11_2)) = j_ := ⟨_, rfl⟩
           replace H : (if 0 ≤ (ji15) then (if (ji15) < (x8_2.length : Int) then (if 0 ≤ x11_2 then (if x11_2 < (l0.length : Int) then (if a2 = 0 then (none) else (r4_divides.l1 k2 l0 a2 (l0.length : Int) (x8_2.set ((ji15) : Int).toNat (Int.tmod (wrap64 ((rd x8_2 (ji15)) + (wrap64 ((wrap64 (a2 - (rd x8_1 x9_1))) * (rd l0 x11_2))))) a2)) x9_1 (rd x8_1 x9_1) (wrap64 (x11_2 + 1)))) else (none)) else (none)) else (none)) else (none)) = some r := by (rw [hji15] at H; exact H)
           have hji15w : (IntKind.i64.wrap ((wrap64 (x9_1 - (l0.length : Int))) + x11_2)) = ji15 := (i64_w _).trans hji15
           by_cases c16 : 0 ≤ (ji15)
           ·rw [if_pos c16] at H
            have c16b0 : decide (0 ≤ (ji15)) = true := det c16
            clear c16
            by_cases c17 : (ji15) < (x8_2.length : Int)
            ·rw [if_pos c17] at H
             have c17b0 : decide ((ji15) < (x8_2.length : Int)) = true := det c17
             clear c17
             by_cases c18 : 0 ≤ x11_2
             ·rw [if_pos c18] at H
              have c18b0 : decide (0 ≤ x11_2) = true := det c18
              clear c18
              by_cases c19 : x11_2 < (l0.length : Int)
              ·rw [if_pos c19] at H
               have c19b0 : decide (x11_2 < (l0.length : Int)) = true := det c19
               clear c19
               by_cases c20 : a2 = 0
               ·rw [if_pos c20] at H
                exact absurd H (by simp)
               ·rw [if_neg c20] at H
                have c20b0 : (a2 == 0) = false := bqm c20
                have c20b1 : (a2 != 0) = true := bne_iff_ne.mpr c20
                obtain ⟨y130, hy130⟩ : ∃ y_ : List Int, y_ = (x8_2.set ((ji15) : Int).toNat (Int.tmod (wrap64 ((rd x8_2 (ji15)) + (wrap64 ((wrap64 (a2 - (rd x8_1 x9_1))) * (rd l0 x11_2))))) a2)) := ⟨_, rfl⟩
                replace H : (r4_divides.l1 k2 l0 a2 (l0.length : Int) y130 x9_1 (rd x8_1 x9_1) (wrap64 (x11_2 + 1))) = some r := by (rw [hy130]; with_reducible exact H)
                have Ny130 := ak hy130
                clear hy130
                have H' := ak H
                clear H
                try (go_wp2)
                have n0_ := ak (Kd.R_drew HO_8.out)
                have n1_ := ak (bd1 HB.out)
                clear HO_8
                clear HB
                have HO_8 := n0_
                have HB := n1_
                clear n0_ n1_
                have p128 : 0 ≤ ((ji15) : Int) := odt (by with_reducible assumption)
                have q128 : (ji15) < (x8_2.length : Int) := odt (by with_reducible assumption)
                obtain ⟨ad128, e128, hx128_0⟩ := Kd.at_int (Kd.R_reads' HO_8.out).2.2 (ji15) p128 q128
                obtain rfl : ad127 = ad128 := (by injection e128)
                replace p128 := eq_true p128
                replace q128 := eq_true q128
                have p129 : 0 ≤ (x11_2 : Int) := odt (by with_reducible assumption)
                have q129 : x11_2 < (l0.length : Int) := odt (by with_reducible assumption)
                obtain ⟨ad129, e129, hx129_0⟩ := Kd.at_int HR0.out x11_2 p129 q129
                have hw129_0 := hx129_0
                cases e129
                replace hx129_0 := (HB.out.cell (World.block_lt_of_cell? w _ hx129_0)).trans hx129_0
                replace p129 := eq_true p129
                replace q129 := eq_true q129
                have p21 : 0 ≤ ((ji15) : Int) := odt (by with_reducible assumption)
                have q21 : ((ji15) : Int) < ((x8_2.length : Int) : Int) := odt (by with_reducible assumption)
                obtain ⟨go21, co21, eo21, gb21, gl21, cl21, HG21⟩ := Kd.R_form HO_8.out (by omega)
                (cases eo21)
                have GB21 := ak gb21
                have GG21 := ak HG21
                clear gb21 gl21 HG21
                (skip)
                (simp only [add_plain] at hx128_0)
                obtain ⟨hx21_0, hf21_0⟩ := Kd.R_celln 0 HO_8.out ((ji15) : Int) p21 q21
                replace p21 := eq_true p21
                replace q21 := eq_true q21
                have HP23 := Kd.R_putn HO_8.out ((ji15) : Int) (Int.tmod (wrap64 ((rd x8_2 (ji15)) + (wrap64 ((wrap64 (a2 - (rd x8_1 x9_1))) * (rd l0 x11_2))))) a2)
                rw [← Ny130.out] at HP23
                have HQ23 := ak HP23
                clear HP23
                refine start_ (n := 27) (S := fun w' => w'.cell? ⟨go21, ((ji15)).toNat, none⟩ = some (.int .i64 (rd x8_2 (ji15))) ∧ w'.cell? (ad129.add (x11_2).toNat) = some (.int .i64 (rd l0 x11_2))) (ds := [26]) #[false, false, false, false, false, false, false, false, false, false, false, false, false, false, false, false, false, false, false, false, false, false, false, false, false, false, false] (by kernel_rfl) rfl rfl ⟨hx128_0, ((HB.out.cell (World.block_lt_of_cell? w _ hw129_0)).trans hw129_0)⟩ (fun hHeld => ?_); refine with_tabW r4_divides.tab11 r4_divides.bits11 (fun HT_ HW_ => ?_)
                generalize wr.drew = w22 at HO_8 HB GG21 HQ23 hf21_0 hx128_0 hx129_0 hx21_0 hHeld ⊢
                refine pure_ (i := 0) (N := some 38) (v := ?_) (a' := ?_) #[true, false, false, false, false, false, false, false, false, false, false, false, false, false, false, false, false, false, false, false, false, false, false, false, false, false, false] rfl rfl (any_of HT_.out (by kernel_rfl)) (fun _ _ _ h => h) (Or.inl ⟨by rfl, ?_⟩) ?_ ?_
                rotate_left
                ·intro w'
                 go_simp
                 with_reducible rfl
                rotate_left
                ·simp only [Act.put, sia, scz, scs, i64_w, i32_w]
                 rfl
                refine pure_ (i := 1) (N := some 39) (v := ?_) (a' := ?_) #[true, true, false, false, false, false, false, false, false, false, false, false, false, false, false, false, false, false, false, false, false, false, false, false, false, false, false] rfl rfl (any_of HT_.out (by kernel_rfl)) (fun _ _ _ h => h) (Or.inl ⟨by rfl, ?_⟩) ?_ ?_
                rotate_left
                ·intro w'
                 go_simp
                 with_reducible rfl
                rotate_left
                ·simp only [Act.put, sia, scz, scs, i64_w, i32_w]
                 rfl
                refine pure_ (i := 2) (N := some 40) (v := ?_) (a' := ?_) #[true, true, true, false, false, false, false, false, false, false, false, false, false, false, false, false, false, false, false, false, false, false, false, false, false, false, false] rfl rfl (any_of HT_.out (by kernel_rfl)) (fun _ _ _ h => h) (Or.inl ⟨by rfl, ?_⟩) ?_ ?_
                rotate_left
                ·intro w'
                 go_simp
                 with_reducible rfl
                rotate_left
                ·simp only [Act.put, sia, scz, scs, i64_w, i32_w]
                 rfl
                refine pure_ (i := 3) (N := some 41) (v := ?_) (a' := ?_) #[true, true, true, true, false, false, false, false, false, false, false, false, false, false, false, false, false, false, false, false, false, false, false, false, false, false, false] rfl rfl (any_of HT_.out (by kernel_rfl)) (fun _ _ _ h => h) (Or.inl ⟨by rfl, ?_⟩) ?_ ?_
                rotate_left
                ·intro w'
                 go_simp
                 with_reducible rfl
                rotate_left
                ·simp only [Act.put, sia, scz, scs, i64_w, i32_w]
                 rfl
                refine pure_ (i := 4) (N := some 42) (v := ?_) (a' := ?_) #[true, true, true, true, true, false, false, false, false, false, false, false, false, false, false, false, false, false, false, false, false, false, false, false, false, false, false] rfl rfl (any_of HT_.out (by kernel_rfl)) (fun _ _ _ h => h) (Or.inl ⟨by rfl, ?_⟩) ?_ ?_
                rotate_left
                ·intro w'
                 go_simp
                 with_reducible rfl
                rotate_left
                ·simp only [Act.put, sia, scz, scs, i64_w, i32_w]
                 rfl
                refine pure_ (i := 5) (N := some 43) (v := ?_) (a' := ?_) #[true, true, true, true, true, true, false, false, false, false, false, false, false, false, false, false, false, false, false, false, false, false, false, false, false, false, false] rfl rfl (any_of HT_.out (by kernel_rfl)) (fun _ _ _ h => h) (Or.inl ⟨by rfl, ?_⟩) ?_ ?_
                rotate_left
                ·intro w'
                 go_simp
                 with_reducible rfl
                rotate_left
                ·simp only [Act.put, sia, scz, scs, i64_w, i32_w]
                 rfl
                refine pure_ (i := 6) (N := some 44) (v := ?_) (a' := ?_) #[true, true, true, true, true, true, true, false, false, false, false, false, false, false, false, false, false, false, false, false, false, false, false, false, false, false, false] rfl rfl (any_of HT_.out (by kernel_rfl)) (fun _ _ _ h => h) (Or.inl ⟨by rfl, ?_⟩) ?_ ?_
                rotate_left
                ·intro w'
                 go_simp
                 with_reducible rfl
                rotate_left
                ·simp only [Act.put, sia, scz, scs, i64_w, i32_w]
                 rfl
                refine pure_ (i := 7) (N := some 45) (v := ?_) (a' := ?_) #[true, true, true, true, true, true, true, true, false, false, false, false, false, false, false, false, false, false, false, false, false, false, false, false, false, false, false] rfl rfl (any_of HT_.out (by kernel_rfl)) (fun _ _ _ h => h) (Or.inl ⟨by rfl, ?_⟩) ?_ ?_
                rotate_left
                ·intro w'
                 go_simp
                 with_reducible rfl
                rotate_left
                ·simp only [Act.put, sia, scz, scs, i64_w, i32_w]
                 rfl
                refine pure_ (i := 8) (N := some 46) (v := ?_) (a' := ?_) #[true, true, true, true, true, true, true, true, true, false, false, false, false, false, false, false, false, false, false, false, false, false, false, false, false, false, false] rfl rfl (any_of HT_.out (by kernel_rfl)) (fun _ _ _ h => h) (Or.inl ⟨by rfl, ?_⟩) ?_ ?_
                rotate_left
                ·intro w'
                 go_simp
                 with_reducible rfl
                rotate_left
                ·simp only [Act.put, sia, scz, scs, i64_w, i32_w]
                 rfl
                refine pure_ (i := 9) (N := some 47) (v := ?_) (a' := ?_) #[true, true, true, true, true, true, true, true, true, true, false, false, false, false, false, false, false, false, false, false, false, false, false, false, false, false, false] rfl rfl (any_of HT_.out (by kernel_rfl)) (fun _ _ _ h => h) (Or.inl ⟨by rfl, ?_⟩) ?_ ?_
                rotate_left
                ·intro w'
                 go_simp
                 with_reducible rfl
                rotate_left
                ·simp only [Act.put, sia, scz, scs, i64_w, i32_w]
                 rfl
                refine pure_ (i := 10) (N := some 48) (v := ?_) (a' := ?_) #[true, true, true, true, true, true, true, true, true, true, true, false, false, false, false, false, false, false, false, false, false, false, false, false, false, false, false] rfl rfl (any_of HT_.out (by kernel_rfl)) (fun _ _ _ h => h) (Or.inl ⟨by rfl, ?_⟩) ?_ ?_
                rotate_left
                ·intro w'
                 go_simp
                 with_reducible rfl
                rotate_left
                ·simp only [Act.put, sia, scz, scs, i64_w, i32_w]
                 rfl
                refine pure_ (i := 11) (N := some 49) (v := ?_) (a' := ?_) #[true, true, true, true, true, true, true, true, true, true, true, true, false, false, false, false, false, false, false, false, false, false, false, false, false, false, false] rfl rfl (any_of HT_.out (by kernel_rfl)) (fun _ _ _ h => h) (Or.inl ⟨by rfl, ?_⟩) ?_ ?_
                rotate_left
                ·intro w'
                 go_simp
                 with_reducible rfl
                rotate_left
                ·simp only [Act.put, sia, scz, scs, i64_w, i32_w]
                 rfl
                refine pure_ (i := 12) (N := some 50) (v := ?_) (a' := ?_) #[true, true, true, true, true, true, true, true, true, true, true, true, true, false, false, false, false, false, false, false, false, false, false, false, false, false, false] rfl rfl (any_of HT_.out (by kernel_rfl)) (fun _ _ _ h => h) (Or.inl ⟨by rfl, ?_⟩) ?_ ?_
                rotate_left
                ·intro w'
                 go_simp
                 with_reducible rfl
                rotate_left
                ·simp only [Act.put, sia, scz, scs, i64_w, i32_w]
                 rfl
                refine pure_ (i := 14) (N := some 52) (v := ?_) (a' := ?_) #[true, true, true, true, true, true, true, true, true, true, true, true, true, false, true, false, false, false, false, false, false, false, false, false, false, false, false] rfl rfl (any_of HT_.out (by kernel_rfl)) (fun _ _ _ h => h) (Or.inl ⟨by rfl, ?_⟩) ?_ ?_
                rotate_left
                ·intro w'
                 go_simp
                 with_reducible rfl
                rotate_left
                ·simp only [Act.put, sia, scz, scs, i64_w, i32_w]
                 rfl
                refine pure_ (i := 15) (N := some 53) (v := ?_) (a' := ?_) #[true, true, true, true, true, true, true, true, true, true, true, true, true, false, true, true, false, false, false, false, false, false, false, false, false, false, false] rfl rfl (any_of HT_.out (by kernel_rfl)) (fun _ _ _ h => h) (Or.inl ⟨by rfl, ?_⟩) ?_ ?_
                rotate_left
                ·intro w'
                 go_simp
                 with_reducible rfl
                rotate_left
                ·simp only [Act.put, sia, scz, scs, i64_w, i32_w]
                 rfl
                refine pure_ (i := 16) (N := some 54) (v := ?_) (a' := ?_) #[true, true, true, true, true, true, true, true, true, true, true, true, true, false, true, true, true, false, false, false, false, false, false, false, false, false, false] rfl rfl (any_of HT_.out (by kernel_rfl)) (fun _ _ _ h => h) (Or.inl ⟨by rfl, ?_⟩) ?_ ?_
                rotate_left
                ·intro w'
                 go_simp
                 with_reducible rfl
                rotate_left
                ·simp only [Act.put, sia, scz, scs, i64_w, i32_w]
                 rfl
                refine pure_ (i := 17) (N := some 55) (v := ?_) (a' := ?_) #[true, true, true, true, true, true, true, true, true, true, true, true, true, false, true, true, true, true, false, false, false, false, false, false, false, false, false] rfl rfl (any_of HT_.out (by kernel_rfl)) (fun _ _ _ h => h) (Or.inl ⟨by rfl, ?_⟩) ?_ ?_
                rotate_left
                ·intro w'
                 go_simp
                 with_reducible rfl
                rotate_left
                ·simp only [Act.put, sia, scz, scs, i64_w, i32_w]
                 rfl
                refine pure_ (i := 18) (N := some 56) (v := ?_) (a' := ?_) #[true, true, true, true, true, true, true, true, true, true, true, true, true, false, true, true, true, true, true, false, false, false, false, false, false, false, false] rfl rfl (any_of HT_.out (by kernel_rfl)) (fun _ _ _ h => h) (Or.inl ⟨by rfl, ?_⟩) ?_ ?_
                rotate_left
                ·intro w'
                 go_simp
                 with_reducible rfl
                rotate_left
                ·simp only [Act.put, sia, scz, scs, i64_w, i32_w]
                 rfl
                refine pure_ (i := 19) (N := some 57) (v := ?_) (a' := ?_) #[true, true, true, true, true, true, true, true, true, true, true, true, true, false, true, true, true, true, true, true, false, false, false, false, false, false, false] rfl rfl (any_of HT_.out (by kernel_rfl)) (fun _ _ _ h => h) (Or.inl ⟨by rfl, ?_⟩) ?_ ?_
                rotate_left
                ·intro w'
                 go_simp
                 with_reducible rfl
                rotate_left
                ·simp only [Act.put, sia, scz, scs, i64_w, i32_w]
                 rfl
                refine pure_ (i := 23) (N := some 61) (v := ?_) (a' := ?_) #[true, true, true, true, true, true, true, true, true, true, true, true, true, false, true, true, true, true, true, true, false, false, false, true, false, false, false] rfl rfl (any_of HT_.out (by kernel_rfl)) (fun _ _ _ h => h) (Or.inl ⟨by rfl, ?_⟩) ?_ ?_
                rotate_left
                ·intro w'
                 go_simp
                 with_reducible rfl
                rotate_left
                ·simp only [Act.put, sia, scz, scs, i64_w, i32_w]
                 rfl
                refine take_ (i := 13) (N := some 51) (v := ?_) (a' := ?_) #[true, true, true, true, true, true, true, true, true, true, true, true, true, true, true, true, true, true, true, true, false, false, false, true, false, false, false] rfl rfl (take_ofW HT_.out HW_.out (by kernel_rfl)) (fun _ _ _ h => h) (Or.inl ⟨by rfl, ?_⟩) hHeld ?_ ?_
                rotate_left
                ·rintro w' ⟨s0, s1⟩
                 go_simp
                 with_reducible rfl
                rotate_left
                ·simp only [Act.put, sia, scz, scs, i64_w, i32_w]
                 rfl
                refine take_ (i := 20) (N := some 58) (v := ?_) (a' := ?_) #[true, true, true, true, true, true, true, true, true, true, true, true, true, true, true, true, true, true, true, true, true, false, false, true, false, false, false] rfl rfl (take_ofW HT_.out HW_.out (by kernel_rfl)) (fun _ _ _ h => h) (Or.inl ⟨by rfl, ?_⟩) hHeld ?_ ?_
                rotate_left
                ·rintro w' ⟨s0, s1⟩
                 go_simp
                 with_reducible rfl
                rotate_left
                ·simp only [Act.put, sia, scz, scs, i64_w, i32_w]
                 rfl
                refine pure_ (i := 21) (N := some 59) (v := ?_) (a' := ?_) #[true, true, true, true, true, true, true, true, true, true, true, true, true, true, true, true, true, true, true, true, true, true, false, true, false, false, false] rfl rfl (any_of HT_.out (by kernel_rfl)) (fun _ _ _ h => h) (Or.inl ⟨by rfl, ?_⟩) ?_ ?_
                rotate_left
                ·intro w'
                 go_simp
                 with_reducible rfl
                rotate_left
                ·simp only [Act.put, sia, scz, scs, i64_w, i32_w]
                 rfl
                refine pure_ (i := 22) (N := some 60) (v := ?_) (a' := ?_) #[true, true, true, true, true, true, true, true, true, true, true, true, true, true, true, true, true, true, true, true, true, true, true, true, false, false, false] rfl rfl (any_of HT_.out (by kernel_rfl)) (fun _ _ _ h => h) (Or.inl ⟨by rfl, ?_⟩) ?_ ?_
                rotate_left
                ·intro w'
                 go_simp
                 with_reducible rfl
                rotate_left
                ·simp only [Act.put, sia, scz, scs, i64_w, i32_w]
                 rfl
                refine pure_ (i := 24) (N := some 62) (v := ?_) (a' := ?_) #[true, true, true, true, true, true, true, true, true, true, true, true, true, true, true, true, true, true, true, true, true, true, true, true, true, false, false] rfl rfl (any_of HT_.out (by kernel_rfl)) (fun _ _ _ h => h) (Or.inl ⟨by rfl, ?_⟩) ?_ ?_
                rotate_left
                ·intro w'
                 go_simp
                 with_reducible rfl
                rotate_left
                ·simp only [Act.put, sia, scz, scs, i64_w, i32_w]
                 rfl
                refine pure_ (i := 25) (N := some 63) (v := ?_) (a' := ?_) #[true, true, true, true, true, true, true, true, true, true, true, true, true, true, true, true, true, true, true, true, true, true, true, true, true, true, false] rfl rfl (any_of HT_.out (by kernel_rfl)) (fun _ _ _ h => h) (Or.inl ⟨by rfl, ?_⟩) ?_ ?_
                rotate_left
                ·intro w'
                 go_simp
                 with_reducible rfl
                rotate_left
                ·simp only [Act.put, sia, scz, scs, i64_w, i32_w]
                 rfl
                refine last_ (i := 26) (N := none) #[true, true, true, true, true, true, true, true, true, true, true, true, true, true, true, true, true, true, true, true, true, true, true, true, true, true, true] rfl rfl (one_of HT_.out (by kernel_rfl)) (by decide) (fun K hK => ?_)
                refine skip_ (w1 := ?_) (by rfl) rfl ?_ ?_
                rotate_left
                ·go_simp
                 rfl
                refine hK.out _ _ ?_
                clear hK K
                refine done_ (done_of HT_.out (by kernel_rfl)) ?_
                try (go_wp2)
                (try (simp only [← hl8_2]))
                (try (rw [show (⟨go21, x9_1.toNat, none⟩ : Addr) = (⟨go21, 0, none⟩ : Addr).add x9_1.toNat from (by simp only [add_plain])]))
                go_roundg k2
                case measure => have := HK1.out; have := HK2.out; omega
                case rel => exact ⟨(y130), (wrap64 (x11_2 + 1)), (by first | rfl | (simp; done) | (simp [*]; done)), H', ⟨by have := HK1.out; have := HK2.out; omega⟩, ⟨by (try simp only [hl8_1]); (try simp only [hl8_2]); (with_reducible repeat (first | apply Kd.R_alloc | apply Kd.R_drewN | apply Kd.R_drew)); exact HQ23.out⟩, ⟨by repeat (first | (with_reducible first | exact HB.out | apply bal | apply pbn | apply bd1 | refine bst ?_ GB21.out) | exact HB.out)⟩⟩
              ·rw [if_neg c19] at H
               exact absurd H (by simp)
             ·rw [if_neg c18] at H
              exact absurd H (by simp)
            ·rw [if_neg c17] at H
             exact absurd H (by simp)
           ·rw [if_neg c16] at H
            exact absurd H (by simp)
          ·rw [if_neg c14] at H
           have c14b0 : decide (x11_2 < (l0.length : Int)) = false := dff c14
           clear c14
           by_cases c24 : 0 ≤ x9_1
           ·rw [if_pos c24] at H
            have c24b0 : decide (0 ≤ x9_1) = true := det c24
            clear c24
            by_cases c25 : x9_1 < (x8_2.length : Int)
            ·rw [if_pos c25] at H
             have c25b0 : decide (x9_1 < (x8_2.length : Int)) = true := det c25
             clear c25
             obtain ⟨y131, hy131⟩ : ∃ y_ : List Int, y_ = (x8_2.set (x9_1 : Int).toNat 0) := ⟨_, rfl⟩
             replace H : (r4_divides.l0 k2 l0 a2 (l0.length : Int) y131 (wrap64 (x9_1 - 1))) = some r := by (rw [hy131]; with_reducible exact H)
             have Ny131 := ak hy131
             clear hy131
             have H' := ak H
             clear H
             have p26 : 0 ≤ (x9_1 : Int) := odt (by with_reducible assumption)
             have q26 : (x9_1 : Int) < ((x8_2.length : Int) : Int) := odt (by with_reducible assumption)
             obtain ⟨go26, co26, eo26, gb26, gl26, cl26, HG26⟩ := Kd.R_form HO_8.out (by omega)
             (cases eo26)
             have GB26 := ak gb26
             have GG26 := ak HG26
             clear gb26 gl26 HG26
             obtain ⟨hx26_0, hf26_0⟩ := Kd.R_celln 0 HO_8.out (x9_1 : Int) p26 q26
             replace p26 := eq_true p26
             replace q26 := eq_true q26
             have HP27 := Kd.R_putg HO_8.out (x9_1 : Int) 0
             go_wp2_with ((with_reducible refine gate_store (t := 3) (p := 66) rfl ?_); refine store_event (t := 3) (p := 66) (v := ?vo_w28) (w1 := (wr.setCell ⟨go26, (x9_1 : Int).toNat, none⟩ (.int .i64 0))) ?hg ?ho ?hn ?hr ?_; (case ho => rfl); (case hg => rfl); (case hn => rfl); (case hr => (go_simp; done)); intro w28 hw; have hg : wr.grownBy w28 (some go26) := (by rw [hw]; exact HP27.2); have hp_ : Kd.R (Kd.int .i64) 3 w28 w.heap.size (fun _ => True) (.slice (some ⟨go26, 0, none⟩) x8_2.length co10) y131 := (by rw [hw, Ny131.out]; exact HP27.1); clear HP27; have n0_ := ak (hp_); have n1_ := ak ((by rw [hw]; exact bst (HB.out) GB26.out : Below w.heap.size w w28)); clear HO_8 HB; have HO_8 := n0_; have HB := n1_; clear n0_ n1_; clear hg hw hp_)
             (try (simp only [← hl8_1, ← hl8_2]))
             go_roundg k2
             case measure => have := HK1.out; have := HK2.out; omega
             case rel => exact ⟨(y131), (wrap64 (x9_1 - 1)), (by first | rfl | (simp; done) | (simp [*]; done)), H', ⟨by have := HK1.out; have := HK2.out; omega⟩, ⟨by (try simp only [hl8_1]); (try simp only [hl8_2]); (with_reducible repeat (first | apply Kd.R_alloc | apply Kd.R_drewN | apply Kd.R_drew)); exact HO_8.out⟩, ⟨by repeat (first | (with_reducible first | exact HB.out | apply bal | apply pbn | apply bd1) | exact HB.out)⟩⟩
            ·rw [if_neg c25] at H
             exact absurd H (by simp)
           ·rw [if_neg c24] at H
            exact absurd H (by simp)
       ·rw [if_neg c13] at H
        exact absurd H (by simp)
      ·rw [if_neg c12] at H
       exact absurd H (by simp)
     ·rw [if_neg c11] at H
      have c11b0 : decide ((l0.length : Int) ≤ x9_1) = false := dff c11
      clear c11
      have H' := ak H
      clear H
      go_wp2
      go_loopg [12] k1 (fun kq v12 w' => ∃ (x12_2 : Int), v12 = .int .i64 x12_2 ∧ Aside0 (r4_divides.l2 kq x8_1 x12_2 = some r) ∧ Aside0 (kq ≤ k1) ∧ Aside0 (Kd.R (Kd.int .i64) 3 w' w.heap.size (fun _ => True) (.slice Ao10 x8_1.length co10) x8_1) ∧ Aside0 (Below w.heap.size w w'))
      case atStart => exact ⟨(0), (by first | rfl | (simp; done) | (simp [*]; done)), H', ⟨Nat.le_refl _⟩, ⟨by (try simp only [hl8_1]); (with_reducible repeat (first | apply Kd.R_alloc | apply Kd.R_drewN | apply Kd.R_drew)); exact HO_8.out⟩, ⟨by repeat (first | (with_reducible first | exact HB.out | apply bal | apply pbn | apply bd1) | exact HB.out)⟩⟩
      case round =>
       clear H'
       try (clear c11b0)
       obtain ⟨x12_2, rfl, HA, HK2, HO_8, HB⟩ := hrel
       cases gk with
       | zero => exact absurd HA.out (by simp [r4_divides.l2])
       | succ k2 =>
        have H := HA.out
        clear HA
        simp only [r4_divides.l2] at H
        by_cases c29 : x12_2 < (x8_1.length : Int)
        ·rw [if_pos c29] at H
         have c29b0 : decide (x12_2 < (x8_1.length : Int)) = true := det c29
         clear c29
         by_cases c30 : 0 ≤ x12_2
         ·rw [if_pos c30] at H
          have c30b0 : decide (0 ≤ x12_2) = true := det c30
          clear c30
          by_cases c31 : (rd x8_1 x12_2) = 0
          ·rw [if_pos c31] at H
           have c31b0 : ((rd x8_1 x12_2) == 0) = true := beq_iff_eq.mpr c31
           have c31b1 : ((rd x8_1 x12_2) != 0) = false := bnm c31
           clear c31
           have H' := ak H
           clear H
           have p132 : 0 ≤ (x12_2 : Int) := odt (by with_reducible assumption)
           have q132 : x12_2 < (x8_1.length : Int) := odt (by with_reducible assumption)
           obtain ⟨ad132, e132, hx132_0⟩ := Kd.at_int (Kd.R_reads' HO_8.out).2.2 x12_2 p132 q132
           cases e132
           replace p132 := eq_true p132
           replace q132 := eq_true q132
           go_wp2
           go_roundg k2
           case measure => have := HK1.out; have := HK2.out; omega
           case rel => exact ⟨(wrap64 (x12_2 + 1)), (by first | rfl | (simp; done) | (simp [*]; done)), H', ⟨by have := HK1.out; have := HK2.out; omega⟩, ⟨by (try simp only [hl8_1]); (with_reducible repeat (first | apply Kd.R_alloc | apply Kd.R_drewN | apply Kd.R_drew)); exact HO_8.out⟩, ⟨by repeat (first | (with_reducible first | exact HB.out | apply bal | apply pbn | apply bd1) | exact HB.out)⟩⟩
          ·rw [if_neg c31] at H
           have c31b0 : ((rd x8_1 x12_2) == 0) = false := bqm c31
           have c31b1 : ((rd x8_1 x12_2) != 0) = true := bne_iff_ne.mpr c31
           obtain rfl := osi H
           have p132 : 0 ≤ (x12_2 : Int) := odt (by with_reducible assumption)
           have q132 : x12_2 < (x8_1.length : Int) := odt (by with_reducible assumption)
           obtain ⟨ad132, e132, hx132_0⟩ := Kd.at_int (Kd.R_reads' HO_8.out).2.2 x12_2 p132 q132
           cases e132
           replace p132 := eq_true p132
           replace q132 := eq_true q132
           go_wp2
           go_ret
           exact ⟨by first | rfl | (simp <;> rfl) | (simp [*] <;> rfl), by repeat (first | (with_reducible first | exact HB.out | apply bal | apply pbn | apply bd1) | exact HB.out)⟩
         ·rw [if_neg c30] at H
          exact absurd H (by simp)
        ·rw [if_neg c29] at H
         have c29b0 : decide (x12_2 < (x8_1.length : Int)) = false := dff c29
         clear c29
         obtain rfl := osi H
         go_wp2
         go_ret
         exact ⟨by first | rfl | (simp <;> rfl) | (simp [*] <;> rfl), by repeat (first | (with_reducible first | exact HB.out | apply bal | apply pbn | apply bd1) | exact HB.out)⟩
  ·rw [if_neg c5] at H
   exact absurd H (by simp)
 ·rw [if_neg c4] at H
  exact absurd H (by simp)
mutual
def r4_irreducible.l0 : Nat → List Int → Int → Int → Int → Option (Bool)
 | 0, _, _, _, _ => none
 | k + 1, x0, x1, x5, x6 => if (wrap64 (2 * x6)) ≤ (x0.length : Int) then (r4_irreducible.l1 k x0 x1 (wrap64 (x5 * x1)) x6 0) else (some true)
def r4_irreducible.l1 : Nat → List Int → Int → Int → Int → Int → Option (Bool)
 | 0, _, _, _, _, _ => none
 | k + 1, x0, x1, x5, x6, x7 => if x7 < x5 then ((r4_digits.f k x7 x1 x6).bind fun t133 => ((r4_divides.f k t133 x0 x1).bind fun t136 => (if t136 = true then (some false) else (r4_irreducible.l1 k x0 x1 x5 x6 (wrap64 (x7 + 1)))))) else (r4_irreducible.l0 k x0 x1 x5 (wrap64 (x6 + 1)))
end
def r4_irreducible.f (k : Nat) (l0 : List Int) (a1 : Int) : Option (Bool) := r4_irreducible.l0 k l0 a1 1 1
theorem r4_irreducible.mono_l : ∀ k, (∀ y0 y1 y2 y3, LeO (r4_irreducible.l0 k y0 y1 y2 y3) (r4_irreducible.l0 (k + 1) y0 y1 y2 y3)) ∧ (∀ y0 y1 y2 y3 y4, LeO (r4_irreducible.l1 k y0 y1 y2 y3 y4) (r4_irreducible.l1 (k + 1) y0 y1 y2 y3 y4))
 | 0 => ⟨fun _ _ _ _ r h => by simp [r4_irreducible.l0] at h, fun _ _ _ _ _ r h => by simp [r4_irreducible.l1] at h⟩
 | k + 1 => by
  obtain ⟨ih0, ih1⟩ := r4_irreducible.mono_l k
  refine ⟨?_, ?_⟩
  ·intro y0 y1 y2 y3
   unfold r4_irreducible.l0
   repeat' first
   | (with_reducible exact ih0 _ _ _ _)
   | (with_reducible exact ih1 _ _ _ _ _)
   | (with_reducible exact r4_digits.mono _ _ _ _)
   | (with_reducible exact r4_divides.mono _ _ _ _)
   | (with_reducible exact LeO.refl _)
   | (with_reducible exact LeO.none _)
   | (with_reducible refine LeO.ite ?_ ?_)
   | (with_reducible refine LeO.bind ?_ (fun _ => ?_))
   | exact ih0 _ _ _ _
   | exact ih1 _ _ _ _ _
   | exact r4_digits.mono _ _ _ _
   | exact r4_divides.mono _ _ _ _
   | exact LeO.none _
   | refine LeO.ite ?_ ?_
   | refine LeO.bind ?_ (fun _ => ?_)
  ·intro y0 y1 y2 y3 y4
   unfold r4_irreducible.l1
   repeat' first
   | (with_reducible exact ih0 _ _ _ _)
   | (with_reducible exact ih1 _ _ _ _ _)
   | (with_reducible exact r4_digits.mono _ _ _ _)
   | (with_reducible exact r4_divides.mono _ _ _ _)
   | (with_reducible exact LeO.refl _)
   | (with_reducible exact LeO.none _)
   | (with_reducible refine LeO.ite ?_ ?_)
   | (with_reducible refine LeO.bind ?_ (fun _ => ?_))
   | exact ih0 _ _ _ _
   | exact ih1 _ _ _ _ _
   | exact r4_digits.mono _ _ _ _
   | exact r4_divides.mono _ _ _ _
   | exact LeO.none _
   | refine LeO.ite ?_ ?_
   | refine LeO.bind ?_ (fun _ => ?_)
theorem r4_irreducible.mono : ∀ a0 a1 k, LeO (r4_irreducible.f k a0 a1) (r4_irreducible.f (k + 1) a0 a1) := by
 intro a0 a1 k
 obtain ⟨ih0, ih1⟩ := r4_irreducible.mono_l k
 unfold r4_irreducible.f
 repeat' first
   | (with_reducible exact ih0 _ _ _ _)
   | (with_reducible exact ih1 _ _ _ _ _)
   | (with_reducible exact r4_digits.mono _ _ _ _)
   | (with_reducible exact r4_divides.mono _ _ _ _)
   | (with_reducible exact LeO.refl _)
   | (with_reducible exact LeO.none _)
   | (with_reducible refine LeO.ite ?_ ?_)
   | (with_reducible refine LeO.bind ?_ (fun _ => ?_))
   | exact ih0 _ _ _ _
   | exact ih1 _ _ _ _ _
   | exact r4_digits.mono _ _ _ _
   | exact r4_divides.mono _ _ _ _
   | exact LeO.none _
   | refine LeO.ite ?_ ?_
   | refine LeO.bind ?_ (fun _ => ?_)
theorem r4_irreducible.calls (k : Nat) (A0 : Option Addr) (c0 : Nat) (l0 : List Int) (a1 : Int) (r : Bool) (w : World) (hr0 : Kd.C (Kd.int .i64) w A0 l0.length l0) (hc0 : l0.length ≤ c0) (h : r4_irreducible.f k l0 a1 = some r) :
  Calls Try.prog 97 #[.slice A0 l0.length c0, .int .i64 a1] w fun e w' => e = .returned (.bool r) ∧ Below w.heap.size w w' := by
 have HR0 := ak hr0
 have HC0 := ak hc0
 clear hr0 hc0
 have HB := ak (Below.refl w.heap.size w)
 have H : (r4_irreducible.l0 k l0 a1 1 1) = some r := h
 clear h
 have H' := ak H
 clear H
 go_enter Try.func97, Try.ntmps97
 go_wp2
 go_loopg [5, 6] k (fun kq v5 v6 w' => ∃ (x5_1 : Int) (x6_1 : Int), v5 = .int .i64 x5_1 ∧ v6 = .int .i64 x6_1 ∧ Aside0 (r4_irreducible.l0 kq l0 a1 x5_1 x6_1 = some r) ∧ Aside0 (kq ≤ k) ∧ Aside0 (Below w.heap.size w w'))
 case atStart => exact ⟨(1), (1), (by first | rfl | (simp; done) | (simp [*]; done)), (by first | rfl | (simp; done) | (simp [*]; done)), H', ⟨Nat.le_refl _⟩, ⟨by repeat (first | (with_reducible first | exact HB.out | apply bal | apply pbn | apply bd1) | exact HB.out)⟩⟩
 case round =>
  clear H'
  obtain ⟨x5_1, x6_1, rfl, rfl, HA, HK1, HB⟩ := hrel
  cases gk with
  | zero => exact absurd HA.out (by simp [r4_irreducible.l0])
  | succ k1 =>
   have H := HA.out
   clear HA
   simp only [r4_irreducible.l0] at H
   by_cases c3 : (wrap64 (2 * x6_1)) ≤ (l0.length : Int)
   ·rw [if_pos c3] at H
    have c3b0 : decide ((wrap64 (2 * x6_1)) ≤ (l0.length : Int)) = true := det c3
    clear c3
    have H' := ak H
    clear H
    go_wp2
    go_loopg [7] k1 (fun kq v7 w' => ∃ (x7_2 : Int), v7 = .int .i64 x7_2 ∧ Aside0 (r4_irreducible.l1 kq l0 a1 (wrap64 (x5_1 * a1)) x6_1 x7_2 = some r) ∧ Aside0 (kq ≤ k1) ∧ Aside0 (Below w.heap.size w w'))
    case atStart => exact ⟨(0), (by first | rfl | (simp; done) | (simp [*]; done)), H', ⟨Nat.le_refl _⟩, ⟨by repeat (first | (with_reducible first | exact HB.out | apply bal | apply pbn | apply bd1) | exact HB.out)⟩⟩
    case round =>
     clear H'
     try (clear c3b0)
     obtain ⟨x7_2, rfl, HA, HK2, HB⟩ := hrel
     cases gk with
     | zero => exact absurd HA.out (by simp [r4_irreducible.l1])
     | succ k2 =>
      have H := HA.out
      clear HA
      simp only [r4_irreducible.l1] at H
      by_cases c4 : x7_2 < (wrap64 (x5_1 * a1))
      ·rw [if_pos c4] at H
       have c4b0 : decide (x7_2 < (wrap64 (x5_1 * a1))) = true := det c4
       clear c4
       replace H := obm H
       obtain ⟨t133, A50, H⟩ := H
       replace H : ((r4_divides.f k2 t133 l0 a1).bind fun t136 => (if t136 = true then (some false) else (r4_irreducible.l1 k2 l0 a1 (wrap64 (x5_1 * a1)) x6_1 (wrap64 (x7_2 + 1))))) = some r := H
       have A5 := ak A50
       clear A50
       replace H := obm H
       obtain ⟨t136, A60, H⟩ := H
       replace H : (if t136 = true then (some false) else (r4_irreducible.l1 k2 l0 a1 (wrap64 (x5_1 * a1)) x6_1 (wrap64 (x7_2 + 1)))) = some r := H
       have A6 := ak A60
       clear A60
       by_cases c7 : t136 = true
       ·subst c7
        have H1 : (some false) = some r := by rw [if_pos rfl] at H; exact H
        clear H
        have H := H1
        clear H1
        obtain rfl := osi H
        go_wp2_with (first | ((with_reducible refine gate_callee (f := 105) rfl ?_); refine goesL_ (some 26) rfl rfl Try.func105 (by kernel_rfl) rfl #[.int .i64 x7_2, .int .i64 a1, .int .i64 x6_1] rfl (by (try simp only [List.map_toArray, List.map_cons, List.map_nil]); first | done | rfl) ?_; (with_reducible refine (r4_digits.calls k2 x7_2 a1 x6_1 t133 _ A5.out).mono ?_); rintro e w8 ⟨v134, rfl, ho0, hb⟩; refine ⟨_, rfl, ?_⟩; have n0_ := ak (Kd.R_lower ho0 (bsz HB.out)); have n1_ := ak (bsp HB.out hb); clear HB; have HO135 := n0_; have HB := n1_; clear n0_ n1_; (try clear ho0); obtain ⟨Ao9, co9, eo9⟩ := Kd.R_slice HO135.out; subst eo9) | ((with_reducible refine gate_callee (f := 107) rfl ?_); refine goesL_ (some 29) rfl rfl Try.func107 (by kernel_rfl) rfl #[.slice Ao9 t133.length co9, .slice A0 l0.length c0, .int .i64 a1] rfl (by (try simp only [List.map_toArray, List.map_cons, List.map_nil]); first | done | rfl) ?_; (with_reducible refine (r4_divides.calls k2 _ _ t133 _ _ l0 a1 true _ ?side1 ?side2 ?side3 ?side4 A6.out).mono ?_); (case side1 => exact (Kd.R_reads' HO135.out).2.2); (case side2 => exact (Kd.R_reads' HO135.out).2.1); (case side3 => repeat (first | exact (Kd.C_below HR0.out HB.out) | (with_reducible refine Kd.C_alloc ?_ _) | (with_reducible refine Kd.C_drewN ?_ _) | (with_reducible refine Kd.C_drew ?_))); (case side4 => exact HC0.out); rintro e w10 ⟨rfl, hb⟩; refine ⟨_, rfl, ?_⟩; have n0_ := ak (Kd.R_below HO135.out hb); have n1_ := ak (bsp HB.out hb); clear HO135 HB; have HO135 := n0_; have HB := n1_; clear n0_ n1_; (try clear hb); (try clear hb2); (try clear hk); (try clear hi)))
        go_ret
        exact ⟨by first | rfl | (simp <;> rfl) | (simp [*] <;> rfl), by repeat (first | (with_reducible first | exact HB.out | apply bal | apply pbn | apply bd1) | exact HB.out)⟩
       ·replace c7 := Bool.eq_false_iff.mpr c7
        subst c7
        have H1 : (r4_irreducible.l1 k2 l0 a1 (wrap64 (x5_1 * a1)) x6_1 (wrap64 (x7_2 + 1))) = some r := by rw [if_neg (show ¬ (false = true) by decide)] at H; exact H
        clear H
        have H := H1
        clear H1
        have H' := ak H
        clear H
        go_wp2_with (first | ((with_reducible refine gate_callee (f := 105) rfl ?_); refine goesL_ (some 26) rfl rfl Try.func105 (by kernel_rfl) rfl #[.int .i64 x7_2, .int .i64 a1, .int .i64 x6_1] rfl (by (try simp only [List.map_toArray, List.map_cons, List.map_nil]); first | done | rfl) ?_; (with_reducible refine (r4_digits.calls k2 x7_2 a1 x6_1 t133 _ A5.out).mono ?_); rintro e w11 ⟨v134, rfl, ho0, hb⟩; refine ⟨_, rfl, ?_⟩; have n0_ := ak (Kd.R_lower ho0 (bsz HB.out)); have n1_ := ak (bsp HB.out hb); clear HB; have HO135 := n0_; have HB := n1_; clear n0_ n1_; (try clear ho0); obtain ⟨Ao12, co12, eo12⟩ := Kd.R_slice HO135.out; subst eo12) | ((with_reducible refine gate_callee (f := 107) rfl ?_); refine goesL_ (some 29) rfl rfl Try.func107 (by kernel_rfl) rfl #[.slice Ao12 t133.length co12, .slice A0 l0.length c0, .int .i64 a1] rfl (by (try simp only [List.map_toArray, List.map_cons, List.map_nil]); first | done | rfl) ?_; (with_reducible refine (r4_divides.calls k2 _ _ t133 _ _ l0 a1 false _ ?side1 ?side2 ?side3 ?side4 A6.out).mono ?_); (case side1 => exact (Kd.R_reads' HO135.out).2.2); (case side2 => exact (Kd.R_reads' HO135.out).2.1); (case side3 => repeat (first | exact (Kd.C_below HR0.out HB.out) | (with_reducible refine Kd.C_alloc ?_ _) | (with_reducible refine Kd.C_drewN ?_ _) | (with_reducible refine Kd.C_drew ?_))); (case side4 => exact HC0.out); rintro e w13 ⟨rfl, hb⟩; refine ⟨_, rfl, ?_⟩; have n0_ := ak (Kd.R_below HO135.out hb); have n1_ := ak (bsp HB.out hb); clear HO135 HB; have HO135 := n0_; have HB := n1_; clear n0_ n1_; (try clear hb); (try clear hb2); (try clear hk); (try clear hi)))
        go_roundg k2
        case measure => have := HK1.out; have := HK2.out; omega
        case rel => exact ⟨(wrap64 (x7_2 + 1)), (by first | rfl | (simp; done) | (simp [*]; done)), H', ⟨by have := HK1.out; have := HK2.out; omega⟩, ⟨by repeat (first | (with_reducible first | exact HB.out | apply bal | apply pbn | apply bd1) | exact HB.out)⟩⟩
      ·rw [if_neg c4] at H
       have c4b0 : decide (x7_2 < (wrap64 (x5_1 * a1))) = false := dff c4
       clear c4
       have H' := ak H
       clear H
       go_wp2
       go_roundg k2
       case measure => have := HK1.out; have := HK2.out; omega
       case rel => exact ⟨((wrap64 (x5_1 * a1))), (wrap64 (x6_1 + 1)), (by first | rfl | (simp; done) | (simp [*]; done)), (by first | rfl | (simp; done) | (simp [*]; done)), H', ⟨by have := HK1.out; have := HK2.out; omega⟩, ⟨by repeat (first | (with_reducible first | exact HB.out | apply bal | apply pbn | apply bd1) | exact HB.out)⟩⟩
   ·rw [if_neg c3] at H
    have c3b0 : decide ((wrap64 (2 * x6_1)) ≤ (l0.length : Int)) = false := dff c3
    clear c3
    obtain rfl := osi H
    go_wp2
    go_ret
    exact ⟨by first | rfl | (simp <;> rfl) | (simp [*] <;> rfl), by repeat (first | (with_reducible first | exact HB.out | apply bal | apply pbn | apply bd1) | exact HB.out)⟩
mutual
def r4_Check.j0 : Nat → Bool → Int → Int → List Int → Option (Int)
 | 0, _, _, _, _ => none
 | k + 1, x12, x138000, x138001, x138002 => if x12 = true then (some 1) else (if x138001 = 1 then (if (x138002.length : Int) = 0 then (some 0) else (some 1)) else (if (x138002.length : Int) = x138001 then (r4_Check.l0 k 0 x138000 x138001 x138002) else (some 1)))
def r4_Check.l0 : Nat → Int → Int → Int → List Int → Option (Int)
 | 0, _, _, _, _ => none
 | k + 1, x3, x138000, x138001, x138002 => if x3 < x138001 then (if 0 ≤ x3 then (if x3 < (x138002.length : Int) then (if (rd x138002 x3) < 0 then (some 1) else (if (rd x138002 x3) ≥ x138000 then (some 1) else (r4_Check.l0 k (wrap64 (x3 + 1)) x138000 x138001 x138002))) else (none)) else (none)) else ((r4_irreducible.f k x138002 x138000).bind fun t142 => (if t142 = true then (some 0) else (some 1)))
end
def r4_Check.f (k : Nat) (a0_0 : Int) (a0_1 : Int) (l0_2 : List Int) : Option (Int) := (r4_Order.f k a0_0 a0_1 l0_2).bind fun t138 => (if t138 = 0 then (r4_Check.j0 k true a0_0 a0_1 l0_2) else ((r4_prime.f k a0_0).bind fun t139 => (r4_Check.j0 k (!t139) a0_0 a0_1 l0_2)))
theorem r4_Check.calls (k : Nat) (a0_0 : Int) (a0_1 : Int) (A0_2 : Option Addr) (c0_2 : Nat) (l0_2 : List Int) (r : Int) (w : World) (hr0_2 : Kd.C (Kd.int .i64) w A0_2 l0_2.length l0_2) (hc0_2 : l0_2.length ≤ c0_2) (h : r4_Check.f k a0_0 a0_1 l0_2 = some r) :
  Calls Try.prog 78 #[.agg #[.int .i64 a0_0, .int .i64 a0_1, .slice A0_2 l0_2.length c0_2]] w fun e w' => e = .returned (.int .i64 r) ∧ Below w.heap.size w w' := by
 have hu24 := Try.underlying24
 have HR0_2 := ak hr0_2
 have HC0_2 := ak hc0_2
 clear hr0_2 hc0_2
 have HB := ak (Below.refl w.heap.size w)
 have H : ((r4_Order.f k a0_0 a0_1 l0_2).bind fun t138 => (if t138 = 0 then (r4_Check.j0 k true a0_0 a0_1 l0_2) else ((r4_prime.f k a0_0).bind fun t139 => (r4_Check.j0 k (!t139) a0_0 a0_1 l0_2)))) = some r := h
 clear h
 have HC2 := ak H
 clear H
 go_enter Try.func78, Try.ntmps78
 go_upto_region 1 with ((with_reducible refine gate_dst (N := 1) rfl ?_); refine box_event ?hg (N := 1) ?hd (cs := #[.int .i64 a0_0, .int .i64 a0_1, .slice A0_2 l0_2.length c0_2]) (t := 24) ?hr ?_; (case hd => rfl); (case hg => rfl); (case hr => (go_simp; done)); intro gb137 hg w3 hbox hb; have n0_ := ak (bsp HB.out hb); have n1_ := ak (hbox); have n2_ := ak ((by rw [hg]; exact (bsz HB.out) : w.heap.size ≤ gb137)); have n3_ := ak ((by rw [hg]; exact (bsz HB.out) : w.heap.size ≤ gb137)); clear HB; have HB := n0_; have BK137 := n1_; have GW137 := n2_; have GE137 := n3_; clear n0_ n1_ n2_ n3_; clear hb hbox hg)
 go_cut [12] (fun v12 wc => ∃ (kq : Nat) (x12_1 : Bool), v12 = .bool x12_1 ∧ Aside0 (r4_Check.j0 kq x12_1 a0_0 a0_1 l0_2 = some r) ∧ Aside0 (kq ≤ k) ∧ Aside0 (wc.heap[gb137]? = some (.cells #[.int .i64 a0_0, .int .i64 a0_1, (.slice A0_2 l0_2.length c0_2)] 24 (0, 0))) ∧ Aside0 (Below w.heap.size w wc))
 case first =>
  have H := HC2.out
  clear HC2
  replace H := obm H
  obtain ⟨t138, A40, H⟩ := H
  replace H : (if t138 = 0 then (r4_Check.j0 k true a0_0 a0_1 l0_2) else ((r4_prime.f k a0_0).bind fun t139 => (r4_Check.j0 k (!t139) a0_0 a0_1 l0_2))) = some r := H
  have A4 := ak A40
  clear A40
  by_cases c5 : t138 = 0
  ·rw [if_pos c5] at H
   have c5b0 : (t138 == 0) = true := beq_iff_eq.mpr c5
   have c5b1 : (t138 != 0) = false := bnm c5
   clear c5
   (skip)
   have H' := ak H
   clear H
   have hcz6_0 : w3.cell? ⟨gb137, 0, none⟩ = some (.int .i64 a0_0) := (kce BK137.out 0).trans rfl
   have hcz6_1 : w3.cell? ⟨gb137, 1, none⟩ = some (.int .i64 a0_1) := (kce BK137.out 1).trans rfl
   have hcz6_2 : w3.cell? ⟨gb137, 2, none⟩ = some (.slice A0_2 l0_2.length c0_2) := (kce BK137.out 2).trans rfl
   have hfz6_0 := kfz BK137.out 0
   have hfz6_1 := kfz BK137.out 1
   have hfz6_2 := kfz BK137.out 2
   go_wp2_with (first | (go_at_call 59; (with_reducible refine (r4_Order.calls k a0_0 a0_1 _ _ l0_2 t138 _ ?side1 ?side2 A4.out).mono ?_); (case side1 => repeat (first | exact (Kd.C_below HR0_2.out HB.out) | (with_reducible refine Kd.C_alloc ?_ _) | (with_reducible refine Kd.C_drewN ?_ _) | (with_reducible refine Kd.C_drew ?_))); (case side2 => exact HC0_2.out); rintro e w7 ⟨rfl, hb⟩; have n0_ := ak (kbe BK137.out hb); have n1_ := ak (bsp HB.out hb); clear BK137 HB; have BK137 := n0_; have HB := n1_; clear n0_ n1_; (try clear hb); (try clear hb2); (try clear hk); (try clear hi)))
   go_meet
   case rel => exact ⟨_, (true), (by first | rfl | (simp; done) | (simp [*]; done)), H', ⟨by first | omega | exact Nat.le_refl _⟩, ⟨by (with_reducible repeat (first | refine kdn ?_ _ | refine kdr ?_ | refine kal ?_ _)); exact BK137.out⟩, ⟨by repeat (first | (with_reducible first | exact HB.out | apply bal | apply pbn | apply bd1 | refine bst ?_ GE137.out) | exact HB.out)⟩⟩
  ·rw [if_neg c5] at H
   have c5b0 : (t138 == 0) = false := bqm c5
   have c5b1 : (t138 != 0) = true := bne_iff_ne.mpr c5
   (skip)
   replace H := obm H
   obtain ⟨t139, A80, H⟩ := H
   replace H : (r4_Check.j0 k (!t139) a0_0 a0_1 l0_2) = some r := H
   have A8 := ak A80
   clear A80
   have H' := ak H
   clear H
   have hcz9_0 : w3.cell? ⟨gb137, 0, none⟩ = some (.int .i64 a0_0) := (kce BK137.out 0).trans rfl
   have hcz9_1 : w3.cell? ⟨gb137, 1, none⟩ = some (.int .i64 a0_1) := (kce BK137.out 1).trans rfl
   have hcz9_2 : w3.cell? ⟨gb137, 2, none⟩ = some (.slice A0_2 l0_2.length c0_2) := (kce BK137.out 2).trans rfl
   have hfz9_0 := kfz BK137.out 0
   have hfz9_1 := kfz BK137.out 1
   have hfz9_2 := kfz BK137.out 2
   go_wp2_with (first | (go_at_call 59; (with_reducible refine (r4_Order.calls k a0_0 a0_1 _ _ l0_2 t138 _ ?side1 ?side2 A4.out).mono ?_); (case side1 => repeat (first | exact (Kd.C_below HR0_2.out HB.out) | (with_reducible refine Kd.C_alloc ?_ _) | (with_reducible refine Kd.C_drewN ?_ _) | (with_reducible refine Kd.C_drew ?_))); (case side2 => exact HC0_2.out); rintro e w10 ⟨rfl, hb⟩; have n0_ := ak (kbe BK137.out hb); have n1_ := ak (bsp HB.out hb); clear BK137 HB; have BK137 := n0_; have HB := n1_; clear n0_ n1_; have hcz11_0 : w10.cell? ⟨gb137, 0, none⟩ = some (.int .i64 a0_0) := (kce BK137.out 0).trans rfl; have hcz11_1 : w10.cell? ⟨gb137, 1, none⟩ = some (.int .i64 a0_1) := (kce BK137.out 1).trans rfl; have hcz11_2 : w10.cell? ⟨gb137, 2, none⟩ = some (.slice A0_2 l0_2.length c0_2) := (kce BK137.out 2).trans rfl) | (go_at_call 96; (with_reducible refine (r4_prime.calls k a0_0 t139 _ A8.out).mono ?_); rintro e w' ⟨rfl, ⟨nd, rfl⟩⟩; (try first | exact ⟨rfl, _, World.drewN_drewN _ _ _⟩ | exact ⟨rfl, _, Eq.trans (World.drewN_drewN _ _ _) (congrArg (World.drewN _) (Nat.add_assoc _ _ _))⟩)))
   go_meet
   case rel => exact ⟨_, (!t139), (by first | rfl | (simp; done) | (simp [*]; done)), H', ⟨by first | omega | exact Nat.le_refl _⟩, ⟨by (with_reducible repeat (first | refine kdn ?_ _ | refine kdr ?_ | refine kal ?_ _)); exact BK137.out⟩, ⟨by repeat (first | (with_reducible first | exact HB.out | apply bal | apply pbn | apply bd1 | refine bst ?_ GE137.out) | exact HB.out)⟩⟩
 case rest =>
  clear HC2
  obtain ⟨kq, x12_1, rfl, HA, HJ1, BK137, HB⟩ := hcut
  cases kq with
  | zero => exact absurd HA.out (by simp [r4_Check.j0])
  | succ kj1 =>
   have H := HA.out
   clear HA
   simp only [r4_Check.j0] at H
   by_cases c12 : x12_1 = true
   ·subst c12
    have H1 : (some 1) = some r := by rw [if_pos rfl] at H; exact H
    clear H
    have H := H1
    clear H1
    obtain rfl := osi H
    go_wp2
    go_ret
    exact ⟨by first | rfl | (simp <;> rfl) | (simp [*] <;> rfl), by repeat (first | (with_reducible first | exact HB.out | apply bal | apply pbn | apply bd1 | refine bst ?_ GE137.out) | exact HB.out)⟩
   ·replace c12 := Bool.eq_false_iff.mpr c12
    subst c12
    have H1 : (if a0_1 = 1 then (if (l0_2.length : Int) = 0 then (some 0) else (some 1)) else (if (l0_2.length : Int) = a0_1 then (r4_Check.l0 kj1 0 a0_0 a0_1 l0_2) else (some 1))) = some r := by rw [if_neg (show ¬ (false = true) by decide)] at H; exact H
    clear H
    have H := H1
    clear H1
    by_cases c13 : a0_1 = 1
    ·rw [if_pos c13] at H
     have c13b0 : (a0_1 == 1) = true := beq_iff_eq.mpr c13
     have c13b1 : (a0_1 != 1) = false := bnm c13
     clear c13
     by_cases c14 : (l0_2.length : Int) = 0
     ·rw [if_pos c14] at H
      have c14b0 : ((l0_2.length : Int) == 0) = true := beq_iff_eq.mpr c14
      have c14b1 : ((l0_2.length : Int) != 0) = false := bnm c14
      clear c14
      obtain rfl := osi H
      have hcz15_0 : wc.cell? ⟨gb137, 0, none⟩ = some (.int .i64 a0_0) := (kce BK137.out 0).trans rfl
      have hcz15_1 : wc.cell? ⟨gb137, 1, none⟩ = some (.int .i64 a0_1) := (kce BK137.out 1).trans rfl
      have hcz15_2 : wc.cell? ⟨gb137, 2, none⟩ = some (.slice A0_2 l0_2.length c0_2) := (kce BK137.out 2).trans rfl
      have hfz15_0 := kfz BK137.out 0
      have hfz15_1 := kfz BK137.out 1
      have hfz15_2 := kfz BK137.out 2
      go_wp2
      go_ret
      exact ⟨by first | rfl | (simp <;> rfl) | (simp [*] <;> rfl), by repeat (first | (with_reducible first | exact HB.out | apply bal | apply pbn | apply bd1 | refine bst ?_ GE137.out) | exact HB.out)⟩
     ·rw [if_neg c14] at H
      have c14b0 : ((l0_2.length : Int) == 0) = false := bqm c14
      have c14b1 : ((l0_2.length : Int) != 0) = true := bne_iff_ne.mpr c14
      have c14b2 : ¬ (l0_2 = []) := fun h_ => c14 (by rw [h_]; rfl)
      obtain rfl := osi H
      have hcz16_0 : wc.cell? ⟨gb137, 0, none⟩ = some (.int .i64 a0_0) := (kce BK137.out 0).trans rfl
      have hcz16_1 : wc.cell? ⟨gb137, 1, none⟩ = some (.int .i64 a0_1) := (kce BK137.out 1).trans rfl
      have hcz16_2 : wc.cell? ⟨gb137, 2, none⟩ = some (.slice A0_2 l0_2.length c0_2) := (kce BK137.out 2).trans rfl
      have hfz16_0 := kfz BK137.out 0
      have hfz16_1 := kfz BK137.out 1
      have hfz16_2 := kfz BK137.out 2
      go_wp2
      go_ret
      exact ⟨by first | rfl | (simp <;> rfl) | (simp [*] <;> rfl), by repeat (first | (with_reducible first | exact HB.out | apply bal | apply pbn | apply bd1 | refine bst ?_ GE137.out) | exact HB.out)⟩
    ·rw [if_neg c13] at H
     have c13b0 : (a0_1 == 1) = false := bqm c13
     have c13b1 : (a0_1 != 1) = true := bne_iff_ne.mpr c13
     by_cases c17 : (l0_2.length : Int) = a0_1
     ·rw [if_pos c17] at H
      have c17b0 : ((l0_2.length : Int) == a0_1) = true := beq_iff_eq.mpr c17
      have c17b1 : ((l0_2.length : Int) != a0_1) = false := bnm c17
      clear c17
      have H' := ak H
      clear H
      have hcz18_0 : wc.cell? ⟨gb137, 0, none⟩ = some (.int .i64 a0_0) := (kce BK137.out 0).trans rfl
      have hcz18_1 : wc.cell? ⟨gb137, 1, none⟩ = some (.int .i64 a0_1) := (kce BK137.out 1).trans rfl
      have hcz18_2 : wc.cell? ⟨gb137, 2, none⟩ = some (.slice A0_2 l0_2.length c0_2) := (kce BK137.out 2).trans rfl
      have hfz18_0 := kfz BK137.out 0
      have hfz18_1 := kfz BK137.out 1
      have hfz18_2 := kfz BK137.out 2
      go_wp2
      go_loopg [3] kj1 (fun kq v3 w' => ∃ (x3_2 : Int), v3 = .int .i64 x3_2 ∧ Aside0 (r4_Check.l0 kq x3_2 a0_0 a0_1 l0_2 = some r) ∧ Aside0 (kq ≤ kj1) ∧ Aside0 (w'.heap[gb137]? = some (.cells #[.int .i64 a0_0, .int .i64 a0_1, (.slice A0_2 l0_2.length c0_2)] 24 (0, 0))) ∧ Aside0 (Below w.heap.size w w'))
      case atStart => exact ⟨(0), (by first | rfl | (simp; done) | (simp [*]; done)), H', ⟨Nat.le_refl _⟩, ⟨by (with_reducible repeat (first | refine kdn ?_ _ | refine kdr ?_ | refine kal ?_ _)); exact BK137.out⟩, ⟨by repeat (first | (with_reducible first | exact HB.out | apply bal | apply pbn | apply bd1 | refine bst ?_ GE137.out) | exact HB.out)⟩⟩
      case round =>
       clear H'
       try (clear c13)
       try (clear c13b0)
       try (clear c13b1)
       try (clear c17b0)
       try (clear c17b1)
       try (clear hcz18_0)
       try (clear hcz18_1)
       try (clear hcz18_2)
       try (clear hfz18_0)
       try (clear hfz18_1)
       try (clear hfz18_2)
       obtain ⟨x3_2, rfl, HA, HK2, BK137, HB⟩ := hrel
       cases gk with
       | zero => exact absurd HA.out (by simp [r4_Check.l0])
       | succ k2 =>
        have H := HA.out
        clear HA
        simp only [r4_Check.l0] at H
        by_cases c19 : x3_2 < a0_1
        ·rw [if_pos c19] at H
         have c19b0 : decide (x3_2 < a0_1) = true := det c19
         clear c19
         by_cases c20 : 0 ≤ x3_2
         ·rw [if_pos c20] at H
          have c20b0 : decide (0 ≤ x3_2) = true := det c20
          clear c20
          by_cases c21 : x3_2 < (l0_2.length : Int)
          ·rw [if_pos c21] at H
           have c21b0 : decide (x3_2 < (l0_2.length : Int)) = true := det c21
           clear c21
           by_cases c22 : (rd l0_2 x3_2) < 0
           ·rw [if_pos c22] at H
            have c22b0 : decide ((rd l0_2 x3_2) < 0) = true := det c22
            clear c22
            obtain rfl := osi H
            have hcz23_0 : wr.cell? ⟨gb137, 0, none⟩ = some (.int .i64 a0_0) := (kce BK137.out 0).trans rfl
            have hcz23_1 : wr.cell? ⟨gb137, 1, none⟩ = some (.int .i64 a0_1) := (kce BK137.out 1).trans rfl
            have hcz23_2 : wr.cell? ⟨gb137, 2, none⟩ = some (.slice A0_2 l0_2.length c0_2) := (kce BK137.out 2).trans rfl
            have hfz23_0 := kfz BK137.out 0
            have hfz23_1 := kfz BK137.out 1
            have hfz23_2 := kfz BK137.out 2
            have p140 : 0 ≤ (x3_2 : Int) := odt (by with_reducible assumption)
            have q140 : x3_2 < (l0_2.length : Int) := odt (by with_reducible assumption)
            obtain ⟨ad140, e140, hx140_0⟩ := Kd.at_int HR0_2.out x3_2 p140 q140
            cases e140
            replace hx140_0 := (HB.out.cell (World.block_lt_of_cell? w _ hx140_0)).trans hx140_0
            replace p140 := eq_true p140
            replace q140 := eq_true q140
            go_wp2
            repeat (go_quiet (fail); try go_wp2)
            go_ret
            exact ⟨by first | rfl | (simp <;> rfl) | (simp [*] <;> rfl), by repeat (first | (with_reducible first | exact HB.out | apply bal | apply pbn | apply bd1 | refine bst ?_ GE137.out) | exact HB.out)⟩
           ·rw [if_neg c22] at H
            have c22b0 : decide ((rd l0_2 x3_2) < 0) = false := dff c22
            clear c22
            by_cases c24 : (rd l0_2 x3_2) ≥ a0_0
            ·rw [if_pos c24] at H
             have c24b0 : decide (a0_0 ≤ (rd l0_2 x3_2)) = true := det c24
             clear c24
             obtain rfl := osi H
             have hcz25_0 : wr.cell? ⟨gb137, 0, none⟩ = some (.int .i64 a0_0) := (kce BK137.out 0).trans rfl
             have hcz25_1 : wr.cell? ⟨gb137, 1, none⟩ = some (.int .i64 a0_1) := (kce BK137.out 1).trans rfl
             have hcz25_2 : wr.cell? ⟨gb137, 2, none⟩ = some (.slice A0_2 l0_2.length c0_2) := (kce BK137.out 2).trans rfl
             have hfz25_0 := kfz BK137.out 0
             have hfz25_1 := kfz BK137.out 1
             have hfz25_2 := kfz BK137.out 2
             have p140 : 0 ≤ (x3_2 : Int) := odt (by with_reducible assumption)
             have q140 : x3_2 < (l0_2.length : Int) := odt (by with_reducible assumption)
             obtain ⟨ad140, e140, hx140_0⟩ := Kd.at_int HR0_2.out x3_2 p140 q140
             cases e140
             replace hx140_0 := (HB.out.cell (World.block_lt_of_cell? w _ hx140_0)).trans hx140_0
             replace p140 := eq_true p140
             replace q140 := eq_true q140
             have p141 : 0 ≤ (x3_2 : Int) := odt (by with_reducible assumption)
             have q141 : x3_2 < (l0_2.length : Int) := odt (by with_reducible assumption)
             obtain ⟨ad141, e141, hx141_0⟩ := Kd.at_int HR0_2.out x3_2 p141 q141
             obtain rfl : ad140 = ad141 := (by injection e141)
             replace hx141_0 := (HB.out.cell (World.block_lt_of_cell? w _ hx141_0)).trans hx141_0
             replace p141 := eq_true p141
             replace q141 := eq_true q141
             go_wp2
             repeat (go_quiet (fail); try go_wp2)
             go_ret
             exact ⟨by first | rfl | (simp <;> rfl) | (simp [*] <;> rfl), by repeat (first | (with_reducible first | exact HB.out | apply bal | apply pbn | apply bd1 | refine bst ?_ GE137.out) | exact HB.out)⟩
            ·rw [if_neg c24] at H
             have c24b0 : decide (a0_0 ≤ (rd l0_2 x3_2)) = false := dff c24
             clear c24
             have H' := ak H
             clear H
             have hcz26_0 : wr.cell? ⟨gb137, 0, none⟩ = some (.int .i64 a0_0) := (kce BK137.out 0).trans rfl
             have hcz26_1 : wr.cell? ⟨gb137, 1, none⟩ = some (.int .i64 a0_1) := (kce BK137.out 1).trans rfl
             have hcz26_2 : wr.cell? ⟨gb137, 2, none⟩ = some (.slice A0_2 l0_2.length c0_2) := (kce BK137.out 2).trans rfl
             have hfz26_0 := kfz BK137.out 0
             have hfz26_1 := kfz BK137.out 1
             have hfz26_2 := kfz BK137.out 2
             have p140 : 0 ≤ (x3_2 : Int) := odt (by with_reducible assumption)
             have q140 : x3_2 < (l0_2.length : Int) := odt (by with_reducible assumption)
             obtain ⟨ad140, e140, hx140_0⟩ := Kd.at_int HR0_2.out x3_2 p140 q140
             cases e140
             replace hx140_0 := (HB.out.cell (World.block_lt_of_cell? w _ hx140_0)).trans hx140_0
             replace p140 := eq_true p140
             replace q140 := eq_true q140
             have p141 : 0 ≤ (x3_2 : Int) := odt (by with_reducible assumption)
             have q141 : x3_2 < (l0_2.length : Int) := odt (by with_reducible assumption)
             obtain ⟨ad141, e141, hx141_0⟩ := Kd.at_int HR0_2.out x3_2 p141 q141
             obtain rfl : ad140 = ad141 := (by injection e141)
             replace hx141_0 := (HB.out.cell (World.block_lt_of_cell? w _ hx141_0)).trans hx141_0
             replace p141 := eq_true p141
             replace q141 := eq_true q141
             go_wp2
             repeat (go_quiet (fail); try go_wp2)
             go_roundg k2
             case measure => have := HJ1.out; have := HK2.out; omega
             case rel => exact ⟨(wrap64 (x3_2 + 1)), (by first | rfl | (simp; done) | (simp [*]; done)), H', ⟨by have := HJ1.out; have := HK2.out; omega⟩, ⟨by (with_reducible repeat (first | refine kdn ?_ _ | refine kdr ?_ | refine kal ?_ _)); exact BK137.out⟩, ⟨by repeat (first | (with_reducible first | exact HB.out | apply bal | apply pbn | apply bd1 | refine bst ?_ GE137.out) | exact HB.out)⟩⟩
          ·rw [if_neg c21] at H
           exact absurd H (by simp)
         ·rw [if_neg c20] at H
          exact absurd H (by simp)
        ·rw [if_neg c19] at H
         have c19b0 : decide (x3_2 < a0_1) = false := dff c19
         clear c19
         replace H := obm H
         obtain ⟨t142, A270, H⟩ := H
         replace H : (if t142 = true then (some 0) else (some 1)) = some r := H
         have A27 := ak A270
         clear A270
         by_cases c28 : t142 = true
         ·subst c28
          have H1 : (some 0) = some r := by rw [if_pos rfl] at H; exact H
          clear H
          have H := H1
          clear H1
          obtain rfl := osi H
          have hcz29_0 : wr.cell? ⟨gb137, 0, none⟩ = some (.int .i64 a0_0) := (kce BK137.out 0).trans rfl
          have hcz29_1 : wr.cell? ⟨gb137, 1, none⟩ = some (.int .i64 a0_1) := (kce BK137.out 1).trans rfl
          have hcz29_2 : wr.cell? ⟨gb137, 2, none⟩ = some (.slice A0_2 l0_2.length c0_2) := (kce BK137.out 2).trans rfl
          have hfz29_0 := kfz BK137.out 0
          have hfz29_1 := kfz BK137.out 1
          have hfz29_2 := kfz BK137.out 2
          go_wp2_with (first | (go_at_call 97; (with_reducible refine (r4_irreducible.calls k2 _ _ l0_2 a0_0 true _ ?side1 ?side2 A27.out).mono ?_); (case side1 => repeat (first | exact (Kd.C_below HR0_2.out HB.out) | (with_reducible refine Kd.C_alloc ?_ _) | (with_reducible refine Kd.C_drewN ?_ _) | (with_reducible refine Kd.C_drew ?_))); (case side2 => exact HC0_2.out); rintro e w30 ⟨rfl, hb⟩; have n0_ := ak (kbe BK137.out hb); have n1_ := ak (bsp HB.out hb); clear BK137 HB; have BK137 := n0_; have HB := n1_; clear n0_ n1_; (try clear hb); (try clear hb2); (try clear hk); (try clear hi)))
          go_ret
          exact ⟨by first | rfl | (simp <;> rfl) | (simp [*] <;> rfl), by repeat (first | (with_reducible first | exact HB.out | apply bal | apply pbn | apply bd1 | refine bst ?_ GE137.out) | exact HB.out)⟩
         ·replace c28 := Bool.eq_false_iff.mpr c28
          subst c28
          have H1 : (some 1) = some r := by rw [if_neg (show ¬ (false = true) by decide)] at H; exact H
          clear H
          have H := H1
          clear H1
          obtain rfl := osi H
          have hcz31_0 : wr.cell? ⟨gb137, 0, none⟩ = some (.int .i64 a0_0) := (kce BK137.out 0).trans rfl
          have hcz31_1 : wr.cell? ⟨gb137, 1, none⟩ = some (.int .i64 a0_1) := (kce BK137.out 1).trans rfl
          have hcz31_2 : wr.cell? ⟨gb137, 2, none⟩ = some (.slice A0_2 l0_2.length c0_2) := (kce BK137.out 2).trans rfl
          have hfz31_0 := kfz BK137.out 0
          have hfz31_1 := kfz BK137.out 1
          have hfz31_2 := kfz BK137.out 2
          go_wp2_with (first | (go_at_call 97; (with_reducible refine (r4_irreducible.calls k2 _ _ l0_2 a0_0 false _ ?side1 ?side2 A27.out).mono ?_); (case side1 => repeat (first | exact (Kd.C_below HR0_2.out HB.out) | (with_reducible refine Kd.C_alloc ?_ _) | (with_reducible refine Kd.C_drewN ?_ _) | (with_reducible refine Kd.C_drew ?_))); (case side2 => exact HC0_2.out); rintro e w32 ⟨rfl, hb⟩; have n0_ := ak (kbe BK137.out hb); have n1_ := ak (bsp HB.out hb); clear BK137 HB; have BK137 := n0_; have HB := n1_; clear n0_ n1_; (try clear hb); (try clear hb2); (try clear hk); (try clear hi)))
          go_ret
          exact ⟨by first | rfl | (simp <;> rfl) | (simp [*] <;> rfl), by repeat (first | (with_reducible first | exact HB.out | apply bal | apply pbn | apply bd1 | refine bst ?_ GE137.out) | exact HB.out)⟩
     ·rw [if_neg c17] at H
      have c17b0 : ((l0_2.length : Int) == a0_1) = false := bqm c17
      have c17b1 : ((l0_2.length : Int) != a0_1) = true := bne_iff_ne.mpr c17
      obtain rfl := osi H
      have hcz33_0 : wc.cell? ⟨gb137, 0, none⟩ = some (.int .i64 a0_0) := (kce BK137.out 0).trans rfl
      have hcz33_1 : wc.cell? ⟨gb137, 1, none⟩ = some (.int .i64 a0_1) := (kce BK137.out 1).trans rfl
      have hcz33_2 : wc.cell? ⟨gb137, 2, none⟩ = some (.slice A0_2 l0_2.length c0_2) := (kce BK137.out 2).trans rfl
      have hfz33_0 := kfz BK137.out 0
      have hfz33_1 := kfz BK137.out 1
      have hfz33_2 := kfz BK137.out 2
      go_wp2
      go_ret
      exact ⟨by first | rfl | (simp <;> rfl) | (simp [*] <;> rfl), by repeat (first | (with_reducible first | exact HB.out | apply bal | apply pbn | apply bd1 | refine bst ?_ GE137.out) | exact HB.out)⟩
mutual
def r9_Check.j0 : Nat → Bool → Int → Int → List Int → Int → List (List Int) → Option (Int)
 | 0, _, _, _, _, _, _ => none
 | k + 1, x26, x144000, x144001, x144002, x145000, x145001 => if x26 = true then (some 3) else (r9_Check.l0 k 0 x144000 x144001 x144002 x145000 x145001)
def r9_Check.l0 : Nat → Int → Int → Int → List Int → Int → List (List Int) → Option (Int)
 | 0, _, _, _, _, _, _ => none
 | k + 1, x6, x144000, x144001, x144002, x145000, x145001 => if x6 < (x145001.length : Int) then (if 0 ≤ x6 then (if ((rd_L1 x145001 x6).length : Int) = x145000 then (r9_Check.l0 k (wrap64 (x6 + 1)) x144000 x144001 x144002 x145000 x145001) else (some 3)) else (none)) else (r9_Check.l1 k 0 x144000 x144001 x144002 x145000 x145001)
def r9_Check.l1 : Nat → Int → Int → Int → List Int → Int → List (List Int) → Option (Int)
 | 0, _, _, _, _, _, _ => none
 | k + 1, x7, x144000, x144001, x144002, x145000, x145001 => if x7 < (x145001.length : Int) then (if 0 ≤ x7 then ((r9_Entries.f k x144000 x144001 x144002 (rd_L1 x145001 x7)).bind fun t148 => (if t148 = 0 then (r9_Check.l1 k (wrap64 (x7 + 1)) x144000 x144001 x144002 x145000 x145001) else (some t148))) else (none)) else (some 0)
end
def r9_Check.f (k : Nat) (a0_0 : Int) (a0_1 : Int) (l0_2 : List Int) (a1_0 : Int) (l1_1 : List (List Int)) : Option (Int) := (r4_Check.f k a0_0 a0_1 l0_2).bind fun t145 => (if t145 = 0 then (if a1_0 < 0 then (r9_Check.j0 k true a0_0 a0_1 l0_2 a1_0 l1_1) else (if a1_0 > 256 then (r9_Check.j0 k true a0_0 a0_1 l0_2 a1_0 l1_1) else (r9_Check.j0 k (decide ((l1_1.length : Int) > 256)) a0_0 a0_1 l0_2 a1_0 l1_1))) else (some t145))
def r9_Check.T9 : Bool × List (List Nat × List Nat) := (true, [([], []), ([0], [0]), ([], []), ([1, 2], [1, 2]), ([3], [3]), ([4], [4]), ([], []), ([6], [6]), ([5, 7], [5, 7])])
def r9_Check.B9 : List Nat := [0, 1, 0, 7, 15, 31, 0, 64, 255]
theorem r9_Check.tab9 : rtab .any (opsOf Try.f32 9) = r9_Check.T9 := by kernel_rfl
theorem r9_Check.bits9 : waitsOk r9_Check.T9.2 r9_Check.B9 = true := by kernel_rfl
def r9_Check.T14 : Bool × List (List Nat × List Nat) := (true, [([], []), ([], []), ([1], [1]), ([], []), ([2, 3], [2, 3]), ([4], [4]), ([0, 5], [0, 5]), ([6, 6, 0, 1, 2, 3, 4, 5, 6], [6])])
def r9_Check.B14 : List Nat := [0, 0, 2, 0, 14, 30, 63, 127]
theorem r9_Check.tab14 : rtab .any (opsOf Try.f32 14) = r9_Check.T14 := by kernel_rfl
theorem r9_Check.bits14 : waitsOk r9_Check.T14.2 r9_Check.B14 = true := by kernel_rfl
theorem r9_Check.calls (k : Nat) (a0_0 : Int) (a0_1 : Int) (A0_2 : Option Addr) (c0_2 : Nat) (l0_2 : List Int) (a1_0 : Int) (A1_1 : Option Addr) (c1_1 : Nat) (l1_1 : List (List Int)) (r : Int) (w : World) (hr0_2 : Kd.C (Kd.int .i64) w A0_2 l0_2.length l0_2) (hc0_2 : l0_2.length ≤ c0_2) (hr1_1 : Kd.C (Kd.slice 3 (Kd.int .i64)) w A1_1 l1_1.length l1_1) (hc1_1 : l1_1.length ≤ c1_1) (h : r9_Check.f k a0_0 a0_1 l0_2 a1_0 l1_1 = some r) :
  Calls Try.prog 32 #[.agg #[.int .i64 a0_0, .int .i64 a0_1, .slice A0_2 l0_2.length c0_2], .agg #[.int .i64 a1_0, .slice A1_1 l1_1.length c1_1]] w fun e w' => e = .returned (.int .i64 r) ∧ Below w.heap.size w w' := by
 have hu24 := Try.underlying24
 have hu27 := Try.underlying27
 have HR0_2 := ak hr0_2
 have HC0_2 := ak hc0_2
 clear hr0_2 hc0_2
 have HR1_1 := ak hr1_1
 have HC1_1 := ak hc1_1
 clear hr1_1 hc1_1
 have HB := ak (Below.refl w.heap.size w)
 have H : ((r4_Check.f k a0_0 a0_1 l0_2).bind fun t145 => (if t145 = 0 then (if a1_0 < 0 then (r9_Check.j0 k true a0_0 a0_1 l0_2 a1_0 l1_1) else (if a1_0 > 256 then (r9_Check.j0 k true a0_0 a0_1 l0_2 a1_0 l1_1) else (r9_Check.j0 k (decide ((l1_1.length : Int) > 256)) a0_0 a0_1 l0_2 a1_0 l1_1))) else (some t145))) = some r := h
 clear h
 replace H := obm H
 obtain ⟨t145, A30, H⟩ := H
 replace H : (if t145 = 0 then (if a1_0 < 0 then (r9_Check.j0 k true a0_0 a0_1 l0_2 a1_0 l1_1) else (if a1_0 > 256 then (r9_Check.j0 k true a0_0 a0_1 l0_2 a1_0 l1_1) else (r9_Check.j0 k (decide ((l1_1.length : Int) > 256)) a0_0 a0_1 l0_2 a1_0 l1_1))) else (some t145)) = some r := H
 have A3 := ak A30
 clear A30
 by_cases c4 : t145 = 0
 ·rw [if_pos c4] at H
  have c4b0 : (t145 == 0) = true := beq_iff_eq.mpr c4
  have c4b1 : (t145 != 0) = false := bnm c4
  clear c4
  have HC5 := ak H
  clear H
  go_enter Try.func32, Try.ntmps32
  go_upto_region 4 with (first | ((with_reducible refine gate_dst (N := 2) rfl ?_); (try (refine gate_guard (by rfl) ?_; dsimp only)); refine box_event ?hg (N := 2) ?hd (cs := #[.int .i64 a0_0, .int .i64 a0_1, .slice A0_2 l0_2.length c0_2]) (t := 24) ?hr ?_; (case hd => rfl); (case hg => rfl); (case hr => first | (go_simp; done) | (go_simp; rfl)); intro gb143 hg w6 hbox hb; have n0_ := ak (bsp HB.out hb); have n1_ := ak (hbox); have n2_ := ak ((by rw [hg]; exact (bsz HB.out) : w.heap.size ≤ gb143)); have n3_ := ak ((by rw [hg]; exact (bsz HB.out) : w.heap.size ≤ gb143)); clear HB; have HB := n0_; have BK143 := n1_; have GW143 := n2_; have GE143 := n3_; clear n0_ n1_ n2_ n3_; clear hb hbox hg) | ((with_reducible refine gate_dst (N := 3) rfl ?_); (try (refine gate_guard (by rfl) ?_; dsimp only)); refine box_event ?hg (N := 3) ?hd (cs := #[.int .i64 a1_0, .slice A1_1 l1_1.length c1_1]) (t := 27) ?hr ?_; (case hd => rfl); (case hg => rfl); (case hr => first | (go_simp; done) | (go_simp; rfl)); intro gb144 hg w7 hbox hb; have n0_ := ak (kbe BK143.out hb); have n1_ := ak (bsp HB.out hb); have n2_ := ak (hbox); have n3_ := ak ((by rw [hg]; exact (bsz HB.out) : w.heap.size ≤ gb144)); have n4_ := ak ((by rw [hg]; exact (bsz HB.out) : w.heap.size ≤ gb144)); have n5_ := ak ((by rw [hg]; exact Nat.ne_of_lt (klt BK143.out) : gb143 ≠ gb144)); have n6_ := ak ((by rw [hg]; exact Nat.ne_of_gt (klt BK143.out) : gb144 ≠ gb143)); clear BK143 HB; have BK143 := n0_; have HB := n1_; have BK144 := n2_; have GW144 := n3_; have GE144 := n4_; have NB143_144 := n5_; have NB144_143 := n6_; clear n0_ n1_ n2_ n3_ n4_ n5_ n6_; clear hb hbox hg; have hnb8 := NB143_144.out; have hnc8 := NB144_143.out; have hcz9_0 : w7.cell? ⟨gb143, 0, none⟩ = some (.int .i64 a0_0) := (kce BK143.out 0).trans rfl; have hcz9_1 : w7.cell? ⟨gb143, 1, none⟩ = some (.int .i64 a0_1) := (kce BK143.out 1).trans rfl; have hcz9_2 : w7.cell? ⟨gb143, 2, none⟩ = some (.slice A0_2 l0_2.length c0_2) := (kce BK143.out 2).trans rfl) | ((with_reducible refine gate_callee (f := 78) rfl ?_); refine goesL_ (some 9) rfl rfl Try.func78 (by kernel_rfl) rfl #[.agg #[.int .i64 a0_0, .int .i64 a0_1, .slice A0_2 l0_2.length c0_2]] rfl (by (try simp only [List.map_toArray, List.map_cons, List.map_nil]); first | done | rfl) ?_; (with_reducible refine (r4_Check.calls k a0_0 a0_1 _ _ l0_2 t145 _ ?side1 ?side2 A3.out).mono ?_); (case side1 => repeat (first | exact (Kd.C_below HR0_2.out HB.out) | (with_reducible refine Kd.C_alloc ?_ _) | (with_reducible refine Kd.C_drewN ?_ _) | (with_reducible refine Kd.C_drew ?_))); (case side2 => exact HC0_2.out); rintro e w10 ⟨rfl, hb⟩; refine ⟨_, rfl, ?_⟩; have n0_ := ak (kbe BK143.out hb); have n1_ := ak (kbe BK144.out hb); have n2_ := ak (bsp HB.out hb); clear BK143 BK144 HB; have BK143 := n0_; have BK144 := n1_; have HB := n2_; clear n0_ n1_ n2_; (try clear hb); (try clear hb2); (try clear hk); (try clear hi)))
  go_cut [26] (fun v26 wc => ∃ (kq : Nat) (x26_4 : Bool), v26 = .bool x26_4 ∧ Aside0 (r9_Check.j0 kq x26_4 a0_0 a0_1 l0_2 a1_0 l1_1 = some r) ∧ Aside0 (kq ≤ k) ∧ Aside0 (wc.heap[gb143]? = some (.cells #[.int .i64 a0_0, .int .i64 a0_1, (.slice A0_2 l0_2.length c0_2)] 24 (0, 0))) ∧ Aside0 (wc.heap[gb144]? = some (.cells #[.int .i64 a1_0, (.slice A1_1 l1_1.length c1_1)] 27 (0, 0))) ∧ Aside0 (Below w.heap.size w wc))
  case first =>
   have H := HC5.out
   clear HC5
   by_cases c11 : a1_0 < 0
   ·rw [if_pos c11] at H
    have c11b0 : decide (a1_0 < 0) = true := det c11
    clear c11
    (skip)
    have H' := ak H
    clear H
    have hnb12 := NB144_143.out
    have hnc12 := NB143_144.out
    have hcz13_0 : w10.cell? ⟨gb144, 0, none⟩ = some (.int .i64 a1_0) := (kce BK144.out 0).trans rfl
    have hcz13_1 : w10.cell? ⟨gb144, 1, none⟩ = some (.slice A1_1 l1_1.length c1_1) := (kce BK144.out 1).trans rfl
    have hfz13_0 := kfz BK144.out 0
    have hfz13_1 := kfz BK144.out 1
    go_wp2
    go_meet
    case rel => exact ⟨_, (true), (by first | rfl | (simp; done) | (simp [*]; done)), H', ⟨by first | omega | exact Nat.le_refl _⟩, ⟨by (with_reducible repeat (first | refine kdn ?_ _ | refine kdr ?_ | refine kal ?_ _)); exact BK143.out⟩, ⟨by (with_reducible repeat (first | refine kdn ?_ _ | refine kdr ?_ | refine kal ?_ _)); exact BK144.out⟩, ⟨by repeat (first | (with_reducible first | exact HB.out | apply bal | apply pbn | apply bd1 | refine bst ?_ GE143.out | refine bst ?_ GE144.out) | exact HB.out)⟩⟩
   ·rw [if_neg c11] at H
    have c11b0 : decide (a1_0 < 0) = false := dff c11
    clear c11
    (skip)
    by_cases c14 : a1_0 > 256
    ·rw [if_pos c14] at H
     have c14b0 : decide (256 < a1_0) = true := det c14
     clear c14
     have H' := ak H
     clear H
     have hnb15 := NB144_143.out
     have hnc15 := NB143_144.out
     have hcz16_0 : w10.cell? ⟨gb144, 0, none⟩ = some (.int .i64 a1_0) := (kce BK144.out 0).trans rfl
     have hcz16_1 : w10.cell? ⟨gb144, 1, none⟩ = some (.slice A1_1 l1_1.length c1_1) := (kce BK144.out 1).trans rfl
     have hfz16_0 := kfz BK144.out 0
     have hfz16_1 := kfz BK144.out 1
     go_wp2
     go_meet
     case rel => exact ⟨_, (true), (by first | rfl | (simp; done) | (simp [*]; done)), H', ⟨by first | omega | exact Nat.le_refl _⟩, ⟨by (with_reducible repeat (first | refine kdn ?_ _ | refine kdr ?_ | refine kal ?_ _)); exact BK143.out⟩, ⟨by (with_reducible repeat (first | refine kdn ?_ _ | refine kdr ?_ | refine kal ?_ _)); exact BK144.out⟩, ⟨by repeat (first | (with_reducible first | exact HB.out | apply bal | apply pbn | apply bd1 | refine bst ?_ GE143.out | refine bst ?_ GE144.out) | exact HB.out)⟩⟩
    ·rw [if_neg c14] at H
     have c14b0 : decide (256 < a1_0) = false := dff c14
     clear c14
     have H' := ak H
     clear H
     have hnb17 := NB144_143.out
     have hnc17 := NB143_144.out
     have hcz18_0 : w10.cell? ⟨gb144, 0, none⟩ = some (.int .i64 a1_0) := (kce BK144.out 0).trans rfl
     have hcz18_1 : w10.cell? ⟨gb144, 1, none⟩ = some (.slice A1_1 l1_1.length c1_1) := (kce BK144.out 1).trans rfl
     have hfz18_0 := kfz BK144.out 0
     have hfz18_1 := kfz BK144.out 1
     go_wp2
     go_meet
     case rel => exact ⟨_, (decide ((l1_1.length : Int) > 256)), (by first | rfl | (simp; done) | (simp [*]; done)), H', ⟨by first | omega | exact Nat.le_refl _⟩, ⟨by (with_reducible repeat (first | refine kdn ?_ _ | refine kdr ?_ | refine kal ?_ _)); exact BK143.out⟩, ⟨by (with_reducible repeat (first | refine kdn ?_ _ | refine kdr ?_ | refine kal ?_ _)); exact BK144.out⟩, ⟨by repeat (first | (with_reducible first | exact HB.out | apply bal | apply pbn | apply bd1 | refine bst ?_ GE143.out | refine bst ?_ GE144.out) | exact HB.out)⟩⟩
  case rest =>
   clear HC5
   try (clear c4b0)
   try (clear c4b1)
   try (clear hcz9_0)
   try (clear hcz9_1)
   try (clear hcz9_2)
   obtain ⟨kq, x26_4, rfl, HA, HJ4, BK143, BK144, HB⟩ := hcut
   cases kq with
   | zero => exact absurd HA.out (by simp [r9_Check.j0])
   | succ kj4 =>
    have H := HA.out
    clear HA
    simp only [r9_Check.j0] at H
    by_cases c19 : x26_4 = true
    ·subst c19
     have H1 : (some 3) = some r := by rw [if_pos rfl] at H; exact H
     clear H
     have H := H1
     clear H1
     obtain rfl := osi H
     go_wp2
     go_ret
     exact ⟨by first | rfl | (simp <;> rfl) | (simp [*] <;> rfl), by repeat (first | (with_reducible first | exact HB.out | apply bal | apply pbn | apply bd1 | refine bst ?_ GE143.out | refine bst ?_ GE144.out) | exact HB.out)⟩
    ·replace c19 := Bool.eq_false_iff.mpr c19
     subst c19
     have H1 : (r9_Check.l0 kj4 0 a0_0 a0_1 l0_2 a1_0 l1_1) = some r := by rw [if_neg (show ¬ (false = true) by decide)] at H; exact H
     clear H
     have H := H1
     clear H1
     have H' := ak H
     clear H
     go_wp2
     go_loopg [6] kj4 (fun kq v6 w' => ∃ (x6_2 : Int), v6 = .int .i64 x6_2 ∧ Aside0 (r9_Check.l0 kq x6_2 a0_0 a0_1 l0_2 a1_0 l1_1 = some r) ∧ Aside0 (kq ≤ kj4) ∧ Aside0 (w'.heap[gb143]? = some (.cells #[.int .i64 a0_0, .int .i64 a0_1, (.slice A0_2 l0_2.length c0_2)] 24 (0, 0))) ∧ Aside0 (w'.heap[gb144]? = some (.cells #[.int .i64 a1_0, (.slice A1_1 l1_1.length c1_1)] 27 (0, 0))) ∧ Aside0 (Below w.heap.size w w'))
     case atStart => exact ⟨(0), (by first | rfl | (simp; done) | (simp [*]; done)), H', ⟨Nat.le_refl _⟩, ⟨by (with_reducible repeat (first | refine kdn ?_ _ | refine kdr ?_ | refine kal ?_ _)); exact BK143.out⟩, ⟨by (with_reducible repeat (first | refine kdn ?_ _ | refine kdr ?_ | refine kal ?_ _)); exact BK144.out⟩, ⟨by repeat (first | (with_reducible first | exact HB.out | apply bal | apply pbn | apply bd1 | refine bst ?_ GE143.out | refine bst ?_ GE144.out) | exact HB.out)⟩⟩
     case round =>
      clear H'
      obtain ⟨x6_2, rfl, HA, HK2, BK143, BK144, HB⟩ := hrel
      cases gk with
      | zero => exact absurd HA.out (by simp [r9_Check.l0])
      | succ k2 =>
       have H := HA.out
       clear HA
       simp only [r9_Check.l0] at H
       by_cases c20 : x6_2 < (l1_1.length : Int)
       ·rw [if_pos c20] at H
        have c20b0 : decide (x6_2 < (l1_1.length : Int)) = true := det c20
        clear c20
        by_cases c21 : 0 ≤ x6_2
        ·rw [if_pos c21] at H
         have c21b0 : decide (0 ≤ x6_2) = true := det c21
         clear c21
         by_cases c22 : ((rd_L1 l1_1 x6_2).length : Int) = a1_0
         ·rw [if_pos c22] at H
          have c22b0 : (((rd_L1 l1_1 x6_2).length : Int) == a1_0) = true := beq_iff_eq.mpr c22
          have c22b1 : (((rd_L1 l1_1 x6_2).length : Int) != a1_0) = false := bnm c22
          clear c22
          have H' := ak H
          clear H
          have hnb23 := NB144_143.out
          have hnc23 := NB143_144.out
          have hcz24_0 : wr.cell? ⟨gb144, 0, none⟩ = some (.int .i64 a1_0) := (kce BK144.out 0).trans rfl
          have hcz24_1 : wr.cell? ⟨gb144, 1, none⟩ = some (.slice A1_1 l1_1.length c1_1) := (kce BK144.out 1).trans rfl
          have hfz24_0 := kfz BK144.out 0
          have hfz24_1 := kfz BK144.out 1
          try (go_wp2)
          have n0_ := ak (kdr BK143.out)
          have n1_ := ak (kdr BK144.out)
          have n2_ := ak (bd1 HB.out)
          clear BK143
          clear BK144
          clear HB
          have BK143 := n0_
          have BK144 := n1_
          have HB := n2_
          clear n0_ n1_ n2_
          have p146 : 0 ≤ (x6_2 : Int) := odt (by with_reducible assumption)
          have q146 : x6_2 < (l1_1.length : Int) := odt (by with_reducible assumption)
          obtain ⟨ad146, A146_0, c146_0, e146, hx146_0, hl146_0, hi146_0⟩ := at_L1 HR1_1.out x6_2 p146 q146
          have hw146_0 := hx146_0
          cases e146
          replace hx146_0 := (HB.out.cell (World.block_lt_of_cell? w _ hx146_0)).trans hx146_0
          have HR146_0 := ak hi146_0
          have HC146_0 := ak hl146_0
          clear hi146_0 hl146_0
          replace p146 := eq_true p146
          replace q146 := eq_true q146
          refine start_ (n := 9) (S := fun w' => w'.cell? ⟨gb144, 0, none⟩ = some (.int .i64 a1_0) ∧ w'.cell? ⟨gb144, 1, none⟩ = some (.slice (some ad146) l1_1.length c1_1) ∧ w'.cell? (ad146.add (x6_2).toNat) = some (.slice A146_0 (rd_L1 l1_1 x6_2).length c146_0)) (ds := []) #[false, false, false, false, false, false, false, false, false] (by kernel_rfl) rfl rfl ⟨(kce BK144.out 0).trans rfl, (kce BK144.out 1).trans rfl, ((HB.out.cell (World.block_lt_of_cell? w _ hw146_0)).trans hw146_0)⟩ (fun hHeld => ?_); refine with_tabW r9_Check.tab9 r9_Check.bits9 (fun HT_ HW_ => ?_)
          generalize wr.drew = w25 at BK143 BK144 HB HR146_0 hx146_0 hHeld ⊢
          refine pure_ (i := 0) (N := some 34) (v := ?_) (a' := ?_) #[true, false, false, false, false, false, false, false, false] rfl rfl (any_of HT_.out (by kernel_rfl)) (fun _ _ _ h => h) (Or.inl ⟨by rfl, ?_⟩) ?_ ?_
          rotate_left
          ·intro w'
           go_simp
           with_reducible rfl
          rotate_left
          ·simp only [Act.put, sia, scz, scs, i64_w, i32_w]
           rfl
          refine pure_ (i := 2) (N := some 36) (v := ?_) (a' := ?_) #[true, false, true, false, false, false, false, false, false] rfl rfl (any_of HT_.out (by kernel_rfl)) (fun _ _ _ h => h) (Or.inl ⟨by rfl, ?_⟩) ?_ ?_
          rotate_left
          ·intro w'
           go_simp
           with_reducible rfl
          rotate_left
          ·simp only [Act.put, sia, scz, scs, i64_w, i32_w]
           rfl
          refine pure_ (i := 6) (N := some 40) (v := ?_) (a' := ?_) #[true, false, true, false, false, false, true, false, false] rfl rfl (any_of HT_.out (by kernel_rfl)) (fun _ _ _ h => h) (Or.inl ⟨by rfl, ?_⟩) ?_ ?_
          rotate_left
          ·intro w'
           go_simp
           with_reducible rfl
          rotate_left
          ·simp only [Act.put, sia, scz, scs, i64_w, i32_w]
           rfl
          refine take_ (i := 1) (N := some 35) (v := ?_) (a' := ?_) #[true, true, true, false, false, false, true, false, false] rfl rfl (take_ofW HT_.out HW_.out (by kernel_rfl)) (fun _ _ _ h => h) (Or.inl ⟨by rfl, ?_⟩) hHeld ?_ ?_
          rotate_left
          ·rintro w' ⟨s0, s1, s2⟩
           go_simp
           with_reducible rfl
          rotate_left
          ·simp only [Act.put, sia, scz, scs, i64_w, i32_w]
           rfl
          refine pure_ (i := 3) (N := some 37) (v := ?_) (a' := ?_) #[true, true, true, true, false, false, true, false, false] rfl rfl (any_of HT_.out (by kernel_rfl)) (fun _ _ _ h => h) (Or.inl ⟨by rfl, ?_⟩) ?_ ?_
          rotate_left
          ·intro w'
           go_simp
           with_reducible rfl
          rotate_left
          ·simp only [Act.put, sia, scz, scs, i64_w, i32_w]
           rfl
          refine take_ (i := 4) (N := some 38) (v := ?_) (a' := ?_) #[true, true, true, true, true, false, true, false, false] rfl rfl (take_ofW HT_.out HW_.out (by kernel_rfl)) (fun _ _ _ h => h) (Or.inl ⟨by rfl, ?_⟩) hHeld ?_ ?_
          rotate_left
          ·rintro w' ⟨s0, s1, s2⟩
           go_simp
           with_reducible rfl
          rotate_left
          ·simp only [Act.put, sia, scz, scs, i64_w, i32_w]
           rfl
          refine pure_ (i := 5) (N := some 39) (v := ?_) (a' := ?_) #[true, true, true, true, true, true, true, false, false] rfl rfl (any_of HT_.out (by kernel_rfl)) (fun _ _ _ h => h) (Or.inl ⟨by rfl, ?_⟩) ?_ ?_
          rotate_left
          ·intro w'
           go_simp
           with_reducible rfl
          rotate_left
          ·simp only [Act.put, sia, scz, scs, i64_w, i32_w]
           rfl
          refine take_ (i := 7) (N := some 41) (v := ?_) (a' := ?_) #[true, true, true, true, true, true, true, true, false] rfl rfl (take_ofW HT_.out HW_.out (by kernel_rfl)) (fun _ _ _ h => h) (Or.inl ⟨by rfl, ?_⟩) hHeld ?_ ?_
          rotate_left
          ·rintro w' ⟨s0, s1, s2⟩
           go_simp
           with_reducible rfl
          rotate_left
          ·simp only [Act.put, sia, scz, scs, i64_w, i32_w]
           rfl
          refine pure_ (i := 8) (N := some 42) (v := ?_) (a' := ?_) #[true, true, true, true, true, true, true, true, true] rfl rfl (any_of HT_.out (by kernel_rfl)) (fun _ _ _ h => h) (Or.inl ⟨by rfl, ?_⟩) ?_ ?_
          rotate_left
          ·intro w'
           go_simp
           with_reducible rfl
          rotate_left
          ·simp only [Act.put, sia, scz, scs, i64_w, i32_w]
           rfl
          refine done_ (done_of HT_.out (by kernel_rfl)) ?_
          try (go_wp2)
          go_roundg k2
          case measure => have := HJ4.out; have := HK2.out; omega
          case rel => exact ⟨(wrap64 (x6_2 + 1)), (by first | rfl | (simp; done) | (simp [*]; done)), H', ⟨by have := HJ4.out; have := HK2.out; omega⟩, ⟨by (with_reducible repeat (first | refine kdn ?_ _ | refine kdr ?_ | refine kal ?_ _)); exact BK143.out⟩, ⟨by (with_reducible repeat (first | refine kdn ?_ _ | refine kdr ?_ | refine kal ?_ _)); exact BK144.out⟩, ⟨by repeat (first | (with_reducible first | exact HB.out | apply bal | apply pbn | apply bd1 | refine bst ?_ GE143.out | refine bst ?_ GE144.out) | exact HB.out)⟩⟩
         ·rw [if_neg c22] at H
          have c22b0 : (((rd_L1 l1_1 x6_2).length : Int) == a1_0) = false := bqm c22
          have c22b1 : (((rd_L1 l1_1 x6_2).length : Int) != a1_0) = true := bne_iff_ne.mpr c22
          obtain rfl := osi H
          have hnb26 := NB144_143.out
          have hnc26 := NB143_144.out
          have hcz27_0 : wr.cell? ⟨gb144, 0, none⟩ = some (.int .i64 a1_0) := (kce BK144.out 0).trans rfl
          have hcz27_1 : wr.cell? ⟨gb144, 1, none⟩ = some (.slice A1_1 l1_1.length c1_1) := (kce BK144.out 1).trans rfl
          have hfz27_0 := kfz BK144.out 0
          have hfz27_1 := kfz BK144.out 1
          try (go_wp2)
          have n0_ := ak (kdr BK143.out)
          have n1_ := ak (kdr BK144.out)
          have n2_ := ak (bd1 HB.out)
          clear BK143
          clear BK144
          clear HB
          have BK143 := n0_
          have BK144 := n1_
          have HB := n2_
          clear n0_ n1_ n2_
          have p146 : 0 ≤ (x6_2 : Int) := odt (by with_reducible assumption)
          have q146 : x6_2 < (l1_1.length : Int) := odt (by with_reducible assumption)
          obtain ⟨ad146, A146_0, c146_0, e146, hx146_0, hl146_0, hi146_0⟩ := at_L1 HR1_1.out x6_2 p146 q146
          have hw146_0 := hx146_0
          cases e146
          replace hx146_0 := (HB.out.cell (World.block_lt_of_cell? w _ hx146_0)).trans hx146_0
          have HR146_0 := ak hi146_0
          have HC146_0 := ak hl146_0
          clear hi146_0 hl146_0
          replace p146 := eq_true p146
          replace q146 := eq_true q146
          refine start_ (n := 9) (S := fun w' => w'.cell? ⟨gb144, 0, none⟩ = some (.int .i64 a1_0) ∧ w'.cell? ⟨gb144, 1, none⟩ = some (.slice (some ad146) l1_1.length c1_1) ∧ w'.cell? (ad146.add (x6_2).toNat) = some (.slice A146_0 (rd_L1 l1_1 x6_2).length c146_0)) (ds := []) #[false, false, false, false, false, false, false, false, false] (by kernel_rfl) rfl rfl ⟨(kce BK144.out 0).trans rfl, (kce BK144.out 1).trans rfl, ((HB.out.cell (World.block_lt_of_cell? w _ hw146_0)).trans hw146_0)⟩ (fun hHeld => ?_); refine with_tabW r9_Check.tab9 r9_Check.bits9 (fun HT_ HW_ => ?_)
          generalize wr.drew = w28 at BK143 BK144 HB HR146_0 hx146_0 hHeld ⊢
          refine pure_ (i := 0) (N := some 34) (v := ?_) (a' := ?_) #[true, false, false, false, false, false, false, false, false] rfl rfl (any_of HT_.out (by kernel_rfl)) (fun _ _ _ h => h) (Or.inl ⟨by rfl, ?_⟩) ?_ ?_
          rotate_left
          ·intro w'
           go_simp
           with_reducible rfl
          rotate_left
          ·simp only [Act.put, sia, scz, scs, i64_w, i32_w]
           rfl
          refine pure_ (i := 2) (N := some 36) (v := ?_) (a' := ?_) #[true, false, true, false, false, false, false, false, false] rfl rfl (any_of HT_.out (by kernel_rfl)) (fun _ _ _ h => h) (Or.inl ⟨by rfl, ?_⟩) ?_ ?_
          rotate_left
          ·intro w'
           go_simp
           with_reducible rfl
          rotate_left
          ·simp only [Act.put, sia, scz, scs, i64_w, i32_w]
           rfl
          refine pure_ (i := 6) (N := some 40) (v := ?_) (a' := ?_) #[true, false, true, false, false, false, true, false, false] rfl rfl (any_of HT_.out (by kernel_rfl)) (fun _ _ _ h => h) (Or.inl ⟨by rfl, ?_⟩) ?_ ?_
          rotate_left
          ·intro w'
           go_simp
           with_reducible rfl
          rotate_left
          ·simp only [Act.put, sia, scz, scs, i64_w, i32_w]
           rfl
          refine take_ (i := 1) (N := some 35) (v := ?_) (a' := ?_) #[true, true, true, false, false, false, true, false, false] rfl rfl (take_ofW HT_.out HW_.out (by kernel_rfl)) (fun _ _ _ h => h) (Or.inl ⟨by rfl, ?_⟩) hHeld ?_ ?_
          rotate_left
          ·rintro w' ⟨s0, s1, s2⟩
           go_simp
           with_reducible rfl
          rotate_left
          ·simp only [Act.put, sia, scz, scs, i64_w, i32_w]
           rfl
          refine pure_ (i := 3) (N := some 37) (v := ?_) (a' := ?_) #[true, true, true, true, false, false, true, false, false] rfl rfl (any_of HT_.out (by kernel_rfl)) (fun _ _ _ h => h) (Or.inl ⟨by rfl, ?_⟩) ?_ ?_
          rotate_left
          ·intro w'
           go_simp
           with_reducible rfl
          rotate_left
          ·simp only [Act.put, sia, scz, scs, i64_w, i32_w]
           rfl
          refine take_ (i := 4) (N := some 38) (v := ?_) (a' := ?_) #[true, true, true, true, true, false, true, false, false] rfl rfl (take_ofW HT_.out HW_.out (by kernel_rfl)) (fun _ _ _ h => h) (Or.inl ⟨by rfl, ?_⟩) hHeld ?_ ?_
          rotate_left
          ·rintro w' ⟨s0, s1, s2⟩
           go_simp
           with_reducible rfl
          rotate_left
          ·simp only [Act.put, sia, scz, scs, i64_w, i32_w]
           rfl
          refine pure_ (i := 5) (N := some 39) (v := ?_) (a' := ?_) #[true, true, true, true, true, true, true, false, false] rfl rfl (any_of HT_.out (by kernel_rfl)) (fun _ _ _ h => h) (Or.inl ⟨by rfl, ?_⟩) ?_ ?_
          rotate_left
          ·intro w'
           go_simp
           with_reducible rfl
          rotate_left
          ·simp only [Act.put, sia, scz, scs, i64_w, i32_w]
           rfl
          refine take_ (i := 7) (N := some 41) (v := ?_) (a' := ?_) #[true, true, true, true, true, true, true, true, false] rfl rfl (take_ofW HT_.out HW_.out (by kernel_rfl)) (fun _ _ _ h => h) (Or.inl ⟨by rfl, ?_⟩) hHeld ?_ ?_
          rotate_left
          ·rintro w' ⟨s0, s1, s2⟩
           go_simp
           with_reducible rfl
          rotate_left
          ·simp only [Act.put, sia, scz, scs, i64_w, i32_w]
           rfl
          refine pure_ (i := 8) (N := some 42) (v := ?_) (a' := ?_) #[true, true, true, true, true, true, true, true, true] rfl rfl (any_of HT_.out (by kernel_rfl)) (fun _ _ _ h => h) (Or.inl ⟨by rfl, ?_⟩) ?_ ?_
          rotate_left
          ·intro w'
           go_simp
           with_reducible rfl
          rotate_left
          ·simp only [Act.put, sia, scz, scs, i64_w, i32_w]
           rfl
          refine done_ (done_of HT_.out (by kernel_rfl)) ?_
          try (go_wp2)
          go_ret
          exact ⟨by first | rfl | (simp <;> rfl) | (simp [*] <;> rfl), by repeat (first | (with_reducible first | exact HB.out | apply bal | apply pbn | apply bd1 | refine bst ?_ GE143.out | refine bst ?_ GE144.out) | exact HB.out)⟩
        ·rw [if_neg c21] at H
         exact absurd H (by simp)
       ·rw [if_neg c20] at H
        have c20b0 : decide (x6_2 < (l1_1.length : Int)) = false := dff c20
        clear c20
        have H' := ak H
        clear H
        have hnb29 := NB144_143.out
        have hnc29 := NB143_144.out
        have hcz30_0 : wr.cell? ⟨gb144, 0, none⟩ = some (.int .i64 a1_0) := (kce BK144.out 0).trans rfl
        have hcz30_1 : wr.cell? ⟨gb144, 1, none⟩ = some (.slice A1_1 l1_1.length c1_1) := (kce BK144.out 1).trans rfl
        have hfz30_0 := kfz BK144.out 0
        have hfz30_1 := kfz BK144.out 1
        go_wp2
        go_loopg [7] k2 (fun kq v7 w' => ∃ (x7_3 : Int), v7 = .int .i64 x7_3 ∧ Aside0 (r9_Check.l1 kq x7_3 a0_0 a0_1 l0_2 a1_0 l1_1 = some r) ∧ Aside0 (kq ≤ k2) ∧ Aside0 (w'.heap[gb143]? = some (.cells #[.int .i64 a0_0, .int .i64 a0_1, (.slice A0_2 l0_2.length c0_2)] 24 (0, 0))) ∧ Aside0 (w'.heap[gb144]? = some (.cells #[.int .i64 a1_0, (.slice A1_1 l1_1.length c1_1)] 27 (0, 0))) ∧ Aside0 (Below w.heap.size w w'))
        case atStart => exact ⟨(0), (by first | rfl | (simp; done) | (simp [*]; done)), H', ⟨Nat.le_refl _⟩, ⟨by (with_reducible repeat (first | refine kdn ?_ _ | refine kdr ?_ | refine kal ?_ _)); exact BK143.out⟩, ⟨by (with_reducible repeat (first | refine kdn ?_ _ | refine kdr ?_ | refine kal ?_ _)); exact BK144.out⟩, ⟨by repeat (first | (with_reducible first | exact HB.out | apply bal | apply pbn | apply bd1 | refine bst ?_ GE143.out | refine bst ?_ GE144.out) | exact HB.out)⟩⟩
        case round =>
         clear H'
         try (clear c20b0)
         try (clear hcz30_0)
         try (clear hcz30_1)
         try (clear hfz30_0)
         try (clear hfz30_1)
         obtain ⟨x7_3, rfl, HA, HK3, BK143, BK144, HB⟩ := hrel
         cases gk with
         | zero => exact absurd HA.out (by simp [r9_Check.l1])
         | succ k3 =>
          have H := HA.out
          clear HA
          simp only [r9_Check.l1] at H
          by_cases c31 : x7_3 < (l1_1.length : Int)
          ·rw [if_pos c31] at H
           have c31b0 : decide (x7_3 < (l1_1.length : Int)) = true := det c31
           clear c31
           by_cases c32 : 0 ≤ x7_3
           ·rw [if_pos c32] at H
            have c32b0 : decide (0 ≤ x7_3) = true := det c32
            clear c32
            replace H := obm H
            obtain ⟨t148, A330, H⟩ := H
            replace H : (if t148 = 0 then (r9_Check.l1 k3 (wrap64 (x7_3 + 1)) a0_0 a0_1 l0_2 a1_0 l1_1) else (some t148)) = some r := H
            have A33 := ak A330
            clear A330
            by_cases c34 : t148 = 0
            ·rw [if_pos c34] at H
             have c34b0 : (t148 == 0) = true := beq_iff_eq.mpr c34
             have c34b1 : (t148 != 0) = false := bnm c34
             clear c34
             have H' := ak H
             clear H
             have hnb35 := NB144_143.out
             have hnc35 := NB143_144.out
             have hcz36_0 : wr.cell? ⟨gb144, 0, none⟩ = some (.int .i64 a1_0) := (kce BK144.out 0).trans rfl
             have hcz36_1 : wr.cell? ⟨gb144, 1, none⟩ = some (.slice A1_1 l1_1.length c1_1) := (kce BK144.out 1).trans rfl
             have hfz36_0 := kfz BK144.out 0
             have hfz36_1 := kfz BK144.out 1
             try (go_wp2)
             have n0_ := ak (kdr BK143.out)
             have n1_ := ak (kdr BK144.out)
             have n2_ := ak (bd1 HB.out)
             clear BK143
             clear BK144
             clear HB
             have BK143 := n0_
             have BK144 := n1_
             have HB := n2_
             clear n0_ n1_ n2_
             have p147 : 0 ≤ (x7_3 : Int) := odt (by with_reducible assumption)
             have q147 : x7_3 < (l1_1.length : Int) := odt (by with_reducible assumption)
             obtain ⟨ad147, A147_0, c147_0, e147, hx147_0, hl147_0, hi147_0⟩ := at_L1 HR1_1.out x7_3 p147 q147
             have hw147_0 := hx147_0
             cases e147
             replace hx147_0 := (HB.out.cell (World.block_lt_of_cell? w _ hx147_0)).trans hx147_0
             have HR147_0 := ak hi147_0
             have HC147_0 := ak hl147_0
             clear hi147_0 hl147_0
             replace p147 := eq_true p147
             replace q147 := eq_true q147
             refine start_ (n := 8) (S := fun w' => w'.cell? ⟨gb143, 0, none⟩ = some (.int .i64 a0_0) ∧ w'.cell? ⟨gb143, 1, none⟩ = some (.int .i64 a0_1) ∧ w'.cell? ⟨gb143, 2, none⟩ = some (.slice A0_2 l0_2.length c0_2) ∧ w'.cell? ⟨gb144, 0, none⟩ = some (.int .i64 a1_0) ∧ w'.cell? ⟨gb144, 1, none⟩ = some (.slice (some ad147) l1_1.length c1_1) ∧ w'.cell? (ad147.add (x7_3).toNat) = some (.slice A147_0 (rd_L1 l1_1 x7_3).length c147_0)) (ds := []) #[false, false, false, false, false, false, false, false] (by kernel_rfl) rfl rfl ⟨(kce BK143.out 0).trans rfl, (kce BK143.out 1).trans rfl, (kce BK143.out 2).trans rfl, (kce BK144.out 0).trans rfl, (kce BK144.out 1).trans rfl, ((HB.out.cell (World.block_lt_of_cell? w _ hw147_0)).trans hw147_0)⟩ (fun hHeld => ?_); refine with_tabW r9_Check.tab14 r9_Check.bits14 (fun HT_ HW_ => ?_)
             generalize wr.drew = w37 at BK143 BK144 HB HR147_0 hx147_0 hHeld ⊢
             refine pure_ (i := 1) (N := some 51) (v := ?_) (a' := ?_) #[false, true, false, false, false, false, false, false] rfl rfl (any_of HT_.out (by kernel_rfl)) (fun _ _ _ h => h) (Or.inl ⟨by rfl, ?_⟩) ?_ ?_
             rotate_left
             ·intro w'
              go_simp
              with_reducible rfl
             rotate_left
             ·simp only [Act.put, sia, scz, scs, i64_w, i32_w]
              rfl
             refine pure_ (i := 3) (N := some 53) (v := ?_) (a' := ?_) #[false, true, false, true, false, false, false, false] rfl rfl (any_of HT_.out (by kernel_rfl)) (fun _ _ _ h => h) (Or.inl ⟨by rfl, ?_⟩) ?_ ?_
             rotate_left
             ·intro w'
              go_simp
              with_reducible rfl
             rotate_left
             ·simp only [Act.put, sia, scz, scs, i64_w, i32_w]
              rfl
             refine take_ (i := 0) (N := some 50) (v := ?_) (a' := ?_) #[true, true, false, true, false, false, false, false] rfl rfl (take_ofW HT_.out HW_.out (by kernel_rfl)) (fun _ _ _ h => h) (Or.inl ⟨by rfl, ?_⟩) hHeld ?_ ?_
             rotate_left
             ·rintro w' ⟨s0, s1, s2, s3, s4, s5⟩
              go_simp
              with_reducible rfl
             rotate_left
             ·simp only [Act.put, sia, scz, scs, i64_w, i32_w]
              rfl
             refine take_ (i := 2) (N := some 52) (v := ?_) (a' := ?_) #[true, true, true, true, false, false, false, false] rfl rfl (take_ofW HT_.out HW_.out (by kernel_rfl)) (fun _ _ _ h => h) (Or.inl ⟨by rfl, ?_⟩) hHeld ?_ ?_
             rotate_left
             ·rintro w' ⟨s0, s1, s2, s3, s4, s5⟩
              go_simp
              with_reducible rfl
             rotate_left
             ·simp only [Act.put, sia, scz, scs, i64_w, i32_w]
              rfl
             refine pure_ (i := 4) (N := some 54) (v := ?_) (a' := ?_) #[true, true, true, true, true, false, false, false] rfl rfl (any_of HT_.out (by kernel_rfl)) (fun _ _ _ h => h) (Or.inl ⟨by rfl, ?_⟩) ?_ ?_
             rotate_left
             ·intro w'
              go_simp
              with_reducible rfl
             rotate_left
             ·simp only [Act.put, sia, scz, scs, i64_w, i32_w]
              rfl
             refine take_ (i := 5) (N := some 55) (v := ?_) (a' := ?_) #[true, true, true, true, true, true, false, false] rfl rfl (take_ofW HT_.out HW_.out (by kernel_rfl)) (fun _ _ _ h => h) (Or.inl ⟨by rfl, ?_⟩) hHeld ?_ ?_
             rotate_left
             ·rintro w' ⟨s0, s1, s2, s3, s4, s5⟩
              go_simp
              with_reducible rfl
             rotate_left
             ·simp only [Act.put, sia, scz, scs, i64_w, i32_w]
              rfl
             refine one_ (i := 6) (N := some 56) #[true, true, true, true, true, true, true, false] rfl rfl (one_of HT_.out (by kernel_rfl)) (by decide) (fun K hK => ?_)
             refine goes_ Try.func71 (by kernel_rfl) rfl #[.agg #[.int .i64 a0_0, .int .i64 a0_1, .slice A0_2 l0_2.length c0_2], .slice A147_0 (rd_L1 l1_1 x7_3).length c147_0] (by rfl) rfl rfl (by (try (simp only [List.map_toArray, List.map_cons, List.map_nil])); rfl) ?_
             with_reducible refine (r9_Entries.calls k3 a0_0 a0_1 _ _ l0_2 _ _ (rd_L1 l1_1 x7_3) t148 _ ?side1 ?side2 ?side3 ?side4 A33.out).mono ?_
             (case side1 => repeat (first | exact (Kd.C_below HR0_2.out HB.out) | (with_reducible refine Kd.C_alloc ?_ _) | (with_reducible refine Kd.C_drewN ?_ _) | (with_reducible refine Kd.C_drew ?_)))
             (case side2 => exact HC0_2.out)
             (case side3 => repeat (first | exact (Kd.C_below HR147_0.out HB.out) | (with_reducible refine Kd.C_alloc ?_ _) | (with_reducible refine Kd.C_drewN ?_ _) | (with_reducible refine Kd.C_drew ?_)))
             (case side4 => exact HC147_0.out)
             rintro e w38 ⟨rfl, hb⟩
             refine ⟨_, rfl, ?_⟩
             have n0_ := ak (kbe BK143.out hb)
             have n1_ := ak (kbe BK144.out hb)
             have n2_ := ak (bsp HB.out hb)
             clear BK143
             clear BK144
             clear HB
             have BK143 := n0_
             have BK144 := n1_
             have HB := n2_
             clear n0_ n1_ n2_
             (try (clear hb))
             refine hK.out _ _ ⟨(kce BK143.out 0).trans rfl, (kce BK143.out 1).trans rfl, (kce BK143.out 2).trans rfl, (kce BK144.out 0).trans rfl, (kce BK144.out 1).trans rfl, ((HB.out.cell (World.block_lt_of_cell? w _ hw147_0)).trans hw147_0)⟩ (fun hHeld => ?_)
             clear hK K
             refine norm_ (a' := ?_) ?_ ?_
             rotate_left
             ·show Act.put _ (some 56) _ = _
              simp only [Act.put, sia, scz, scs, i64_w, i32_w]
              rfl
             refine pure_ (i := 7) (N := some 5) (v := ?_) (a' := ?_) #[true, true, true, true, true, true, true, true] rfl rfl (any_of HT_.out (by kernel_rfl)) (fun _ _ _ h => h) (Or.inl ⟨by rfl, ?_⟩) ?_ ?_
             rotate_left
             ·intro w'
              go_simp
              with_reducible rfl
             rotate_left
             ·simp only [Act.put, sia, scz, scs, i64_w, i32_w]
              rfl
             refine done_ (done_of HT_.out (by kernel_rfl)) ?_
             try (go_wp2)
             go_roundg k3
             case measure => have := HJ4.out; have := HK2.out; have := HK3.out; omega
             case rel => exact ⟨(wrap64 (x7_3 + 1)), (by first | rfl | (simp; done) | (simp [*]; done)), H', ⟨by have := HJ4.out; have := HK2.out; have := HK3.out; omega⟩, ⟨by (with_reducible repeat (first | refine kdn ?_ _ | refine kdr ?_ | refine kal ?_ _)); exact BK143.out⟩, ⟨by (with_reducible repeat (first | refine kdn ?_ _ | refine kdr ?_ | refine kal ?_ _)); exact BK144.out⟩, ⟨by repeat (first | (with_reducible first | exact HB.out | apply bal | apply pbn | apply bd1 | refine bst ?_ GE143.out | refine bst ?_ GE144.out) | exact HB.out)⟩⟩
            ·rw [if_neg c34] at H
             have c34b0 : (t148 == 0) = false := bqm c34
             have c34b1 : (t148 != 0) = true := bne_iff_ne.mpr c34
             obtain rfl := osi H
             have hnb39 := NB144_143.out
             have hnc39 := NB143_144.out
             have hcz40_0 : wr.cell? ⟨gb144, 0, none⟩ = some (.int .i64 a1_0) := (kce BK144.out 0).trans rfl
             have hcz40_1 : wr.cell? ⟨gb144, 1, none⟩ = some (.slice A1_1 l1_1.length c1_1) := (kce BK144.out 1).trans rfl
             have hfz40_0 := kfz BK144.out 0
             have hfz40_1 := kfz BK144.out 1
             try (go_wp2)
             have n0_ := ak (kdr BK143.out)
             have n1_ := ak (kdr BK144.out)
             have n2_ := ak (bd1 HB.out)
             clear BK143
             clear BK144
             clear HB
             have BK143 := n0_
             have BK144 := n1_
             have HB := n2_
             clear n0_ n1_ n2_
             have p147 : 0 ≤ (x7_3 : Int) := odt (by with_reducible assumption)
             have q147 : x7_3 < (l1_1.length : Int) := odt (by with_reducible assumption)
             obtain ⟨ad147, A147_0, c147_0, e147, hx147_0, hl147_0, hi147_0⟩ := at_L1 HR1_1.out x7_3 p147 q147
             have hw147_0 := hx147_0
             cases e147
             replace hx147_0 := (HB.out.cell (World.block_lt_of_cell? w _ hx147_0)).trans hx147_0
             have HR147_0 := ak hi147_0
             have HC147_0 := ak hl147_0
             clear hi147_0 hl147_0
             replace p147 := eq_true p147
             replace q147 := eq_true q147
             refine start_ (n := 8) (S := fun w' => w'.cell? ⟨gb143, 0, none⟩ = some (.int .i64 a0_0) ∧ w'.cell? ⟨gb143, 1, none⟩ = some (.int .i64 a0_1) ∧ w'.cell? ⟨gb143, 2, none⟩ = some (.slice A0_2 l0_2.length c0_2) ∧ w'.cell? ⟨gb144, 0, none⟩ = some (.int .i64 a1_0) ∧ w'.cell? ⟨gb144, 1, none⟩ = some (.slice (some ad147) l1_1.length c1_1) ∧ w'.cell? (ad147.add (x7_3).toNat) = some (.slice A147_0 (rd_L1 l1_1 x7_3).length c147_0)) (ds := []) #[false, false, false, false, false, false, false, false] (by kernel_rfl) rfl rfl ⟨(kce BK143.out 0).trans rfl, (kce BK143.out 1).trans rfl, (kce BK143.out 2).trans rfl, (kce BK144.out 0).trans rfl, (kce BK144.out 1).trans rfl, ((HB.out.cell (World.block_lt_of_cell? w _ hw147_0)).trans hw147_0)⟩ (fun hHeld => ?_); refine with_tabW r9_Check.tab14 r9_Check.bits14 (fun HT_ HW_ => ?_)
             generalize wr.drew = w41 at BK143 BK144 HB HR147_0 hx147_0 hHeld ⊢
             refine pure_ (i := 1) (N := some 51) (v := ?_) (a' := ?_) #[false, true, false, false, false, false, false, false] rfl rfl (any_of HT_.out (by kernel_rfl)) (fun _ _ _ h => h) (Or.inl ⟨by rfl, ?_⟩) ?_ ?_
             rotate_left
             ·intro w'
              go_simp
              with_reducible rfl
             rotate_left
             ·simp only [Act.put, sia, scz, scs, i64_w, i32_w]
              rfl
             refine pure_ (i := 3) (N := some 53) (v := ?_) (a' := ?_) #[false, true, false, true, false, false, false, false] rfl rfl (any_of HT_.out (by kernel_rfl)) (fun _ _ _ h => h) (Or.inl ⟨by rfl, ?_⟩) ?_ ?_
             rotate_left
             ·intro w'
              go_simp
              with_reducible rfl
             rotate_left
             ·simp only [Act.put, sia, scz, scs, i64_w, i32_w]
              rfl
             refine take_ (i := 0) (N := some 50) (v := ?_) (a' := ?_) #[true, true, false, true, false, false, false, false] rfl rfl (take_ofW HT_.out HW_.out (by kernel_rfl)) (fun _ _ _ h => h) (Or.inl ⟨by rfl, ?_⟩) hHeld ?_ ?_
             rotate_left
             ·rintro w' ⟨s0, s1, s2, s3, s4, s5⟩
              go_simp
              with_reducible rfl
             rotate_left
             ·simp only [Act.put, sia, scz, scs, i64_w, i32_w]
              rfl
             refine take_ (i := 2) (N := some 52) (v := ?_) (a' := ?_) #[true, true, true, true, false, false, false, false] rfl rfl (take_ofW HT_.out HW_.out (by kernel_rfl)) (fun _ _ _ h => h) (Or.inl ⟨by rfl, ?_⟩) hHeld ?_ ?_
             rotate_left
             ·rintro w' ⟨s0, s1, s2, s3, s4, s5⟩
              go_simp
              with_reducible rfl
             rotate_left
             ·simp only [Act.put, sia, scz, scs, i64_w, i32_w]
              rfl
             refine pure_ (i := 4) (N := some 54) (v := ?_) (a' := ?_) #[true, true, true, true, true, false, false, false] rfl rfl (any_of HT_.out (by kernel_rfl)) (fun _ _ _ h => h) (Or.inl ⟨by rfl, ?_⟩) ?_ ?_
             rotate_left
             ·intro w'
              go_simp
              with_reducible rfl
             rotate_left
             ·simp only [Act.put, sia, scz, scs, i64_w, i32_w]
              rfl
             refine take_ (i := 5) (N := some 55) (v := ?_) (a' := ?_) #[true, true, true, true, true, true, false, false] rfl rfl (take_ofW HT_.out HW_.out (by kernel_rfl)) (fun _ _ _ h => h) (Or.inl ⟨by rfl, ?_⟩) hHeld ?_ ?_
             rotate_left
             ·rintro w' ⟨s0, s1, s2, s3, s4, s5⟩
              go_simp
              with_reducible rfl
             rotate_left
             ·simp only [Act.put, sia, scz, scs, i64_w, i32_w]
              rfl
             refine one_ (i := 6) (N := some 56) #[true, true, true, true, true, true, true, false] rfl rfl (one_of HT_.out (by kernel_rfl)) (by decide) (fun K hK => ?_)
             refine goes_ Try.func71 (by kernel_rfl) rfl #[.agg #[.int .i64 a0_0, .int .i64 a0_1, .slice A0_2 l0_2.length c0_2], .slice A147_0 (rd_L1 l1_1 x7_3).length c147_0] (by rfl) rfl rfl (by (try (simp only [List.map_toArray, List.map_cons, List.map_nil])); rfl) ?_
             with_reducible refine (r9_Entries.calls k3 a0_0 a0_1 _ _ l0_2 _ _ (rd_L1 l1_1 x7_3) t148 _ ?side1 ?side2 ?side3 ?side4 A33.out).mono ?_
             (case side1 => repeat (first | exact (Kd.C_below HR0_2.out HB.out) | (with_reducible refine Kd.C_alloc ?_ _) | (with_reducible refine Kd.C_drewN ?_ _) | (with_reducible refine Kd.C_drew ?_)))
             (case side2 => exact HC0_2.out)
             (case side3 => repeat (first | exact (Kd.C_below HR147_0.out HB.out) | (with_reducible refine Kd.C_alloc ?_ _) | (with_reducible refine Kd.C_drewN ?_ _) | (with_reducible refine Kd.C_drew ?_)))
             (case side4 => exact HC147_0.out)
             rintro e w42 ⟨rfl, hb⟩
             refine ⟨_, rfl, ?_⟩
             have n0_ := ak (kbe BK143.out hb)
             have n1_ := ak (kbe BK144.out hb)
             have n2_ := ak (bsp HB.out hb)
             clear BK143
             clear BK144
             clear HB
             have BK143 := n0_
             have BK144 := n1_
             have HB := n2_
             clear n0_ n1_ n2_
             (try (clear hb))
             refine hK.out _ _ ⟨(kce BK143.out 0).trans rfl, (kce BK143.out 1).trans rfl, (kce BK143.out 2).trans rfl, (kce BK144.out 0).trans rfl, (kce BK144.out 1).trans rfl, ((HB.out.cell (World.block_lt_of_cell? w _ hw147_0)).trans hw147_0)⟩ (fun hHeld => ?_)
             clear hK K
             refine norm_ (a' := ?_) ?_ ?_
             rotate_left
             ·show Act.put _ (some 56) _ = _
              simp only [Act.put, sia, scz, scs, i64_w, i32_w]
              rfl
             refine pure_ (i := 7) (N := some 5) (v := ?_) (a' := ?_) #[true, true, true, true, true, true, true, true] rfl rfl (any_of HT_.out (by kernel_rfl)) (fun _ _ _ h => h) (Or.inl ⟨by rfl, ?_⟩) ?_ ?_
             rotate_left
             ·intro w'
              go_simp
              with_reducible rfl
             rotate_left
             ·simp only [Act.put, sia, scz, scs, i64_w, i32_w]
              rfl
             refine done_ (done_of HT_.out (by kernel_rfl)) ?_
             try (go_wp2)
             go_ret
             exact ⟨by first | rfl | (simp <;> rfl) | (simp [*] <;> rfl), by repeat (first | (with_reducible first | exact HB.out | apply bal | apply pbn | apply bd1 | refine bst ?_ GE143.out | refine bst ?_ GE144.out) | exact HB.out)⟩
           ·rw [if_neg c32] at H
            exact absurd H (by simp)
          ·rw [if_neg c31] at H
           have c31b0 : decide (x7_3 < (l1_1.length : Int)) = false := dff c31
           clear c31
           obtain rfl := osi H
           have hnb43 := NB144_143.out
           have hnc43 := NB143_144.out
           have hcz44_0 : wr.cell? ⟨gb144, 0, none⟩ = some (.int .i64 a1_0) := (kce BK144.out 0).trans rfl
           have hcz44_1 : wr.cell? ⟨gb144, 1, none⟩ = some (.slice A1_1 l1_1.length c1_1) := (kce BK144.out 1).trans rfl
           have hfz44_0 := kfz BK144.out 0
           have hfz44_1 := kfz BK144.out 1
           go_wp2
           go_ret
           exact ⟨by first | rfl | (simp <;> rfl) | (simp [*] <;> rfl), by repeat (first | (with_reducible first | exact HB.out | apply bal | apply pbn | apply bd1 | refine bst ?_ GE143.out | refine bst ?_ GE144.out) | exact HB.out)⟩
 ·rw [if_neg c4] at H
  have c4b0 : (t145 == 0) = false := bqm c4
  have c4b1 : (t145 != 0) = true := bne_iff_ne.mpr c4
  obtain rfl := osi H
  go_enter Try.func32, Try.ntmps32
  go_wp2_with (first | ((with_reducible refine gate_dst (N := 2) rfl ?_); (try (refine gate_guard (by rfl) ?_; dsimp only)); refine box_event ?hg (N := 2) ?hd (cs := #[.int .i64 a0_0, .int .i64 a0_1, .slice A0_2 l0_2.length c0_2]) (t := 24) ?hr ?_; (case hd => rfl); (case hg => rfl); (case hr => first | (go_simp; done) | (go_simp; rfl)); intro gb143 hg w45 hbox hb; have n0_ := ak (bsp HB.out hb); have n1_ := ak (hbox); have n2_ := ak ((by rw [hg]; exact (bsz HB.out) : w.heap.size ≤ gb143)); have n3_ := ak ((by rw [hg]; exact (bsz HB.out) : w.heap.size ≤ gb143)); clear HB; have HB := n0_; have BK143 := n1_; have GW143 := n2_; have GE143 := n3_; clear n0_ n1_ n2_ n3_; clear hb hbox hg) | ((with_reducible refine gate_dst (N := 3) rfl ?_); (try (refine gate_guard (by rfl) ?_; dsimp only)); refine box_event ?hg (N := 3) ?hd (cs := #[.int .i64 a1_0, .slice A1_1 l1_1.length c1_1]) (t := 27) ?hr ?_; (case hd => rfl); (case hg => rfl); (case hr => first | (go_simp; done) | (go_simp; rfl)); intro gb144 hg w46 hbox hb; have n0_ := ak (kbe BK143.out hb); have n1_ := ak (bsp HB.out hb); have n2_ := ak (hbox); have n3_ := ak ((by rw [hg]; exact (bsz HB.out) : w.heap.size ≤ gb144)); have n4_ := ak ((by rw [hg]; exact (bsz HB.out) : w.heap.size ≤ gb144)); have n5_ := ak ((by rw [hg]; exact Nat.ne_of_lt (klt BK143.out) : gb143 ≠ gb144)); have n6_ := ak ((by rw [hg]; exact Nat.ne_of_gt (klt BK143.out) : gb144 ≠ gb143)); clear BK143 HB; have BK143 := n0_; have HB := n1_; have BK144 := n2_; have GW144 := n3_; have GE144 := n4_; have NB143_144 := n5_; have NB144_143 := n6_; clear n0_ n1_ n2_ n3_ n4_ n5_ n6_; clear hb hbox hg; have hnb47 := NB143_144.out; have hnc47 := NB144_143.out; have hcz48_0 : w46.cell? ⟨gb143, 0, none⟩ = some (.int .i64 a0_0) := (kce BK143.out 0).trans rfl; have hcz48_1 : w46.cell? ⟨gb143, 1, none⟩ = some (.int .i64 a0_1) := (kce BK143.out 1).trans rfl; have hcz48_2 : w46.cell? ⟨gb143, 2, none⟩ = some (.slice A0_2 l0_2.length c0_2) := (kce BK143.out 2).trans rfl) | ((with_reducible refine gate_callee (f := 78) rfl ?_); refine goesL_ (some 9) rfl rfl Try.func78 (by kernel_rfl) rfl #[.agg #[.int .i64 a0_0, .int .i64 a0_1, .slice A0_2 l0_2.length c0_2]] rfl (by (try simp only [List.map_toArray, List.map_cons, List.map_nil]); first | done | rfl) ?_; (with_reducible refine (r4_Check.calls k a0_0 a0_1 _ _ l0_2 t145 _ ?side1 ?side2 A3.out).mono ?_); (case side1 => repeat (first | exact (Kd.C_below HR0_2.out HB.out) | (with_reducible refine Kd.C_alloc ?_ _) | (with_reducible refine Kd.C_drewN ?_ _) | (with_reducible refine Kd.C_drew ?_))); (case side2 => exact HC0_2.out); rintro e w49 ⟨rfl, hb⟩; refine ⟨_, rfl, ?_⟩; have n0_ := ak (kbe BK143.out hb); have n1_ := ak (kbe BK144.out hb); have n2_ := ak (bsp HB.out hb); clear BK143 BK144 HB; have BK143 := n0_; have BK144 := n1_; have HB := n2_; clear n0_ n1_ n2_; (try clear hb); (try clear hb2); (try clear hk); (try clear hi)))
  go_ret
  exact ⟨by first | rfl | (simp <;> rfl) | (simp [*] <;> rfl), by repeat (first | (with_reducible first | exact HB.out | apply bal | apply pbn | apply bd1 | refine bst ?_ GE143.out | refine bst ?_ GE144.out) | exact HB.out)⟩
def r44_Support.l0 : Nat → List Int → List Int → Int → Option (List Int)
 | 0, _, _, _ => none
 | k + 1, x0, x3, x4 => if x4 < (x0.length : Int) then (if 0 ≤ x4 then (if (rd x0 x4) = 0 then (r44_Support.l0 k x0 x3 (wrap64 (x4 + 1))) else (if x3.length < 17592186044416 then (r44_Support.l0 k x0 (x3 ++ [x4]) (wrap64 (x4 + 1))) else (none))) else (none)) else (some x3)
def r44_Support.f (k : Nat) (l0 : List Int) : Option (List Int) := r44_Support.l0 k l0 ([] : List Int) 0
theorem r44_Support.calls (k : Nat) (A0 : Option Addr) (c0 : Nat) (l0 : List Int) (r : List Int) (w : World) (hr0 : Kd.C (Kd.int .i64) w A0 l0.length l0) (hc0 : l0.length ≤ c0) (h : r44_Support.f k l0 = some r) :
  Calls Try.prog 43 #[.slice A0 l0.length c0] w fun e w' => ∃ v0_ : Value, e = .returned (v0_) ∧ Kd.R (Kd.int .i64) 3 w' w.heap.size (fun _ => True) v0_ r ∧ Below w.heap.size w w' := by
 have HR0 := ak hr0
 have HC0 := ak hc0
 clear hr0 hc0
 have HB := ak (Below.refl w.heap.size w)
 have H : (r44_Support.l0 k l0 ([] : List Int) 0) = some r := h
 clear h
 have H' := ak H
 clear H
 go_enter Try.func43, Try.ntmps43
 go_wp2
 go_loopg [3, 4] k (fun kq v3 v4 w' => ∃ (x3_1 : List Int) (x4_1 : Int), v4 = .int .i64 x4_1 ∧ Aside0 (r44_Support.l0 kq l0 x3_1 x4_1 = some r) ∧ Aside0 (kq ≤ k) ∧ Aside0 (Kd.R (Kd.int .i64) 3 w' w.heap.size (fun _ => True) v3 x3_1) ∧ Aside0 (Below w.heap.size w w'))
 case atStart => exact ⟨(([] : List Int)), (0), (by first | rfl | (simp; done) | (simp [*]; done)), H', ⟨Nat.le_refl _⟩, ⟨by first | exact Kd.R_nil _ _ _ _ _ | exact Kd.N_nil _ _ _ _ _ | exact Kd.V_nil _ _ _ _ _ | exact Kd.Q_nil _ _ _ _ _ | exact Kd.S_nil _ _ _ _ _⟩, ⟨by repeat (first | (with_reducible first | exact HB.out | apply bal | apply pbn | apply bd1) | exact HB.out)⟩⟩
 case round =>
  clear H'
  obtain ⟨x3_1, x4_1, rfl, HA, HK1, HO_3, HB⟩ := hrel
  cases gk with
  | zero => exact absurd HA.out (by simp [r44_Support.l0])
  | succ k1 =>
   have H := HA.out
   clear HA
   simp only [r44_Support.l0] at H
   by_cases c2 : x4_1 < (l0.length : Int)
   ·rw [if_pos c2] at H
    have c2b0 : decide (x4_1 < (l0.length : Int)) = true := det c2
    clear c2
    by_cases c3 : 0 ≤ x4_1
    ·rw [if_pos c3] at H
     have c3b0 : decide (0 ≤ x4_1) = true := det c3
     clear c3
     by_cases c4 : (rd l0 x4_1) = 0
     ·rw [if_pos c4] at H
      have c4b0 : ((rd l0 x4_1) == 0) = true := beq_iff_eq.mpr c4
      have c4b1 : ((rd l0 x4_1) != 0) = false := bnm c4
      clear c4
      have H' := ak H
      clear H
      have p149 : 0 ≤ (x4_1 : Int) := odt (by with_reducible assumption)
      have q149 : x4_1 < (l0.length : Int) := odt (by with_reducible assumption)
      obtain ⟨ad149, e149, hx149_0⟩ := Kd.at_int HR0.out x4_1 p149 q149
      cases e149
      replace hx149_0 := (HB.out.cell (World.block_lt_of_cell? w _ hx149_0)).trans hx149_0
      replace p149 := eq_true p149
      replace q149 := eq_true q149
      go_wp2
      go_roundg k1
      case measure => have := HK1.out; omega
      case rel => exact ⟨(x3_1), (wrap64 (x4_1 + 1)), (by first | rfl | (simp; done) | (simp [*]; done)), H', ⟨by have := HK1.out; omega⟩, ⟨by (with_reducible repeat (first | apply Kd.R_alloc | apply Kd.R_drewN | apply Kd.R_drew)); exact HO_3.out⟩, ⟨by repeat (first | (with_reducible first | exact HB.out | apply bal | apply pbn | apply bd1) | exact HB.out)⟩⟩
     ·rw [if_neg c4] at H
      have c4b0 : ((rd l0 x4_1) == 0) = false := bqm c4
      have c4b1 : ((rd l0 x4_1) != 0) = true := bne_iff_ne.mpr c4
      by_cases c5 : x3_1.length < 17592186044416
      ·rw [if_pos c5] at H
       have LMc5 := ak c5
       clear c5
       obtain ⟨y150, hy150⟩ : ∃ y_ : List Int, y_ = (x3_1 ++ [x4_1]) := ⟨_, rfl⟩
       replace H : (r44_Support.l0 k1 l0 y150 (wrap64 (x4_1 + 1))) = some r := by (rw [hy150]; with_reducible exact H)
       have Ny150 := ak hy150
       clear hy150
       have H' := ak H
       clear H
       have p149 : 0 ≤ (x4_1 : Int) := odt (by with_reducible assumption)
       have q149 : x4_1 < (l0.length : Int) := odt (by with_reducible assumption)
       obtain ⟨ad149, e149, hx149_0⟩ := Kd.at_int HR0.out x4_1 p149 q149
       cases e149
       replace hx149_0 := (HB.out.cell (World.block_lt_of_cell? w _ hx149_0)).trans hx149_0
       replace p149 := eq_true p149
       replace q149 := eq_true q149
       go_wp2_with (first | ((with_reducible refine gate_builtin (b := .append) (xs := #[.tmp 16, .tmp 18]) rfl ?_); at_builtin; refine Kd.R_append (Kd.int .i64) (w0 := w) w.heap.size rfl (.tmp 16) (.tmp 18) 22 3 (.int .i64 0) 8 rfl Try.underlying22 info3 rfl (by decide) (by omega) u3 x3_1 x4_1 [.int .i64 x4_1] (fun _ => True) (fun _ => False) rfl rfl ?aP (fun _ hk => hk.elim) ?aF ?aO ?aB ?aS ?aL ?_; (case aP => exact rfl); (case aB => exact (by repeat (first | (with_reducible first | exact HB.out | apply bal | apply pbn | apply bd1) | exact HB.out))); (case aF => exact (fun _ _ => trivial)); (case aO => exact (by (with_reducible repeat (first | apply Kd.R_alloc | apply Kd.R_drewN | apply Kd.R_drew)); exact HO_3.out)); (case aS => exact (bsz (by repeat (first | (with_reducible first | exact HB.out | apply bal | apply pbn | apply bd1) | exact HB.out)))); (case aL => have := LMc5.out; omega); intro v151 w6 ho hb hg hat; rw [← Ny150.out] at ho; have n0_ := ak (hb); have n1_ := ak (ho); clear HB HO_3; have HB := n0_; have HO152 := n1_; clear n0_ n1_; clear ho hb hg hat))
       go_roundg k1
       case measure => have := HK1.out; omega
       case rel => exact ⟨(y150), (wrap64 (x4_1 + 1)), (by first | rfl | (simp; done) | (simp [*]; done)), H', ⟨by have := HK1.out; omega⟩, ⟨by (with_reducible repeat (first | apply Kd.R_alloc | apply Kd.R_drewN | apply Kd.R_drew)); exact HO152.out⟩, ⟨by repeat (first | (with_reducible first | exact HB.out | apply bal | apply pbn | apply bd1) | exact HB.out)⟩⟩
      ·rw [if_neg c5] at H
       exact absurd H (by simp)
    ·rw [if_neg c3] at H
     exact absurd H (by simp)
   ·rw [if_neg c2] at H
    have c2b0 : decide (x4_1 < (l0.length : Int)) = false := dff c2
    clear c2
    obtain rfl := osi H
    go_wp2
    go_ret
    exact ⟨_, by first | rfl | (simp <;> rfl) | (simp [*] <;> rfl), by (with_reducible repeat (first | apply Kd.R_alloc | apply Kd.R_drewN | apply Kd.R_drew)); exact HO_3.out, by repeat (first | (with_reducible first | exact HB.out | apply bal | apply pbn | apply bd1) | exact HB.out)⟩
mutual
def r44_Graph.j0 : Nat → Bool → Int → List (List Int) → Option (Int × (List (List Int)) × Int)
 | 0, _, _, _ => none
 | k + 1, x23, x155000, x155001 => if x23 = true then (some (0, ([] : List (List Int)), 4)) else (r44_Graph.l0 k 0 x155000 x155001 x155000 ([] : List (List Int)))
def r44_Graph.l0 : Nat → Int → Int → List (List Int) → Int → List (List Int) → Option (Int × (List (List Int)) × Int)
 | 0, _, _, _, _, _ => none
 | k + 1, x8, x155000, x155001, x158000, x158001 => if x8 < (x155001.length : Int) then (if 0 ≤ x8 then ((r44_Support.f k (rd_L1 x155001 x8)).bind fun t159 => (if x158001.length < 5864062014805 then (r44_Graph.l0 k (wrap64 (x8 + 1)) x155000 x155001 x158000 (x158001 ++ [t159])) else (none))) else (none)) else (some (x158000, x158001, 0))
end
def r44_Graph.f (k : Nat) (a0_0 : Int) (a0_1 : Int) (l0_2 : List Int) (a1_0 : Int) (l1_1 : List (List Int)) : Option (Int × (List (List Int)) × Int) := (r9_Check.f k a0_0 a0_1 l0_2 a1_0 l1_1).bind fun t156 => (if t156 = 0 then (if a1_0 < 1 then (r44_Graph.j0 k true a1_0 l1_1) else (r44_Graph.j0 k (decide (a1_0 > 64)) a1_0 l1_1)) else (some (0, ([] : List (List Int)), t156)))
def r44_Graph.T10 : Bool × List (List Nat × List Nat) := (true, [([], []), ([0], [0]), ([], []), ([2], [2]), ([], []), ([3, 4], [3, 4]), ([5], [5]), ([6], [6]), ([7], [7]), ([1, 8, 7], [1, 8]), ([0, 1, 2, 3, 4, 5, 6, 7, 8, 9], []), ([10, 9, 9, 0, 1, 2, 3, 4, 5, 6, 7, 8, 9], [9, 10])])
def r44_Graph.B10 : List Nat := [0, 1, 0, 4, 0, 28, 60, 124, 252, 511, 1023, 2047]
theorem r44_Graph.tab10 : rtab .any (opsOf Try.f15 10) = r44_Graph.T10 := by kernel_rfl
theorem r44_Graph.bits10 : waitsOk r44_Graph.T10.2 r44_Graph.B10 = true := by kernel_rfl
theorem r44_Graph.calls (k : Nat) (a0_0 : Int) (a0_1 : Int) (A0_2 : Option Addr) (c0_2 : Nat) (l0_2 : List Int) (a1_0 : Int) (A1_1 : Option Addr) (c1_1 : Nat) (l1_1 : List (List Int)) (r1 : Int) (r2 : List (List Int)) (r3 : Int) (w : World) (hr0_2 : Kd.C (Kd.int .i64) w A0_2 l0_2.length l0_2) (hc0_2 : l0_2.length ≤ c0_2) (hr1_1 : Kd.C (Kd.slice 3 (Kd.int .i64)) w A1_1 l1_1.length l1_1) (hc1_1 : l1_1.length ≤ c1_1) (h : r44_Graph.f k a0_0 a0_1 l0_2 a1_0 l1_1 = some (r1, r2, r3)) :
  Calls Try.prog 15 #[.agg #[.int .i64 a0_0, .int .i64 a0_1, .slice A0_2 l0_2.length c0_2], .agg #[.int .i64 a1_0, .slice A1_1 l1_1.length c1_1]] w fun e w' => ∃ v1_ : Value, e = .returned (.tuple #[.agg #[.int .i64 r1, v1_], .int .i64 r3]) ∧ Kd.S (Kd.slice 3 (Kd.int .i64)) 22 w' w.heap.size (fun _ => True) v1_ r2 ∧ Below w.heap.size w w' := by
 have hu24 := Try.underlying24
 have hu27 := Try.underlying27
 have hu31 := Try.underlying31
 have HR0_2 := ak hr0_2
 have HC0_2 := ak hc0_2
 clear hr0_2 hc0_2
 have HR1_1 := ak hr1_1
 have HC1_1 := ak hc1_1
 clear hr1_1 hc1_1
 have HB := ak (Below.refl w.heap.size w)
 have H : ((r9_Check.f k a0_0 a0_1 l0_2 a1_0 l1_1).bind fun t156 => (if t156 = 0 then (if a1_0 < 1 then (r44_Graph.j0 k true a1_0 l1_1) else (r44_Graph.j0 k (decide (a1_0 > 64)) a1_0 l1_1)) else (some (0, ([] : List (List Int)), t156)))) = some (r1, r2, r3) := h
 clear h
 replace H := obm H
 obtain ⟨t156, A30, H⟩ := H
 replace H : (if t156 = 0 then (if a1_0 < 1 then (r44_Graph.j0 k true a1_0 l1_1) else (r44_Graph.j0 k (decide (a1_0 > 64)) a1_0 l1_1)) else (some (0, ([] : List (List Int)), t156))) = some (r1, r2, r3) := H
 have A3 := ak A30
 clear A30
 by_cases c4 : t156 = 0
 ·rw [if_pos c4] at H
  have c4b0 : (t156 == 0) = true := beq_iff_eq.mpr c4
  have c4b1 : (t156 != 0) = false := bnm c4
  clear c4
  have HC5 := ak H
  clear H
  go_enter Try.func15, Try.ntmps15
  go_upto_region 4 with (first | ((with_reducible refine gate_dst (N := 2) rfl ?_); refine box_event ?hg (N := 2) ?hd (cs := #[.int .i64 a0_0, .int .i64 a0_1, .slice A0_2 l0_2.length c0_2]) (t := 24) ?hr ?_; (case hd => rfl); (case hg => rfl); (case hr => first | (go_simp; done) | (go_simp; rfl)); intro gb153 hg w6 hbox hb; have n0_ := ak (bsp HB.out hb); have n1_ := ak (hbox); have n2_ := ak ((by rw [hg]; exact (bsz HB.out) : w.heap.size ≤ gb153)); have n3_ := ak ((by rw [hg]; exact (bsz HB.out) : w.heap.size ≤ gb153)); clear HB; have HB := n0_; have BK153 := n1_; have GW153 := n2_; have GE153 := n3_; clear n0_ n1_ n2_ n3_; clear hb hbox hg) | ((with_reducible refine gate_dst (N := 3) rfl ?_); refine box_event ?hg (N := 3) ?hd (cs := #[.int .i64 a1_0, .slice A1_1 l1_1.length c1_1]) (t := 27) ?hr ?_; (case hd => rfl); (case hg => rfl); (case hr => first | (go_simp; done) | (go_simp; rfl)); intro gb154 hg w7 hbox hb; have n0_ := ak (kbe BK153.out hb); have n1_ := ak (bsp HB.out hb); have n2_ := ak (hbox); have n3_ := ak ((by rw [hg]; exact (bsz HB.out) : w.heap.size ≤ gb154)); have n4_ := ak ((by rw [hg]; exact (bsz HB.out) : w.heap.size ≤ gb154)); have n5_ := ak ((by rw [hg]; exact Nat.ne_of_lt (klt BK153.out) : gb153 ≠ gb154)); have n6_ := ak ((by rw [hg]; exact Nat.ne_of_gt (klt BK153.out) : gb154 ≠ gb153)); clear BK153 HB; have BK153 := n0_; have HB := n1_; have BK154 := n2_; have GW154 := n3_; have GE154 := n4_; have NB153_154 := n5_; have NB154_153 := n6_; clear n0_ n1_ n2_ n3_ n4_ n5_ n6_; clear hb hbox hg) | ((with_reducible refine gate_dst (N := 4) rfl ?_); refine box_event ?hg (N := 4) ?hd (cs := #[.int .i64 0, .slice none 0 0]) (t := 31) ?hr ?_; (case hd => rfl); (case hg => rfl); (case hr => first | (go_simp; done) | (go_simp; rfl)); intro gb155 hg w8 hbox hb; have n0_ := ak (kbe BK153.out hb); have n1_ := ak (kbe BK154.out hb); have n2_ := ak (bsp HB.out hb); have n3_ := ak (hbox); have n4_ := ak ((by rw [hg]; exact (bsz HB.out) : w.heap.size ≤ gb155)); have n5_ := ak ((by rw [hg]; exact (bsz HB.out) : w.heap.size ≤ gb155)); have n6_ := ak ((by rw [hg]; exact Nat.ne_of_lt (klt BK153.out) : gb153 ≠ gb155)); have n7_ := ak ((by rw [hg]; exact Nat.ne_of_gt (klt BK153.out) : gb155 ≠ gb153)); have n8_ := ak ((by rw [hg]; exact Nat.ne_of_lt (klt BK154.out) : gb154 ≠ gb155)); have n9_ := ak ((by rw [hg]; exact Nat.ne_of_gt (klt BK154.out) : gb155 ≠ gb154)); clear BK153 BK154 HB; have BK153 := n0_; have BK154 := n1_; have HB := n2_; have BK155 := n3_; have GW155 := n4_; have GE155 := n5_; have NB153_155 := n6_; have NB155_153 := n7_; have NB154_155 := n8_; have NB155_154 := n9_; clear n0_ n1_ n2_ n3_ n4_ n5_ n6_ n7_ n8_ n9_; clear hb hbox hg; have hnb9 := NB153_154.out; have hnc9 := NB154_153.out; have hnb10 := NB153_155.out; have hnc10 := NB155_153.out; have hcz11_0 : w8.cell? ⟨gb153, 0, none⟩ = some (.int .i64 a0_0) := (kce BK153.out 0).trans rfl; have hcz11_1 : w8.cell? ⟨gb153, 1, none⟩ = some (.int .i64 a0_1) := (kce BK153.out 1).trans rfl; have hcz11_2 : w8.cell? ⟨gb153, 2, none⟩ = some (.slice A0_2 l0_2.length c0_2) := (kce BK153.out 2).trans rfl; have hnb12 := NB154_155.out; have hnc12 := NB155_154.out; have hcz13_0 : w8.cell? ⟨gb154, 0, none⟩ = some (.int .i64 a1_0) := (kce BK154.out 0).trans rfl; have hcz13_1 : w8.cell? ⟨gb154, 1, none⟩ = some (.slice A1_1 l1_1.length c1_1) := (kce BK154.out 1).trans rfl) | ((with_reducible refine gate_callee (f := 32) rfl ?_); refine goesL_ (some 11) rfl rfl Try.func32 (by kernel_rfl) rfl #[.agg #[.int .i64 a0_0, .int .i64 a0_1, .slice A0_2 l0_2.length c0_2], .agg #[.int .i64 a1_0, .slice A1_1 l1_1.length c1_1]] rfl (by (try simp only [List.map_toArray, List.map_cons, List.map_nil]); first | done | rfl) ?_; (with_reducible refine (r9_Check.calls k a0_0 a0_1 _ _ l0_2 a1_0 _ _ l1_1 t156 _ ?side1 ?side2 ?side3 ?side4 A3.out).mono ?_); (case side1 => repeat (first | exact (Kd.C_below HR0_2.out HB.out) | (with_reducible refine Kd.C_alloc ?_ _) | (with_reducible refine Kd.C_drewN ?_ _) | (with_reducible refine Kd.C_drew ?_))); (case side2 => exact HC0_2.out); (case side3 => repeat (first | exact (Kd.C_below HR1_1.out HB.out) | (with_reducible refine Kd.C_alloc ?_ _) | (with_reducible refine Kd.C_drewN ?_ _) | (with_reducible refine Kd.C_drew ?_))); (case side4 => exact HC1_1.out); rintro e w14 ⟨rfl, hb⟩; refine ⟨_, rfl, ?_⟩; have n0_ := ak (kbe BK153.out hb); have n1_ := ak (kbe BK154.out hb); have n2_ := ak (kbe BK155.out hb); have n3_ := ak (bsp HB.out hb); clear BK153 BK154 BK155 HB; have BK153 := n0_; have BK154 := n1_; have BK155 := n2_; have HB := n3_; clear n0_ n1_ n2_ n3_; (try clear hb); (try clear hb2); (try clear hk); (try clear hi)))
  go_cut [23] (fun v23 wc => ∃ (kq : Nat) (x23_4 : Bool), v23 = .bool x23_4 ∧ Aside0 (r44_Graph.j0 kq x23_4 a1_0 l1_1 = some (r1, r2, r3)) ∧ Aside0 (kq ≤ k) ∧ Aside0 (wc.heap[gb153]? = some (.cells #[.int .i64 a0_0, .int .i64 a0_1, (.slice A0_2 l0_2.length c0_2)] 24 (0, 0))) ∧ Aside0 (wc.heap[gb154]? = some (.cells #[.int .i64 a1_0, (.slice A1_1 l1_1.length c1_1)] 27 (0, 0))) ∧ Aside0 (wc.heap[gb155]? = some (.cells #[.int .i64 0, (.slice none 0 0)] 31 (0, 0))) ∧ Aside0 (Below w.heap.size w wc))
  case first =>
   have H := HC5.out
   clear HC5
   by_cases c15 : a1_0 < 1
   ·rw [if_pos c15] at H
    have c15b0 : decide (a1_0 < 1) = true := det c15
    clear c15
    (skip)
    have H' := ak H
    clear H
    have hnb16 := NB154_153.out
    have hnc16 := NB153_154.out
    have hnb17 := NB154_155.out
    have hnc17 := NB155_154.out
    have hcz18_0 : w14.cell? ⟨gb154, 0, none⟩ = some (.int .i64 a1_0) := (kce BK154.out 0).trans rfl
    have hcz18_1 : w14.cell? ⟨gb154, 1, none⟩ = some (.slice A1_1 l1_1.length c1_1) := (kce BK154.out 1).trans rfl
    have hfz18_0 := kfz BK154.out 0
    have hfz18_1 := kfz BK154.out 1
    go_wp2
    go_meet
    case rel => exact ⟨_, (true), (by first | rfl | (simp; done) | (simp [*]; done)), H', ⟨by first | omega | exact Nat.le_refl _⟩, ⟨by (with_reducible repeat (first | refine kdn ?_ _ | refine kdr ?_ | refine kal ?_ _)); exact BK153.out⟩, ⟨by (with_reducible repeat (first | refine kdn ?_ _ | refine kdr ?_ | refine kal ?_ _)); exact BK154.out⟩, ⟨by (with_reducible repeat (first | refine kdn ?_ _ | refine kdr ?_ | refine kal ?_ _)); exact BK155.out⟩, ⟨by repeat (first | (with_reducible first | exact HB.out | apply bal | apply pbn | apply bd1 | refine bst ?_ GE153.out | refine bst ?_ GE154.out | refine bst ?_ GE155.out) | exact HB.out)⟩⟩
   ·rw [if_neg c15] at H
    have c15b0 : decide (a1_0 < 1) = false := dff c15
    clear c15
    (skip)
    have H' := ak H
    clear H
    have hnb19 := NB154_153.out
    have hnc19 := NB153_154.out
    have hnb20 := NB154_155.out
    have hnc20 := NB155_154.out
    have hcz21_0 : w14.cell? ⟨gb154, 0, none⟩ = some (.int .i64 a1_0) := (kce BK154.out 0).trans rfl
    have hcz21_1 : w14.cell? ⟨gb154, 1, none⟩ = some (.slice A1_1 l1_1.length c1_1) := (kce BK154.out 1).trans rfl
    have hfz21_0 := kfz BK154.out 0
    have hfz21_1 := kfz BK154.out 1
    go_wp2
    go_meet
    case rel => exact ⟨_, (decide (a1_0 > 64)), (by first | rfl | (simp; done) | (simp [*]; done)), H', ⟨by first | omega | exact Nat.le_refl _⟩, ⟨by (with_reducible repeat (first | refine kdn ?_ _ | refine kdr ?_ | refine kal ?_ _)); exact BK153.out⟩, ⟨by (with_reducible repeat (first | refine kdn ?_ _ | refine kdr ?_ | refine kal ?_ _)); exact BK154.out⟩, ⟨by (with_reducible repeat (first | refine kdn ?_ _ | refine kdr ?_ | refine kal ?_ _)); exact BK155.out⟩, ⟨by repeat (first | (with_reducible first | exact HB.out | apply bal | apply pbn | apply bd1 | refine bst ?_ GE153.out | refine bst ?_ GE154.out | refine bst ?_ GE155.out) | exact HB.out)⟩⟩
  case rest =>
   clear HC5
   try (clear c4b0)
   try (clear c4b1)
   try (clear hcz11_0)
   try (clear hcz11_1)
   try (clear hcz11_2)
   try (clear hcz13_0)
   try (clear hcz13_1)
   obtain ⟨kq, x23_4, rfl, HA, HJ4, BK153, BK154, BK155, HB⟩ := hcut
   cases kq with
   | zero => exact absurd HA.out (by simp [r44_Graph.j0])
   | succ kj4 =>
    have H := HA.out
    clear HA
    simp only [r44_Graph.j0] at H
    by_cases c22 : x23_4 = true
    ·subst c22
     have H1 : (some (0, ([] : List (List Int)), 4)) = some (r1, r2, r3) := by rw [if_pos rfl] at H; exact H
     clear H
     have H := H1
     clear H1
     simp only [Option.some.injEq, Prod.mk.injEq] at H
     obtain ⟨rfl, rfl, rfl⟩ := H
     have hnb23 := NB155_153.out
     have hnc23 := NB153_155.out
     have hnb24 := NB155_154.out
     have hnc24 := NB154_155.out
     have hcz25_0 : wc.cell? ⟨gb155, 0, none⟩ = some (.int .i64 0) := (kce BK155.out 0).trans rfl
     have hcz25_1 : wc.cell? ⟨gb155, 1, none⟩ = some (.slice none 0 0) := (kce BK155.out 1).trans rfl
     have hfz25_0 := kfz BK155.out 0
     have hfz25_1 := kfz BK155.out 1
     go_wp2
     refine bodyPost_ret (results_ct rfl _ _ gb155 31 #[.int .i64 0, .slice none 0 0] (0, 0) _ rfl (by (with_reducible repeat (first | refine kdn ?_ _ | refine kdr ?_ | refine kal ?_ _)); refine blk_put (cs := #[.int .i64 0, .slice none 0 0]) ?_ 1 _ rfl; (with_reducible repeat (first | refine kdn ?_ _ | refine kdr ?_ | refine kal ?_ _)); refine blk_put (cs := #[.int .i64 0, .slice none 0 0]) ?_ 0 _ rfl; (with_reducible repeat (first | refine kdn ?_ _ | refine kdr ?_ | refine kal ?_ _)); exact BK155.out) Try.underlying31 rfl (by kernel_rfl)) rfl ?_
     exact ⟨_, by first | rfl | (simp <;> rfl) | (simp [*] <;> rfl), by first | exact Kd.S_nil _ _ _ _ _ | exact Kd.N_nil _ _ _ _ _ | exact Kd.V_nil _ _ _ _ _ | exact Kd.Q_nil _ _ _ _ _ | exact Kd.R_nil _ _ _ _ _, by repeat (first | (with_reducible first | exact HB.out | apply bal | apply pbn | apply bd1 | refine bst ?_ GE153.out | refine bst ?_ GE154.out | refine bst ?_ GE155.out) | exact HB.out)⟩
    ·replace c22 := Bool.eq_false_iff.mpr c22
     subst c22
     have H1 : (r44_Graph.l0 kj4 0 a1_0 l1_1 a1_0 ([] : List (List Int))) = some (r1, r2, r3) := by rw [if_neg (show ¬ (false = true) by decide)] at H; exact H
     clear H
     have H := H1
     clear H1
     have H' := ak H
     clear H
     have hnb26 := NB154_153.out
     have hnc26 := NB153_154.out
     have hnb27 := NB154_155.out
     have hnc27 := NB155_154.out
     have hcz28_0 : wc.cell? ⟨gb154, 0, none⟩ = some (.int .i64 a1_0) := (kce BK154.out 0).trans rfl
     have hcz28_1 : wc.cell? ⟨gb154, 1, none⟩ = some (.slice A1_1 l1_1.length c1_1) := (kce BK154.out 1).trans rfl
     have hfz28_0 := kfz BK154.out 0
     have hfz28_1 := kfz BK154.out 1
     go_wp2_with (first | ((with_reducible refine gate_dst (N := 7) rfl ?_); refine box_event ?hg (N := 7) ?hd (cs := #[.int .i64 0, .slice none 0 0]) (t := 31) ?hr ?_; (case hd => rfl); (case hg => rfl); (case hr => first | (go_simp; done) | (go_simp; rfl)); intro gb157 hg w29 hbox hb; have n0_ := ak (kbe (g := gb153) (o := .cells #[.int .i64 a0_0, .int .i64 a0_1, .slice A0_2 l0_2.length c0_2] 24 (0, 0)) (by (with_reducible repeat (first | refine kdn ?_ _ | refine kdr ?_ | refine kal ?_ _)); exact BK153.out) hb); have n1_ := ak (kbe (g := gb154) (o := .cells #[.int .i64 a1_0, .slice A1_1 l1_1.length c1_1] 27 (0, 0)) (by (with_reducible repeat (first | refine kdn ?_ _ | refine kdr ?_ | refine kal ?_ _)); exact BK154.out) hb); have n2_ := ak (kbe (g := gb155) (o := .cells #[.int .i64 0, .slice none 0 0] 31 (0, 0)) (by (with_reducible repeat (first | refine kdn ?_ _ | refine kdr ?_ | refine kal ?_ _)); exact BK155.out) hb); have n3_ := ak (bsp (by repeat (first | (with_reducible first | exact HB.out | apply bal | apply pbn | apply bd1 | refine bst ?_ GE153.out | refine bst ?_ GE154.out | refine bst ?_ GE155.out) | exact HB.out)) hb); have n4_ := ak (hbox); have n5_ := ak ((by rw [hg]; exact (bsz (by repeat (first | (with_reducible first | exact HB.out | apply bal | apply pbn | apply bd1 | refine bst ?_ GE153.out | refine bst ?_ GE154.out | refine bst ?_ GE155.out) | exact HB.out))) : w.heap.size ≤ gb157)); have n6_ := ak ((by rw [hg]; exact (bsz (by repeat (first | (with_reducible first | exact HB.out | apply bal | apply pbn | apply bd1 | refine bst ?_ GE153.out | refine bst ?_ GE154.out | refine bst ?_ GE155.out) | exact HB.out))) : w.heap.size ≤ gb157)); have n7_ := ak ((by rw [hg]; exact Nat.ne_of_lt (klt (g := gb153) (o := .cells #[.int .i64 a0_0, .int .i64 a0_1, .slice A0_2 l0_2.length c0_2] 24 (0, 0)) (by (with_reducible repeat (first | refine kdn ?_ _ | refine kdr ?_ | refine kal ?_ _)); exact BK153.out)) : gb153 ≠ gb157)); have n8_ := ak ((by rw [hg]; exact Nat.ne_of_gt (klt (g := gb153) (o := .cells #[.int .i64 a0_0, .int .i64 a0_1, .slice A0_2 l0_2.length c0_2] 24 (0, 0)) (by (with_reducible repeat (first | refine kdn ?_ _ | refine kdr ?_ | refine kal ?_ _)); exact BK153.out)) : gb157 ≠ gb153)); have n9_ := ak ((by rw [hg]; exact Nat.ne_of_lt (klt (g := gb154) (o := .cells #[.int .i64 a1_0, .slice A1_1 l1_1.length c1_1] 27 (0, 0)) (by (with_reducible repeat (first | refine kdn ?_ _ | refine kdr ?_ | refine kal ?_ _)); exact BK154.out)) : gb154 ≠ gb157)); have n10_ := ak ((by rw [hg]; exact Nat.ne_of_gt (klt (g := gb154) (o := .cells #[.int .i64 a1_0, .slice A1_1 l1_1.length c1_1] 27 (0, 0)) (by (with_reducible repeat (first | refine kdn ?_ _ | refine kdr ?_ | refine kal ?_ _)); exact BK154.out)) : gb157 ≠ gb154)); have n11_ := ak ((by rw [hg]; exact Nat.ne_of_lt (klt (g := gb155) (o := .cells #[.int .i64 0, .slice none 0 0] 31 (0, 0)) (by (with_reducible repeat (first | refine kdn ?_ _ | refine kdr ?_ | refine kal ?_ _)); exact BK155.out)) : gb155 ≠ gb157)); have n12_ := ak ((by rw [hg]; exact Nat.ne_of_gt (klt (g := gb155) (o := .cells #[.int .i64 0, .slice none 0 0] 31 (0, 0)) (by (with_reducible repeat (first | refine kdn ?_ _ | refine kdr ?_ | refine kal ?_ _)); exact BK155.out)) : gb157 ≠ gb155)); clear BK153 BK154 BK155 HB; have BK153 := n0_; have BK154 := n1_; have BK155 := n2_; have HB := n3_; have BK157 := n4_; have GW157 := n5_; have GE157 := n6_; have NB153_157 := n7_; have NB157_153 := n8_; have NB154_157 := n9_; have NB157_154 := n10_; have NB155_157 := n11_; have NB157_155 := n12_; clear n0_ n1_ n2_ n3_ n4_ n5_ n6_ n7_ n8_ n9_ n10_ n11_ n12_; clear hb hbox hg; have hnb30 := NB157_153.out; have hnc30 := NB153_157.out; have hnb31 := NB157_154.out; have hnc31 := NB154_157.out; have hnb32 := NB157_155.out; have hnc32 := NB155_157.out; have hcz33_0 : w29.cell? ⟨gb157, 0, none⟩ = some (.int .i64 0) := (kce BK157.out 0).trans rfl; have hcz33_1 : w29.cell? ⟨gb157, 1, none⟩ = some (.slice none 0 0) := (kce BK157.out 1).trans rfl; have hfz33_0 := kfz BK157.out 0; have hfz33_1 := kfz BK157.out 1))
     go_loopg [8] kj4 (fun kq v8 w' => ∃ (x8_2 : Int) (x158001_2 : List (List Int)) (u158001 : Value), v8 = .int .i64 x8_2 ∧ Aside0 (r44_Graph.l0 kq x8_2 a1_0 l1_1 a1_0 x158001_2 = some (r1, r2, r3)) ∧ Aside0 (kq ≤ kj4) ∧ Aside0 (Kd.S (Kd.slice 3 (Kd.int .i64)) 22 w' w.heap.size (fun _ => True) u158001 x158001_2) ∧ Aside0 (w'.heap[gb153]? = some (.cells #[.int .i64 a0_0, .int .i64 a0_1, (.slice A0_2 l0_2.length c0_2)] 24 (0, 0))) ∧ Aside0 (w'.heap[gb154]? = some (.cells #[.int .i64 a1_0, (.slice A1_1 l1_1.length c1_1)] 27 (0, 0))) ∧ Aside0 (w'.heap[gb155]? = some (.cells #[.int .i64 0, (.slice none 0 0)] 31 (0, 0))) ∧ Aside0 (w'.heap[gb157]? = some (.cells #[.int .i64 a1_0, u158001] 31 (0, 0))) ∧ Aside0 (Below w.heap.size w w'))
     case atStart => exact ⟨(0), (([] : List (List Int))), (.slice none 0 0), (by first | rfl | (simp; done) | (simp [*]; done)), H', ⟨Nat.le_refl _⟩, ⟨by first | exact Kd.S_nil _ _ _ _ _ | exact Kd.N_nil _ _ _ _ _ | exact Kd.V_nil _ _ _ _ _ | exact Kd.Q_nil _ _ _ _ _ | exact Kd.R_nil _ _ _ _ _⟩, ⟨by (with_reducible repeat (first | refine kdn ?_ _ | refine kdr ?_ | refine kal ?_ _)); refine blk_far ?_ NB153_157.out _; (with_reducible repeat (first | refine kdn ?_ _ | refine kdr ?_ | refine kal ?_ _)); refine blk_far ?_ NB153_157.out _; (with_reducible repeat (first | refine kdn ?_ _ | refine kdr ?_ | refine kal ?_ _)); exact BK153.out⟩, ⟨by (with_reducible repeat (first | refine kdn ?_ _ | refine kdr ?_ | refine kal ?_ _)); refine blk_far ?_ NB154_157.out _; (with_reducible repeat (first | refine kdn ?_ _ | refine kdr ?_ | refine kal ?_ _)); refine blk_far ?_ NB154_157.out _; (with_reducible repeat (first | refine kdn ?_ _ | refine kdr ?_ | refine kal ?_ _)); exact BK154.out⟩, ⟨by (with_reducible repeat (first | refine kdn ?_ _ | refine kdr ?_ | refine kal ?_ _)); refine blk_far ?_ NB155_157.out _; (with_reducible repeat (first | refine kdn ?_ _ | refine kdr ?_ | refine kal ?_ _)); refine blk_far ?_ NB155_157.out _; (with_reducible repeat (first | refine kdn ?_ _ | refine kdr ?_ | refine kal ?_ _)); exact BK155.out⟩, ⟨by (with_reducible repeat (first | refine kdn ?_ _ | refine kdr ?_ | refine kal ?_ _)); refine blk_put (cs := #[.int .i64 a1_0, .slice none 0 0]) ?_ 1 _ rfl; (with_reducible repeat (first | refine kdn ?_ _ | refine kdr ?_ | refine kal ?_ _)); refine blk_put (cs := #[.int .i64 0, .slice none 0 0]) ?_ 0 _ rfl; (with_reducible repeat (first | refine kdn ?_ _ | refine kdr ?_ | refine kal ?_ _)); exact BK157.out⟩, ⟨by repeat (first | (with_reducible first | exact HB.out | apply bal | apply pbn | apply bd1 | refine bst ?_ GE153.out | refine bst ?_ GE154.out | refine bst ?_ GE155.out | refine bst ?_ GE157.out) | exact HB.out)⟩⟩
     case round =>
      clear H'
      try (clear hcz28_0)
      try (clear hcz28_1)
      try (clear hcz33_0)
      try (clear hcz33_1)
      try (clear hfz28_0)
      try (clear hfz28_1)
      try (clear hfz33_0)
      try (clear hfz33_1)
      obtain ⟨x8_2, x158001_2, u158001, rfl, HA, HK2, HO_158001, BK153, BK154, BK155, BK157, HB⟩ := hrel
      cases gk with
      | zero => exact absurd HA.out (by simp [r44_Graph.l0])
      | succ k2 =>
       have H := HA.out
       clear HA
       simp only [r44_Graph.l0] at H
       by_cases c34 : x8_2 < (l1_1.length : Int)
       ·rw [if_pos c34] at H
        have c34b0 : decide (x8_2 < (l1_1.length : Int)) = true := det c34
        clear c34
        by_cases c35 : 0 ≤ x8_2
        ·rw [if_pos c35] at H
         have c35b0 : decide (0 ≤ x8_2) = true := det c35
         clear c35
         replace H := obm H
         obtain ⟨t159, A360, H⟩ := H
         replace H : (if x158001_2.length < 5864062014805 then (r44_Graph.l0 k2 (wrap64 (x8_2 + 1)) a1_0 l1_1 a1_0 (x158001_2 ++ [t159])) else (none)) = some (r1, r2, r3) := H
         have A36 := ak A360
         clear A360
         by_cases c37 : x158001_2.length < 5864062014805
         ·rw [if_pos c37] at H
          have LMc37 := ak c37
          clear c37
          obtain ⟨y162, hy162⟩ : ∃ y_ : List (List Int), y_ = (x158001_2 ++ [t159]) := ⟨_, rfl⟩
          replace H : (r44_Graph.l0 k2 (wrap64 (x8_2 + 1)) a1_0 l1_1 a1_0 y162) = some (r1, r2, r3) := by (rw [hy162]; with_reducible exact H)
          have Ny162 := ak hy162
          clear hy162
          have H' := ak H
          clear H
          have hnb38 := NB154_153.out
          have hnc38 := NB153_154.out
          have hnb39 := NB154_155.out
          have hnc39 := NB155_154.out
          have hnb40 := NB154_157.out
          have hnc40 := NB157_154.out
          have hcz41_0 : wr.cell? ⟨gb154, 0, none⟩ = some (.int .i64 a1_0) := (kce BK154.out 0).trans rfl
          have hcz41_1 : wr.cell? ⟨gb154, 1, none⟩ = some (.slice A1_1 l1_1.length c1_1) := (kce BK154.out 1).trans rfl
          have hfz41_0 := kfz BK154.out 0
          have hfz41_1 := kfz BK154.out 1
          try (go_wp2)
          have n0_ := ak (Kd.S_drew HO_158001.out)
          have n1_ := ak (kdr BK153.out)
          have n2_ := ak (kdr BK154.out)
          have n3_ := ak (kdr BK155.out)
          have n4_ := ak (kdr BK157.out)
          have n5_ := ak (bd1 HB.out)
          clear HO_158001
          clear BK153
          clear BK154
          clear BK155
          clear BK157
          clear HB
          have HO_158001 := n0_
          have BK153 := n1_
          have BK154 := n2_
          have BK155 := n3_
          have BK157 := n4_
          have HB := n5_
          clear n0_ n1_ n2_ n3_ n4_ n5_
          have p158 : 0 ≤ (x8_2 : Int) := odt (by with_reducible assumption)
          have q158 : x8_2 < (l1_1.length : Int) := odt (by with_reducible assumption)
          obtain ⟨ad158, A158_0, c158_0, e158, hx158_0, hl158_0, hi158_0⟩ := at_L1 HR1_1.out x8_2 p158 q158
          have hw158_0 := hx158_0
          cases e158
          replace hx158_0 := (HB.out.cell (World.block_lt_of_cell? w _ hx158_0)).trans hx158_0
          have HR158_0 := ak hi158_0
          have HC158_0 := ak hl158_0
          clear hi158_0 hl158_0
          replace p158 := eq_true p158
          replace q158 := eq_true q158
          refine start_ (n := 12) (S := fun w' => w'.cell? ⟨gb157, 0, none⟩ = some (.int .i64 a1_0) ∧ w'.cell? ⟨gb157, 1, none⟩ = some (u158001) ∧ w'.cell? ⟨gb154, 0, none⟩ = some (.int .i64 a1_0) ∧ w'.cell? ⟨gb154, 1, none⟩ = some (.slice (some ad158) l1_1.length c1_1) ∧ w'.cell? (ad158.add (x8_2).toNat) = some (.slice A158_0 (rd_L1 l1_1 x8_2).length c158_0)) (ds := [11]) #[false, false, false, false, false, false, false, false, false, false, false, false] (by kernel_rfl) rfl rfl ⟨(kce BK157.out 0).trans rfl, (kce BK157.out 1).trans rfl, (kce BK154.out 0).trans rfl, (kce BK154.out 1).trans rfl, ((HB.out.cell (World.block_lt_of_cell? w _ hw158_0)).trans hw158_0)⟩ (fun hHeld => ?_); refine with_tabW r44_Graph.tab10 r44_Graph.bits10 (fun HT_ HW_ => ?_)
          generalize wr.drew = w42 at HO_158001 BK153 BK154 BK155 BK157 HB HR158_0 hx158_0 hHeld ⊢
          refine pure_ (i := 0) (N := some 35) (v := ?_) (a' := ?_) #[true, false, false, false, false, false, false, false, false, false, false, false] rfl rfl (any_of HT_.out (by kernel_rfl)) (fun _ _ _ h => h) (Or.inl ⟨by rfl, ?_⟩) ?_ ?_
          rotate_left
          ·intro w'
           go_simp
           with_reducible rfl
          rotate_left
          ·simp only [Act.put, sia, scz, scs, i64_w, i32_w]
           rfl
          refine pure_ (i := 2) (N := some 37) (v := ?_) (a' := ?_) #[true, false, true, false, false, false, false, false, false, false, false, false] rfl rfl (any_of HT_.out (by kernel_rfl)) (fun _ _ _ h => h) (Or.inl ⟨by rfl, ?_⟩) ?_ ?_
          rotate_left
          ·intro w'
           go_simp
           with_reducible rfl
          rotate_left
          ·simp only [Act.put, sia, scz, scs, i64_w, i32_w]
           rfl
          refine pure_ (i := 4) (N := some 39) (v := ?_) (a' := ?_) #[true, false, true, false, true, false, false, false, false, false, false, false] rfl rfl (any_of HT_.out (by kernel_rfl)) (fun _ _ _ h => h) (Or.inl ⟨by rfl, ?_⟩) ?_ ?_
          rotate_left
          ·intro w'
           go_simp
           with_reducible rfl
          rotate_left
          ·simp only [Act.put, sia, scz, scs, i64_w, i32_w]
           rfl
          refine take_ (i := 1) (N := some 36) (v := ?_) (a' := ?_) #[true, true, true, false, true, false, false, false, false, false, false, false] rfl rfl (take_ofW HT_.out HW_.out (by kernel_rfl)) (fun _ _ _ h => h) (Or.inl ⟨by rfl, ?_⟩) hHeld ?_ ?_
          rotate_left
          ·rintro w' ⟨s0, s1, s2, s3, s4⟩
           go_simp
           with_reducible rfl
          rotate_left
          ·simp only [Act.put, sia, scz, scs, i64_w, i32_w]
           rfl
          refine take_ (i := 3) (N := some 38) (v := ?_) (a' := ?_) #[true, true, true, true, true, false, false, false, false, false, false, false] rfl rfl (take_ofW HT_.out HW_.out (by kernel_rfl)) (fun _ _ _ h => h) (Or.inl ⟨by rfl, ?_⟩) hHeld ?_ ?_
          rotate_left
          ·rintro w' ⟨s0, s1, s2, s3, s4⟩
           go_simp
           with_reducible rfl
          rotate_left
          ·simp only [Act.put, sia, scz, scs, i64_w, i32_w]
           rfl
          refine pure_ (i := 5) (N := some 40) (v := ?_) (a' := ?_) #[true, true, true, true, true, true, false, false, false, false, false, false] rfl rfl (any_of HT_.out (by kernel_rfl)) (fun _ _ _ h => h) (Or.inl ⟨by rfl, ?_⟩) ?_ ?_
          rotate_left
          ·intro w'
           go_simp
           with_reducible rfl
          rotate_left
          ·simp only [Act.put, sia, scz, scs, i64_w, i32_w]
           rfl
          refine take_ (i := 6) (N := some 41) (v := ?_) (a' := ?_) #[true, true, true, true, true, true, true, false, false, false, false, false] rfl rfl (take_ofW HT_.out HW_.out (by kernel_rfl)) (fun _ _ _ h => h) (Or.inl ⟨by rfl, ?_⟩) hHeld ?_ ?_
          rotate_left
          ·rintro w' ⟨s0, s1, s2, s3, s4⟩
           go_simp
           with_reducible rfl
          rotate_left
          ·simp only [Act.put, sia, scz, scs, i64_w, i32_w]
           rfl
          refine one_ (i := 7) (N := some 42) #[true, true, true, true, true, true, true, true, false, false, false, false] rfl rfl (one_of HT_.out (by kernel_rfl)) (by decide) (fun K hK => ?_)
          refine goes_ Try.func43 (by kernel_rfl) rfl #[.slice A158_0 (rd_L1 l1_1 x8_2).length c158_0] (by rfl) rfl rfl (by (try (simp only [List.map_toArray, List.map_cons, List.map_nil])); rfl) ?_
          with_reducible refine (r44_Support.calls k2 _ _ (rd_L1 l1_1 x8_2) t159 _ ?side1 ?side2 A36.out).mono ?_
          (case side1 => repeat (first | exact (Kd.C_below HR158_0.out HB.out) | (with_reducible refine Kd.C_alloc ?_ _) | (with_reducible refine Kd.C_drewN ?_ _) | (with_reducible refine Kd.C_drew ?_)))
          (case side2 => exact HC158_0.out)
          rintro e w43 ⟨v160, rfl, ho0, hb⟩
          refine ⟨_, rfl, ?_⟩
          have n0_ := ak (Kd.S_elder' (by (with_reducible repeat (first | apply Kd.S_alloc | apply Kd.S_drewN | apply Kd.S_drew)); exact HO_158001.out) (Kd.R_base ho0) hb)
          have n1_ := ak (Kd.R_lower ho0 (bsz HB.out))
          have n2_ := ak (kbe BK153.out hb)
          have n3_ := ak (kbe BK154.out hb)
          have n4_ := ak (kbe BK155.out hb)
          have n5_ := ak (kbe BK157.out hb)
          have n6_ := ak (bsp HB.out hb)
          clear HO_158001
          clear BK153
          clear BK154
          clear BK155
          clear BK157
          clear HB
          have HO_158001 := n0_
          have HO161 := n1_
          have BK153 := n2_
          have BK154 := n3_
          have BK155 := n4_
          have BK157 := n5_
          have HB := n6_
          clear n0_ n1_ n2_ n3_ n4_ n5_ n6_
          (try (clear hb))
          (try (clear ho0))
          obtain ⟨Ao45, co45, eo45⟩ := Kd.R_slice HO161.out
          (subst eo45)
          refine hK.out _ _ ⟨(kce BK157.out 0).trans rfl, (kce BK157.out 1).trans rfl, (kce BK154.out 0).trans rfl, (kce BK154.out 1).trans rfl, ((HB.out.cell (World.block_lt_of_cell? w _ hw158_0)).trans hw158_0)⟩ (fun hHeld => ?_)
          clear hK K
          refine norm_ (a' := ?_) ?_ ?_
          rotate_left
          ·show Act.put _ (some 42) _ = _
           simp only [Act.put, sia, scz, scs, i64_w, i32_w]
           rfl
          refine one_ (i := 8) (N := some 43) #[true, true, true, true, true, true, true, true, true, false, false, false] rfl rfl (one_of HT_.out (by kernel_rfl)) (by decide) (fun K hK => ?_)
          refine value_ (w1 := ?_) (v := ?_) (by rfl) rfl ?_ ?_
          rotate_left 2
          ·go_simp
           constructor
           ·rfl
           ·rfl
          refine hK.out _ _ ⟨(kce (kal BK157.out _) 0).trans rfl, (kce (kal BK157.out _) 1).trans rfl, (kce (kal BK154.out _) 0).trans rfl, (kce (kal BK154.out _) 1).trans rfl, (World.cell?_alloc_lt _ _ _ (World.block_lt_of_cell? _ _ (((HB.out.cell (World.block_lt_of_cell? w _ hw158_0)).trans hw158_0)))).trans (((HB.out.cell (World.block_lt_of_cell? w _ hw158_0)).trans hw158_0))⟩ (fun hHeld => ?_)
          clear hK K
          refine norm_ (a' := ?_) ?_ ?_
          rotate_left
          ·show Act.put _ (some 43) _ = _
           simp only [Act.put, sia, scz, scs, i64_w, i32_w]
           rfl
          refine one_ (i := 9) (N := some 44) #[true, true, true, true, true, true, true, true, true, true, false, false] rfl rfl (one_of HT_.out (by kernel_rfl)) (by decide) (fun K hK => ?_)
          refine Kd.S_append_step (Kd.slice 3 (Kd.int .i64)) (w0 := w) w.heap.size (by rfl) (.tmp 36) (.tmp 43) 25 22 (.slice none 0 0) 24 rfl Try.underlying25 info22 rfl (by decide) (by omega) u158001 x158001_2 t159 [.slice Ao45 t159.length co45] (fun _ => True) (fun k_ => some k_ = (.slice Ao45 t159.length co45 : Value).ownBlock) rfl rfl ?aP (fun k_ hk_ => ((Kd.R_mono (ok' := fun k_ => ((fun _ => True)) k_ ∧ some k_ ≠ (u158001 : Value).ownBlock) (Kd.R_apart' (HO161.out) (Kd.S_typed HO_158001.out) (by decide)) (fun k_ hk => ⟨trivial, hk.2⟩))).1 k_ hk_.symm) ?aF ?aO ?aB ?aS ?aL ?_
          (case aP => exact Kd.M_row (Kd.R_mono (Kd.R_tight rfl (Kd.R_mono (ok' := fun k_ => ((fun _ => True)) k_ ∧ some k_ ≠ (u158001 : Value).ownBlock) (Kd.R_apart' (HO161.out) (Kd.S_typed HO_158001.out) (by decide)) (fun k_ hk => ⟨trivial, hk.2⟩))) (fun _ h_ => h_)))
          (case aB => exact HB.out)
          (case aF => exact (fun _ _ => trivial))
          (case aO => exact (by (with_reducible repeat (first | apply Kd.S_alloc | apply Kd.S_drewN | apply Kd.S_drew)); exact Kd.S_mono HO_158001.out (fun k_ hk => ⟨trivial, fun e_ => hk.2 e_⟩)))
          (case aS => exact (bsz HB.out))
          (case aL => have := LMc37.out; omega)
          intro v163 w44 ho hb hg hat
          rw [← Ny162.out] at ho
          have n0_ := ak (blk_grown (g := gb153) (o := .cells #[.int .i64 a0_0, .int .i64 a0_1, .slice A0_2 l0_2.length c0_2] 24 (0, 0)) BK153.out hg (Kd.S_ne HO_158001.out BK153.out (by decide)))
          have n1_ := ak (blk_grown (g := gb154) (o := .cells #[.int .i64 a1_0, .slice (some ad158) l1_1.length c1_1] 27 (0, 0)) BK154.out hg (Kd.S_ne HO_158001.out BK154.out (by decide)))
          have n2_ := ak (blk_grown (g := gb155) (o := .cells #[.int .i64 0, .slice none 0 0] 31 (0, 0)) BK155.out hg (Kd.S_ne HO_158001.out BK155.out (by decide)))
          have n3_ := ak (blk_grown (g := gb157) (o := .cells #[.int .i64 a1_0, u158001] 31 (0, 0)) BK157.out hg (Kd.S_ne HO_158001.out BK157.out (by decide)))
          have n4_ := ak (hb)
          have n5_ := ak (ho)
          clear BK153
          clear BK154
          clear BK155
          clear BK157
          clear HB
          clear HO_158001
          clear HO161
          have BK153 := n0_
          have BK154 := n1_
          have BK155 := n2_
          have BK157 := n3_
          have HB := n4_
          have HO164 := n5_
          clear n0_ n1_ n2_ n3_ n4_ n5_
          clear ho hb hg hat
          obtain ⟨Ao46, co46, eo46⟩ := Kd.S_slice HO164.out
          (subst eo46)
          refine hK.out _ _ ⟨(kce BK157.out 0).trans rfl, (kce BK157.out 1).trans rfl, (kce BK154.out 0).trans rfl, (kce BK154.out 1).trans rfl, ((HB.out.cell (World.block_lt_of_cell? w _ hw158_0)).trans hw158_0)⟩ (fun hHeld => ?_)
          clear hK K
          refine norm_ (a' := ?_) ?_ ?_
          rotate_left
          ·show Act.put _ (some 44) _ = _
           simp only [Act.put, sia, scz, scs, i64_w, i32_w]
           rfl
          refine pure_ (i := 10) (N := some 45) (v := ?_) (a' := ?_) #[true, true, true, true, true, true, true, true, true, true, true, false] rfl rfl (any_of HT_.out (by kernel_rfl)) (fun _ _ _ h => h) (Or.inl ⟨by rfl, ?_⟩) ?_ ?_
          rotate_left
          ·intro w'
           go_simp
           with_reducible rfl
          rotate_left
          ·simp only [Act.put, sia, scz, scs, i64_w, i32_w]
           rfl
          refine last_ (i := 11) (N := none) #[true, true, true, true, true, true, true, true, true, true, true, true] rfl rfl (one_of HT_.out (by kernel_rfl)) (by decide) (fun K hK => ?_)
          have hs47 : w44.cell? ⟨gb157, 1, none⟩ = some (u158001) := (kce BK157.out 1).trans rfl
          have hfs47 := kfz BK157.out 1
          have hns47_0 := NB153_157.out
          have hns47_1 := NB154_157.out
          have hns47_2 := NB155_157.out
          have hms47_0 := NB157_153.out
          have hms47_1 := NB157_154.out
          have hms47_2 := NB157_155.out
          refine skip_ (w1 := ?_) (by rfl) rfl ?_ ?_
          rotate_left
          ·go_simp
           rfl
          refine hK.out _ _ ?_
          clear hK K
          refine done_ (done_of HT_.out (by kernel_rfl)) ?_
          try (go_wp2)
          go_roundg k2
          case measure => have := HJ4.out; have := HK2.out; omega
          case rel => exact ⟨(wrap64 (x8_2 + 1)), (y162), (.slice Ao46 y162.length co46), (by first | rfl | (simp; done) | (simp [*]; done)), H', ⟨by have := HJ4.out; have := HK2.out; omega⟩, ⟨by (with_reducible repeat (first | apply Kd.S_alloc | apply Kd.S_drewN | apply Kd.S_drew)); exact Kd.S_mono (Kd.S_far (p := ⟨gb157, 1, none⟩) (Kd.S_types HO164.out BK157.out (by decide)) (fun _ hk => hk.2) (.slice Ao46 y162.length co46)) (fun _ hk => trivial)⟩, ⟨by (with_reducible repeat (first | refine kdn ?_ _ | refine kdr ?_ | refine kal ?_ _)); refine blk_far ?_ NB153_157.out _; (with_reducible repeat (first | refine kdn ?_ _ | refine kdr ?_ | refine kal ?_ _)); exact BK153.out⟩, ⟨by (with_reducible repeat (first | refine kdn ?_ _ | refine kdr ?_ | refine kal ?_ _)); refine blk_far ?_ NB154_157.out _; (with_reducible repeat (first | refine kdn ?_ _ | refine kdr ?_ | refine kal ?_ _)); exact BK154.out⟩, ⟨by (with_reducible repeat (first | refine kdn ?_ _ | refine kdr ?_ | refine kal ?_ _)); refine blk_far ?_ NB155_157.out _; (with_reducible repeat (first | refine kdn ?_ _ | refine kdr ?_ | refine kal ?_ _)); exact BK155.out⟩, ⟨by (with_reducible repeat (first | refine kdn ?_ _ | refine kdr ?_ | refine kal ?_ _)); refine blk_put (cs := #[.int .i64 a1_0, u158001]) ?_ 1 _ rfl; (with_reducible repeat (first | refine kdn ?_ _ | refine kdr ?_ | refine kal ?_ _)); exact BK157.out⟩, ⟨by repeat (first | (with_reducible first | exact HB.out | apply bal | apply pbn | apply bd1 | refine bst ?_ GE153.out | refine bst ?_ GE154.out | refine bst ?_ GE155.out | refine bst ?_ GE157.out) | exact HB.out)⟩⟩
         ·rw [if_neg c37] at H
          exact absurd H (by simp)
        ·rw [if_neg c35] at H
         exact absurd H (by simp)
       ·rw [if_neg c34] at H
        have c34b0 : decide (x8_2 < (l1_1.length : Int)) = false := dff c34
        clear c34
        simp only [Option.some.injEq, Prod.mk.injEq] at H
        obtain ⟨rfl, rfl, rfl⟩ := H
        have hnb48 := NB154_153.out
        have hnc48 := NB153_154.out
        have hnb49 := NB154_155.out
        have hnc49 := NB155_154.out
        have hnb50 := NB154_157.out
        have hnc50 := NB157_154.out
        have hcz51_0 : wr.cell? ⟨gb154, 0, none⟩ = some (.int .i64 a1_0) := (kce BK154.out 0).trans rfl
        have hcz51_1 : wr.cell? ⟨gb154, 1, none⟩ = some (.slice A1_1 l1_1.length c1_1) := (kce BK154.out 1).trans rfl
        have hfz51_0 := kfz BK154.out 0
        have hfz51_1 := kfz BK154.out 1
        have hnb52 := NB157_153.out
        have hnc52 := NB153_157.out
        have hnb53 := NB157_155.out
        have hnc53 := NB155_157.out
        have hcz54_0 : wr.cell? ⟨gb157, 0, none⟩ = some (.int .i64 a1_0) := (kce BK157.out 0).trans rfl
        have hcz54_1 : wr.cell? ⟨gb157, 1, none⟩ = some (u158001) := (kce BK157.out 1).trans rfl
        have hfz54_0 := kfz BK157.out 0
        have hfz54_1 := kfz BK157.out 1
        have hnb55 := NB155_153.out
        have hnc55 := NB153_155.out
        have hcz56_0 : wr.cell? ⟨gb155, 0, none⟩ = some (.int .i64 0) := (kce BK155.out 0).trans rfl
        have hcz56_1 : wr.cell? ⟨gb155, 1, none⟩ = some (.slice none 0 0) := (kce BK155.out 1).trans rfl
        have hfz56_0 := kfz BK155.out 0
        have hfz56_1 := kfz BK155.out 1
        obtain ⟨Ao57, co57, eo57⟩ := Kd.S_slice HO_158001.out
        subst eo57
        go_wp2
        refine bodyPost_ret (results_ct rfl _ _ gb155 31 #[.int .i64 a1_0, .slice Ao57 x158001_2.length co57] (0, 0) _ rfl (by (with_reducible repeat (first | refine kdn ?_ _ | refine kdr ?_ | refine kal ?_ _)); refine blk_put (cs := #[.int .i64 a1_0, .slice none 0 0]) ?_ 1 _ rfl; (with_reducible repeat (first | refine kdn ?_ _ | refine kdr ?_ | refine kal ?_ _)); refine blk_put (cs := #[.int .i64 0, .slice none 0 0]) ?_ 0 _ rfl; (with_reducible repeat (first | refine kdn ?_ _ | refine kdr ?_ | refine kal ?_ _)); exact BK155.out) Try.underlying31 rfl (by kernel_rfl)) rfl ?_
        exact ⟨_, by first | rfl | (simp <;> rfl) | (simp [*] <;> rfl), by (with_reducible repeat (first | apply Kd.S_alloc | apply Kd.S_drewN | apply Kd.S_drew)); exact Kd.S_mono (Kd.S_far (p := ⟨gb155, 1, none⟩) (Kd.S_far (p := ⟨gb155, 0, none⟩) (Kd.S_types HO_158001.out BK155.out (by decide)) (fun _ hk => hk.2) (.int .i64 a1_0)) (fun _ hk => hk.2) (.slice Ao57 x158001_2.length co57)) (fun _ hk => trivial), by repeat (first | (with_reducible first | exact HB.out | apply bal | apply pbn | apply bd1 | refine bst ?_ GE153.out | refine bst ?_ GE154.out | refine bst ?_ GE155.out | refine bst ?_ GE157.out) | exact HB.out)⟩
 ·rw [if_neg c4] at H
  have c4b0 : (t156 == 0) = false := bqm c4
  have c4b1 : (t156 != 0) = true := bne_iff_ne.mpr c4
  simp only [Option.some.injEq, Prod.mk.injEq] at H
  obtain ⟨rfl, rfl, rfl⟩ := H
  go_enter Try.func15, Try.ntmps15
  go_wp2_with (first | ((with_reducible refine gate_dst (N := 2) rfl ?_); refine box_event ?hg (N := 2) ?hd (cs := #[.int .i64 a0_0, .int .i64 a0_1, .slice A0_2 l0_2.length c0_2]) (t := 24) ?hr ?_; (case hd => rfl); (case hg => rfl); (case hr => first | (go_simp; done) | (go_simp; rfl)); intro gb153 hg w58 hbox hb; have n0_ := ak (bsp (by repeat (first | (with_reducible first | exact HB.out | apply bal | apply pbn | apply bd1) | exact HB.out)) hb); have n1_ := ak (hbox); have n2_ := ak ((by rw [hg]; exact (bsz (by repeat (first | (with_reducible first | exact HB.out | apply bal | apply pbn | apply bd1) | exact HB.out))) : w.heap.size ≤ gb153)); have n3_ := ak ((by rw [hg]; exact (bsz (by repeat (first | (with_reducible first | exact HB.out | apply bal | apply pbn | apply bd1) | exact HB.out))) : w.heap.size ≤ gb153)); clear HB; have HB := n0_; have BK153 := n1_; have GW153 := n2_; have GE153 := n3_; clear n0_ n1_ n2_ n3_; clear hb hbox hg) | ((with_reducible refine gate_dst (N := 3) rfl ?_); refine box_event ?hg (N := 3) ?hd (cs := #[.int .i64 a1_0, .slice A1_1 l1_1.length c1_1]) (t := 27) ?hr ?_; (case hd => rfl); (case hg => rfl); (case hr => first | (go_simp; done) | (go_simp; rfl)); intro gb154 hg w59 hbox hb; have n0_ := ak (kbe (g := gb153) (o := .cells #[.int .i64 a0_0, .int .i64 a0_1, .slice A0_2 l0_2.length c0_2] 24 (0, 0)) (by (with_reducible repeat (first | refine kdn ?_ _ | refine kdr ?_ | refine kal ?_ _)); exact BK153.out) hb); have n1_ := ak (bsp (by repeat (first | (with_reducible first | exact HB.out | apply bal | apply pbn | apply bd1 | refine bst ?_ GE153.out) | exact HB.out)) hb); have n2_ := ak (hbox); have n3_ := ak ((by rw [hg]; exact (bsz (by repeat (first | (with_reducible first | exact HB.out | apply bal | apply pbn | apply bd1 | refine bst ?_ GE153.out) | exact HB.out))) : w.heap.size ≤ gb154)); have n4_ := ak ((by rw [hg]; exact (bsz (by repeat (first | (with_reducible first | exact HB.out | apply bal | apply pbn | apply bd1 | refine bst ?_ GE153.out) | exact HB.out))) : w.heap.size ≤ gb154)); have n5_ := ak ((by rw [hg]; exact Nat.ne_of_lt (klt (g := gb153) (o := .cells #[.int .i64 a0_0, .int .i64 a0_1, .slice A0_2 l0_2.length c0_2] 24 (0, 0)) (by (with_reducible repeat (first | refine kdn ?_ _ | refine kdr ?_ | refine kal ?_ _)); exact BK153.out)) : gb153 ≠ gb154)); have n6_ := ak ((by rw [hg]; exact Nat.ne_of_gt (klt (g := gb153) (o := .cells #[.int .i64 a0_0, .int .i64 a0_1, .slice A0_2 l0_2.length c0_2] 24 (0, 0)) (by (with_reducible repeat (first | refine kdn ?_ _ | refine kdr ?_ | refine kal ?_ _)); exact BK153.out)) : gb154 ≠ gb153)); clear BK153 HB; have BK153 := n0_; have HB := n1_; have BK154 := n2_; have GW154 := n3_; have GE154 := n4_; have NB153_154 := n5_; have NB154_153 := n6_; clear n0_ n1_ n2_ n3_ n4_ n5_ n6_; clear hb hbox hg) | ((with_reducible refine gate_dst (N := 4) rfl ?_); refine box_event ?hg (N := 4) ?hd (cs := #[.int .i64 0, .slice none 0 0]) (t := 31) ?hr ?_; (case hd => rfl); (case hg => rfl); (case hr => first | (go_simp; done) | (go_simp; rfl)); intro gb155 hg w60 hbox hb; have n0_ := ak (kbe (g := gb153) (o := .cells #[.int .i64 a0_0, .int .i64 a0_1, .slice A0_2 l0_2.length c0_2] 24 (0, 0)) (by (with_reducible repeat (first | refine kdn ?_ _ | refine kdr ?_ | refine kal ?_ _)); exact BK153.out) hb); have n1_ := ak (kbe (g := gb154) (o := .cells #[.int .i64 a1_0, .slice A1_1 l1_1.length c1_1] 27 (0, 0)) (by (with_reducible repeat (first | refine kdn ?_ _ | refine kdr ?_ | refine kal ?_ _)); exact BK154.out) hb); have n2_ := ak (bsp (by repeat (first | (with_reducible first | exact HB.out | apply bal | apply pbn | apply bd1 | refine bst ?_ GE153.out | refine bst ?_ GE154.out) | exact HB.out)) hb); have n3_ := ak (hbox); have n4_ := ak ((by rw [hg]; exact (bsz (by repeat (first | (with_reducible first | exact HB.out | apply bal | apply pbn | apply bd1 | refine bst ?_ GE153.out | refine bst ?_ GE154.out) | exact HB.out))) : w.heap.size ≤ gb155)); have n5_ := ak ((by rw [hg]; exact (bsz (by repeat (first | (with_reducible first | exact HB.out | apply bal | apply pbn | apply bd1 | refine bst ?_ GE153.out | refine bst ?_ GE154.out) | exact HB.out))) : w.heap.size ≤ gb155)); have n6_ := ak ((by rw [hg]; exact Nat.ne_of_lt (klt (g := gb153) (o := .cells #[.int .i64 a0_0, .int .i64 a0_1, .slice A0_2 l0_2.length c0_2] 24 (0, 0)) (by (with_reducible repeat (first | refine kdn ?_ _ | refine kdr ?_ | refine kal ?_ _)); exact BK153.out)) : gb153 ≠ gb155)); have n7_ := ak ((by rw [hg]; exact Nat.ne_of_gt (klt (g := gb153) (o := .cells #[.int .i64 a0_0, .int .i64 a0_1, .slice A0_2 l0_2.length c0_2] 24 (0, 0)) (by (with_reducible repeat (first | refine kdn ?_ _ | refine kdr ?_ | refine kal ?_ _)); exact BK153.out)) : gb155 ≠ gb153)); have n8_ := ak ((by rw [hg]; exact Nat.ne_of_lt (klt (g := gb154) (o := .cells #[.int .i64 a1_0, .slice A1_1 l1_1.length c1_1] 27 (0, 0)) (by (with_reducible repeat (first | refine kdn ?_ _ | refine kdr ?_ | refine kal ?_ _)); exact BK154.out)) : gb154 ≠ gb155)); have n9_ := ak ((by rw [hg]; exact Nat.ne_of_gt (klt (g := gb154) (o := .cells #[.int .i64 a1_0, .slice A1_1 l1_1.length c1_1] 27 (0, 0)) (by (with_reducible repeat (first | refine kdn ?_ _ | refine kdr ?_ | refine kal ?_ _)); exact BK154.out)) : gb155 ≠ gb154)); clear BK153 BK154 HB; have BK153 := n0_; have BK154 := n1_; have HB := n2_; have BK155 := n3_; have GW155 := n4_; have GE155 := n5_; have NB153_155 := n6_; have NB155_153 := n7_; have NB154_155 := n8_; have NB155_154 := n9_; clear n0_ n1_ n2_ n3_ n4_ n5_ n6_ n7_ n8_ n9_; clear hb hbox hg; have hnb61 := NB153_154.out; have hnc61 := NB154_153.out; have hnb62 := NB153_155.out; have hnc62 := NB155_153.out; have hcz63_0 : w60.cell? ⟨gb153, 0, none⟩ = some (.int .i64 a0_0) := (kce BK153.out 0).trans rfl; have hcz63_1 : w60.cell? ⟨gb153, 1, none⟩ = some (.int .i64 a0_1) := (kce BK153.out 1).trans rfl; have hcz63_2 : w60.cell? ⟨gb153, 2, none⟩ = some (.slice A0_2 l0_2.length c0_2) := (kce BK153.out 2).trans rfl; have hfz63_0 := kfz BK153.out 0; have hfz63_1 := kfz BK153.out 1; have hfz63_2 := kfz BK153.out 2; have hnb64 := NB154_155.out; have hnc64 := NB155_154.out; have hcz65_0 : w60.cell? ⟨gb154, 0, none⟩ = some (.int .i64 a1_0) := (kce BK154.out 0).trans rfl; have hcz65_1 : w60.cell? ⟨gb154, 1, none⟩ = some (.slice A1_1 l1_1.length c1_1) := (kce BK154.out 1).trans rfl; have hfz65_0 := kfz BK154.out 0; have hfz65_1 := kfz BK154.out 1) | ((with_reducible refine gate_callee (f := 32) rfl ?_); refine goesL_ (some 11) rfl rfl Try.func32 (by kernel_rfl) rfl #[.agg #[.int .i64 a0_0, .int .i64 a0_1, .slice A0_2 l0_2.length c0_2], .agg #[.int .i64 a1_0, .slice A1_1 l1_1.length c1_1]] rfl (by (try simp only [List.map_toArray, List.map_cons, List.map_nil]); first | done | rfl | (simp only [List.length_drop, List.length_take]; rfl)) ?_; (with_reducible refine (r9_Check.calls k a0_0 a0_1 _ _ l0_2 a1_0 _ _ l1_1 t156 _ ?side1 ?side2 ?side3 ?side4 A3.out).mono ?_); (case side1 => repeat (first | exact (Kd.C_below HR0_2.out HB.out) | (with_reducible refine Kd.C_alloc ?_ _) | (with_reducible refine Kd.C_drewN ?_ _) | (with_reducible refine Kd.C_drew ?_))); (case side2 => exact HC0_2.out); (case side3 => repeat (first | exact (Kd.C_below HR1_1.out HB.out) | (with_reducible refine Kd.C_alloc ?_ _) | (with_reducible refine Kd.C_drewN ?_ _) | (with_reducible refine Kd.C_drew ?_))); (case side4 => exact HC1_1.out); rintro e w66 ⟨rfl, hb⟩; refine ⟨_, rfl, ?_⟩; have n0_ := ak (kbe (g := gb153) (o := .cells #[.int .i64 a0_0, .int .i64 a0_1, .slice A0_2 l0_2.length c0_2] 24 (0, 0)) (by (with_reducible repeat (first | refine kdn ?_ _ | refine kdr ?_ | refine kal ?_ _)); exact BK153.out) hb); have n1_ := ak (kbe (g := gb154) (o := .cells #[.int .i64 a1_0, .slice A1_1 l1_1.length c1_1] 27 (0, 0)) (by (with_reducible repeat (first | refine kdn ?_ _ | refine kdr ?_ | refine kal ?_ _)); exact BK154.out) hb); have n2_ := ak (kbe (g := gb155) (o := .cells #[.int .i64 0, .slice none 0 0] 31 (0, 0)) (by (with_reducible repeat (first | refine kdn ?_ _ | refine kdr ?_ | refine kal ?_ _)); exact BK155.out) hb); have n3_ := ak (bsp (by repeat (first | (with_reducible first | exact HB.out | apply bal | apply pbn | apply bd1 | refine bst ?_ GE153.out | refine bst ?_ GE154.out | refine bst ?_ GE155.out) | exact HB.out)) hb); clear BK153 BK154 BK155 HB; have BK153 := n0_; have BK154 := n1_; have BK155 := n2_; have HB := n3_; clear n0_ n1_ n2_ n3_; (try clear hb); (try clear hb2); (try clear hk); (try clear hi); have hcz67_0 : w66.cell? ⟨gb155, 0, none⟩ = some (.int .i64 0) := (kce BK155.out 0).trans rfl; have hcz67_1 : w66.cell? ⟨gb155, 1, none⟩ = some (.slice none 0 0) := (kce BK155.out 1).trans rfl; have hfz67_0 := kfz BK155.out 0; have hfz67_1 := kfz BK155.out 1))
  refine bodyPost_ret (results_ct rfl _ _ gb155 31 #[.int .i64 0, .slice none 0 0] (0, 0) _ rfl (by (with_reducible repeat (first | refine kdn ?_ _ | refine kdr ?_ | refine kal ?_ _)); refine blk_put (cs := #[.int .i64 0, .slice none 0 0]) ?_ 1 _ rfl; (with_reducible repeat (first | refine kdn ?_ _ | refine kdr ?_ | refine kal ?_ _)); refine blk_put (cs := #[.int .i64 0, .slice none 0 0]) ?_ 0 _ rfl; (with_reducible repeat (first | refine kdn ?_ _ | refine kdr ?_ | refine kal ?_ _)); exact BK155.out) Try.underlying31 rfl (by kernel_rfl)) rfl ?_
  exact ⟨_, by first | rfl | (simp <;> rfl) | (simp [*] <;> rfl), by first | exact Kd.S_nil _ _ _ _ _ | exact Kd.N_nil _ _ _ _ _ | exact Kd.V_nil _ _ _ _ _ | exact Kd.Q_nil _ _ _ _ _ | exact Kd.R_nil _ _ _ _ _, by repeat (first | (with_reducible first | exact HB.out | apply bal | apply pbn | apply bd1 | refine bst ?_ GE153.out | refine bst ?_ GE154.out | refine bst ?_ GE155.out) | exact HB.out)⟩
mutual
def r9_Few.j0 : Nat → Int → Bool → Int → List (List Int) → Option (Bool)
 | 0, _, _, _, _ => none
 | k + 1, x1, x16, x364000, x364001 => if x16 = true then (some false) else (r9_Few.l0 k (wrap64 (x1 - (x364001.length : Int))) 0 x364000 x364001)
def r9_Few.l0 : Nat → Int → Int → Int → List (List Int) → Option (Bool)
 | 0, _, _, _, _ => none
 | k + 1, x5, x6, x364000, x364001 => if x6 < (x364001.length : Int) then (if 0 ≤ x6 then (if ((rd_L1 x364001 x6).length : Int) > x5 then (some false) else (r9_Few.l0 k (wrap64 (x5 - ((rd_L1 x364001 x6).length : Int))) (wrap64 (x6 + 1)) x364000 x364001)) else (none)) else (some true)
end
def r9_Few.f (k : Nat) (a0_0 : Int) (l0_1 : List (List Int)) (a1 : Int) : Option (Bool) := if a0_0 > 260 then (r9_Few.j0 k a1 true a0_0 l0_1) else (r9_Few.j0 k a1 (decide ((l0_1.length : Int) > a1)) a0_0 l0_1)
theorem r9_Few.calls (k : Nat) (a0_0 : Int) (A0_1 : Option Addr) (c0_1 : Nat) (l0_1 : List (List Int)) (a1 : Int) (r : Bool) (w : World) (hr0_1 : Kd.C (Kd.slice 3 (Kd.int .i64)) w A0_1 l0_1.length l0_1) (hc0_1 : l0_1.length ≤ c0_1) (h : r9_Few.f k a0_0 l0_1 a1 = some r) :
  Calls Try.prog 13 #[.agg #[.int .i64 a0_0, .slice A0_1 l0_1.length c0_1], .int .i64 a1] w fun e w' => e = .returned (.bool r) ∧ Below w.heap.size w w' := by
 have hu27 := Try.underlying27
 have HR0_1 := ak hr0_1
 have HC0_1 := ak hc0_1
 clear hr0_1 hc0_1
 have HB := ak (Below.refl w.heap.size w)
 have H : (if a0_0 > 260 then (r9_Few.j0 k a1 true a0_0 l0_1) else (r9_Few.j0 k a1 (decide ((l0_1.length : Int) > a1)) a0_0 l0_1)) = some r := h
 clear h
 have HC3 := ak H
 clear H
 go_enter Try.func13, Try.ntmps13
 go_upto_region 1 with (first | ((with_reducible refine gate_dst (N := 2) rfl ?_); (try (refine gate_guard (by rfl) ?_; dsimp only)); refine box_event ?hg (N := 2) ?hd (cs := #[.int .i64 a0_0, .slice A0_1 l0_1.length c0_1]) (t := 27) ?hr ?_; (case hd => rfl); (case hg => rfl); (case hr => first | (go_simp; done) | (go_simp; rfl)); intro gb363 hg w4 hbox hb; have n0_ := ak (bsp (by repeat (first | (with_reducible first | exact HB.out | apply bal | apply pbn | apply bd1) | exact HB.out)) hb); have n1_ := ak (hbox); have n2_ := ak ((by rw [hg]; exact (bsz (by repeat (first | (with_reducible first | exact HB.out | apply bal | apply pbn | apply bd1) | exact HB.out))) : w.heap.size ≤ gb363)); have n3_ := ak ((by rw [hg]; exact (bsz (by repeat (first | (with_reducible first | exact HB.out | apply bal | apply pbn | apply bd1) | exact HB.out))) : w.heap.size ≤ gb363)); clear HB; have HB := n0_; have BK363 := n1_; have GW363 := n2_; have GE363 := n3_; clear n0_ n1_ n2_ n3_; clear hb hbox hg))
 go_cut [16] (fun v16 wc => ∃ (kq : Nat) (x16_2 : Bool), v16 = .bool x16_2 ∧ Aside0 (r9_Few.j0 kq a1 x16_2 a0_0 l0_1 = some r) ∧ Aside0 (kq ≤ k) ∧ Aside0 (wc.heap[gb363]? = some (.cells #[.int .i64 a0_0, (.slice A0_1 l0_1.length c0_1)] 27 (0, 0))) ∧ Aside0 (Below w.heap.size w wc))
 case first =>
  have H := HC3.out
  clear HC3
  by_cases c5 : a0_0 > 260
  ·rw [if_pos c5] at H
   have c5b0 : decide (260 < a0_0) = true := det c5
   clear c5
   (skip)
   have H' := ak H
   clear H
   have hcz6_0 : w4.cell? ⟨gb363, 0, none⟩ = some (.int .i64 a0_0) := (kce BK363.out 0).trans rfl
   have hcz6_1 : w4.cell? ⟨gb363, 1, none⟩ = some (.slice A0_1 l0_1.length c0_1) := (kce BK363.out 1).trans rfl
   have hfz6_0 := kfz BK363.out 0
   have hfz6_1 := kfz BK363.out 1
   go_wp2
   go_meet
   case rel => exact ⟨_, (true), (by first | rfl | (simp; done) | (simp [*]; done)), H', ⟨by first | omega | exact Nat.le_refl _⟩, ⟨by (with_reducible repeat (first | refine kdn ?_ _ | refine kdr ?_ | refine kal ?_ _)); exact BK363.out⟩, ⟨by repeat (first | (with_reducible first | exact HB.out | apply bal | apply pbn | apply bd1 | refine bst ?_ GE363.out) | exact HB.out)⟩⟩
  ·rw [if_neg c5] at H
   have c5b0 : decide (260 < a0_0) = false := dff c5
   clear c5
   (skip)
   have H' := ak H
   clear H
   have hcz7_0 : w4.cell? ⟨gb363, 0, none⟩ = some (.int .i64 a0_0) := (kce BK363.out 0).trans rfl
   have hcz7_1 : w4.cell? ⟨gb363, 1, none⟩ = some (.slice A0_1 l0_1.length c0_1) := (kce BK363.out 1).trans rfl
   have hfz7_0 := kfz BK363.out 0
   have hfz7_1 := kfz BK363.out 1
   go_wp2
   go_meet
   case rel => exact ⟨_, (decide ((l0_1.length : Int) > a1)), (by first | rfl | (simp; done) | (simp [*]; done)), H', ⟨by first | omega | exact Nat.le_refl _⟩, ⟨by (with_reducible repeat (first | refine kdn ?_ _ | refine kdr ?_ | refine kal ?_ _)); exact BK363.out⟩, ⟨by repeat (first | (with_reducible first | exact HB.out | apply bal | apply pbn | apply bd1 | refine bst ?_ GE363.out) | exact HB.out)⟩⟩
 case rest =>
  clear HC3
  obtain ⟨kq, x16_2, rfl, HA, HJ2, BK363, HB⟩ := hcut
  cases kq with
  | zero => exact absurd HA.out (by simp [r9_Few.j0])
  | succ kj2 =>
   have H := HA.out
   clear HA
   simp only [r9_Few.j0] at H
   by_cases c8 : x16_2 = true
   ·subst c8
    have H1 : (some false) = some r := by rw [if_pos rfl] at H; exact H
    clear H
    have H := H1
    clear H1
    obtain rfl := osi H
    go_wp2
    go_ret
    exact ⟨by first | rfl | (simp <;> rfl) | (simp [*] <;> rfl), by repeat (first | (with_reducible first | exact HB.out | apply bal | apply pbn | apply bd1 | refine bst ?_ GE363.out) | exact HB.out)⟩
   ·replace c8 := Bool.eq_false_iff.mpr c8
    subst c8
    have H1 : (r9_Few.l0 kj2 (wrap64 (a1 - (l0_1.length : Int))) 0 a0_0 l0_1) = some r := by rw [if_neg (show ¬ (false = true) by decide)] at H; exact H
    clear H
    have H := H1
    clear H1
    have H' := ak H
    clear H
    have hcz9_0 : wc.cell? ⟨gb363, 0, none⟩ = some (.int .i64 a0_0) := (kce BK363.out 0).trans rfl
    have hcz9_1 : wc.cell? ⟨gb363, 1, none⟩ = some (.slice A0_1 l0_1.length c0_1) := (kce BK363.out 1).trans rfl
    have hfz9_0 := kfz BK363.out 0
    have hfz9_1 := kfz BK363.out 1
    go_wp2
    go_loopg [5, 6] kj2 (fun kq v5 v6 w' => ∃ (x5_2 : Int) (x6_2 : Int), v5 = .int .i64 x5_2 ∧ v6 = .int .i64 x6_2 ∧ Aside0 (r9_Few.l0 kq x5_2 x6_2 a0_0 l0_1 = some r) ∧ Aside0 (kq ≤ kj2) ∧ Aside0 (w'.heap[gb363]? = some (.cells #[.int .i64 a0_0, (.slice A0_1 l0_1.length c0_1)] 27 (0, 0))) ∧ Aside0 (Below w.heap.size w w'))
    case atStart => exact ⟨(wrap64 (a1 - (l0_1.length : Int))), (0), (by first | rfl | (simp; done) | (simp [*]; done)), (by first | rfl | (simp; done) | (simp [*]; done)), H', ⟨Nat.le_refl _⟩, ⟨by (with_reducible repeat (first | refine kdn ?_ _ | refine kdr ?_ | refine kal ?_ _)); exact BK363.out⟩, ⟨by repeat (first | (with_reducible first | exact HB.out | apply bal | apply pbn | apply bd1 | refine bst ?_ GE363.out) | exact HB.out)⟩⟩
    case round =>
     clear H'
     try (clear hcz9_0)
     try (clear hcz9_1)
     try (clear hfz9_0)
     try (clear hfz9_1)
     obtain ⟨x5_2, x6_2, rfl, rfl, HA, HK2, BK363, HB⟩ := hrel
     cases gk with
     | zero => exact absurd HA.out (by simp [r9_Few.l0])
     | succ k2 =>
      have H := HA.out
      clear HA
      simp only [r9_Few.l0] at H
      by_cases c10 : x6_2 < (l0_1.length : Int)
      ·rw [if_pos c10] at H
       have c10b0 : decide (x6_2 < (l0_1.length : Int)) = true := det c10
       clear c10
       by_cases c11 : 0 ≤ x6_2
       ·rw [if_pos c11] at H
        have c11b0 : decide (0 ≤ x6_2) = true := det c11
        clear c11
        by_cases c12 : ((rd_L1 l0_1 x6_2).length : Int) > x5_2
        ·rw [if_pos c12] at H
         have c12b0 : decide (x5_2 < ((rd_L1 l0_1 x6_2).length : Int)) = true := det c12
         clear c12
         obtain rfl := osi H
         have hcz13_0 : wr.cell? ⟨gb363, 0, none⟩ = some (.int .i64 a0_0) := (kce BK363.out 0).trans rfl
         have hcz13_1 : wr.cell? ⟨gb363, 1, none⟩ = some (.slice A0_1 l0_1.length c0_1) := (kce BK363.out 1).trans rfl
         have hfz13_0 := kfz BK363.out 0
         have hfz13_1 := kfz BK363.out 1
         have p364 : 0 ≤ (x6_2 : Int) := odt (by with_reducible assumption)
         have q364 : x6_2 < (l0_1.length : Int) := odt (by with_reducible assumption)
         obtain ⟨ad364, A364_0, c364_0, e364, hx364_0, hl364_0, hi364_0⟩ := at_L1 HR0_1.out x6_2 p364 q364
         cases e364
         replace hx364_0 := (HB.out.cell (World.block_lt_of_cell? w _ hx364_0)).trans hx364_0
         have HR364_0 := ak hi364_0
         have HC364_0 := ak hl364_0
         clear hi364_0 hl364_0
         replace p364 := eq_true p364
         replace q364 := eq_true q364
         go_wp2
         go_ret
         exact ⟨by first | rfl | (simp <;> rfl) | (simp [*] <;> rfl), by repeat (first | (with_reducible first | exact HB.out | apply bal | apply pbn | apply bd1 | refine bst ?_ GE363.out) | exact HB.out)⟩
        ·rw [if_neg c12] at H
         have c12b0 : decide (x5_2 < ((rd_L1 l0_1 x6_2).length : Int)) = false := dff c12
         clear c12
         have H' := ak H
         clear H
         have hcz14_0 : wr.cell? ⟨gb363, 0, none⟩ = some (.int .i64 a0_0) := (kce BK363.out 0).trans rfl
         have hcz14_1 : wr.cell? ⟨gb363, 1, none⟩ = some (.slice A0_1 l0_1.length c0_1) := (kce BK363.out 1).trans rfl
         have hfz14_0 := kfz BK363.out 0
         have hfz14_1 := kfz BK363.out 1
         have p364 : 0 ≤ (x6_2 : Int) := odt (by with_reducible assumption)
         have q364 : x6_2 < (l0_1.length : Int) := odt (by with_reducible assumption)
         obtain ⟨ad364, A364_0, c364_0, e364, hx364_0, hl364_0, hi364_0⟩ := at_L1 HR0_1.out x6_2 p364 q364
         cases e364
         replace hx364_0 := (HB.out.cell (World.block_lt_of_cell? w _ hx364_0)).trans hx364_0
         have HR364_0 := ak hi364_0
         have HC364_0 := ak hl364_0
         clear hi364_0 hl364_0
         replace p364 := eq_true p364
         replace q364 := eq_true q364
         have p365 : 0 ≤ (x6_2 : Int) := odt (by with_reducible assumption)
         have q365 : x6_2 < (l0_1.length : Int) := odt (by with_reducible assumption)
         obtain ⟨ad365, A365_0, c365_0, e365, hx365_0, hl365_0, hi365_0⟩ := at_L1 HR0_1.out x6_2 p365 q365
         obtain rfl : ad364 = ad365 := (by injection e365)
         replace hx365_0 := (HB.out.cell (World.block_lt_of_cell? w _ hx365_0)).trans hx365_0
         have HR365_0 := ak hi365_0
         have HC365_0 := ak hl365_0
         clear hi365_0 hl365_0
         replace p365 := eq_true p365
         replace q365 := eq_true q365
         have ea_ := osi (hx364_0.symm.trans hx365_0)
         injection ea_ with ea_ en_ ec_
         subst ea_
         subst ec_
         clear en_
         go_wp2
         go_roundg k2
         case measure => have := HJ2.out; have := HK2.out; omega
         case rel => exact ⟨(wrap64 (x5_2 - ((rd_L1 l0_1 x6_2).length : Int))), (wrap64 (x6_2 + 1)), (by first | rfl | (simp; done) | (simp [*]; done)), (by first | rfl | (simp; done) | (simp [*]; done)), H', ⟨by have := HJ2.out; have := HK2.out; omega⟩, ⟨by (with_reducible repeat (first | refine kdn ?_ _ | refine kdr ?_ | refine kal ?_ _)); exact BK363.out⟩, ⟨by repeat (first | (with_reducible first | exact HB.out | apply bal | apply pbn | apply bd1 | refine bst ?_ GE363.out) | exact HB.out)⟩⟩
       ·rw [if_neg c11] at H
        exact absurd H (by simp)
      ·rw [if_neg c10] at H
       have c10b0 : decide (x6_2 < (l0_1.length : Int)) = false := dff c10
       clear c10
       obtain rfl := osi H
       have hcz15_0 : wr.cell? ⟨gb363, 0, none⟩ = some (.int .i64 a0_0) := (kce BK363.out 0).trans rfl
       have hcz15_1 : wr.cell? ⟨gb363, 1, none⟩ = some (.slice A0_1 l0_1.length c0_1) := (kce BK363.out 1).trans rfl
       have hfz15_0 := kfz BK363.out 0
       have hfz15_1 := kfz BK363.out 1
       go_wp2
       go_ret
       exact ⟨by first | rfl | (simp <;> rfl) | (simp [*] <;> rfl), by repeat (first | (with_reducible first | exact HB.out | apply bal | apply pbn | apply bd1 | refine bst ?_ GE363.out) | exact HB.out)⟩
end Go.Proofs.Ytkifipakikbhcaa.Ref
namespace Go.Proofs.Ytkifipakikbhcaa.Pg
open Ytkifipakikbhcaa.Ref
open Go.RowKit YtkifipakikbhcaaW.PrintWords YtkifipakikbhcaaW.PrintLast YtkifipakikbhcaaW.PrintMore
theorem info3 : (Try.prog.info? 3).map (fun i => (i.zero, i.size, i.bytes)) = some (some (.int .i64 0), 1, 8) := by kernel_rfl
theorem info4 : (Try.prog.info? 4).map (fun i => (i.zero, i.size, i.bytes)) = some (some (.bool false), 1, 1) := by kernel_rfl
theorem info22 : (Try.prog.info? 22).map (fun i => (i.zero, i.size, i.bytes)) = some (some (.slice none 0 0), 1, 24) := by kernel_rfl
def rd_L2 (xs : List (List Int)) (i : Int) : (List Int) := xs.getD i.toNat ([] : List Int)
theorem at_L2 {w : World} {A : Option Addr} {n : Nat} {xs : List (List Int)} (h : Kd.C (Kd.slice 3 (Kd.int .i64)) w A n xs) (i : Int) (h0 : 0 ≤ i) (h1 : i < n) : ∃ ad A0 c0, A = some ad ∧ w.cell? (ad.add i.toNat) = some (.slice A0 (rd_L2 xs i).length c0) ∧ (rd_L2 xs i).length ≤ c0 ∧ (Kd.int .i64).C w A0 (rd_L2 xs i).length (rd_L2 xs i) := by
 obtain ⟨ad, c, e, _, hK, hc0⟩ := Kd.C_get h ([] : List Int) i h0 h1
 have hc : ∀ j u, c[j]? = some u → w.cell? (ad.add (i.toNat * 1 + j)) = some u := hc0
 obtain ⟨A0, c0, rfl, l0, g0⟩ := hK
 exact ⟨ad, A0, c0, e, by have hq := hc 0 _ rfl; rwa [Nat.mul_one, Nat.add_zero] at hq, l0, g0⟩
def peel_set.l0 : Nat → List Int → Int → List Int → Int → Int → Option (Bool)
 | 0, _, _, _, _, _ => none
 | k + 1, x0, x1, x7, x8, x9 => if x9 < x8 then (if 0 ≤ x9 then (if x9 < (x7.length : Int) then (if (rd x7 x9) < 0 then (some false) else (if (rd x7 x9) ≥ x1 then (some false) else (if x9 > 0 then (if 0 ≤ (wrap64 (x9 - 1)) then (if (wrap64 (x9 - 1)) < (x0.length : Int) then (if (rd x7 x9) ≤ (rd x0 (wrap64 (x9 - 1))) then (some false) else (peel_set.l0 k x0 x1 x7 x8 (wrap64 (x9 + 1)))) else (none)) else (none)) else (peel_set.l0 k x0 x1 x7 x8 (wrap64 (x9 + 1)))))) else (none)) else (none)) else (some true)
def peel_set.f (k : Nat) (l0 : List Int) (a1 : Int) : Option (Bool) := peel_set.l0 k l0 a1 l0 (l0.length : Int) 0
theorem peel_set.calls (k : Nat) (A0 : Option Addr) (c0 : Nat) (l0 : List Int) (a1 : Int) (r : Bool) (w : World) (hr0 : Kd.C (Kd.int .i64) w A0 l0.length l0) (hc0 : l0.length ≤ c0) (h : peel_set.f k l0 a1 = some r) :
  Calls Try.prog 48 #[.slice A0 l0.length c0, .int .i64 a1] w fun e w' => e = .returned (.bool r) ∧ Drawn0 w w' := by
 have HR0 := ak hr0
 have HC0 := ak hc0
 clear hr0 hc0
 have H : (peel_set.l0 k l0 a1 l0 (l0.length : Int) 0) = some r := h
 clear h
 have H' := ak H
 clear H
 go_enter Try.func48, Try.ntmps48
 go_wp2
 go_loopg [9] k (fun kq v9 w' => ∃ (x9_1 : Int), v9 = .int .i64 x9_1 ∧ Aside0 (peel_set.l0 kq l0 a1 l0 (l0.length : Int) x9_1 = some r) ∧ Aside0 (kq ≤ k) ∧ Drawn0 w w')
 case atStart => exact ⟨(0), (by first | rfl | (simp; done) | (simp [*]; done)), H', ⟨Nat.le_refl _⟩, by repeat (first | exact Drawn0.refl _ | apply Drawn0.step)⟩
 case round =>
  clear H'
  obtain ⟨x9_1, rfl, HA, HK1, ⟨m1, rfl⟩⟩ := hrel
  cases gk with
  | zero => exact absurd HA.out (by simp [peel_set.l0])
  | succ k1 =>
   have H := HA.out
   clear HA
   simp only [peel_set.l0] at H
   by_cases c3 : x9_1 < (l0.length : Int)
   ·rw [if_pos c3] at H
    have c3b0 : decide (x9_1 < (l0.length : Int)) = true := det c3
    clear c3
    by_cases c4 : 0 ≤ x9_1
    ·rw [if_pos c4] at H
     have c4b0 : decide (0 ≤ x9_1) = true := det c4
     clear c4
     by_cases c5 : x9_1 < (l0.length : Int)
     ·rw [if_pos c5] at H
      have c5b0 : decide (x9_1 < (l0.length : Int)) = true := det c5
      clear c5
      by_cases c6 : (rd l0 x9_1) < 0
      ·rw [if_pos c6] at H
       have c6b0 : decide ((rd l0 x9_1) < 0) = true := det c6
       clear c6
       obtain rfl := osi H
       have p115 : 0 ≤ (x9_1 : Int) := odt (by with_reducible assumption)
       have q115 : x9_1 < (l0.length : Int) := odt (by with_reducible assumption)
       obtain ⟨ad115, e115, hx115_0⟩ := Kd.at_int HR0.out x9_1 p115 q115
       cases e115
       replace p115 := eq_true p115
       replace q115 := eq_true q115
       go_wp2
       go_ret
       exact ⟨by rfl, by repeat (first | exact Drawn0.refl _ | apply Drawn0.step)⟩
      ·rw [if_neg c6] at H
       have c6b0 : decide ((rd l0 x9_1) < 0) = false := dff c6
       clear c6
       by_cases c7 : (rd l0 x9_1) ≥ a1
       ·rw [if_pos c7] at H
        have c7b0 : decide (a1 ≤ (rd l0 x9_1)) = true := det c7
        clear c7
        obtain rfl := osi H
        have p115 : 0 ≤ (x9_1 : Int) := odt (by with_reducible assumption)
        have q115 : x9_1 < (l0.length : Int) := odt (by with_reducible assumption)
        obtain ⟨ad115, e115, hx115_0⟩ := Kd.at_int HR0.out x9_1 p115 q115
        cases e115
        replace p115 := eq_true p115
        replace q115 := eq_true q115
        go_wp2
        go_ret
        exact ⟨by rfl, by repeat (first | exact Drawn0.refl _ | apply Drawn0.step)⟩
       ·rw [if_neg c7] at H
        have c7b0 : decide (a1 ≤ (rd l0 x9_1)) = false := dff c7
        clear c7
        by_cases c8 : x9_1 > 0
        ·rw [if_pos c8] at H
         have c8b0 : decide (0 < x9_1) = true := det c8
         clear c8
         obtain ⟨ji9, hji9⟩ : ∃ j_ : Int, (wrap64 (x9_1 - 1)) = j_ := ⟨_, rfl⟩
         replace H : (if 0 ≤ (ji9) then (if (ji9) < (l0.length : Int) then (if (rd l0 x9_1) ≤ (rd l0 (ji9)) then (some false) else (peel_set.l0 k1 l0 a1 l0 (l0.length : Int) (wrap64 (x9_1 + 1)))) else (none)) else (none)) = some r := by (rw [hji9] at H; exact H)
         have hji9w : (IntKind.i64.wrap (x9_1 - 1)) = ji9 := (i64_w _).trans hji9
         by_cases c10 : 0 ≤ (ji9)
         ·rw [if_pos c10] at H
          have c10b0 : decide (0 ≤ (ji9)) = true := det c10
          clear c10
          by_cases c11 : (ji9) < (l0.length : Int)
          ·rw [if_pos c11] at H
           have c11b0 : decide ((ji9) < (l0.length : Int)) = true := det c11
           clear c11
           by_cases c12 : (rd l0 x9_1) ≤ (rd l0 (ji9))
           ·rw [if_pos c12] at H
            have c12b0 : decide ((rd l0 x9_1) ≤ (rd l0 (ji9))) = true := det c12
            clear c12
            obtain rfl := osi H
            have p115 : 0 ≤ (x9_1 : Int) := odt (by with_reducible assumption)
            have q115 : x9_1 < (l0.length : Int) := odt (by with_reducible assumption)
            obtain ⟨ad115, e115, hx115_0⟩ := Kd.at_int HR0.out x9_1 p115 q115
            cases e115
            replace p115 := eq_true p115
            replace q115 := eq_true q115
            have p116 : 0 ≤ ((ji9) : Int) := odt (by with_reducible assumption)
            have q116 : (ji9) < (l0.length : Int) := odt (by with_reducible assumption)
            obtain ⟨ad116, e116, hx116_0⟩ := Kd.at_int HR0.out (ji9) p116 q116
            obtain rfl : ad115 = ad116 := (by injection e116)
            replace p116 := eq_true p116
            replace q116 := eq_true q116
            go_wp2
            go_ret
            exact ⟨by rfl, by repeat (first | exact Drawn0.refl _ | apply Drawn0.step)⟩
           ·rw [if_neg c12] at H
            have c12b0 : decide ((rd l0 x9_1) ≤ (rd l0 (ji9))) = false := dff c12
            clear c12
            have H' := ak H
            clear H
            have p115 : 0 ≤ (x9_1 : Int) := odt (by with_reducible assumption)
            have q115 : x9_1 < (l0.length : Int) := odt (by with_reducible assumption)
            obtain ⟨ad115, e115, hx115_0⟩ := Kd.at_int HR0.out x9_1 p115 q115
            cases e115
            replace p115 := eq_true p115
            replace q115 := eq_true q115
            have p116 : 0 ≤ ((ji9) : Int) := odt (by with_reducible assumption)
            have q116 : (ji9) < (l0.length : Int) := odt (by with_reducible assumption)
            obtain ⟨ad116, e116, hx116_0⟩ := Kd.at_int HR0.out (ji9) p116 q116
            obtain rfl : ad115 = ad116 := (by injection e116)
            replace p116 := eq_true p116
            replace q116 := eq_true q116
            go_wp2
            go_roundg k1
            case measure => have := HK1.out; omega
            case rel => exact ⟨(wrap64 (x9_1 + 1)), (by rfl), H', ⟨by have := HK1.out; omega⟩, by repeat (first | exact Drawn0.refl _ | apply Drawn0.step)⟩
          ·rw [if_neg c11] at H
           exact absurd H (by simp)
         ·rw [if_neg c10] at H
          exact absurd H (by simp)
        ·rw [if_neg c8] at H
         have c8b0 : decide (0 < x9_1) = false := dff c8
         clear c8
         have H' := ak H
         clear H
         have p115 : 0 ≤ (x9_1 : Int) := odt (by with_reducible assumption)
         have q115 : x9_1 < (l0.length : Int) := odt (by with_reducible assumption)
         obtain ⟨ad115, e115, hx115_0⟩ := Kd.at_int HR0.out x9_1 p115 q115
         cases e115
         replace p115 := eq_true p115
         replace q115 := eq_true q115
         go_wp2
         go_roundg k1
         case measure => have := HK1.out; omega
         case rel => exact ⟨(wrap64 (x9_1 + 1)), (by rfl), H', ⟨by have := HK1.out; omega⟩, by repeat (first | exact Drawn0.refl _ | apply Drawn0.step)⟩
     ·rw [if_neg c5] at H
      exact absurd H (by simp)
    ·rw [if_neg c4] at H
     exact absurd H (by simp)
   ·rw [if_neg c3] at H
    have c3b0 : decide (x9_1 < (l0.length : Int)) = false := dff c3
    clear c3
    obtain rfl := osi H
    go_wp2
    go_ret
    exact ⟨by rfl, by repeat (first | exact Drawn0.refl _ | apply Drawn0.step)⟩
def peel_mask.l0 : Nat → List Bool → List Int → Int → Int → Option (List Bool)
 | 0, _, _, _, _ => none
 | k + 1, x5, x11, x12, x13 => if x13 < x12 then (if 0 ≤ x13 then (if x13 < (x11.length : Int) then (if 0 ≤ (rd x11 x13) then (if (rd x11 x13) < (x5.length : Int) then (peel_mask.l0 k (x5.set ((rd x11 x13) : Int).toNat true) x11 x12 (wrap64 (x13 + 1))) else (none)) else (none)) else (none)) else (none)) else (some x5)
def peel_mask.f (k : Nat) (a0_0 : Int) (l0_1 : List (List Int)) (l1 : List Int) : Option (List Bool) := if 0 ≤ a0_0 then (if (a0_0 : Int).toNat ≤ 281474976710656 then (peel_mask.l0 k (List.replicate (a0_0 : Int).toNat false) l1 (l1.length : Int) 0) else (none)) else (none)
theorem peel_mask.calls (k : Nat) (a0_0 : Int) (A0_1 : Option Addr) (c0_1 : Nat) (l0_1 : List (List Int)) (A1 : Option Addr) (c1 : Nat) (l1 : List Int) (r : List Bool) (w : World) (hr0_1 : Kd.C (Kd.slice 3 (Kd.int .i64)) w A0_1 l0_1.length l0_1) (hc0_1 : l0_1.length ≤ c0_1) (hr1 : Kd.C (Kd.int .i64) w A1 l1.length l1) (hc1 : l1.length ≤ c1) (h : peel_mask.f k a0_0 l0_1 l1 = some r) :
  Calls Try.prog 50 #[.agg #[.int .i64 a0_0, .slice A0_1 l0_1.length c0_1], .slice A1 l1.length c1] w fun e w' => ∃ v0_ : Value, e = .returned (v0_) ∧ Kd.R Kd.bool 4 w' w.heap.size (fun _ => True) v0_ r ∧ Below w.heap.size w w' := by
 have hu31 := Try.underlying31
 have HR0_1 := ak hr0_1
 have HC0_1 := ak hc0_1
 clear hr0_1 hc0_1
 have HR1 := ak hr1
 have HC1 := ak hc1
 clear hr1 hc1
 have HB := ak (Below.refl w.heap.size w)
 have H : (if 0 ≤ a0_0 then (if (a0_0 : Int).toNat ≤ 281474976710656 then (peel_mask.l0 k (List.replicate (a0_0 : Int).toNat false) l1 (l1.length : Int) 0) else (none)) else (none)) = some r := h
 clear h
 by_cases c3 : 0 ≤ a0_0
 ·rw [if_pos c3] at H
  have c3b0 := eq_true c3
  have c3b1 : decide (0 ≤ a0_0) = true := det c3
  clear c3
  by_cases c4 : (a0_0 : Int).toNat ≤ 281474976710656
  ·rw [if_pos c4] at H
   have c4b0 := eq_true c4
   have c4b1 : decide ((a0_0 : Int).toNat ≤ 281474976710656) = true := det c4
   clear c4
   obtain ⟨y118, hy118⟩ : ∃ y_ : List Bool, y_ = (List.replicate (a0_0 : Int).toNat false) := ⟨_, rfl⟩
   replace H : (peel_mask.l0 k y118 l1 (l1.length : Int) 0) = some r := by (rw [hy118]; with_reducible exact H)
   have Ny118 := ak hy118
   clear hy118
   have H' := ak H
   clear H
   go_enter Try.func50, Try.ntmps50
   go_wp2_with (first | ((with_reducible refine gate_dst (N := 2) rfl ?_); refine box_event ?hg (N := 2) ?hd (cs := #[.int .i64 a0_0, .slice A0_1 l0_1.length c0_1]) (t := 31) ?hr ?_; (case hd => rfl); (case hg => rfl); (case hr => (go_simp; done)); intro gb117 hg w5 hbox hb; have n0_ := ak (bsp HB.out hb); have n1_ := ak (hbox); have n2_ := ak ((by rw [hg]; exact (bsz HB.out) : w.heap.size ≤ gb117)); have n3_ := ak ((by rw [hg]; exact (bsz HB.out) : w.heap.size ≤ gb117)); clear HB; have HB := n0_; have BK117 := n1_; have GW117 := n2_; have GE117 := n3_; clear n0_ n1_ n2_ n3_; clear hb hbox hg; have hcz6_0 : w5.cell? ⟨gb117, 0, none⟩ = some (.int .i64 a0_0) := (kce BK117.out 0).trans rfl; have hcz6_1 : w5.cell? ⟨gb117, 1, none⟩ = some (.slice A0_1 l0_1.length c0_1) := (kce BK117.out 1).trans rfl) | ((with_reducible refine gate_dst (N := 10) rfl ?_); refine Kd.R_make Kd.bool _ 4 rfl (N := 10) rfl 73 _ _ rfl a0_0 rfl rfl Try.underlying73 (.bool false) 1 info4 rfl (by decide) (by omega) false (ok := fun _ => True) (okp := fun _ => True) rfl (fun _ hk => hk) trivial (odt (by with_reducible assumption)) (Nat.le_trans (Nat.mul_le_mul_right _ (odt (by with_reducible assumption) : a0_0.toNat ≤ 281474976710656)) (by omega)) (Below.refl _ _) (Nat.le_refl _) ?_; intro v119 w7 ho8 hb hg_ hnew_; clear hg_ hnew_; (rw [← Ny118.out] at ho8); have n0_ := ak (Kd.R_lower ho8 (bsz HB.out)); have n1_ := ak (kbe BK117.out hb); have n2_ := ak (bsp HB.out hb); clear BK117 HB; have HO120 := n0_; have BK117 := n1_; have HB := n2_; clear n0_ n1_ n2_; clear hb ho8))
   go_loopg [13] k (fun kq v13 w' => ∃ (x5_1 : List Bool) (x13_1 : Int), v13 = .int .i64 x13_1 ∧ Aside0 (peel_mask.l0 kq x5_1 l1 (l1.length : Int) x13_1 = some r) ∧ Aside0 (kq ≤ k) ∧ Aside0 (Kd.R Kd.bool 4 w' w.heap.size (fun _ => True) v119 x5_1) ∧ Aside0 (w'.heap[gb117]? = some (.cells #[.int .i64 a0_0, (.slice A0_1 l0_1.length c0_1)] 31 (0, 0))) ∧ Aside0 (Below w.heap.size w w'))
   case atStart => exact ⟨(y118), (0), (by first | rfl | (simp; done) | (simp [*]; done)), H', ⟨Nat.le_refl _⟩, ⟨by (with_reducible repeat (first | apply Kd.R_alloc | apply Kd.R_drewN | apply Kd.R_drew)); exact HO120.out⟩, ⟨by (with_reducible repeat (first | refine kdn ?_ _ | refine kdr ?_ | refine kal ?_ _)); exact BK117.out⟩, ⟨by repeat (first | (with_reducible first | exact HB.out | apply bal | apply pbn | apply bd1 | refine bst ?_ GE117.out) | exact HB.out)⟩⟩
   case round =>
    clear H'
    try (clear c3b0)
    try (clear c3b1)
    try (clear c4b0)
    try (clear c4b1)
    try (clear hcz6_0)
    try (clear hcz6_1)
    obtain ⟨x5_1, x13_1, rfl, HA, HK1, HO_5, BK117, HB⟩ := hrel
    cases gk with
    | zero => exact absurd HA.out (by simp [peel_mask.l0])
    | succ k1 =>
     have H := HA.out
     clear HA
     simp only [peel_mask.l0] at H
     by_cases c9 : x13_1 < (l1.length : Int)
     ·rw [if_pos c9] at H
      have c9b0 : decide (x13_1 < (l1.length : Int)) = true := det c9
      clear c9
      by_cases c10 : 0 ≤ x13_1
      ·rw [if_pos c10] at H
       have c10b0 : decide (0 ≤ x13_1) = true := det c10
       clear c10
       by_cases c11 : x13_1 < (l1.length : Int)
       ·rw [if_pos c11] at H
        have c11b0 : decide (x13_1 < (l1.length : Int)) = true := det c11
        clear c11
        by_cases c12 : 0 ≤ (rd l1 x13_1)
        ·rw [if_pos c12] at H
         have c12b0 : decide (0 ≤ (rd l1 x13_1)) = true := det c12
         clear c12
         by_cases c13 : (rd l1 x13_1) < (x5_1.length : Int)
         ·rw [if_pos c13] at H
          have c13b0 : decide ((rd l1 x13_1) < (x5_1.length : Int)) = true := det c13
          clear c13
          obtain ⟨y122, hy122⟩ : ∃ y_ : List Bool, y_ = (x5_1.set ((rd l1 x13_1) : Int).toNat true) := ⟨_, rfl⟩
          replace H : (peel_mask.l0 k1 y122 l1 (l1.length : Int) (wrap64 (x13_1 + 1))) = some r := by (rw [hy122]; with_reducible exact H)
          have Ny122 := ak hy122
          clear hy122
          have H' := ak H
          clear H
          have p121 : 0 ≤ (x13_1 : Int) := odt (by with_reducible assumption)
          have q121 : x13_1 < (l1.length : Int) := odt (by with_reducible assumption)
          obtain ⟨ad121, e121, hx121_0⟩ := Kd.at_int HR1.out x13_1 p121 q121
          cases e121
          replace hx121_0 := (HB.out.cell (World.block_lt_of_cell? w _ hx121_0)).trans hx121_0
          replace p121 := eq_true p121
          replace q121 := eq_true q121
          have p14 : 0 ≤ ((rd l1 x13_1) : Int) := odt (by with_reducible assumption)
          have q14 : ((rd l1 x13_1) : Int) < ((x5_1.length : Int) : Int) := odt (by with_reducible assumption)
          obtain ⟨go14, co14, eo14, gb14, gl14, cl14, HG14⟩ := Kd.R_form HO_5.out (by omega)
          (cases eo14)
          have GB14 := ak gb14
          have GG14 := ak HG14
          clear gb14 gl14 HG14
          obtain ⟨hx14_0, hf14_0⟩ := Kd.R_celln false HO_5.out ((rd l1 x13_1) : Int) p14 q14
          replace p14 := eq_true p14
          replace q14 := eq_true q14
          have HP15 := Kd.R_putg HO_5.out ((rd l1 x13_1) : Int) true
          go_wp2_with ((with_reducible refine gate_store (t := 4) (p := 19) rfl ?_); refine store_event (t := 4) (p := 19) (v := ?vo_w16) (w1 := (wr.setCell ⟨go14, ((rd l1 x13_1) : Int).toNat, none⟩ (.bool true))) ?hg ?ho ?hn ?hr ?_; (case ho => rfl); (case hg => rfl); (case hn => rfl); (case hr => (go_simp; done)); intro w16 hw; have hg : wr.grownBy w16 (some go14) := (by rw [hw]; exact HP15.2); have hp_ : Kd.R Kd.bool 4 w16 w.heap.size (fun _ => True) (.slice (some ⟨go14, 0, none⟩) x5_1.length co14) y122 := (by rw [hw, Ny122.out]; exact HP15.1); clear HP15; have n0_ := ak (hp_); have n1_ := ak (blk_grown (g := gb117) (o := .cells #[.int .i64 a0_0, .slice A0_1 l0_1.length c0_1] 31 (0, 0)) BK117.out hg (Kd.R_ne HO_5.out BK117.out (by decide))); have n2_ := ak ((by rw [hw]; exact bst (HB.out) GB14.out : Below w.heap.size w w16)); clear HO_5 BK117 HB; have HO_5 := n0_; have BK117 := n1_; have HB := n2_; clear n0_ n1_ n2_; clear hg hw hp_)
          go_roundg k1
          case measure => have := HK1.out; omega
          case rel => exact ⟨(y122), (wrap64 (x13_1 + 1)), (by first | rfl | (simp; done) | (simp [*]; done)), H', ⟨by have := HK1.out; omega⟩, ⟨by (with_reducible repeat (first | apply Kd.R_alloc | apply Kd.R_drewN | apply Kd.R_drew)); exact HO_5.out⟩, ⟨by (with_reducible repeat (first | refine kdn ?_ _ | refine kdr ?_ | refine kal ?_ _)); exact BK117.out⟩, ⟨by repeat (first | (with_reducible first | exact HB.out | apply bal | apply pbn | apply bd1 | refine bst ?_ GE117.out) | exact HB.out)⟩⟩
         ·rw [if_neg c13] at H
          exact absurd H (by simp)
        ·rw [if_neg c12] at H
         exact absurd H (by simp)
       ·rw [if_neg c11] at H
        exact absurd H (by simp)
      ·rw [if_neg c10] at H
       exact absurd H (by simp)
     ·rw [if_neg c9] at H
      have c9b0 : decide (x13_1 < (l1.length : Int)) = false := dff c9
      clear c9
      obtain rfl := osi H
      go_wp2
      go_ret
      exact ⟨_, by first | rfl | (simp <;> rfl) | (simp [*] <;> rfl), by (with_reducible repeat (first | apply Kd.R_alloc | apply Kd.R_drewN | apply Kd.R_drew)); exact HO_5.out, by repeat (first | (with_reducible first | exact HB.out | apply bal | apply pbn | apply bd1 | refine bst ?_ GE117.out) | exact HB.out)⟩
  ·rw [if_neg c4] at H
   exact absurd H (by simp)
 ·rw [if_neg c3] at H
  exact absurd H (by simp)
def peel_left.l0 : Nat → List Int → List Bool → Int → Int → Option (List Int)
 | 0, _, _, _, _ => none
 | k + 1, x3, x6, x7, x8 => if x8 < x7 then (if 0 ≤ x8 then (if x8 < (x6.length : Int) then (if rdOf false x6 x8 = true then (if x3.length < 17592186044416 then (peel_left.l0 k (x3 ++ [x8]) x6 x7 (wrap64 (x8 + 1))) else (none)) else (peel_left.l0 k x3 x6 x7 (wrap64 (x8 + 1)))) else (none)) else (none)) else (some x3)
def peel_left.f (k : Nat) (l0 : List Bool) : Option (List Int) := peel_left.l0 k ([] : List Int) l0 (l0.length : Int) 0
theorem peel_left.calls (k : Nat) (A0 : Option Addr) (c0 : Nat) (l0 : List Bool) (r : List Int) (w : World) (hr0 : Kd.C Kd.bool w A0 l0.length l0) (hc0 : l0.length ≤ c0) (h : peel_left.f k l0 = some r) :
  Calls Try.prog 55 #[.slice A0 l0.length c0] w fun e w' => ∃ v0_ : Value, e = .returned (v0_) ∧ Kd.R (Kd.int .i64) 3 w' w.heap.size (fun _ => True) v0_ r ∧ Below w.heap.size w w' := by
 have HR0 := ak hr0
 have HC0 := ak hc0
 clear hr0 hc0
 have HB := ak (Below.refl w.heap.size w)
 have H : (peel_left.l0 k ([] : List Int) l0 (l0.length : Int) 0) = some r := h
 clear h
 have H' := ak H
 clear H
 go_enter Try.func55, Try.ntmps55
 go_wp2
 go_loopg [3, 8] k (fun kq v3 v8 w' => ∃ (x3_1 : List Int) (x8_1 : Int), v8 = .int .i64 x8_1 ∧ Aside0 (peel_left.l0 kq x3_1 l0 (l0.length : Int) x8_1 = some r) ∧ Aside0 (kq ≤ k) ∧ Aside0 (Kd.R (Kd.int .i64) 3 w' w.heap.size (fun _ => True) v3 x3_1) ∧ Aside0 (Below w.heap.size w w'))
 case atStart => exact ⟨(([] : List Int)), (0), (by first | rfl | (simp; done) | (simp [*]; done)), H', ⟨Nat.le_refl _⟩, ⟨by first | exact Kd.R_nil _ _ _ _ _ | exact Kd.N_nil _ _ _ _ _ | exact Kd.V_nil _ _ _ _ _ | exact Kd.Q_nil _ _ _ _ _ | exact Kd.S_nil _ _ _ _ _⟩, ⟨by repeat (first | (with_reducible first | exact HB.out | apply bal | apply pbn | apply bd1) | exact HB.out)⟩⟩
 case round =>
  clear H'
  obtain ⟨x3_1, x8_1, rfl, HA, HK1, HO_3, HB⟩ := hrel
  cases gk with
  | zero => exact absurd HA.out (by simp [peel_left.l0])
  | succ k1 =>
   have H := HA.out
   clear HA
   simp only [peel_left.l0] at H
   by_cases c2 : x8_1 < (l0.length : Int)
   ·rw [if_pos c2] at H
    have c2b0 : decide (x8_1 < (l0.length : Int)) = true := det c2
    clear c2
    by_cases c3 : 0 ≤ x8_1
    ·rw [if_pos c3] at H
     have c3b0 : decide (0 ≤ x8_1) = true := det c3
     clear c3
     by_cases c4 : x8_1 < (l0.length : Int)
     ·rw [if_pos c4] at H
      have c4b0 : decide (x8_1 < (l0.length : Int)) = true := det c4
      clear c4
      obtain ⟨bq5, hbq5⟩ : ∃ b_ : Bool, b_ = (rdOf false l0 x8_1) := ⟨_, rfl⟩
      replace H : (if bq5 = true then (if x3_1.length < 17592186044416 then (peel_left.l0 k1 (x3_1 ++ [x8_1]) l0 (l0.length : Int) (wrap64 (x8_1 + 1))) else (none)) else (peel_left.l0 k1 x3_1 l0 (l0.length : Int) (wrap64 (x8_1 + 1)))) = some r := by rw [← hbq5] at H; exact H
      have Nbq5 := ak hbq5
      clear hbq5
      by_cases c6 : bq5 = true
      ·subst c6
       have H1 : (if x3_1.length < 17592186044416 then (peel_left.l0 k1 (x3_1 ++ [x8_1]) l0 (l0.length : Int) (wrap64 (x8_1 + 1))) else (none)) = some r := by rw [if_pos rfl] at H; exact H
       clear H
       have H := H1
       clear H1
       by_cases c7 : x3_1.length < 17592186044416
       ·rw [if_pos c7] at H
        have LMc7 := ak c7
        clear c7
        obtain ⟨y124, hy124⟩ : ∃ y_ : List Int, y_ = (x3_1 ++ [x8_1]) := ⟨_, rfl⟩
        replace H : (peel_left.l0 k1 y124 l0 (l0.length : Int) (wrap64 (x8_1 + 1))) = some r := by (rw [hy124]; with_reducible exact H)
        have Ny124 := ak hy124
        clear hy124
        have H' := ak H
        clear H
        have p123 : 0 ≤ (x8_1 : Int) := odt (by with_reducible assumption)
        have q123 : x8_1 < (l0.length : Int) := odt (by with_reducible assumption)
        obtain ⟨ad123, e123, hx123_0⟩ := Kd.at_bool HR0.out x8_1 p123 q123
        (try (rw [← Nbq5.out] at hx123_0))
        cases e123
        replace hx123_0 := (HB.out.cell (World.block_lt_of_cell? w _ hx123_0)).trans hx123_0
        replace p123 := eq_true p123
        replace q123 := eq_true q123
        go_wp2_with (first | ((with_reducible refine gate_builtin (b := .append) (xs := #[.tmp 14, .tmp 16]) rfl ?_); at_builtin; refine Kd.R_append (Kd.int .i64) (w0 := w) w.heap.size rfl (.tmp 14) (.tmp 16) 22 3 (.int .i64 0) 8 rfl Try.underlying22 info3 rfl (by decide) (by omega) u3 x3_1 x8_1 [.int .i64 x8_1] (fun _ => True) (fun _ => False) rfl rfl ?aP (fun _ hk => hk.elim) ?aF ?aO ?aB ?aS ?aL ?_; (case aP => exact rfl); (case aB => exact (by repeat (first | (with_reducible first | exact HB.out | apply bal | apply pbn | apply bd1) | exact HB.out))); (case aF => exact (fun _ _ => trivial)); (case aO => exact (by (with_reducible repeat (first | apply Kd.R_alloc | apply Kd.R_drewN | apply Kd.R_drew)); exact HO_3.out)); (case aS => exact (bsz (by repeat (first | (with_reducible first | exact HB.out | apply bal | apply pbn | apply bd1) | exact HB.out)))); (case aL => have := LMc7.out; omega); intro v125 w8 ho hb hg hat; rw [← Ny124.out] at ho; have n0_ := ak (hb); have n1_ := ak (ho); clear HB HO_3; have HB := n0_; have HO126 := n1_; clear n0_ n1_; clear ho hb hg hat))
        go_roundg k1
        case measure => have := HK1.out; omega
        case rel => exact ⟨(y124), (wrap64 (x8_1 + 1)), (by first | rfl | (simp; done) | (simp [*]; done)), H', ⟨by have := HK1.out; omega⟩, ⟨by (with_reducible repeat (first | apply Kd.R_alloc | apply Kd.R_drewN | apply Kd.R_drew)); exact HO126.out⟩, ⟨by repeat (first | (with_reducible first | exact HB.out | apply bal | apply pbn | apply bd1) | exact HB.out)⟩⟩
       ·rw [if_neg c7] at H
        exact absurd H (by simp)
      ·replace c6 := Bool.eq_false_iff.mpr c6
       subst c6
       have H1 : (peel_left.l0 k1 x3_1 l0 (l0.length : Int) (wrap64 (x8_1 + 1))) = some r := by rw [if_neg (show ¬ (false = true) by decide)] at H; exact H
       clear H
       have H := H1
       clear H1
       have H' := ak H
       clear H
       have p123 : 0 ≤ (x8_1 : Int) := odt (by with_reducible assumption)
       have q123 : x8_1 < (l0.length : Int) := odt (by with_reducible assumption)
       obtain ⟨ad123, e123, hx123_0⟩ := Kd.at_bool HR0.out x8_1 p123 q123
       (try (rw [← Nbq5.out] at hx123_0))
       cases e123
       replace hx123_0 := (HB.out.cell (World.block_lt_of_cell? w _ hx123_0)).trans hx123_0
       replace p123 := eq_true p123
       replace q123 := eq_true q123
       go_wp2
       go_roundg k1
       case measure => have := HK1.out; omega
       case rel => exact ⟨(x3_1), (wrap64 (x8_1 + 1)), (by first | rfl | (simp; done) | (simp [*]; done)), H', ⟨by have := HK1.out; omega⟩, ⟨by (with_reducible repeat (first | apply Kd.R_alloc | apply Kd.R_drewN | apply Kd.R_drew)); exact HO_3.out⟩, ⟨by repeat (first | (with_reducible first | exact HB.out | apply bal | apply pbn | apply bd1) | exact HB.out)⟩⟩
     ·rw [if_neg c4] at H
      exact absurd H (by simp)
    ·rw [if_neg c3] at H
     exact absurd H (by simp)
   ·rw [if_neg c2] at H
    have c2b0 : decide (x8_1 < (l0.length : Int)) = false := dff c2
    clear c2
    obtain rfl := osi H
    go_wp2
    go_ret
    exact ⟨_, by first | rfl | (simp <;> rfl) | (simp [*] <;> rfl), by (with_reducible repeat (first | apply Kd.R_alloc | apply Kd.R_drewN | apply Kd.R_drew)); exact HO_3.out, by repeat (first | (with_reducible first | exact HB.out | apply bal | apply pbn | apply bd1) | exact HB.out)⟩
mutual
def peel_neighbors.l0 : Nat → List (List Int) → List (List Int) → Int → Int → Int → List (List Int) → Option ((List (List Int)))
 | 0, _, _, _, _, _, _ => none
 | k + 1, x3, x16, x17, x18, x128000, x128001 => if x18 < x17 then (if 0 ≤ x18 then (if x18 < (x16.length : Int) then (peel_neighbors.l1 k x3 x18 x16 x17 x18 (rd_L2 x16 x18) ((rd_L2 x16 x18).length : Int) 0 x128000 x128001) else (none)) else (none)) else (some x3)
def peel_neighbors.l1 : Nat → List (List Int) → Int → List (List Int) → Int → Int → List Int → Int → Int → Int → List (List Int) → Option ((List (List Int)))
 | 0, _, _, _, _, _, _, _, _, _, _ => none
 | k + 1, x3, x4, x16, x17, x18, x23, x24, x25, x128000, x128001 => if x25 < x24 then (if 0 ≤ x25 then (if x25 < (x23.length : Int) then (if 0 ≤ (rd x23 x25) then (if (rd x23 x25) < (x3.length : Int) then (if (rd_L2 x3 (rd x23 x25)).length < 17592186044416 then ((some (x3.set ((rd x23 x25) : Int).toNat ((rd_L2 x3 (rd x23 x25)) ++ [wrap64 (x128000 + x4)]) : List (List Int))).bind fun y137 => (if 0 ≤ (wrap64 (x128000 + x4)) then (if (wrap64 (x128000 + x4)) < (x3.length : Int) then (if (rd_L2 y137 (wrap64 (x128000 + x4))).length < 17592186044416 then (peel_neighbors.l1 k (y137.set ((wrap64 (x128000 + x4)) : Int).toNat ((rd_L2 y137 (wrap64 (x128000 + x4))) ++ [rd x23 x25])) x4 x16 x17 x18 x23 x24 (wrap64 (x25 + 1)) x128000 x128001) else (none)) else (none)) else (none))) else (none)) else (none)) else (none)) else (none)) else (none)) else (peel_neighbors.l0 k x3 x16 x17 (wrap64 (x18 + 1)) x128000 x128001)
end
def peel_neighbors.f (k : Nat) (a0_0 : Int) (l0_1 : List (List Int)) : Option ((List (List Int))) := if 0 ≤ (wrap64 (a0_0 + (l0_1.length : Int))) then (if (wrap64 (a0_0 + (l0_1.length : Int)) : Int).toNat ≤ 11728124029610 then (peel_neighbors.l0 k (List.replicate (wrap64 (a0_0 + (l0_1.length : Int)) : Int).toNat []) l0_1 (l0_1.length : Int) 0 a0_0 l0_1) else (none)) else (none)
def peel_neighbors.T8 : Bool × List (List Nat × List Nat) := (true, [([], []), ([], []), ([], []), ([], []), ([2, 3], [2, 3]), ([4], [4]), ([], []), ([6], [6]), ([], []), ([7, 8], [7, 8]), ([9], [9]), ([5, 10], [5, 10]), ([0, 1, 0, 1, 2, 3, 4, 5, 6, 7, 8, 9, 10, 11], [0, 1]), ([12, 11, 11, 0, 1, 2, 3, 4, 5, 6, 7, 8, 9, 10, 11], [11, 12])])
def peel_neighbors.B8 : List Nat := [0, 0, 0, 0, 12, 28, 0, 64, 0, 448, 960, 2044, 4095, 8191]
theorem peel_neighbors.tab8 : rtab .any (opsOf Try.f45 8) = peel_neighbors.T8 := by kernel_rfl
theorem peel_neighbors.bits8 : waitsOk peel_neighbors.T8.2 peel_neighbors.B8 = true := by kernel_rfl
def peel_neighbors.T9 : Bool × List (List Nat × List Nat) := (true, [([], []), ([], []), ([1], [1]), ([], []), ([2, 3], [2, 3]), ([], []), ([], []), ([6], [6]), ([], []), ([7, 8], [7, 8]), ([5, 9], [5, 9]), ([10], [10]), ([], []), ([12], [12]), ([11, 13], [11, 13]), ([0, 4, 0, 1, 2, 3, 4, 5, 6, 7, 8, 9, 10, 11, 12, 13, 14], [0, 4]), ([15, 14, 14, 0, 1, 2, 3, 4, 5, 6, 7, 8, 9, 10, 11, 12, 13, 14], [14, 15])])
def peel_neighbors.B9 : List Nat := [0, 0, 2, 0, 14, 0, 0, 64, 0, 448, 992, 2016, 0, 4096, 16352, 32767, 65535]
theorem peel_neighbors.tab9 : rtab .any (opsOf Try.f45 9) = peel_neighbors.T9 := by kernel_rfl
theorem peel_neighbors.bits9 : waitsOk peel_neighbors.T9.2 peel_neighbors.B9 = true := by kernel_rfl
theorem peel_neighbors.calls (k : Nat) (a0_0 : Int) (A0_1 : Option Addr) (c0_1 : Nat) (l0_1 : List (List Int)) (r : List (List Int)) (w : World) (hr0_1 : Kd.C (Kd.slice 3 (Kd.int .i64)) w A0_1 l0_1.length l0_1) (hc0_1 : l0_1.length ≤ c0_1) (h : peel_neighbors.f k a0_0 l0_1 = some r) :
  Calls Try.prog 45 #[.agg #[.int .i64 a0_0, .slice A0_1 l0_1.length c0_1]] w fun e w' => ∃ v0_ : Value, e = .returned (v0_) ∧ Kd.S (Kd.slice 3 (Kd.int .i64)) 22 w' w.heap.size (fun _ => True) v0_ r ∧ Below w.heap.size w w' := by
 have hu31 := Try.underlying31
 have HR0_1 := ak hr0_1
 have HC0_1 := ak hc0_1
 clear hr0_1 hc0_1
 have HB := ak (Below.refl w.heap.size w)
 have H : (if 0 ≤ (wrap64 (a0_0 + (l0_1.length : Int))) then (if (wrap64 (a0_0 + (l0_1.length : Int)) : Int).toNat ≤ 11728124029610 then (peel_neighbors.l0 k (List.replicate (wrap64 (a0_0 + (l0_1.length : Int)) : Int).toNat []) l0_1 (l0_1.length : Int) 0 a0_0 l0_1) else (none)) else (none)) = some r := h
 clear h
 obtain ⟨ji2, hji2⟩ : ∃ j_ : Int, (wrap64 (a0_0 + (l0_1.length : Int))) = j_ := ⟨_, rfl⟩
 replace H : (if 0 ≤ (ji2) then (if (ji2 : Int).toNat ≤ 11728124029610 then (peel_neighbors.l0 k (List.replicate (ji2 : Int).toNat []) l0_1 (l0_1.length : Int) 0 a0_0 l0_1) else (none)) else (none)) = some r := by (rw [hji2] at H; exact H)
 have hji2w : (IntKind.i64.wrap (a0_0 + (l0_1.length : Int))) = ji2 := (i64_w _).trans hji2
 by_cases c3 : 0 ≤ (ji2)
 ·rw [if_pos c3] at H
  have c3b0 := eq_true c3
  have c3b1 : decide (0 ≤ (ji2)) = true := det c3
  clear c3
  by_cases c4 : (ji2 : Int).toNat ≤ 11728124029610
  ·rw [if_pos c4] at H
   have c4b0 := eq_true c4
   have c4b1 : decide ((ji2 : Int).toNat ≤ 11728124029610) = true := det c4
   clear c4
   obtain ⟨y128, hy128⟩ : ∃ y_ : List (List Int), y_ = (List.replicate (ji2 : Int).toNat []) := ⟨_, rfl⟩
   replace H : (peel_neighbors.l0 k y128 l0_1 (l0_1.length : Int) 0 a0_0 l0_1) = some r := by (rw [hy128]; with_reducible exact H)
   have Ny128 := ak hy128
   clear hy128
   have H' := ak H
   clear H
   go_enter Try.func45, Try.ntmps45
   go_wp2_with (first | ((with_reducible refine gate_dst (N := 1) rfl ?_); refine box_event ?hg (N := 1) ?hd (cs := #[.int .i64 a0_0, .slice A0_1 l0_1.length c0_1]) (t := 31) ?hr ?_; (case hd => rfl); (case hg => rfl); (case hr => (go_simp; done)); intro gb127 hg w5 hbox hb; have n0_ := ak (bsp HB.out hb); have n1_ := ak (hbox); have n2_ := ak ((by rw [hg]; exact (bsz HB.out) : w.heap.size ≤ gb127)); have n3_ := ak ((by rw [hg]; exact (bsz HB.out) : w.heap.size ≤ gb127)); clear HB; have HB := n0_; have BK127 := n1_; have GW127 := n2_; have GE127 := n3_; clear n0_ n1_ n2_ n3_; clear hb hbox hg; have hcz6_0 : w5.cell? ⟨gb127, 0, none⟩ = some (.int .i64 a0_0) := (kce BK127.out 0).trans rfl; have hcz6_1 : w5.cell? ⟨gb127, 1, none⟩ = some (.slice A0_1 l0_1.length c0_1) := (kce BK127.out 1).trans rfl) | ((with_reducible refine gate_dst (N := 14) rfl ?_); refine Kd.S_make (Kd.slice 3 (Kd.int .i64)) _ 22 rfl (N := 14) rfl 25 _ _ rfl ji2 rfl rfl Try.underlying25 (.slice none 0 0) 24 info22 rfl (by decide) (by omega) [] (ok := fun _ => True) (okp := fun _ => True) ⟨_, rfl, Kd.R_nil _ _ _ _ _⟩ (fun _ hk => hk) trivial (odt (by with_reducible assumption)) (Nat.le_trans (Nat.mul_le_mul_right _ (odt (by with_reducible assumption) : ji2.toNat ≤ 11728124029610)) (by omega)) (Below.refl _ _) (Nat.le_refl _) ?_; intro v129 w7 ho8 hb hg_ hnew_; clear hg_ hnew_; (rw [← Ny128.out] at ho8); have n0_ := ak (Kd.S_lower ho8 (bsz HB.out)); have n1_ := ak (kbe BK127.out hb); have n2_ := ak (bsp HB.out hb); clear BK127 HB; have HO130 := n0_; have BK127 := n1_; have HB := n2_; clear n0_ n1_ n2_; clear hb ho8; have hcz9_0 : w7.cell? ⟨gb127, 0, none⟩ = some (.int .i64 a0_0) := (kce BK127.out 0).trans rfl; have hcz9_1 : w7.cell? ⟨gb127, 1, none⟩ = some (.slice A0_1 l0_1.length c0_1) := (kce BK127.out 1).trans rfl))
   go_loopg [18] k (fun kq v18 w' => ∃ (x3_1 : List (List Int)) (x18_1 : Int), v18 = .int .i64 x18_1 ∧ Aside0 (peel_neighbors.l0 kq x3_1 l0_1 (l0_1.length : Int) x18_1 a0_0 l0_1 = some r) ∧ Aside0 (kq ≤ k) ∧ Aside0 (Kd.S (Kd.slice 3 (Kd.int .i64)) 22 w' w.heap.size (fun _ => True) v129 x3_1) ∧ Aside0 (w'.heap[gb127]? = some (.cells #[.int .i64 a0_0, (.slice A0_1 l0_1.length c0_1)] 31 (0, 0))) ∧ Aside0 (Below w.heap.size w w'))
   case atStart => exact ⟨(y128), (0), (by first | rfl | (simp; done) | (simp [*]; done)), H', ⟨Nat.le_refl _⟩, ⟨by (with_reducible repeat (first | apply Kd.S_alloc | apply Kd.S_drewN | apply Kd.S_drew)); exact HO130.out⟩, ⟨by (with_reducible repeat (first | refine kdn ?_ _ | refine kdr ?_ | refine kal ?_ _)); exact BK127.out⟩, ⟨by repeat (first | (with_reducible first | exact HB.out | apply bal | apply pbn | apply bd1 | refine bst ?_ GE127.out) | exact HB.out)⟩⟩
   case round =>
    clear H'
    try (clear c3b0)
    try (clear c3b1)
    try (clear c4b0)
    try (clear c4b1)
    try (clear hcz6_0)
    try (clear hcz6_1)
    try (clear hcz9_0)
    try (clear hcz9_1)
    obtain ⟨x3_1, x18_1, rfl, HA, HK1, HO_3, BK127, HB⟩ := hrel
    cases gk with
    | zero => exact absurd HA.out (by simp [peel_neighbors.l0])
    | succ k1 =>
     have H := HA.out
     clear HA
     simp only [peel_neighbors.l0] at H
     by_cases c10 : x18_1 < (l0_1.length : Int)
     ·rw [if_pos c10] at H
      have c10b0 : decide (x18_1 < (l0_1.length : Int)) = true := det c10
      clear c10
      by_cases c11 : 0 ≤ x18_1
      ·rw [if_pos c11] at H
       have c11b0 : decide (0 ≤ x18_1) = true := det c11
       clear c11
       by_cases c12 : x18_1 < (l0_1.length : Int)
       ·rw [if_pos c12] at H
        have c12b0 : decide (x18_1 < (l0_1.length : Int)) = true := det c12
        clear c12
        have H' := ak H
        clear H
        have p131 : 0 ≤ (x18_1 : Int) := odt (by with_reducible assumption)
        have q131 : x18_1 < (l0_1.length : Int) := odt (by with_reducible assumption)
        obtain ⟨ad131, A131_0, c131_0, e131, hx131_0, hl131_0, hi131_0⟩ := at_L2 HR0_1.out x18_1 p131 q131
        cases e131
        replace hx131_0 := (HB.out.cell (World.block_lt_of_cell? w _ hx131_0)).trans hx131_0
        have HR131_0 := ak hi131_0
        have HC131_0 := ak hl131_0
        clear hi131_0 hl131_0
        replace p131 := eq_true p131
        replace q131 := eq_true q131
        go_wp2
        go_loopg [25] k1 (fun kq v25 w' => ∃ (x3_2 : List (List Int)) (x25_2 : Int), v25 = .int .i64 x25_2 ∧ Aside0 (peel_neighbors.l1 kq x3_2 x18_1 l0_1 (l0_1.length : Int) x18_1 (rd_L2 l0_1 x18_1) ((rd_L2 l0_1 x18_1).length : Int) x25_2 a0_0 l0_1 = some r) ∧ Aside0 (kq ≤ k1) ∧ Aside0 (Kd.S (Kd.slice 3 (Kd.int .i64)) 22 w' w.heap.size (fun _ => True) v129 x3_2) ∧ Aside0 (w'.heap[gb127]? = some (.cells #[.int .i64 a0_0, (.slice (some ad131) l0_1.length c0_1)] 31 (0, 0))) ∧ Aside0 (Below w.heap.size w w'))
        case atStart => exact ⟨(x3_1), (0), (by first | rfl | (simp; done) | (simp [*]; done)), H', ⟨Nat.le_refl _⟩, ⟨by (with_reducible repeat (first | apply Kd.S_alloc | apply Kd.S_drewN | apply Kd.S_drew)); exact HO_3.out⟩, ⟨by (with_reducible repeat (first | refine kdn ?_ _ | refine kdr ?_ | refine kal ?_ _)); exact BK127.out⟩, ⟨by repeat (first | (with_reducible first | exact HB.out | apply bal | apply pbn | apply bd1 | refine bst ?_ GE127.out) | exact HB.out)⟩⟩
        case round =>
         clear H'
         try (clear c10b0)
         try (clear c11b0)
         try (clear c12b0)
         try (clear hx131_0)
         try (clear p131)
         try (clear q131)
         obtain ⟨x3_2, x25_2, rfl, HA, HK2, HO_3, BK127, HB⟩ := hrel
         cases gk with
         | zero => exact absurd HA.out (by simp [peel_neighbors.l1])
         | succ k2 =>
          have H := HA.out
          clear HA
          simp only [peel_neighbors.l1] at H
          by_cases c13 : x25_2 < ((rd_L2 l0_1 x18_1).length : Int)
          ·rw [if_pos c13] at H
           have c13b0 : decide (x25_2 < ((rd_L2 l0_1 x18_1).length : Int)) = true := det c13
           clear c13
           by_cases c14 : 0 ≤ x25_2
           ·rw [if_pos c14] at H
            have c14b0 : decide (0 ≤ x25_2) = true := det c14
            clear c14
            by_cases c15 : x25_2 < ((rd_L2 l0_1 x18_1).length : Int)
            ·rw [if_pos c15] at H
             have c15b0 : decide (x25_2 < ((rd_L2 l0_1 x18_1).length : Int)) = true := det c15
             clear c15
             by_cases c16 : 0 ≤ (rd (rd_L2 l0_1 x18_1) x25_2)
             ·rw [if_pos c16] at H
              have c16b0 : decide (0 ≤ (rd (rd_L2 l0_1 x18_1) x25_2)) = true := det c16
              clear c16
              by_cases c17 : (rd (rd_L2 l0_1 x18_1) x25_2) < (x3_2.length : Int)
              ·rw [if_pos c17] at H
               have c17b0 : decide ((rd (rd_L2 l0_1 x18_1) x25_2) < (x3_2.length : Int)) = true := det c17
               clear c17
               by_cases c18 : (rd_L2 x3_2 (rd (rd_L2 l0_1 x18_1) x25_2)).length < 17592186044416
               ·rw [if_pos c18] at H
                have LMc18 := ak c18
                clear c18
                obtain ⟨y134, hy134⟩ : ∃ y_ : List Int, y_ = ((rd_L2 x3_2 (rd (rd_L2 l0_1 x18_1) x25_2)) ++ [wrap64 (a0_0 + x18_1)]) := ⟨_, rfl⟩
                replace H : ((some (x3_2.set ((rd (rd_L2 l0_1 x18_1) x25_2) : Int).toNat y134 : List (List Int))).bind fun y137 => (if 0 ≤ (wrap64 (a0_0 + x18_1)) then (if (wrap64 (a0_0 + x18_1)) < (x3_2.length : Int) then (if (rd_L2 y137 (wrap64 (a0_0 + x18_1))).length < 17592186044416 then (peel_neighbors.l1 k2 (y137.set ((wrap64 (a0_0 + x18_1)) : Int).toNat ((rd_L2 y137 (wrap64 (a0_0 + x18_1))) ++ [rd (rd_L2 l0_1 x18_1) x25_2])) x18_1 l0_1 (l0_1.length : Int) x18_1 (rd_L2 l0_1 x18_1) ((rd_L2 l0_1 x18_1).length : Int) (wrap64 (x25_2 + 1)) a0_0 l0_1) else (none)) else (none)) else (none))) = some r := by (rw [hy134]; with_reducible exact H)
                have Ny134 := ak hy134
                clear hy134
                obtain ⟨y137, hy137⟩ : ∃ y_ : List (List Int), y_ = (x3_2.set ((rd (rd_L2 l0_1 x18_1) x25_2) : Int).toNat y134) := ⟨_, rfl⟩
                replace H : (if 0 ≤ (wrap64 (a0_0 + x18_1)) then (if (wrap64 (a0_0 + x18_1)) < (x3_2.length : Int) then (if (rd_L2 y137 (wrap64 (a0_0 + x18_1))).length < 17592186044416 then (peel_neighbors.l1 k2 (y137.set ((wrap64 (a0_0 + x18_1)) : Int).toNat ((rd_L2 y137 (wrap64 (a0_0 + x18_1))) ++ [rd (rd_L2 l0_1 x18_1) x25_2])) x18_1 l0_1 (l0_1.length : Int) x18_1 (rd_L2 l0_1 x18_1) ((rd_L2 l0_1 x18_1).length : Int) (wrap64 (x25_2 + 1)) a0_0 l0_1) else (none)) else (none)) else (none)) = some r := by (have H2_ := (Option.bind_some _ _).symm.trans H; rw [hy137]; with_reducible exact H2_)
                have Ny137 := ak hy137
                clear hy137
                obtain ⟨ji20, hji20⟩ : ∃ j_ : Int, (wrap64 (a0_0 + x18_1)) = j_ := ⟨_, rfl⟩
                replace H : (if 0 ≤ (ji20) then (if (ji20) < (x3_2.length : Int) then (if (rd_L2 y137 (ji20)).length < 17592186044416 then (peel_neighbors.l1 k2 (y137.set ((ji20) : Int).toNat ((rd_L2 y137 (ji20)) ++ [rd (rd_L2 l0_1 x18_1) x25_2])) x18_1 l0_1 (l0_1.length : Int) x18_1 (rd_L2 l0_1 x18_1) ((rd_L2 l0_1 x18_1).length : Int) (wrap64 (x25_2 + 1)) a0_0 l0_1) else (none)) else (none)) else (none)) = some r := by (rw [hji20] at H; exact H)
                (try (rw [hji20] at Ny134))
                have hji20w : (IntKind.i64.wrap (a0_0 + x18_1)) = ji20 := (i64_w _).trans hji20
                by_cases c21 : 0 ≤ (ji20)
                ·rw [if_pos c21] at H
                 have c21b0 : decide (0 ≤ (ji20)) = true := det c21
                 clear c21
                 by_cases c22 : (ji20) < (x3_2.length : Int)
                 ·rw [if_pos c22] at H
                  have c22b0 : decide ((ji20) < (x3_2.length : Int)) = true := det c22
                  clear c22
                  by_cases c23 : (rd_L2 y137 (ji20)).length < 17592186044416
                  ·rw [if_pos c23] at H
                   have LMc23 := ak c23
                   clear c23
                   obtain ⟨y139, hy139⟩ : ∃ y_ : List Int, y_ = ((rd_L2 y137 (ji20)) ++ [rd (rd_L2 l0_1 x18_1) x25_2]) := ⟨_, rfl⟩
                   replace H : (peel_neighbors.l1 k2 (y137.set ((ji20) : Int).toNat y139) x18_1 l0_1 (l0_1.length : Int) x18_1 (rd_L2 l0_1 x18_1) ((rd_L2 l0_1 x18_1).length : Int) (wrap64 (x25_2 + 1)) a0_0 l0_1) = some r := by (rw [hy139]; with_reducible exact H)
                   have Ny139 := ak hy139
                   clear hy139
                   obtain ⟨y142, hy142⟩ : ∃ y_ : List (List Int), y_ = (y137.set ((ji20) : Int).toNat y139) := ⟨_, rfl⟩
                   replace H : (peel_neighbors.l1 k2 y142 x18_1 l0_1 (l0_1.length : Int) x18_1 (rd_L2 l0_1 x18_1) ((rd_L2 l0_1 x18_1).length : Int) (wrap64 (x25_2 + 1)) a0_0 l0_1) = some r := by (rw [hy142]; with_reducible exact H)
                   have Ny142 := ak hy142
                   clear hy142
                   have H' := ak H
                   clear H
                   have p132 : 0 ≤ (x25_2 : Int) := odt (by with_reducible assumption)
                   have q132 : x25_2 < ((rd_L2 l0_1 x18_1).length : Int) := odt (by with_reducible assumption)
                   obtain ⟨ad132, e132, hx132_0⟩ := Kd.at_int HR131_0.out x25_2 p132 q132
                   cases e132
                   replace hx132_0 := (HB.out.cell (World.block_lt_of_cell? w _ hx132_0)).trans hx132_0
                   replace p132 := eq_true p132
                   replace q132 := eq_true q132
                   try (go_wp2)
                   have n0_ := ak (Kd.S_drew HO_3.out)
                   have n1_ := ak (kdr BK127.out)
                   have n2_ := ak (bd1 HB.out)
                   clear HO_3
                   clear BK127
                   clear HB
                   have HO_3 := n0_
                   have BK127 := n1_
                   have HB := n2_
                   clear n0_ n1_ n2_
                   obtain ⟨Ao26, co26, eo26⟩ := Kd.S_slice HO_3.out
                   (subst eo26)
                   have p133 : 0 ≤ ((rd (rd_L2 l0_1 x18_1) x25_2) : Int) := odt (by with_reducible assumption)
                   have q133 : (rd (rd_L2 l0_1 x18_1) x25_2) < (x3_2.length : Int) := odt (by with_reducible assumption)
                   obtain ⟨ad133, A133_0, c133_0, e133, hx133_0, hl133_0, hi133_0⟩ := at_L2 (Kd.S_reads' HO_3.out).2.2 (rd (rd_L2 l0_1 x18_1) x25_2) p133 q133
                   cases e133
                   obtain ⟨ce133, hce133, hMe133, hcc133⟩ := Kd.S_get HO_3.out [] (rd (rd_L2 l0_1 x18_1) x25_2) p133 (by exact q133)
                   obtain ⟨ve133_0, rfl, ge133_0⟩ := hMe133
                   have hv133_0 := hcc133 0 _ rfl
                   rw [Nat.add_zero, show ((Kd.slice 3 (Kd.int .i64))).sz = 1 from rfl, Nat.mul_one] at hv133_0
                   replace hv133_0 := osi (hv133_0.symm.trans hx133_0)
                   rw [hv133_0] at ge133_0
                   have HL133_0 := ak (show Kd.R (Kd.int .i64) 3 _ _ _ _ (rd_L2 x3_2 (rd (rd_L2 l0_1 x18_1) x25_2)) from ge133_0)
                   clear hv133_0 ge133_0
                   have HX133_0 := ak hx133_0
                   clear hcc133 hce133
                   have HR133_0 := ak hi133_0
                   have HC133_0 := ak hl133_0
                   clear hi133_0 hl133_0
                   replace p133 := eq_true p133
                   replace q133 := eq_true q133
                   obtain ⟨go27, co27, eo27, gb27, gl27, cl27, HG27⟩ := Kd.S_form HO_3.out (by have h_ : ((rd (rd_L2 l0_1 x18_1) x25_2) : Int) < ((x3_2.length : Int) : Int) := odt (by with_reducible assumption); have h2_ : 0 ≤ ((rd (rd_L2 l0_1 x18_1) x25_2) : Int) := (odt (by with_reducible assumption)); omega)
                   (cases eo27)
                   have GB27 := ak gb27
                   have GG27 := ak HG27
                   clear gb27 gl27 HG27
                   (simp only [add_plain] at hx133_0)
                   obtain ⟨oki27, ce27, hcl27, hM27, hcc27, _, _, hH27⟩ := Kd.S_elem HO_3.out [] ((rd (rd_L2 l0_1 x18_1) x25_2) : Int) (odt (by with_reducible assumption)) (by have h_ : ((rd (rd_L2 l0_1 x18_1) x25_2) : Int) < ((x3_2.length : Int) : Int) := odt (by with_reducible assumption); exact h_)
                   obtain ⟨ve27_0, rfl, ge27_0⟩ := hM27
                   have hv27 := hcc27 0 _ rfl
                   have hX27 := HX133_0.out
                   (try (simp only [add_plain] at hX27))
                   (try (simp only [Nat.add_zero] at hv27))
                   (try (rw [show ((Kd.slice 3 (Kd.int .i64))).sz = 1 from rfl, Nat.mul_one] at hv27))
                   replace hv27 := osi (hv27.symm.trans hX27)
                   subst hv27
                   clear hX27 hcc27 hcl27
                   have UU27 := ak (show Kd.R (Kd.int .i64) 3 _ w.heap.size oki27 (.slice A133_0 (rd_L2 x3_2 (rd (rd_L2 l0_1 x18_1) x25_2)).length c133_0) (rd_L2 x3_2 (rd (rd_L2 l0_1 x18_1) x25_2)) from ge27_0)
                   have HH27 := ak hH27
                   have HN27 := ak (Kd.S_reads' HO_3.out).1
                   clear hH27 ge27_0
                   refine start_ (n := 14) (S := fun w' => w'.cell? ⟨gb127, 0, none⟩ = some (.int .i64 a0_0) ∧ w'.cell? ⟨gb127, 1, none⟩ = some (.slice (some ad131) l0_1.length c0_1) ∧ w'.cell? (⟨go27, (rd (rd_L2 l0_1 x18_1) x25_2).toNat, none⟩ : Addr) = some (.slice A133_0 (rd_L2 x3_2 (rd (rd_L2 l0_1 x18_1) x25_2)).length c133_0)) (ds := [13]) #[false, false, false, false, false, false, false, false, false, false, false, false, false, false] (by kernel_rfl) rfl rfl ⟨(kce BK127.out 0).trans rfl, (kce BK127.out 1).trans rfl, hx133_0⟩ (fun hHeld => ?_); refine with_tabW peel_neighbors.tab8 peel_neighbors.bits8 (fun HT_ HW_ => ?_)
                   generalize wr.drew = w25 at HO_3 BK127 HB GG27 HH27 HL133_0 HR133_0 HX133_0 UU27 hx133_0 hHeld ⊢
                   refine pure_ (i := 0) (N := some 29) (v := ?_) (a' := ?_) #[true, false, false, false, false, false, false, false, false, false, false, false, false, false] rfl rfl (any_of HT_.out (by kernel_rfl)) (fun _ _ _ h => h) (Or.inl ⟨by rfl, ?_⟩) ?_ ?_
                   rotate_left
                   ·intro w'
                    go_simp
                    with_reducible rfl
                   rotate_left
                   ·simp only [Act.put, sia, scz, scs, i64_w, i32_w]
                    rfl
                   refine pure_ (i := 1) (N := some 30) (v := ?_) (a' := ?_) #[true, true, false, false, false, false, false, false, false, false, false, false, false, false] rfl rfl (any_of HT_.out (by kernel_rfl)) (fun _ _ _ h => h) (Or.inl ⟨by rfl, ?_⟩) ?_ ?_
                   rotate_left
                   ·intro w'
                    go_simp
                    with_reducible rfl
                   rotate_left
                   ·simp only [Act.put, sia, scz, scs, i64_w, i32_w]
                    rfl
                   refine pure_ (i := 2) (N := some 31) (v := ?_) (a' := ?_) #[true, true, true, false, false, false, false, false, false, false, false, false, false, false] rfl rfl (any_of HT_.out (by kernel_rfl)) (fun _ _ _ h => h) (Or.inl ⟨by rfl, ?_⟩) ?_ ?_
                   rotate_left
                   ·intro w'
                    go_simp
                    with_reducible rfl
                   rotate_left
                   ·simp only [Act.put, sia, scz, scs, i64_w, i32_w]
                    rfl
                   refine pure_ (i := 3) (N := some 32) (v := ?_) (a' := ?_) #[true, true, true, true, false, false, false, false, false, false, false, false, false, false] rfl rfl (any_of HT_.out (by kernel_rfl)) (fun _ _ _ h => h) (Or.inl ⟨by rfl, ?_⟩) ?_ ?_
                   rotate_left
                   ·intro w'
                    go_simp
                    with_reducible rfl
                   rotate_left
                   ·simp only [Act.put, sia, scz, scs, i64_w, i32_w]
                    rfl
                   refine pure_ (i := 4) (N := some 33) (v := ?_) (a' := ?_) #[true, true, true, true, true, false, false, false, false, false, false, false, false, false] rfl rfl (any_of HT_.out (by kernel_rfl)) (fun _ _ _ h => h) (Or.inl ⟨by rfl, ?_⟩) ?_ ?_
                   rotate_left
                   ·intro w'
                    go_simp
                    with_reducible rfl
                   rotate_left
                   ·simp only [Act.put, sia, scz, scs, i64_w, i32_w]
                    rfl
                   refine pure_ (i := 6) (N := some 35) (v := ?_) (a' := ?_) #[true, true, true, true, true, false, true, false, false, false, false, false, false, false] rfl rfl (any_of HT_.out (by kernel_rfl)) (fun _ _ _ h => h) (Or.inl ⟨by rfl, ?_⟩) ?_ ?_
                   rotate_left
                   ·intro w'
                    go_simp
                    with_reducible rfl
                   rotate_left
                   ·simp only [Act.put, sia, scz, scs, i64_w, i32_w]
                    rfl
                   refine pure_ (i := 8) (N := some 37) (v := ?_) (a' := ?_) #[true, true, true, true, true, false, true, false, true, false, false, false, false, false] rfl rfl (any_of HT_.out (by kernel_rfl)) (fun _ _ _ h => h) (Or.inl ⟨by rfl, ?_⟩) ?_ ?_
                   rotate_left
                   ·intro w'
                    go_simp
                    with_reducible rfl
                   rotate_left
                   ·simp only [Act.put, sia, scz, scs, i64_w, i32_w]
                    rfl
                   refine take_ (i := 5) (N := some 34) (v := ?_) (a' := ?_) #[true, true, true, true, true, true, true, false, true, false, false, false, false, false] rfl rfl (take_ofW HT_.out HW_.out (by kernel_rfl)) (fun _ _ _ h => h) (Or.inl ⟨by rfl, ?_⟩) hHeld ?_ ?_
                   rotate_left
                   ·rintro w' ⟨s0, s1, s2⟩
                    go_simp
                    with_reducible rfl
                   rotate_left
                   ·simp only [Act.put, sia, scz, scs, i64_w, i32_w]
                    rfl
                   refine take_ (i := 7) (N := some 36) (v := ?_) (a' := ?_) #[true, true, true, true, true, true, true, true, true, false, false, false, false, false] rfl rfl (take_ofW HT_.out HW_.out (by kernel_rfl)) (fun _ _ _ h => h) (Or.inl ⟨by rfl, ?_⟩) hHeld ?_ ?_
                   rotate_left
                   ·rintro w' ⟨s0, s1, s2⟩
                    go_simp
                    with_reducible rfl
                   rotate_left
                   ·simp only [Act.put, sia, scz, scs, i64_w, i32_w]
                    rfl
                   refine pure_ (i := 9) (N := some 38) (v := ?_) (a' := ?_) #[true, true, true, true, true, true, true, true, true, true, false, false, false, false] rfl rfl (any_of HT_.out (by kernel_rfl)) (fun _ _ _ h => h) (Or.inl ⟨by rfl, ?_⟩) ?_ ?_
                   rotate_left
                   ·intro w'
                    go_simp
                    with_reducible rfl
                   rotate_left
                   ·simp only [Act.put, sia, scz, scs, i64_w, i32_w]
                    rfl
                   refine one_ (i := 10) (N := some 39) #[true, true, true, true, true, true, true, true, true, true, true, false, false, false] rfl rfl (one_of HT_.out (by kernel_rfl)) (by decide) (fun K hK => ?_)
                   refine value_ (w1 := ?_) (v := ?_) (by rfl) rfl ?_ ?_
                   rotate_left 2
                   ·go_simp
                    constructor
                    ·rfl
                    ·rfl
                   refine hK.out _ _ ⟨(kce (kal BK127.out _) 0).trans rfl, (kce (kal BK127.out _) 1).trans rfl, (World.cell?_alloc_lt _ _ _ (World.block_lt_of_cell? _ _ (hHeld.2.2))).trans (hHeld.2.2)⟩ (fun hHeld => ?_)
                   clear hK K
                   refine norm_ (a' := ?_) ?_ ?_
                   rotate_left
                   ·show Act.put _ (some 39) _ = _
                    simp only [Act.put, sia, scz, scs, i64_w, i32_w]
                    rfl
                   refine one_ (i := 11) (N := some 40) #[true, true, true, true, true, true, true, true, true, true, true, true, false, false] rfl rfl (one_of HT_.out (by kernel_rfl)) (by decide) (fun K hK => ?_)
                   refine Kd.R_append_step (Kd.int .i64) (w0 := w) w.heap.size (by rfl) (.tmp 34) (.tmp 39) 22 3 (.int .i64 0) 8 rfl Try.underlying22 info3 rfl (by decide) (by omega) (.slice A133_0 (rd_L2 x3_2 (rd (rd_L2 l0_1 x18_1) x25_2)).length c133_0) (rd_L2 x3_2 (rd (rd_L2 l0_1 x18_1) x25_2)) ji20 [.int .i64 ji20] (fun k_ => oki27 k_ ∨ ((fun _ => True)) k_ ∧ w25.heap.size ≤ k_) (fun _ => False) rfl rfl ?aP (fun _ hk => hk.elim) ?aF ?aO ?aB ?aS ?aL ?_
                   (case aP => exact rfl)
                   (case aB => exact HB.out)
                   (case aF => exact (fun k_ hk => .inr ⟨trivial, hk⟩))
                   (case aO => exact (by (with_reducible repeat (first | apply Kd.R_alloc | apply Kd.R_drewN | apply Kd.R_drew)); exact Kd.R_mono UU27.out (fun _ hk => .inl hk)))
                   (case aS => exact (bsz HB.out))
                   (case aL => have := LMc18.out; omega)
                   intro v135 w28 ho hb hg hat
                   (have HS2_ := cell_grown hg (cell_unalloc (hHeld.2.2) (by exact Kd.S_lt HO_3.out _ rfl)) (by exact (fun e_ => ((HL133_0.out.1 _ e_.symm).2) rfl)))
                   rw [← Ny134.out] at ho
                   have n0_ := ak (blk_grown (g := gb127) (o := .cells #[.int .i64 a0_0, .slice (some ad131) l0_1.length c0_1] 31 (0, 0)) BK127.out hg (Kd.R_ne HL133_0.out BK127.out (by decide)))
                   have n1_ := ak (hb)
                   have n2_ := ak (Kd.H_grown (Kd.H_widen (by repeat (first | exact HH27.out | refine Kd.H_alloc ?_ _ | refine Kd.H_drewN ?_ _ | refine Kd.H_drew ?_))) hg (fun k_ e_ => .inl (UU27.out.1 k_ e_)))
                   have n3_ := ak (ho)
                   clear BK127
                   clear HB
                   clear HH27
                   clear HO_3
                   clear UU27
                   clear HL133_0
                   have BK127 := n0_
                   have HB := n1_
                   have HH27 := n2_
                   have HO136 := n3_
                   clear n0_ n1_ n2_ n3_
                   clear ho hb hg hat
                   have p19 : 0 ≤ ((rd (rd_L2 l0_1 x18_1) x25_2) : Int) := odt (by with_reducible assumption)
                   have q19 : ((rd (rd_L2 l0_1 x18_1) x25_2) : Int) < ((x3_2.length : Int) : Int) := odt (by with_reducible assumption)
                   replace p19 := eq_true p19
                   replace q19 := eq_true q19
                   obtain ⟨Ao31, co31, eo31⟩ := Kd.R_slice HO136.out
                   (subst eo31)
                   obtain ⟨_, _, hraw29, _, _, hcc29, _⟩ := Kd.H_raw HH27.out (odt (by with_reducible assumption)) (by have h_ : ((rd (rd_L2 l0_1 x18_1) x25_2) : Int) < ((x3_2.length : Int) : Int) := odt (by with_reducible assumption); exact h_)
                   obtain ⟨_, hfr29⟩ := Kd.H_at HH27.out (odt (by with_reducible assumption)) (by have h_ : ((rd (rd_L2 l0_1 x18_1) x25_2) : Int) < ((x3_2.length : Int) : Int) := odt (by with_reducible assumption); exact h_)
                   have hx29_0 := hcc29 0 _ rfl
                   have hf29_0 := hfr29 0
                   (try (simp only [Nat.add_zero] at hx29_0 hf29_0))
                   (try (rw [show ((Kd.slice 3 (Kd.int .i64))).sz = 1 from rfl, Nat.mul_one] at hx29_0))
                   (try (rw [show ((Kd.slice 3 (Kd.int .i64))).sz = 1 from rfl, Nat.mul_one] at hf29_0))
                   have HP29 := Kd.S_seg0 HH27.out (odt (by with_reducible assumption)) (by have h_ : ((rd (rd_L2 l0_1 x18_1) x25_2) : Int) < ((x3_2.length : Int) : Int) := odt (by with_reducible assumption); exact h_) (seg := [.slice Ao31 y134.length co31]) (j := 0) (show 1 ≤ 1 from by decide) (x' := y134) (Kd.M_row HO136.out) (fun _ hk => hk)
                   (try (simp only [show ((Kd.slice 3 (Kd.int .i64))).sz = 1 from rfl, Nat.mul_one, Nat.add_zero] at HP29))
                   clear hcc29 hfr29
                   have HNB127_go27 := ak (show gb127 ≠ go27 from by have h_ := Kd.R_ne hraw29 BK127.out (by decide); intro e_; exact h_ (by rw [e_]; rfl))
                   have HS29 := HP29.1
                   rw [← Ny137.out] at HS29
                   have HQ29 := ak HS29
                   obtain ⟨_, hgg29⟩ := Kd.R_typed hraw29 go27 rfl
                   have GG29_ := ak hgg29
                   clear HP29 HS29 hgg29
                   refine hK.out _ _ ⟨(kce BK127.out 0).trans rfl, (kce BK127.out 1).trans rfl, HS2_⟩ (fun hHeld => ?_)
                   clear hK K
                   refine norm_ (a' := ?_) ?_ ?_
                   rotate_left
                   ·show Act.put _ (some 40) _ = _
                    simp only [Act.put, sia, scz, scs, i64_w, i32_w]
                    rfl
                   refine pure_ (i := 12) (N := some 41) (v := ?_) (a' := ?_) #[true, true, true, true, true, true, true, true, true, true, true, true, true, false] rfl rfl (any_of HT_.out (by kernel_rfl)) (fun _ _ _ h => h) (Or.inl ⟨by rfl, ?_⟩) ?_ ?_
                   rotate_left
                   ·intro w'
                    go_simp
                    with_reducible rfl
                   rotate_left
                   ·simp only [Act.put, sia, scz, scs, i64_w, i32_w]
                    rfl
                   refine last_ (i := 13) (N := none) #[true, true, true, true, true, true, true, true, true, true, true, true, true, true] rfl rfl (one_of HT_.out (by kernel_rfl)) (by decide) (fun K hK => ?_)
                   refine skip_ (w1 := ?_) (by rfl) rfl ?_ ?_
                   rotate_left
                   ·go_simp
                    rfl
                   refine hK.out _ _ ?_
                   clear hK K
                   refine done_ (done_of HT_.out (by kernel_rfl)) ?_
                   try (go_wp2)
                   have n0_ : Aside0 (Kd.S (Kd.slice 3 (Kd.int .i64)) 22 (w28.setCell ⟨go27, ((rd (rd_L2 l0_1 x18_1) x25_2) : Int).toNat, none⟩ (.slice Ao31 y134.length co31)) w.heap.size (fun _ => True) (.slice (some ⟨go27, 0, none⟩) x3_2.length co26) y137) := ⟨by (with_reducible repeat (first | apply Kd.S_alloc | apply Kd.S_drewN | apply Kd.S_drew)); exact HQ29.out⟩
                   have n1_ : Aside0 ((w28.setCell ⟨go27, ((rd (rd_L2 l0_1 x18_1) x25_2) : Int).toNat, none⟩ (.slice Ao31 y134.length co31)).heap[gb127]? = some (.cells #[.int .i64 a0_0, .slice (some ad131) l0_1.length c0_1] 31 (0, 0))) := ⟨by (with_reducible repeat (first | refine kdn ?_ _ | refine kdr ?_ | refine kal ?_ _)); refine blk_far ?_ HNB127_go27.out _; (with_reducible repeat (first | refine kdn ?_ _ | refine kdr ?_ | refine kal ?_ _)); exact BK127.out⟩
                   have n2_ : Aside0 (Below w.heap.size w (w28.setCell ⟨go27, ((rd (rd_L2 l0_1 x18_1) x25_2) : Int).toNat, none⟩ (.slice Ao31 y134.length co31))) := ⟨by repeat (first | (with_reducible first | exact HB.out | apply bal | apply pbn | apply bd1 | refine bst ?_ GB27.out | refine bst ?_ GE127.out) | exact HB.out)⟩
                   (try (clear HO_3))
                   (try (clear BK127))
                   (try (clear HB))
                   generalize (w28.setCell ⟨go27, ((rd (rd_L2 l0_1 x18_1) x25_2) : Int).toNat, none⟩ (.slice Ao31 y134.length co31)) = w32 at n0_ n1_ n2_ ⊢
                   have HO_3 := n0_
                   have BK127 := n1_
                   have HB := n2_
                   clear n0_ n1_ n2_
                   have n0_ := ak (Kd.S_drew HO_3.out)
                   have n1_ := ak (kdr BK127.out)
                   have n2_ := ak (bd1 HB.out)
                   clear HO_3
                   clear BK127
                   clear HB
                   have HO_3 := n0_
                   have BK127 := n1_
                   have HB := n2_
                   clear n0_ n1_ n2_
                   have p138 : 0 ≤ ((ji20) : Int) := odt (by with_reducible assumption)
                   have q138 : (ji20) < (y137.length : Int) := (by have h_ : ((ji20) : Int) < ((x3_2.length : Int) : Int) := odt (by with_reducible assumption); (have e_ := (Kd.S_reads' HO_3.out).1; omega))
                   have ql138 : (((ji20) : Int) < ((x3_2.length : Int) : Int)) = True := eq_true (odt (by with_reducible assumption))
                   obtain ⟨ad138, A138_0, c138_0, e138, hx138_0, hl138_0, hi138_0⟩ := at_L2 (Kd.S_reads' HO_3.out).2.2 (ji20) p138 q138
                   obtain rfl : (⟨go27, 0, none⟩ : Addr) = ad138 := (by injection e138)
                   obtain ⟨ce138, hce138, hMe138, hcc138⟩ := Kd.S_get HO_3.out [] (ji20) p138 (by exact odt (by with_reducible assumption))
                   obtain ⟨ve138_0, rfl, ge138_0⟩ := hMe138
                   have hv138_0 := hcc138 0 _ rfl
                   rw [Nat.add_zero, show ((Kd.slice 3 (Kd.int .i64))).sz = 1 from rfl, Nat.mul_one] at hv138_0
                   replace hv138_0 := osi (hv138_0.symm.trans hx138_0)
                   rw [hv138_0] at ge138_0
                   have HL138_0 := ak (show Kd.R (Kd.int .i64) 3 _ _ _ _ (rd_L2 y137 (ji20)) from ge138_0)
                   clear hv138_0 ge138_0
                   have HX138_0 := ak hx138_0
                   clear hcc138 hce138
                   (simp only [add_plain] at hx138_0)
                   have HR138_0 := ak hi138_0
                   have HC138_0 := ak hl138_0
                   clear hi138_0 hl138_0
                   replace p138 := eq_true p138
                   replace q138 := eq_true q138
                   obtain ⟨oki34, ce34, hcl34, hM34, hcc34, _, _, hH34⟩ := Kd.S_elem HO_3.out [] ((ji20) : Int) (odt (by with_reducible assumption)) (by have h_ : ((ji20) : Int) < ((x3_2.length : Int) : Int) := odt (by with_reducible assumption); exact h_)
                   obtain ⟨ve34_0, rfl, ge34_0⟩ := hM34
                   have hv34 := hcc34 0 _ rfl
                   have hX34 := HX138_0.out
                   (try (simp only [add_plain] at hX34))
                   (try (simp only [Nat.add_zero] at hv34))
                   (try (rw [show ((Kd.slice 3 (Kd.int .i64))).sz = 1 from rfl, Nat.mul_one] at hv34))
                   replace hv34 := osi (hv34.symm.trans hX34)
                   subst hv34
                   clear hX34 hcc34 hcl34
                   have UU34 := ak (show Kd.R (Kd.int .i64) 3 _ w.heap.size oki34 (.slice A138_0 (rd_L2 y137 (ji20)).length c138_0) (rd_L2 y137 (ji20)) from ge34_0)
                   have HH34 := ak hH34
                   have HN34 := ak (Kd.S_reads' HO_3.out).1
                   clear hH34 ge34_0
                   refine start_ (n := 17) (S := fun w' => w'.cell? ⟨gb127, 0, none⟩ = some (.int .i64 a0_0) ∧ w'.cell? ⟨gb127, 1, none⟩ = some (.slice (some ad131) l0_1.length c0_1) ∧ w'.cell? ⟨go27, ((ji20)).toNat, none⟩ = some (.slice A138_0 (rd_L2 y137 (ji20)).length c138_0)) (ds := [16]) #[false, false, false, false, false, false, false, false, false, false, false, false, false, false, false, false, false] (by kernel_rfl) rfl rfl ⟨(kce BK127.out 0).trans rfl, (kce BK127.out 1).trans rfl, hx138_0⟩ (fun hHeld => ?_); refine with_tabW peel_neighbors.tab9 peel_neighbors.bits9 (fun HT_ HW_ => ?_)
                   generalize w32.drew = w33 at HO_3 BK127 HB HH34 HL138_0 HQ29 HR138_0 HX138_0 UU34 hx138_0 hHeld ⊢
                   refine pure_ (i := 0) (N := some 42) (v := ?_) (a' := ?_) #[true, false, false, false, false, false, false, false, false, false, false, false, false, false, false, false, false] rfl rfl (any_of HT_.out (by kernel_rfl)) (fun _ _ _ h => h) (Or.inl ⟨by rfl, ?_⟩) ?_ ?_
                   rotate_left
                   ·intro w'
                    go_simp
                    with_reducible rfl
                   rotate_left
                   ·simp only [Act.put, sia, scz, scs, i64_w, i32_w]
                    rfl
                   refine pure_ (i := 1) (N := some 43) (v := ?_) (a' := ?_) #[true, true, false, false, false, false, false, false, false, false, false, false, false, false, false, false, false] rfl rfl (any_of HT_.out (by kernel_rfl)) (fun _ _ _ h => h) (Or.inl ⟨by rfl, ?_⟩) ?_ ?_
                   rotate_left
                   ·intro w'
                    go_simp
                    with_reducible rfl
                   rotate_left
                   ·simp only [Act.put, sia, scz, scs, i64_w, i32_w]
                    rfl
                   refine pure_ (i := 3) (N := some 45) (v := ?_) (a' := ?_) #[true, true, false, true, false, false, false, false, false, false, false, false, false, false, false, false, false] rfl rfl (any_of HT_.out (by kernel_rfl)) (fun _ _ _ h => h) (Or.inl ⟨by rfl, ?_⟩) ?_ ?_
                   rotate_left
                   ·intro w'
                    go_simp
                    with_reducible rfl
                   rotate_left
                   ·simp only [Act.put, sia, scz, scs, i64_w, i32_w]
                    rfl
                   refine pure_ (i := 5) (N := some 47) (v := ?_) (a' := ?_) #[true, true, false, true, false, true, false, false, false, false, false, false, false, false, false, false, false] rfl rfl (any_of HT_.out (by kernel_rfl)) (fun _ _ _ h => h) (Or.inl ⟨by rfl, ?_⟩) ?_ ?_
                   rotate_left
                   ·intro w'
                    go_simp
                    with_reducible rfl
                   rotate_left
                   ·simp only [Act.put, sia, scz, scs, i64_w, i32_w]
                    rfl
                   refine pure_ (i := 6) (N := some 48) (v := ?_) (a' := ?_) #[true, true, false, true, false, true, true, false, false, false, false, false, false, false, false, false, false] rfl rfl (any_of HT_.out (by kernel_rfl)) (fun _ _ _ h => h) (Or.inl ⟨by rfl, ?_⟩) ?_ ?_
                   rotate_left
                   ·intro w'
                    go_simp
                    with_reducible rfl
                   rotate_left
                   ·simp only [Act.put, sia, scz, scs, i64_w, i32_w]
                    rfl
                   refine pure_ (i := 8) (N := some 50) (v := ?_) (a' := ?_) #[true, true, false, true, false, true, true, false, true, false, false, false, false, false, false, false, false] rfl rfl (any_of HT_.out (by kernel_rfl)) (fun _ _ _ h => h) (Or.inl ⟨by rfl, ?_⟩) ?_ ?_
                   rotate_left
                   ·intro w'
                    go_simp
                    with_reducible rfl
                   rotate_left
                   ·simp only [Act.put, sia, scz, scs, i64_w, i32_w]
                    rfl
                   refine pure_ (i := 12) (N := some 54) (v := ?_) (a' := ?_) #[true, true, false, true, false, true, true, false, true, false, false, false, true, false, false, false, false] rfl rfl (any_of HT_.out (by kernel_rfl)) (fun _ _ _ h => h) (Or.inl ⟨by rfl, ?_⟩) ?_ ?_
                   rotate_left
                   ·intro w'
                    go_simp
                    with_reducible rfl
                   rotate_left
                   ·simp only [Act.put, sia, scz, scs, i64_w, i32_w]
                    rfl
                   refine take_ (i := 2) (N := some 44) (v := ?_) (a' := ?_) #[true, true, true, true, false, true, true, false, true, false, false, false, true, false, false, false, false] rfl rfl (take_ofW HT_.out HW_.out (by kernel_rfl)) (fun _ _ _ h => h) (Or.inl ⟨by rfl, ?_⟩) hHeld ?_ ?_
                   rotate_left
                   ·rintro w' ⟨s0, s1, s2⟩
                    go_simp
                    with_reducible rfl
                   rotate_left
                   ·simp only [Act.put, sia, scz, scs, i64_w, i32_w]
                    rfl
                   refine pure_ (i := 4) (N := some 46) (v := ?_) (a' := ?_) #[true, true, true, true, true, true, true, false, true, false, false, false, true, false, false, false, false] rfl rfl (any_of HT_.out (by kernel_rfl)) (fun _ _ _ h => h) (Or.inl ⟨by rfl, ?_⟩) ?_ ?_
                   rotate_left
                   ·intro w'
                    go_simp
                    with_reducible rfl
                   rotate_left
                   ·simp only [Act.put, sia, scz, scs, i64_w, i32_w]
                    rfl
                   refine take_ (i := 7) (N := some 49) (v := ?_) (a' := ?_) #[true, true, true, true, true, true, true, true, true, false, false, false, true, false, false, false, false] rfl rfl (take_ofW HT_.out HW_.out (by kernel_rfl)) (fun _ _ _ h => h) (Or.inl ⟨by rfl, ?_⟩) hHeld ?_ ?_
                   rotate_left
                   ·rintro w' ⟨s0, s1, s2⟩
                    go_simp
                    with_reducible rfl
                   rotate_left
                   ·simp only [Act.put, sia, scz, scs, i64_w, i32_w]
                    rfl
                   refine pure_ (i := 9) (N := some 51) (v := ?_) (a' := ?_) #[true, true, true, true, true, true, true, true, true, true, false, false, true, false, false, false, false] rfl rfl (any_of HT_.out (by kernel_rfl)) (fun _ _ _ h => h) (Or.inl ⟨by rfl, ?_⟩) ?_ ?_
                   rotate_left
                   ·intro w'
                    go_simp
                    with_reducible rfl
                   rotate_left
                   ·simp only [Act.put, sia, scz, scs, i64_w, i32_w]
                    rfl
                   refine pure_ (i := 10) (N := some 52) (v := ?_) (a' := ?_) #[true, true, true, true, true, true, true, true, true, true, true, false, true, false, false, false, false] rfl rfl (any_of HT_.out (by kernel_rfl)) (fun _ _ _ h => h) (Or.inl ⟨by rfl, ?_⟩) ?_ ?_
                   rotate_left
                   ·intro w'
                    go_simp
                    with_reducible rfl
                   rotate_left
                   ·simp only [Act.put, sia, scz, scs, i64_w, i32_w]
                    rfl
                   refine take_ (i := 11) (N := some 53) (v := ?_) (a' := ?_) #[true, true, true, true, true, true, true, true, true, true, true, true, true, false, false, false, false] rfl rfl (take_ofW HT_.out HW_.out (by kernel_rfl)) (fun _ _ _ h => h) (Or.inl ⟨by rfl, ?_⟩) hHeld ?_ ?_
                   rotate_left
                   ·rintro w' ⟨s0, s1, s2⟩
                    go_simp
                    with_reducible rfl
                   rotate_left
                   ·simp only [Act.put, sia, scz, scs, i64_w, i32_w]
                    rfl
                   refine one_ (i := 13) (N := some 55) #[true, true, true, true, true, true, true, true, true, true, true, true, true, true, false, false, false] rfl rfl (one_of HT_.out (by kernel_rfl)) (by decide) (fun K hK => ?_)
                   refine value_ (w1 := ?_) (v := ?_) (by rfl) rfl ?_ ?_
                   rotate_left 2
                   ·go_simp
                    constructor
                    ·rfl
                    ·rfl
                   refine hK.out _ _ ⟨(kce (kal BK127.out _) 0).trans rfl, (kce (kal BK127.out _) 1).trans rfl, (World.cell?_alloc_lt _ _ _ (World.block_lt_of_cell? _ _ (hHeld.2.2))).trans (hHeld.2.2)⟩ (fun hHeld => ?_)
                   clear hK K
                   refine norm_ (a' := ?_) ?_ ?_
                   rotate_left
                   ·show Act.put _ (some 55) _ = _
                    simp only [Act.put, sia, scz, scs, i64_w, i32_w]
                    rfl
                   refine one_ (i := 14) (N := some 56) #[true, true, true, true, true, true, true, true, true, true, true, true, true, true, true, false, false] rfl rfl (one_of HT_.out (by kernel_rfl)) (by decide) (fun K hK => ?_)
                   refine Kd.R_append_step (Kd.int .i64) (w0 := w) w.heap.size (by rfl) (.tmp 53) (.tmp 55) 22 3 (.int .i64 0) 8 rfl Try.underlying22 info3 rfl (by decide) (by omega) (.slice A138_0 (rd_L2 y137 (ji20)).length c138_0) (rd_L2 y137 (ji20)) (rd (rd_L2 l0_1 x18_1) x25_2) [.int .i64 (rd (rd_L2 l0_1 x18_1) x25_2)] (fun k_ => oki34 k_ ∨ ((fun _ => True)) k_ ∧ w33.heap.size ≤ k_) (fun _ => False) rfl rfl ?aP (fun _ hk => hk.elim) ?aF ?aO ?aB ?aS ?aL ?_
                   (case aP => exact rfl)
                   (case aB => exact HB.out)
                   (case aF => exact (fun k_ hk => .inr ⟨trivial, hk⟩))
                   (case aO => exact (by (with_reducible repeat (first | apply Kd.R_alloc | apply Kd.R_drewN | apply Kd.R_drew)); exact Kd.R_mono UU34.out (fun _ hk => .inl hk)))
                   (case aS => exact (bsz HB.out))
                   (case aL => have := LMc23.out; omega)
                   intro v140 w35 ho hb hg hat
                   (have HS2_ := cell_grown hg (cell_unalloc (hHeld.2.2) (by exact Kd.S_lt HO_3.out _ rfl)) (by exact (fun e_ => ((HL138_0.out.1 _ e_.symm).2) rfl)))
                   rw [← Ny139.out] at ho
                   have n0_ := ak (blk_grown (g := gb127) (o := .cells #[.int .i64 a0_0, .slice (some ad131) l0_1.length c0_1] 31 (0, 0)) BK127.out hg (Kd.R_ne HL138_0.out BK127.out (by decide)))
                   have n1_ := ak (hb)
                   have n2_ := ak (Kd.H_grown (Kd.H_widen (by repeat (first | exact HH34.out | refine Kd.H_alloc ?_ _ | refine Kd.H_drewN ?_ _ | refine Kd.H_drew ?_))) hg (fun k_ e_ => .inl (UU34.out.1 k_ e_)))
                   have n3_ := ak (ho)
                   clear BK127
                   clear HB
                   clear HH34
                   clear HO_3
                   clear UU34
                   clear HL138_0
                   have BK127 := n0_
                   have HB := n1_
                   have HH34 := n2_
                   have HO141 := n3_
                   clear n0_ n1_ n2_ n3_
                   clear ho hb hg hat
                   have p24 : 0 ≤ ((ji20) : Int) := odt (by with_reducible assumption)
                   have q24 : ((ji20) : Int) < ((x3_2.length : Int) : Int) := odt (by with_reducible assumption)
                   replace p24 := eq_true p24
                   replace q24 := eq_true q24
                   obtain ⟨Ao38, co38, eo38⟩ := Kd.R_slice HO141.out
                   (subst eo38)
                   obtain ⟨_, _, hraw36, _, _, hcc36, _⟩ := Kd.H_raw HH34.out (odt (by with_reducible assumption)) (by have h_ : ((ji20) : Int) < ((x3_2.length : Int) : Int) := odt (by with_reducible assumption); exact h_)
                   obtain ⟨_, hfr36⟩ := Kd.H_at HH34.out (odt (by with_reducible assumption)) (by have h_ : ((ji20) : Int) < ((x3_2.length : Int) : Int) := odt (by with_reducible assumption); exact h_)
                   have hx36_0 := hcc36 0 _ rfl
                   have hf36_0 := hfr36 0
                   (try (simp only [Nat.add_zero] at hx36_0 hf36_0))
                   (try (rw [show ((Kd.slice 3 (Kd.int .i64))).sz = 1 from rfl, Nat.mul_one] at hx36_0))
                   (try (rw [show ((Kd.slice 3 (Kd.int .i64))).sz = 1 from rfl, Nat.mul_one] at hf36_0))
                   have HP36 := Kd.S_seg0 HH34.out (odt (by with_reducible assumption)) (by have h_ : ((ji20) : Int) < ((x3_2.length : Int) : Int) := odt (by with_reducible assumption); exact h_) (seg := [.slice Ao38 y139.length co38]) (j := 0) (show 1 ≤ 1 from by decide) (x' := y139) (Kd.M_row HO141.out) (fun _ hk => hk)
                   (try (simp only [show ((Kd.slice 3 (Kd.int .i64))).sz = 1 from rfl, Nat.mul_one, Nat.add_zero] at HP36))
                   clear hcc36 hfr36
                   have HNB127_go27 := ak (show gb127 ≠ go27 from by have h_ := Kd.R_ne hraw36 BK127.out (by decide); intro e_; exact h_ (by rw [e_]; rfl))
                   have HS36 := HP36.1
                   rw [← Ny142.out] at HS36
                   have HQ36 := ak HS36
                   obtain ⟨_, hgg36⟩ := Kd.R_typed hraw36 go27 rfl
                   have GG36_ := ak hgg36
                   clear HP36 HS36 hgg36
                   refine hK.out _ _ ⟨(kce BK127.out 0).trans rfl, (kce BK127.out 1).trans rfl, HS2_⟩ (fun hHeld => ?_)
                   clear hK K
                   refine norm_ (a' := ?_) ?_ ?_
                   rotate_left
                   ·show Act.put _ (some 56) _ = _
                    simp only [Act.put, sia, scz, scs, i64_w, i32_w]
                    rfl
                   refine pure_ (i := 15) (N := some 57) (v := ?_) (a' := ?_) #[true, true, true, true, true, true, true, true, true, true, true, true, true, true, true, true, false] rfl rfl (any_of HT_.out (by kernel_rfl)) (fun _ _ _ h => h) (Or.inl ⟨by rfl, ?_⟩) ?_ ?_
                   rotate_left
                   ·intro w'
                    go_simp
                    with_reducible rfl
                   rotate_left
                   ·simp only [Act.put, sia, scz, scs, i64_w, i32_w]
                    rfl
                   refine last_ (i := 16) (N := none) #[true, true, true, true, true, true, true, true, true, true, true, true, true, true, true, true, true] rfl rfl (one_of HT_.out (by kernel_rfl)) (by decide) (fun K hK => ?_)
                   refine skip_ (w1 := ?_) (by rfl) rfl ?_ ?_
                   rotate_left
                   ·go_simp
                    rfl
                   refine hK.out _ _ ?_
                   clear hK K
                   refine done_ (done_of HT_.out (by kernel_rfl)) ?_
                   try (go_wp2)
                   go_roundg k2
                   case measure => have := HK1.out; have := HK2.out; omega
                   case rel => exact ⟨(y142), (wrap64 (x25_2 + 1)), (by first | rfl | (simp; done) | (simp [*]; done)), H', ⟨by have := HK1.out; have := HK2.out; omega⟩, ⟨by (with_reducible repeat (first | apply Kd.S_alloc | apply Kd.S_drewN | apply Kd.S_drew)); exact HQ36.out⟩, ⟨by (with_reducible repeat (first | refine kdn ?_ _ | refine kdr ?_ | refine kal ?_ _)); refine blk_far ?_ HNB127_go27.out _; (with_reducible repeat (first | refine kdn ?_ _ | refine kdr ?_ | refine kal ?_ _)); exact BK127.out⟩, ⟨by repeat (first | (with_reducible first | exact HB.out | apply bal | apply pbn | apply bd1 | refine bst ?_ GB27.out | refine bst ?_ GE127.out) | exact HB.out)⟩⟩
                  ·rw [if_neg c23] at H
                   exact absurd H (by simp)
                 ·rw [if_neg c22] at H
                  exact absurd H (by simp)
                ·rw [if_neg c21] at H
                 exact absurd H (by simp)
               ·rw [if_neg c18] at H
                exact absurd H (by simp)
              ·rw [if_neg c17] at H
               exact absurd H (by simp)
             ·rw [if_neg c16] at H
              exact absurd H (by simp)
            ·rw [if_neg c15] at H
             exact absurd H (by simp)
           ·rw [if_neg c14] at H
            exact absurd H (by simp)
          ·rw [if_neg c13] at H
           have c13b0 : decide (x25_2 < ((rd_L2 l0_1 x18_1).length : Int)) = false := dff c13
           clear c13
           have H' := ak H
           clear H
           go_wp2
           go_roundg k2
           case measure => have := HK1.out; have := HK2.out; omega
           case rel => exact ⟨(x3_2), (wrap64 (x18_1 + 1)), (by first | rfl | (simp; done) | (simp [*]; done)), H', ⟨by have := HK1.out; have := HK2.out; omega⟩, ⟨by (with_reducible repeat (first | apply Kd.S_alloc | apply Kd.S_drewN | apply Kd.S_drew)); exact HO_3.out⟩, ⟨by (with_reducible repeat (first | refine kdn ?_ _ | refine kdr ?_ | refine kal ?_ _)); exact BK127.out⟩, ⟨by repeat (first | (with_reducible first | exact HB.out | apply bal | apply pbn | apply bd1 | refine bst ?_ GE127.out) | exact HB.out)⟩⟩
       ·rw [if_neg c12] at H
        exact absurd H (by simp)
      ·rw [if_neg c11] at H
       exact absurd H (by simp)
     ·rw [if_neg c10] at H
      have c10b0 : decide (x18_1 < (l0_1.length : Int)) = false := dff c10
      clear c10
      obtain rfl := osi H
      go_wp2
      go_ret
      exact ⟨_, by first | rfl | (simp <;> rfl) | (simp only [← hji2]; first | rfl | (simp <;> rfl)) | (simp [*] <;> rfl), by (with_reducible repeat (first | apply Kd.S_alloc | apply Kd.S_drewN | apply Kd.S_drew)); exact HO_3.out, by repeat (first | (with_reducible first | exact HB.out | apply bal | apply pbn | apply bd1 | refine bst ?_ GE127.out) | exact HB.out)⟩
  ·rw [if_neg c4] at H
   exact absurd H (by simp)
 ·rw [if_neg c3] at H
  exact absurd H (by simp)
end Go.Proofs.Ytkifipakikbhcaa.Pg
