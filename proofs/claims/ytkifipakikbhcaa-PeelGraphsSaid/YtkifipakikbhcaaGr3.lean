/- Part 3 of the claim: what the law reaches, walked (merged by slim.py out of the texts in wip). -/
import Derived.Test.YtkifipakikbhcaaGr2
import Derived.ArgAppend
import Derived.Below
import Derived.BigQuiet
import Derived.Deep.AppendLies
import Derived.Deep.CutBlock
import Derived.Deep.DeepCutAuto
import Derived.Deep.DrawnRows
import Derived.Deep.Draws
import Derived.Deep.LoopGhost
import Derived.Deep.OwnRows
import Derived.Deep.QuietTactic
import Derived.Deep.RegionHeld3
import Derived.Deep.RegionLaw
import Derived.KernelRfl
import Derived.Laws.BitsLemmas
import Derived.Laws.BytesArg
import Derived.Laws.CopyOwn
import Derived.Laws.EntriesVeiled
import Derived.Laws.IdiomCopy
import Derived.Laws.MakeOwn
import Derived.Laws.OwnMore
import Derived.Laws.Rows
import Derived.Laws.Slices
import Derived.Lib.AppendStr
import Derived.Lib.ConvBytes
import Derived.Maps.AppendAt
import Derived.OrdersHeld
import Derived.OwnWalk
import Derived.RowKit
import Derived.RowKit3
import Derived.Shelf.Abstract
import Derived.StillTailTactics
import Derived.Tactics
import Derived.Test.YtkifipakikbhcaaProg
import Derived.WalkKit
import Derived.WideLaws
set_option maxHeartbeats 8000000
set_option maxRecDepth 100000
set_option linter.unusedSimpArgs false
set_option linter.unusedVariables false
namespace Go.Proofs.Ytkifipakikbhcaa.Pg
open Ytkifipakikbhcaa.Ref
open Go.RowKit YtkifipakikbhcaaW.PrintWords YtkifipakikbhcaaW.PrintLast YtkifipakikbhcaaW.PrintMore
mutual
def peel_around.l0 : Nat → List (List Int) → Int → List Int → List Int → Int → Int → Option (Int)
 | 0, _, _, _, _, _, _ => none
 | k + 1, x0, x1, x5, x6, x21, x22 => if x22 < x21 then (if 0 ≤ x22 then (if x22 < (x5.length : Int) then (peel_around.l0 k x0 x1 (x5.set (x22 : Int).toNat (-1)) x6 x21 (wrap64 (x22 + 1))) else (none)) else (none)) else (if 0 ≤ x1 then (if x1 < (x5.length : Int) then (if x1 < (x6.length : Int) then (peel_around.l1 k x0 (x5.set (x1 : Int).toNat 0) (x6.set (x1 : Int).toNat (-1)) (([x1] : List Int)) 0 0) else (none)) else (none)) else (none))
def peel_around.l1 : Nat → List (List Int) → List Int → List Int → List Int → Int → Int → Option (Int)
 | 0, _, _, _, _, _, _ => none
 | k + 1, x0, x5, x6, x8, x9, x10 => if x10 < (x8.length : Int) then (if 0 ≤ x10 then (if 0 ≤ (rd x8 x10) then (if (rd x8 x10) < (x0.length : Int) then (peel_around.l2 k x0 x5 x6 x8 x9 x10 (rd x8 x10) (rd_L2 x0 (rd x8 x10)) ((rd_L2 x0 (rd x8 x10)).length : Int) 0) else (none)) else (none)) else (none)) else (some x9)
def peel_around.l2 : Nat → List (List Int) → List Int → List Int → List Int → Int → Int → Int → List Int → Int → Int → Option (Int)
 | 0, _, _, _, _, _, _, _, _, _, _ => none
 | k + 1, x0, x5, x6, x8, x9, x10, x11, x50, x51, x52 => if x52 < x51 then (if 0 ≤ x52 then (if x52 < (x50.length : Int) then (if 0 ≤ (rd x50 x52) then (if (rd x50 x52) < (x5.length : Int) then (if (rd x5 (rd x50 x52)) < 0 then (if 0 ≤ x11 then (if x11 < (x5.length : Int) then (if (rd x50 x52) < (x6.length : Int) then (if x8.length < 17592186044416 then (peel_around.l2 k x0 (x5.set ((rd x50 x52) : Int).toNat (wrap64 ((rd x5 x11) + 1))) (x6.set ((rd x50 x52) : Int).toNat x11) (x8 ++ [rd x50 x52]) x9 x10 x11 x50 x51 (wrap64 (x52 + 1))) else (none)) else (none)) else (none)) else (none)) else (if 0 ≤ x11 then (if x11 < (x6.length : Int) then (if (rd x50 x52) = (rd x6 x11) then (peel_around.l2 k x0 x5 x6 x8 x9 x10 x11 x50 x51 (wrap64 (x52 + 1))) else (if x9 = 0 then (if x11 < (x5.length : Int) then (peel_around.l2 k x0 x5 x6 x8 (wrap64 ((wrap64 ((rd x5 x11) + (rd x5 (rd x50 x52)))) + 1)) x10 x11 x50 x51 (wrap64 (x52 + 1))) else (none)) else (if x11 < (x5.length : Int) then (if (wrap64 ((wrap64 ((rd x5 x11) + (rd x5 (rd x50 x52)))) + 1)) < x9 then (peel_around.l2 k x0 x5 x6 x8 (wrap64 ((wrap64 ((rd x5 x11) + (rd x5 (rd x50 x52)))) + 1)) x10 x11 x50 x51 (wrap64 (x52 + 1))) else (peel_around.l2 k x0 x5 x6 x8 x9 x10 x11 x50 x51 (wrap64 (x52 + 1)))) else (none)))) else (none)) else (none))) else (none)) else (none)) else (none)) else (none)) else (peel_around.l1 k x0 x5 x6 x8 x9 (wrap64 (x10 + 1)))
end
def peel_around.f (k : Nat) (l0 : List (List Int)) (a1 : Int) : Option (Int) := if 0 ≤ (l0.length : Int) then (if ((l0.length : Int) : Int).toNat ≤ 35184372088832 then ((some (List.replicate ((l0.length : Int) : Int).toNat 0 : List Int)).bind fun y143 => (peel_around.l0 k l0 a1 y143 (List.replicate ((l0.length : Int) : Int).toNat 0) (y143.length : Int) 0)) else (none)) else (none)
theorem peel_around.calls (k : Nat) (A0 : Option Addr) (c0 : Nat) (l0 : List (List Int)) (a1 : Int) (r : Int) (w : World) (hr0 : Kd.C (Kd.slice 3 (Kd.int .i64)) w A0 l0.length l0) (hc0 : l0.length ≤ c0) (h : peel_around.f k l0 a1 = some r) :
  Calls Try.prog 46 #[.slice A0 l0.length c0, .int .i64 a1] w fun e w' => e = .returned (.int .i64 r) ∧ Below w.heap.size w w' := by
 have HR0 := ak hr0
 have HC0 := ak hc0
 clear hr0 hc0
 have HB := ak (Below.refl w.heap.size w)
 have H : (if 0 ≤ (l0.length : Int) then (if ((l0.length : Int) : Int).toNat ≤ 35184372088832 then ((some (List.replicate ((l0.length : Int) : Int).toNat 0 : List Int)).bind fun y143 => (peel_around.l0 k l0 a1 y143 (List.replicate ((l0.length : Int) : Int).toNat 0) (y143.length : Int) 0)) else (none)) else (none)) = some r := h
 clear h
 by_cases c3 : 0 ≤ (l0.length : Int)
 ·rw [if_pos c3] at H
  have c3b0 := eq_true c3
  have c3b1 : decide (0 ≤ (l0.length : Int)) = true := det c3
  clear c3
  by_cases c4 : ((l0.length : Int) : Int).toNat ≤ 35184372088832
  ·rw [if_pos c4] at H
   have c4b0 := eq_true c4
   have c4b1 : decide (((l0.length : Int) : Int).toNat ≤ 35184372088832) = true := det c4
   clear c4
   obtain ⟨y143, hy143⟩ : ∃ y_ : List Int, y_ = (List.replicate ((l0.length : Int) : Int).toNat 0) := ⟨_, rfl⟩
   replace H : (peel_around.l0 k l0 a1 y143 (List.replicate ((l0.length : Int) : Int).toNat 0) (y143.length : Int) 0) = some r := by (have H2_ := (Option.bind_some _ _).symm.trans H; rw [hy143]; with_reducible exact H2_)
   have Ny143 := ak hy143
   clear hy143
   obtain ⟨y146, hy146⟩ : ∃ y_ : List Int, y_ = (List.replicate ((l0.length : Int) : Int).toNat 0) := ⟨_, rfl⟩
   replace H : (peel_around.l0 k l0 a1 y143 y146 (y143.length : Int) 0) = some r := by (rw [hy146]; with_reducible exact H)
   have Ny146 := ak hy146
   clear hy146
   have H' := ak H
   clear H
   go_enter Try.func46, Try.ntmps46
   go_wp2_with (first | ((with_reducible refine gate_dst (N := 16) rfl ?_); refine Kd.R_make (Kd.int .i64) _ 3 rfl (N := 16) rfl 22 _ _ rfl (l0.length : Int) rfl rfl Try.underlying22 (.int .i64 0) 8 info3 rfl (by decide) (by omega) 0 (ok := fun _ => True) (okp := fun _ => True) rfl (fun _ hk => hk) trivial (odt (by with_reducible assumption)) (Nat.le_trans (Nat.mul_le_mul_right _ (odt (by with_reducible assumption) : (l0.length : Int).toNat ≤ 35184372088832)) (by omega)) (Below.refl _ _) (Nat.le_refl _) ?_; intro v144 w5 ho6 hb hg_ hnew_; clear hg_ hnew_; (rw [← Ny143.out] at ho6); have n0_ := ak (Kd.R_lower ho6 (bsz HB.out)); have n1_ := ak (bsp HB.out hb); clear HB; have HO145 := n0_; have HB := n1_; clear n0_ n1_; clear hb ho6) | ((with_reducible refine gate_dst (N := 19) rfl ?_); refine Kd.R_make (Kd.int .i64) _ 3 rfl (N := 19) rfl 22 _ _ rfl (l0.length : Int) rfl rfl Try.underlying22 (.int .i64 0) 8 info3 rfl (by decide) (by omega) 0 (ok := fun _ => True) (okp := fun _ => True) rfl (fun _ hk => hk) trivial (odt (by with_reducible assumption)) (Nat.le_trans (Nat.mul_le_mul_right _ (odt (by with_reducible assumption) : (l0.length : Int).toNat ≤ 35184372088832)) (by omega)) (Below.refl _ _) (Nat.le_refl _) ?_; intro v147 w7 ho8 hb hg_ hnew_; clear hg_ hnew_; (rw [← Ny146.out] at ho8); have n0_ := ak (Kd.R_elder' HO145.out (Kd.R_base ho8) hb); have n1_ := ak (Kd.R_lower (Kd.R_new' ho8 (Kd.R_lt HO145.out)) (bsz HB.out)); have n2_ := ak (bsp HB.out hb); clear HO145 HB; have HO145 := n0_; have HO148 := n1_; have HB := n2_; clear n0_ n1_ n2_; clear hb ho8; obtain ⟨Ao9, co9, eo9⟩ := Kd.R_slice HO145.out; subst eo9))
   go_loopg [22] k (fun kq v22 w' => ∃ (x5_1 : List Int) (x22_1 : Int), v22 = .int .i64 x22_1 ∧ Aside0 (peel_around.l0 kq l0 a1 x5_1 y146 (y143.length : Int) x22_1 = some r) ∧ Aside0 (kq ≤ k) ∧ Aside0 (Kd.R (Kd.int .i64) 3 w' w.heap.size (fun k_ => some k_ ≠ (v147 : Value).ownBlock) (.slice Ao9 y143.length co9) x5_1) ∧ Aside0 (Kd.R (Kd.int .i64) 3 w' w.heap.size (fun k_ => some k_ ≠ ((.slice Ao9 y143.length co9) : Value).ownBlock) v147 y146) ∧ Aside0 (Below w.heap.size w w'))
   case atStart => exact ⟨(y143), (0), (by first | rfl | (simp; done) | (simp [*]; done)), H', ⟨Nat.le_refl _⟩, ⟨by (with_reducible repeat (first | apply Kd.R_alloc | apply Kd.R_drewN | apply Kd.R_drew)); exact Kd.R_mono HO145.out (fun _ hk => hk.2)⟩, ⟨by (with_reducible repeat (first | apply Kd.R_alloc | apply Kd.R_drewN | apply Kd.R_drew)); exact Kd.R_mono HO148.out (fun _ hk => hk.2)⟩, ⟨by repeat (first | (with_reducible first | exact HB.out | apply bal | apply pbn | apply bd1) | exact HB.out)⟩⟩
   case round =>
    clear H'
    try (clear c3b0)
    try (clear c3b1)
    try (clear c4b0)
    try (clear c4b1)
    obtain ⟨x5_1, x22_1, rfl, HA, HK1, HO_5, HO_6, HB⟩ := hrel
    have hl5_1 := (Kd.R_reads' HO_5.out).1
    rw [hl5_1] at HO_5
    (try (simp only [hl5_1]))
    (try (simp only [hl5_1] at HO_6))
    cases gk with
    | zero => exact absurd HA.out (by simp [peel_around.l0])
    | succ k1 =>
     have H := HA.out
     clear HA
     simp only [peel_around.l0] at H
     by_cases c10 : x22_1 < (y143.length : Int)
     ·rw [if_pos c10] at H
      have c10b0 : decide (x22_1 < (y143.length : Int)) = true := det c10
      (try (simp only [hl5_1] at c10b0))
      clear c10
      by_cases c11 : 0 ≤ x22_1
      ·rw [if_pos c11] at H
       have c11b0 : decide (0 ≤ x22_1) = true := det c11
       clear c11
       by_cases c12 : x22_1 < (x5_1.length : Int)
       ·rw [if_pos c12] at H
        have c12b0 : decide (x22_1 < (x5_1.length : Int)) = true := det c12
        clear c12
        obtain ⟨y149, hy149⟩ : ∃ y_ : List Int, y_ = (x5_1.set (x22_1 : Int).toNat (-1)) := ⟨_, rfl⟩
        replace H : (peel_around.l0 k1 l0 a1 y149 y146 (y143.length : Int) (wrap64 (x22_1 + 1))) = some r := by (rw [hy149]; with_reducible exact H)
        have Ny149 := ak hy149
        clear hy149
        have H' := ak H
        clear H
        have p13 : 0 ≤ (x22_1 : Int) := odt (by with_reducible assumption)
        have q13 : (x22_1 : Int) < ((x5_1.length : Int) : Int) := odt (by with_reducible assumption)
        obtain ⟨go13, co13, eo13, gb13, gl13, cl13, HG13⟩ := Kd.R_form HO_5.out (by omega)
        (cases eo13)
        have GB13 := ak gb13
        have GG13 := ak HG13
        clear gb13 gl13 HG13
        obtain ⟨hx13_0, hf13_0⟩ := Kd.R_celln 0 HO_5.out (x22_1 : Int) p13 q13
        replace p13 := eq_true p13
        replace q13 := eq_true q13
        have HP14 := Kd.R_putg HO_5.out (x22_1 : Int) (-1)
        go_wp2_with (first | ((with_reducible refine gate_store (t := 3) (p := 27) rfl ?_); (try (rw [drewN_self wr]; generalize hq_ : World.drewN wr _ = wr; have n0_ := ak (Kd.R_at hq_ HO_5.out); have n1_ := ak (Kd.R_at hq_ HO_6.out); have n2_ := ak (below_at hq_ HB.out); clear hq_ HO_5 HO_6 HB; have HO_5 := n0_; have HO_6 := n1_; have HB := n2_; clear n0_ n1_ n2_; (try (have HP14 := Kd.R_putg HO_5.out (x22_1 : Int) (-1))))); refine store_event (t := 3) (p := 27) (v := ?vo_w15) (w1 := (wr.setCell ⟨go13, (x22_1 : Int).toNat, none⟩ (.int .i64 (-1)))) ?hg ?ho ?hn ?hr ?_; (case ho => rfl); (case hg => rfl); (case hn => rfl); (case hr => first | (go_simp; done) | (go_simp; rfl)); intro w15 hw; have hg : wr.grownBy w15 (some go13) := (by rw [hw]; exact HP14.2); have hp_ : Kd.R (Kd.int .i64) 3 w15 w.heap.size (fun k_ => some k_ ≠ (v147 : Value).ownBlock) (.slice (some ⟨go13, 0, none⟩) x5_1.length co9) y149 := (by rw [hw, Ny149.out]; exact HP14.1); clear HP14; have n0_ := ak (hp_); have n1_ := ak (Kd.R_after (v := (.slice (some ⟨go13, 0, none⟩) x5_1.length co9)) (v1 := (.slice (some ⟨go13, 0, none⟩) x5_1.length co9)) (ok := (fun _ => True)) (by (with_reducible repeat (first | apply Kd.R_alloc | apply Kd.R_drewN | apply Kd.R_drew)); exact Kd.R_mono HO_6.out (fun _ hk => ⟨trivial, hk⟩)) hg (.inl rfl)); have n2_ := ak ((by rw [hw]; exact bst (HB.out) GB13.out : Below w.heap.size w w15)); clear HO_5 HO_6 HB; have HO_5 := n0_; have HO_6 := n1_; have HB := n2_; clear n0_ n1_ n2_; clear hg hw hp_))
        (try (simp only [← hl5_1]))
        go_roundg k1
        case measure => have := HK1.out; omega
        case rel => exact ⟨(y149), (wrap64 (x22_1 + 1)), (by first | rfl | (simp; done) | (simp [*]; done)), H', ⟨by have := HK1.out; omega⟩, ⟨by (try simp only [hl5_1]); (with_reducible repeat (first | apply Kd.R_alloc | apply Kd.R_drewN | apply Kd.R_drew)); exact HO_5.out⟩, ⟨by (try simp only [hl5_1]); (with_reducible repeat (first | apply Kd.R_alloc | apply Kd.R_drewN | apply Kd.R_drew)); exact Kd.R_mono HO_6.out (fun _ hk => hk.2)⟩, ⟨by repeat (first | (with_reducible first | exact HB.out | apply bal | apply pbn | apply bd1) | exact HB.out)⟩⟩
       ·rw [if_neg c12] at H
        exact absurd H (by simp)
      ·rw [if_neg c11] at H
       exact absurd H (by simp)
     ·rw [if_neg c10] at H
      have c10b0 : decide (x22_1 < (y143.length : Int)) = false := dff c10
      (try (simp only [hl5_1] at c10b0))
      clear c10
      by_cases c16 : 0 ≤ a1
      ·rw [if_pos c16] at H
       have c16b0 : decide (0 ≤ a1) = true := det c16
       clear c16
       by_cases c17 : a1 < (x5_1.length : Int)
       ·rw [if_pos c17] at H
        have c17b0 : decide (a1 < (x5_1.length : Int)) = true := det c17
        clear c17
        obtain ⟨y150, hy150⟩ : ∃ y_ : List Int, y_ = (x5_1.set (a1 : Int).toNat 0) := ⟨_, rfl⟩
        replace H : (if a1 < (y146.length : Int) then (peel_around.l1 k1 l0 y150 (y146.set (a1 : Int).toNat (-1)) (([a1] : List Int)) 0 0) else (none)) = some r := by (rw [hy150]; with_reducible exact H)
        have Ny150 := ak hy150
        clear hy150
        by_cases c19 : a1 < (y146.length : Int)
        ·rw [if_pos c19] at H
         have c19b0 : decide (a1 < (y146.length : Int)) = true := det c19
         clear c19
         obtain ⟨y151, hy151⟩ : ∃ y_ : List Int, y_ = (y146.set (a1 : Int).toNat (-1)) := ⟨_, rfl⟩
         replace H : (peel_around.l1 k1 l0 y150 y151 (([a1] : List Int)) 0 0) = some r := by (rw [hy151]; with_reducible exact H)
         have Ny151 := ak hy151
         clear hy151
         obtain ⟨y152, hy152⟩ : ∃ y_ : List Int, y_ = (([a1] : List Int)) := ⟨_, rfl⟩
         replace H : (peel_around.l1 k1 l0 y150 y151 y152 0 0) = some r := by (rw [hy152]; with_reducible exact H)
         have Ny152 := ak hy152
         clear hy152
         have H' := ak H
         clear H
         have p18 : 0 ≤ (a1 : Int) := odt (by with_reducible assumption)
         have q18 : (a1 : Int) < ((x5_1.length : Int) : Int) := odt (by with_reducible assumption)
         obtain ⟨go18, co18, eo18, gb18, gl18, cl18, HG18⟩ := Kd.R_form HO_5.out (by omega)
         (cases eo18)
         have GB18 := ak gb18
         have GG18 := ak HG18
         clear gb18 gl18 HG18
         obtain ⟨hx18_0, hf18_0⟩ := Kd.R_celln 0 HO_5.out (a1 : Int) p18 q18
         replace p18 := eq_true p18
         replace q18 := eq_true q18
         have HP21 := Kd.R_putg HO_5.out (a1 : Int) 0
         go_wp2_with (first | ((with_reducible refine gate_store (t := 3) (p := 33) rfl ?_); (try (rw [drewN_self wr]; generalize hq_ : World.drewN wr _ = wr; have n0_ := ak (Kd.R_at hq_ HO_5.out); have n1_ := ak (Kd.R_at hq_ HO_6.out); have n2_ := ak (below_at hq_ HB.out); clear hq_ HO_5 HO_6 HB; have HO_5 := n0_; have HO_6 := n1_; have HB := n2_; clear n0_ n1_ n2_; (try (have HP21 := Kd.R_putg HO_5.out (a1 : Int) 0)))); refine store_event (t := 3) (p := 33) (v := ?vo_w22) (w1 := (wr.setCell ⟨go18, (a1 : Int).toNat, none⟩ (.int .i64 0))) ?hg ?ho ?hn ?hr ?_; (case ho => rfl); (case hg => rfl); (case hn => rfl); (case hr => first | (go_simp; done) | (go_simp; rfl)); intro w22 hw; have hg : wr.grownBy w22 (some go18) := (by rw [hw]; exact HP21.2); have hp_ : Kd.R (Kd.int .i64) 3 w22 w.heap.size (fun k_ => some k_ ≠ (v147 : Value).ownBlock) (.slice (some ⟨go18, 0, none⟩) x5_1.length co9) y150 := (by rw [hw, Ny150.out]; exact HP21.1); clear HP21; have n0_ := ak (hp_); have n1_ := ak (Kd.R_after (v := (.slice (some ⟨go18, 0, none⟩) x5_1.length co9)) (v1 := (.slice (some ⟨go18, 0, none⟩) x5_1.length co9)) (ok := (fun _ => True)) (by (with_reducible repeat (first | apply Kd.R_alloc | apply Kd.R_drewN | apply Kd.R_drew)); exact Kd.R_mono HO_6.out (fun _ hk => ⟨trivial, hk⟩)) hg (.inl rfl)); have n2_ := ak ((by rw [hw]; exact bst (HB.out) GB18.out : Below w.heap.size w w22)); clear HO_5 HO_6 HB; have HO_5 := n0_; have HO_6 := n1_; have HB := n2_; clear n0_ n1_ n2_; clear hg hw hp_; have p20 : 0 ≤ (a1 : Int) := odt (by first | (with_reducible assumption) | assumption); have q20 : (a1 : Int) < ((y146.length : Int) : Int) := odt (by first | (with_reducible assumption) | assumption); obtain ⟨go20, co20, eo20, gb20, gl20, cl20, HG20⟩ := Kd.R_form HO_6.out (by omega); (first | cases eo20 | (injection eo20 with ea_ en_ ec_; (first | subst ea_ | (injection ea_ with ea_; subst ea_)); subst ec_; clear en_)); have GB20 := ak gb20; have GG20 := ak HG20; clear gb20 gl20 HG20; obtain ⟨hx20_0, hf20_0⟩ := Kd.R_celln 0 HO_6.out (a1 : Int) p20 q20; replace p20 := eq_true p20; replace q20 := eq_true q20; have n_ := ak (Kd.R_mono (ok' := (fun k_ => some k_ ≠ (.slice (some ⟨go18, 0, none⟩) x5_1.length co9 : Value).ownBlock)) HO_6.out (fun k_ hk => hk.2)); clear HO_6; have HO_6 := n_; clear n_; obtain ⟨hy23_, hz23_⟩ := Kd.R_celln 0 HO_6.out (a1 : Int) (odt (by first | (with_reducible assumption) | assumption)) (odt (by first | (with_reducible assumption) | assumption)); have HP23 := Kd.R_putg HO_6.out (a1 : Int) (-1)) | ((with_reducible refine gate_store (t := 3) (p := 34) rfl ?_); (try (rw [drewN_self w22]; generalize hq_ : World.drewN w22 _ = w22; have n0_ := ak (Kd.R_at hq_ HO_5.out); have n1_ := ak (Kd.R_at hq_ HO_6.out); have n2_ := ak (below_at hq_ HB.out); clear hq_ HO_5 HO_6 HB; have HO_5 := n0_; have HO_6 := n1_; have HB := n2_; clear n0_ n1_ n2_; (try (have n_ := ak (Kd.R_mono (ok' := (fun k_ => some k_ ≠ (.slice (some ⟨go18, 0, none⟩) x5_1.length co9 : Value).ownBlock)) HO_6.out (fun k_ hk => hk.2)); clear HO_6; have HO_6 := n_; clear n_)); (try (obtain ⟨hy23_, hz23_⟩ := Kd.R_celln 0 HO_6.out (a1 : Int) (odt (by first | (with_reducible assumption) | assumption)) (odt (by first | (with_reducible assumption) | assumption)))); (try (have HP23 := Kd.R_putg HO_6.out (a1 : Int) (-1))))); refine store_event (t := 3) (p := 34) (v := ?vo_w24) (w1 := (w22.setCell ⟨go20, (a1 : Int).toNat, none⟩ (.int .i64 (-1)))) ?hg ?ho ?hn ?hr ?_; (case ho => rfl); (case hg => rfl); (case hn => rfl); (case hr => first | (go_simp; done) | (go_simp; rfl)); intro w24 hw; have hg : w22.grownBy w24 (some go20) := (by rw [hw]; exact HP23.2); have hp_ : Kd.R (Kd.int .i64) 3 w24 w.heap.size (fun k_ => some k_ ≠ (.slice (some ⟨go18, 0, none⟩) x5_1.length co9 : Value).ownBlock) (.slice (some ⟨go20, 0, none⟩) y146.length co20) y151 := (by rw [hw, Ny151.out]; exact HP23.1); clear HP23; have n0_ := ak (Kd.R_after (v := (.slice (some ⟨go20, 0, none⟩) y146.length co20)) (v1 := (.slice (some ⟨go20, 0, none⟩) y146.length co20)) (ok := (fun _ => True)) (by (with_reducible repeat (first | apply Kd.R_alloc | apply Kd.R_drewN | apply Kd.R_drew)); exact Kd.R_mono HO_5.out (fun _ hk => ⟨trivial, hk⟩)) hg (.inl rfl)); have n1_ := ak (hp_); have n2_ := ak ((by rw [hw]; exact bst (HB.out) GB20.out : Below w.heap.size w w24)); clear HO_5 HO_6 HB; have HO_5 := n0_; have HO_6 := n1_; have HB := n2_; clear n0_ n1_ n2_; clear hg hw hp_) | ((with_reducible refine gate_dst (N := 36) rfl ?_); refine Kd.R_lit (Kd.int .i64) _ 3 ?hg (N := 36) ?hd (xs := ([a1] : List Int)) (inner := [.int .i64 a1]) (ok := fun _ => True) (okp := fun _ => True) ?hr ?hp (fun _ hk => hk) trivial (Below.refl _ _) (Nat.le_refl _) (by simp) ?_; (case hd => rfl); (case hg => rfl); (case hr => first | (go_simp; done) | (go_simp; rfl)); (case hp => exact (Reps.one (show Kd.M (Kd.int .i64) _ _ _ a1 [.int .i64 a1] from rfl) (Reps.none _ _))); intro v153 w25 ho26 hb hg_ hnew_; clear hg_ hnew_; (first | rw [← Ny152.out] at ho26 | (simp only [Int.reduceToNat] at ho26; rw [← Ny152.out] at ho26)); have n0_ := ak (Kd.R_elder' HO_5.out (Kd.R_base ho26) hb); have n1_ := ak (Kd.R_elder' HO_6.out (Kd.R_base ho26) hb); have n2_ := ak (Kd.R_lower (Kd.R_new' (Kd.R_new' ho26 (Kd.R_lt HO_5.out)) (Kd.R_lt HO_6.out)) (bsz HB.out)); have n3_ := ak (bsp HB.out hb); clear HO_5 HO_6 HB; have HO_5 := n0_; have HO_6 := n1_; have HO154 := n2_; have HB := n3_; clear n0_ n1_ n2_ n3_; clear hb ho26))
         go_loopg [8, 9, 10] k1 (fun kq v8 v9 v10 w' => ∃ (x5_2 : List Int) (x6_2 : List Int) (x8_2 : List Int) (x9_2 : Int) (x10_2 : Int), v9 = .int .i64 x9_2 ∧ v10 = .int .i64 x10_2 ∧ Aside0 (peel_around.l1 kq l0 x5_2 x6_2 x8_2 x9_2 x10_2 = some r) ∧ Aside0 (kq ≤ k1) ∧ Aside0 (Kd.R (Kd.int .i64) 3 w' w.heap.size (fun k_ => some k_ ≠ ((.slice (some ⟨go20, 0, none⟩) y146.length co20) : Value).ownBlock ∧ some k_ ≠ (v8 : Value).ownBlock) (.slice (some ⟨go18, 0, none⟩) x5_1.length co9) x5_2) ∧ Aside0 (Kd.R (Kd.int .i64) 3 w' w.heap.size (fun k_ => some k_ ≠ ((.slice (some ⟨go18, 0, none⟩) x5_1.length co9) : Value).ownBlock ∧ some k_ ≠ (v8 : Value).ownBlock) (.slice (some ⟨go20, 0, none⟩) y146.length co20) x6_2) ∧ Aside0 (Kd.R (Kd.int .i64) 3 w' w.heap.size (fun k_ => some k_ ≠ ((.slice (some ⟨go18, 0, none⟩) x5_1.length co9) : Value).ownBlock ∧ some k_ ≠ ((.slice (some ⟨go20, 0, none⟩) y146.length co20) : Value).ownBlock) v8 x8_2) ∧ Aside0 (Below w.heap.size w w'))
         case atStart => exact ⟨(y150), (y151), (y152), (0), (0), (by first | rfl | (simp; done) | (simp [*]; done)), (by first | rfl | (simp; done) | (simp [*]; done)), H', ⟨Nat.le_refl _⟩, ⟨by (try simp only [hl5_1]); (with_reducible repeat (first | apply Kd.R_alloc | apply Kd.R_drewN | apply Kd.R_drew)); exact Kd.R_mono HO_5.out (fun _ hk => ⟨hk.1.2, hk.2⟩)⟩, ⟨by (try simp only [hl5_1]); (with_reducible repeat (first | apply Kd.R_alloc | apply Kd.R_drewN | apply Kd.R_drew)); exact HO_6.out⟩, ⟨by (try simp only [hl5_1]); (with_reducible repeat (first | apply Kd.R_alloc | apply Kd.R_drewN | apply Kd.R_drew)); exact Kd.R_mono HO154.out (fun _ hk => ⟨hk.1.2, hk.2⟩)⟩, ⟨by repeat (first | (with_reducible first | exact HB.out | apply bal | apply pbn | apply bd1) | exact HB.out)⟩⟩
         case round =>
          clear H'
          try (clear c10b0)
          try (clear c16b0)
          try (clear c17b0)
          try (clear p18)
          try (clear q18)
          try (clear c19b0)
          try (clear p20)
          try (clear q20)
          try (clear hx18_0)
          try (clear hx20_0)
          obtain ⟨x5_2, x6_2, x8_2, x9_2, x10_2, rfl, rfl, HA, HK2, HO_5, HO_6, HO_8, HB⟩ := hrel
          have hl5_2 := (Kd.R_reads' HO_5.out).1
          rw [hl5_2] at HO_5
          (try (simp only [hl5_2]))
          (try (simp only [hl5_2] at HO_6))
          (try (simp only [hl5_2] at HO_8))
          have hl6_2 := (Kd.R_reads' HO_6.out).1
          rw [hl6_2] at HO_6
          (try (simp only [hl6_2]))
          (try (simp only [hl6_2] at HO_5))
          (try (simp only [hl6_2] at HO_8))
          cases gk with
          | zero => exact absurd HA.out (by simp [peel_around.l1])
          | succ k2 =>
           have H := HA.out
           clear HA
           simp only [peel_around.l1] at H
           by_cases c27 : x10_2 < (x8_2.length : Int)
           ·rw [if_pos c27] at H
            have c27b0 : decide (x10_2 < (x8_2.length : Int)) = true := det c27
            clear c27
            by_cases c28 : 0 ≤ x10_2
            ·rw [if_pos c28] at H
             have c28b0 : decide (0 ≤ x10_2) = true := det c28
             clear c28
             by_cases c29 : 0 ≤ (rd x8_2 x10_2)
             ·rw [if_pos c29] at H
              have c29b0 : decide (0 ≤ (rd x8_2 x10_2)) = true := det c29
              clear c29
              by_cases c30 : (rd x8_2 x10_2) < (l0.length : Int)
              ·rw [if_pos c30] at H
               have c30b0 : decide ((rd x8_2 x10_2) < (l0.length : Int)) = true := det c30
               clear c30
               have H' := ak H
               clear H
               obtain ⟨Ao31, co31, eo31⟩ := Kd.R_slice HO_8.out
               subst eo31
               have p155 : 0 ≤ (x10_2 : Int) := odt (by with_reducible assumption)
               have q155 : x10_2 < (x8_2.length : Int) := odt (by with_reducible assumption)
               obtain ⟨ad155, e155, hx155_0⟩ := Kd.at_int (Kd.R_reads' HO_8.out).2.2 x10_2 p155 q155
               cases e155
               replace p155 := eq_true p155
               replace q155 := eq_true q155
               have p156 : 0 ≤ ((rd x8_2 x10_2) : Int) := odt (by with_reducible assumption)
               have q156 : (rd x8_2 x10_2) < (l0.length : Int) := odt (by with_reducible assumption)
               obtain ⟨ad156, A156_0, c156_0, e156, hx156_0, hl156_0, hi156_0⟩ := at_L2 HR0.out (rd x8_2 x10_2) p156 q156
               cases e156
               replace hx156_0 := (HB.out.cell (World.block_lt_of_cell? w _ hx156_0)).trans hx156_0
               have HR156_0 := ak hi156_0
               have HC156_0 := ak hl156_0
               clear hi156_0 hl156_0
               replace p156 := eq_true p156
               replace q156 := eq_true q156
               go_wp2
               go_loopg [8, 9, 52] k2 (fun kq v8 v9 v52 w' => ∃ (x5_3 : List Int) (x6_3 : List Int) (x8_3 : List Int) (x9_3 : Int) (x52_3 : Int), v9 = .int .i64 x9_3 ∧ v52 = .int .i64 x52_3 ∧ Aside0 (peel_around.l2 kq l0 x5_3 x6_3 x8_3 x9_3 x10_2 (rd x8_2 x10_2) (rd_L2 l0 (rd x8_2 x10_2)) ((rd_L2 l0 (rd x8_2 x10_2)).length : Int) x52_3 = some r) ∧ Aside0 (kq ≤ k2) ∧ Aside0 (Kd.R (Kd.int .i64) 3 w' w.heap.size (fun k_ => some k_ ≠ ((.slice (some ⟨go20, 0, none⟩) x6_2.length co20) : Value).ownBlock ∧ some k_ ≠ (v8 : Value).ownBlock) (.slice (some ⟨go18, 0, none⟩) x5_2.length co9) x5_3) ∧ Aside0 (Kd.R (Kd.int .i64) 3 w' w.heap.size (fun k_ => some k_ ≠ ((.slice (some ⟨go18, 0, none⟩) x5_2.length co9) : Value).ownBlock ∧ some k_ ≠ (v8 : Value).ownBlock) (.slice (some ⟨go20, 0, none⟩) x6_2.length co20) x6_3) ∧ Aside0 (Kd.R (Kd.int .i64) 3 w' w.heap.size (fun k_ => some k_ ≠ ((.slice (some ⟨go18, 0, none⟩) x5_2.length co9) : Value).ownBlock ∧ some k_ ≠ ((.slice (some ⟨go20, 0, none⟩) x6_2.length co20) : Value).ownBlock) v8 x8_3) ∧ Aside0 (Below w.heap.size w w'))
               case atStart => exact ⟨(x5_2), (x6_2), (x8_2), (x9_2), (0), (by first | rfl | (simp; done) | (simp [*]; done)), (by first | rfl | (simp; done) | (simp [*]; done)), H', ⟨Nat.le_refl _⟩, ⟨by (try simp only [hl5_1]); (try simp only [hl5_2]); (try simp only [hl6_2]); (with_reducible repeat (first | apply Kd.R_alloc | apply Kd.R_drewN | apply Kd.R_drew)); exact HO_5.out⟩, ⟨by (try simp only [hl5_1]); (try simp only [hl5_2]); (try simp only [hl6_2]); (with_reducible repeat (first | apply Kd.R_alloc | apply Kd.R_drewN | apply Kd.R_drew)); exact HO_6.out⟩, ⟨by (try simp only [hl5_1]); (try simp only [hl5_2]); (try simp only [hl6_2]); (with_reducible repeat (first | apply Kd.R_alloc | apply Kd.R_drewN | apply Kd.R_drew)); exact HO_8.out⟩, ⟨by repeat (first | (with_reducible first | exact HB.out | apply bal | apply pbn | apply bd1) | exact HB.out)⟩⟩
               case round =>
                clear H'
                try (clear c27b0)
                try (clear c28b0)
                try (clear c29b0)
                try (clear c30b0)
                try (clear hx155_0)
                try (clear hx156_0)
                try (clear p155)
                try (clear p156)
                try (clear q155)
                try (clear q156)
                obtain ⟨x5_3, x6_3, x8_3, x9_3, x52_3, rfl, rfl, HA, HK3, HO_5, HO_6, HO_8, HB⟩ := hrel
                have hl5_3 := (Kd.R_reads' HO_5.out).1
                rw [hl5_3] at HO_5
                (try (simp only [hl5_3]))
                (try (simp only [hl5_3] at HO_6))
                (try (simp only [hl5_3] at HO_8))
                have hl6_3 := (Kd.R_reads' HO_6.out).1
                rw [hl6_3] at HO_6
                (try (simp only [hl6_3]))
                (try (simp only [hl6_3] at HO_5))
                (try (simp only [hl6_3] at HO_8))
                cases gk with
                | zero => exact absurd HA.out (by simp [peel_around.l2])
                | succ k3 =>
                 have H := HA.out
                 clear HA
                 simp only [peel_around.l2] at H
                 by_cases c32 : x52_3 < ((rd_L2 l0 (rd x8_2 x10_2)).length : Int)
                 ·rw [if_pos c32] at H
                  have c32b0 : decide (x52_3 < ((rd_L2 l0 (rd x8_2 x10_2)).length : Int)) = true := det c32
                  clear c32
                  by_cases c33 : 0 ≤ x52_3
                  ·rw [if_pos c33] at H
                   have c33b0 : decide (0 ≤ x52_3) = true := det c33
                   clear c33
                   by_cases c34 : x52_3 < ((rd_L2 l0 (rd x8_2 x10_2)).length : Int)
                   ·rw [if_pos c34] at H
                    have c34b0 : decide (x52_3 < ((rd_L2 l0 (rd x8_2 x10_2)).length : Int)) = true := det c34
                    clear c34
                    by_cases c35 : 0 ≤ (rd (rd_L2 l0 (rd x8_2 x10_2)) x52_3)
                    ·rw [if_pos c35] at H
                     have c35b0 : decide (0 ≤ (rd (rd_L2 l0 (rd x8_2 x10_2)) x52_3)) = true := det c35
                     clear c35
                     by_cases c36 : (rd (rd_L2 l0 (rd x8_2 x10_2)) x52_3) < (x5_3.length : Int)
                     ·rw [if_pos c36] at H
                      have c36b0 : decide ((rd (rd_L2 l0 (rd x8_2 x10_2)) x52_3) < (x5_3.length : Int)) = true := det c36
                      clear c36
                      by_cases c37 : (rd x5_3 (rd (rd_L2 l0 (rd x8_2 x10_2)) x52_3)) < 0
                      ·rw [if_pos c37] at H
                       have c37b0 : decide ((rd x5_3 (rd (rd_L2 l0 (rd x8_2 x10_2)) x52_3)) < 0) = true := det c37
                       clear c37
                       by_cases c38 : 0 ≤ (rd x8_2 x10_2)
                       ·rw [if_pos c38] at H
                        have c38b0 : decide (0 ≤ (rd x8_2 x10_2)) = true := det c38
                        clear c38
                        by_cases c39 : (rd x8_2 x10_2) < (x5_3.length : Int)
                        ·rw [if_pos c39] at H
                         have c39b0 : decide ((rd x8_2 x10_2) < (x5_3.length : Int)) = true := det c39
                         clear c39
                         obtain ⟨y160, hy160⟩ : ∃ y_ : List Int, y_ = (x5_3.set ((rd (rd_L2 l0 (rd x8_2 x10_2)) x52_3) : Int).toNat (wrap64 ((rd x5_3 (rd x8_2 x10_2)) + 1))) := ⟨_, rfl⟩
                         replace H : (if (rd (rd_L2 l0 (rd x8_2 x10_2)) x52_3) < (x6_3.length : Int) then (if x8_3.length < 17592186044416 then (peel_around.l2 k3 l0 y160 (x6_3.set ((rd (rd_L2 l0 (rd x8_2 x10_2)) x52_3) : Int).toNat (rd x8_2 x10_2)) (x8_3 ++ [rd (rd_L2 l0 (rd x8_2 x10_2)) x52_3]) x9_3 x10_2 (rd x8_2 x10_2) (rd_L2 l0 (rd x8_2 x10_2)) ((rd_L2 l0 (rd x8_2 x10_2)).length : Int) (wrap64 (x52_3 + 1))) else (none)) else (none)) = some r := by (rw [hy160]; with_reducible exact H)
                         have Ny160 := ak hy160
                         clear hy160
                         by_cases c41 : (rd (rd_L2 l0 (rd x8_2 x10_2)) x52_3) < (x6_3.length : Int)
                         ·rw [if_pos c41] at H
                          have c41b0 : decide ((rd (rd_L2 l0 (rd x8_2 x10_2)) x52_3) < (x6_3.length : Int)) = true := det c41
                          clear c41
                          obtain ⟨y161, hy161⟩ : ∃ y_ : List Int, y_ = (x6_3.set ((rd (rd_L2 l0 (rd x8_2 x10_2)) x52_3) : Int).toNat (rd x8_2 x10_2)) := ⟨_, rfl⟩
                          replace H : (if x8_3.length < 17592186044416 then (peel_around.l2 k3 l0 y160 y161 (x8_3 ++ [rd (rd_L2 l0 (rd x8_2 x10_2)) x52_3]) x9_3 x10_2 (rd x8_2 x10_2) (rd_L2 l0 (rd x8_2 x10_2)) ((rd_L2 l0 (rd x8_2 x10_2)).length : Int) (wrap64 (x52_3 + 1))) else (none)) = some r := by (rw [hy161]; with_reducible exact H)
                          have Ny161 := ak hy161
                          clear hy161
                          by_cases c43 : x8_3.length < 17592186044416
                          ·rw [if_pos c43] at H
                           have LMc43 := ak c43
                           clear c43
                           obtain ⟨y162, hy162⟩ : ∃ y_ : List Int, y_ = (x8_3 ++ [rd (rd_L2 l0 (rd x8_2 x10_2)) x52_3]) := ⟨_, rfl⟩
                           replace H : (peel_around.l2 k3 l0 y160 y161 y162 x9_3 x10_2 (rd x8_2 x10_2) (rd_L2 l0 (rd x8_2 x10_2)) ((rd_L2 l0 (rd x8_2 x10_2)).length : Int) (wrap64 (x52_3 + 1))) = some r := by (rw [hy162]; with_reducible exact H)
                           have Ny162 := ak hy162
                           clear hy162
                           have H' := ak H
                           clear H
                           have p157 : 0 ≤ (x52_3 : Int) := odt (by with_reducible assumption)
                           have q157 : x52_3 < ((rd_L2 l0 (rd x8_2 x10_2)).length : Int) := odt (by with_reducible assumption)
                           obtain ⟨ad157, e157, hx157_0⟩ := Kd.at_int HR156_0.out x52_3 p157 q157
                           cases e157
                           replace hx157_0 := (HB.out.cell (World.block_lt_of_cell? w _ hx157_0)).trans hx157_0
                           replace p157 := eq_true p157
                           replace q157 := eq_true q157
                           have p158 : 0 ≤ ((rd (rd_L2 l0 (rd x8_2 x10_2)) x52_3) : Int) := odt (by with_reducible assumption)
                           have q158 : (rd (rd_L2 l0 (rd x8_2 x10_2)) x52_3) < (x5_3.length : Int) := odt (by with_reducible assumption)
                           obtain ⟨ad158, e158, hx158_0⟩ := Kd.at_int (Kd.R_reads' HO_5.out).2.2 (rd (rd_L2 l0 (rd x8_2 x10_2)) x52_3) p158 q158
                           obtain rfl : (⟨go18, 0, none⟩ : Addr) = ad158 := (by injection e158)
                           (simp only [add_plain] at hx158_0)
                           replace p158 := eq_true p158
                           replace q158 := eq_true q158
                           have p159 : 0 ≤ ((rd x8_2 x10_2) : Int) := odt (by with_reducible assumption)
                           have q159 : (rd x8_2 x10_2) < (x5_3.length : Int) := odt (by with_reducible assumption)
                           obtain ⟨ad159, e159, hx159_0⟩ := Kd.at_int (Kd.R_reads' HO_5.out).2.2 (rd x8_2 x10_2) p159 q159
                           obtain rfl : (⟨go18, 0, none⟩ : Addr) = ad159 := (by injection e159)
                           (simp only [add_plain] at hx159_0)
                           replace p159 := eq_true p159
                           replace q159 := eq_true q159
                           have p40 : 0 ≤ ((rd (rd_L2 l0 (rd x8_2 x10_2)) x52_3) : Int) := odt (by with_reducible assumption)
                           have q40 : ((rd (rd_L2 l0 (rd x8_2 x10_2)) x52_3) : Int) < ((x5_3.length : Int) : Int) := odt (by with_reducible assumption)
                           obtain ⟨hx40_0, hf40_0⟩ := Kd.R_celln 0 HO_5.out ((rd (rd_L2 l0 (rd x8_2 x10_2)) x52_3) : Int) p40 q40
                           replace p40 := eq_true p40
                           replace q40 := eq_true q40
                           have HP44 := Kd.R_putg HO_5.out ((rd (rd_L2 l0 (rd x8_2 x10_2)) x52_3) : Int) (wrap64 ((rd x5_3 (rd x8_2 x10_2)) + 1))
                           go_wp2_with (first | ((with_reducible refine gate_store (t := 3) (p := 72) rfl ?_); (try (rw [drewN_self wr]; generalize hq_ : World.drewN wr _ = wr; have n0_ := ak (Kd.R_at hq_ HO_5.out); have n1_ := ak (Kd.R_at hq_ HO_6.out); have n2_ := ak (Kd.R_at hq_ HO_8.out); have n3_ := ak (below_at hq_ HB.out); clear hq_ HO_5 HO_6 HO_8 HB; have HO_5 := n0_; have HO_6 := n1_; have HO_8 := n2_; have HB := n3_; clear n0_ n1_ n2_ n3_; (try (have HP44 := Kd.R_putg HO_5.out ((rd (rd_L2 l0 (rd x8_2 x10_2)) x52_3) : Int) (wrap64 ((rd x5_3 (rd x8_2 x10_2)) + 1)))))); refine store_event (t := 3) (p := 72) (v := ?vo_w45) (w1 := (wr.setCell ⟨go18, ((rd (rd_L2 l0 (rd x8_2 x10_2)) x52_3) : Int).toNat, none⟩ (.int .i64 (wrap64 ((rd x5_3 (rd x8_2 x10_2)) + 1))))) ?hg ?ho ?hn ?hr ?_; (case ho => rfl); (case hg => rfl); (case hn => rfl); (case hr => first | (go_simp; done) | (go_simp; rfl)); intro w45 hw; have hg : wr.grownBy w45 (some go18) := (by rw [hw]; exact HP44.2); have hp_ : Kd.R (Kd.int .i64) 3 w45 w.heap.size (fun k_ => some k_ ≠ (.slice (some ⟨go20, 0, none⟩) x6_3.length co20 : Value).ownBlock ∧ some k_ ≠ (u8 : Value).ownBlock) (.slice (some ⟨go18, 0, none⟩) x5_3.length co9) y160 := (by rw [hw, Ny160.out]; exact HP44.1); clear HP44; have n0_ := ak (hp_); have n1_ := ak (Kd.R_after (v := (.slice (some ⟨go18, 0, none⟩) x5_3.length co9)) (v1 := (.slice (some ⟨go18, 0, none⟩) x5_3.length co9)) (ok := (fun k_ => some k_ ≠ (u8 : Value).ownBlock)) (by (with_reducible repeat (first | apply Kd.R_alloc | apply Kd.R_drewN | apply Kd.R_drew)); exact Kd.R_mono HO_6.out (fun _ hk => ⟨hk.2, hk.1⟩)) hg (.inl rfl)); have n2_ := ak (Kd.R_after (v := (.slice (some ⟨go18, 0, none⟩) x5_3.length co9)) (v1 := (.slice (some ⟨go18, 0, none⟩) x5_3.length co9)) (ok := (fun k_ => some k_ ≠ (.slice (some ⟨go20, 0, none⟩) x6_3.length co20 : Value).ownBlock)) (by (with_reducible repeat (first | apply Kd.R_alloc | apply Kd.R_drewN | apply Kd.R_drew)); exact Kd.R_mono HO_8.out (fun _ hk => ⟨hk.2, hk.1⟩)) hg (.inl rfl)); have n3_ := ak ((by rw [hw]; exact bst (HB.out) GB18.out : Below w.heap.size w w45)); clear HO_5 HO_6 HO_8 HB; have HO_5 := n0_; have HO_6 := n1_; have HO_8 := n2_; have HB := n3_; clear n0_ n1_ n2_ n3_; clear hg hw hp_; have p42 : 0 ≤ ((rd (rd_L2 l0 (rd x8_2 x10_2)) x52_3) : Int) := odt (by first | (with_reducible assumption) | assumption); have q42 : ((rd (rd_L2 l0 (rd x8_2 x10_2)) x52_3) : Int) < ((x6_3.length : Int) : Int) := odt (by first | (with_reducible assumption) | assumption); obtain ⟨hx42_0, hf42_0⟩ := Kd.R_celln 0 HO_6.out ((rd (rd_L2 l0 (rd x8_2 x10_2)) x52_3) : Int) p42 q42; replace p42 := eq_true p42; replace q42 := eq_true q42; obtain ⟨hy46_, hz46_⟩ := Kd.R_celln 0 HO_6.out ((rd (rd_L2 l0 (rd x8_2 x10_2)) x52_3) : Int) (odt (by first | (with_reducible assumption) | assumption)) (odt (by first | (with_reducible assumption) | assumption)); have HP46 := Kd.R_putg HO_6.out ((rd (rd_L2 l0 (rd x8_2 x10_2)) x52_3) : Int) (rd x8_2 x10_2)) | ((with_reducible refine gate_store (t := 3) (p := 73) rfl ?_); (try (rw [drewN_self w45]; generalize hq_ : World.drewN w45 _ = w45; have n0_ := ak (Kd.R_at hq_ HO_5.out); have n1_ := ak (Kd.R_at hq_ HO_6.out); have n2_ := ak (Kd.R_at hq_ HO_8.out); have n3_ := ak (below_at hq_ HB.out); clear hq_ HO_5 HO_6 HO_8 HB; have HO_5 := n0_; have HO_6 := n1_; have HO_8 := n2_; have HB := n3_; clear n0_ n1_ n2_ n3_; (try (obtain ⟨hy46_, hz46_⟩ := Kd.R_celln 0 HO_6.out ((rd (rd_L2 l0 (rd x8_2 x10_2)) x52_3) : Int) (odt (by first | (with_reducible assumption) | assumption)) (odt (by first | (with_reducible assumption) | assumption)))); (try (have HP46 := Kd.R_putg HO_6.out ((rd (rd_L2 l0 (rd x8_2 x10_2)) x52_3) : Int) (rd x8_2 x10_2))))); refine store_event (t := 3) (p := 73) (v := ?vo_w47) (w1 := (w45.setCell ⟨go20, ((rd (rd_L2 l0 (rd x8_2 x10_2)) x52_3) : Int).toNat, none⟩ (.int .i64 (rd x8_2 x10_2)))) ?hg ?ho ?hn ?hr ?_; (case ho => rfl); (case hg => rfl); (case hn => rfl); (case hr => first | (go_simp; done) | (go_simp; rfl)); intro w47 hw; have hg : w45.grownBy w47 (some go20) := (by rw [hw]; exact HP46.2); have hp_ : Kd.R (Kd.int .i64) 3 w47 w.heap.size (fun k_ => some k_ ≠ (u8 : Value).ownBlock ∧ some k_ ≠ (.slice (some ⟨go18, 0, none⟩) x5_3.length co9 : Value).ownBlock) (.slice (some ⟨go20, 0, none⟩) x6_3.length co20) y161 := (by rw [hw, Ny161.out]; exact HP46.1); clear HP46; have n0_ := ak (Kd.R_after (v := (.slice (some ⟨go20, 0, none⟩) x6_3.length co20)) (v1 := (.slice (some ⟨go20, 0, none⟩) x6_3.length co20)) (ok := (fun k_ => some k_ ≠ (u8 : Value).ownBlock)) (by (with_reducible repeat (first | apply Kd.R_alloc | apply Kd.R_drewN | apply Kd.R_drew)); exact Kd.R_mono HO_5.out (fun _ hk => ⟨hk.2, hk.1⟩)) hg (.inl rfl)); have n1_ := ak (hp_); have n2_ := ak (Kd.R_after (v := (.slice (some ⟨go20, 0, none⟩) x6_3.length co20)) (v1 := (.slice (some ⟨go20, 0, none⟩) x6_3.length co20)) (ok := (fun k_ => some k_ ≠ (.slice (some ⟨go18, 0, none⟩) x5_3.length co9 : Value).ownBlock)) (by (with_reducible repeat (first | apply Kd.R_alloc | apply Kd.R_drewN | apply Kd.R_drew)); exact Kd.R_mono HO_8.out (fun _ hk => ⟨hk.2, hk.1⟩)) hg (.inl rfl)); have n3_ := ak ((by rw [hw]; exact bst (HB.out) GB20.out : Below w.heap.size w w47)); clear HO_5 HO_6 HO_8 HB; have HO_5 := n0_; have HO_6 := n1_; have HO_8 := n2_; have HB := n3_; clear n0_ n1_ n2_ n3_; clear hg hw hp_) | ((with_reducible refine gate_builtin (b := .append) (xs := #[.tmp 74, .tmp 76]) rfl ?_); at_builtin; refine Kd.R_append (Kd.int .i64) (w0 := w) w.heap.size rfl (.tmp 74) (.tmp 76) 22 3 (.int .i64 0) 8 rfl Try.underlying22 info3 rfl (by decide) (by omega) u8 x8_3 (rd (rd_L2 l0 (rd x8_2 x10_2)) x52_3) [.int .i64 (rd (rd_L2 l0 (rd x8_2 x10_2)) x52_3)] (fun k_ => some k_ ≠ (.slice (some ⟨go18, 0, none⟩) x5_3.length co9 : Value).ownBlock ∧ some k_ ≠ (.slice (some ⟨go20, 0, none⟩) x6_3.length co20 : Value).ownBlock) (fun _ => False) rfl rfl ?aP (fun _ hk => hk.elim) ?aF ?aO ?aB ?aS ?aL ?_; (case aP => exact rfl); (case aB => exact HB.out); (case aF => exact (fun k_ hk => ⟨Kd.fresh' (Kd.R_lt HO_5.out) k_ hk, Kd.fresh' (Kd.R_lt HO_6.out) k_ hk⟩)); (case aO => exact HO_8.out); (case aS => exact (bsz HB.out)); (case aL => have := LMc43.out; omega); intro v163 w48 ho hb hg hat; rw [← Ny162.out] at ho; have n0_ := ak (Kd.R_after (ok := (fun k_ => some k_ ≠ (.slice (some ⟨go20, 0, none⟩) x6_3.length co20 : Value).ownBlock)) (by (with_reducible repeat (first | apply Kd.R_alloc | apply Kd.R_drewN | apply Kd.R_drew)); exact Kd.R_mono HO_5.out (fun _ hk => ⟨hk.2, hk.1⟩)) hg hat); have n1_ := ak (Kd.R_after (ok := (fun k_ => some k_ ≠ (.slice (some ⟨go18, 0, none⟩) x5_3.length co9 : Value).ownBlock)) (by (with_reducible repeat (first | apply Kd.R_alloc | apply Kd.R_drewN | apply Kd.R_drew)); exact Kd.R_mono HO_6.out (fun _ hk => ⟨hk.2, hk.1⟩)) hg hat); have n2_ := ak (hb); have n3_ := ak (ho); clear HO_5 HO_6 HB HO_8; have HO_5 := n0_; have HO_6 := n1_; have HB := n2_; have HO164 := n3_; clear n0_ n1_ n2_ n3_; clear ho hb hg hat))
                           (try (simp only [← hl5_3, ← hl6_3]))
                           go_roundg k3
                           case measure => have := HK1.out; have := HK2.out; have := HK3.out; omega
                           case rel => exact ⟨(y160), (y161), (y162), (x9_3), (wrap64 (x52_3 + 1)), (by first | rfl | (simp; done) | (simp [*]; done)), (by first | rfl | (simp; done) | (simp [*]; done)), H', ⟨by have := HK1.out; have := HK2.out; have := HK3.out; omega⟩, ⟨by (try simp only [hl5_1]); (try simp only [hl5_2]); (try simp only [hl6_2]); (try simp only [hl5_3]); (try simp only [hl6_3]); (with_reducible repeat (first | apply Kd.R_alloc | apply Kd.R_drewN | apply Kd.R_drew)); exact HO_5.out⟩, ⟨by (try simp only [hl5_1]); (try simp only [hl5_2]); (try simp only [hl6_2]); (try simp only [hl5_3]); (try simp only [hl6_3]); (with_reducible repeat (first | apply Kd.R_alloc | apply Kd.R_drewN | apply Kd.R_drew)); exact HO_6.out⟩, ⟨by (try simp only [hl5_1]); (try simp only [hl5_2]); (try simp only [hl6_2]); (try simp only [hl5_3]); (try simp only [hl6_3]); (with_reducible repeat (first | apply Kd.R_alloc | apply Kd.R_drewN | apply Kd.R_drew)); exact HO164.out⟩, ⟨by repeat (first | (with_reducible first | exact HB.out | apply bal | apply pbn | apply bd1) | exact HB.out)⟩⟩
                          ·rw [if_neg c43] at H
                           exact absurd H (by simp)
                         ·rw [if_neg c41] at H
                          exact absurd H (by simp)
                        ·rw [if_neg c39] at H
                         exact absurd H (by simp)
                       ·rw [if_neg c38] at H
                        exact absurd H (by simp)
                      ·rw [if_neg c37] at H
                       have c37b0 : decide ((rd x5_3 (rd (rd_L2 l0 (rd x8_2 x10_2)) x52_3)) < 0) = false := dff c37
                       clear c37
                       by_cases c49 : 0 ≤ (rd x8_2 x10_2)
                       ·rw [if_pos c49] at H
                        have c49b0 : decide (0 ≤ (rd x8_2 x10_2)) = true := det c49
                        clear c49
                        by_cases c50 : (rd x8_2 x10_2) < (x6_3.length : Int)
                        ·rw [if_pos c50] at H
                         have c50b0 : decide ((rd x8_2 x10_2) < (x6_3.length : Int)) = true := det c50
                         clear c50
                         by_cases c51 : (rd (rd_L2 l0 (rd x8_2 x10_2)) x52_3) = (rd x6_3 (rd x8_2 x10_2))
                         ·rw [if_pos c51] at H
                          have c51b0 : ((rd (rd_L2 l0 (rd x8_2 x10_2)) x52_3) == (rd x6_3 (rd x8_2 x10_2))) = true := beq_iff_eq.mpr c51
                          have c51b1 : ((rd (rd_L2 l0 (rd x8_2 x10_2)) x52_3) != (rd x6_3 (rd x8_2 x10_2))) = false := bnm c51
                          clear c51
                          have H' := ak H
                          clear H
                          have p157 : 0 ≤ (x52_3 : Int) := odt (by with_reducible assumption)
                          have q157 : x52_3 < ((rd_L2 l0 (rd x8_2 x10_2)).length : Int) := odt (by with_reducible assumption)
                          obtain ⟨ad157, e157, hx157_0⟩ := Kd.at_int HR156_0.out x52_3 p157 q157
                          cases e157
                          replace hx157_0 := (HB.out.cell (World.block_lt_of_cell? w _ hx157_0)).trans hx157_0
                          replace p157 := eq_true p157
                          replace q157 := eq_true q157
                          have p158 : 0 ≤ ((rd (rd_L2 l0 (rd x8_2 x10_2)) x52_3) : Int) := odt (by with_reducible assumption)
                          have q158 : (rd (rd_L2 l0 (rd x8_2 x10_2)) x52_3) < (x5_3.length : Int) := odt (by with_reducible assumption)
                          obtain ⟨ad158, e158, hx158_0⟩ := Kd.at_int (Kd.R_reads' HO_5.out).2.2 (rd (rd_L2 l0 (rd x8_2 x10_2)) x52_3) p158 q158
                          obtain rfl : (⟨go18, 0, none⟩ : Addr) = ad158 := (by injection e158)
                          (simp only [add_plain] at hx158_0)
                          replace p158 := eq_true p158
                          replace q158 := eq_true q158
                          have p165 : 0 ≤ ((rd x8_2 x10_2) : Int) := odt (by with_reducible assumption)
                          have q165 : (rd x8_2 x10_2) < (x6_3.length : Int) := odt (by with_reducible assumption)
                          obtain ⟨ad165, e165, hx165_0⟩ := Kd.at_int (Kd.R_reads' HO_6.out).2.2 (rd x8_2 x10_2) p165 q165
                          obtain rfl : (⟨go20, 0, none⟩ : Addr) = ad165 := (by injection e165)
                          (simp only [add_plain] at hx165_0)
                          replace p165 := eq_true p165
                          replace q165 := eq_true q165
                          go_wp2
                          repeat (go_quiet (fail); try go_wp2)
                          (try (simp only [← hl5_3, ← hl6_3]))
                          go_roundg k3
                          case measure => have := HK1.out; have := HK2.out; have := HK3.out; omega
                          case rel => exact ⟨(x5_3), (x6_3), (x8_3), (x9_3), (wrap64 (x52_3 + 1)), (by first | rfl | (simp; done) | (simp [*]; done)), (by first | rfl | (simp; done) | (simp [*]; done)), H', ⟨by have := HK1.out; have := HK2.out; have := HK3.out; omega⟩, ⟨by (try simp only [hl5_1]); (try simp only [hl5_2]); (try simp only [hl6_2]); (try simp only [hl5_3]); (try simp only [hl6_3]); (with_reducible repeat (first | apply Kd.R_alloc | apply Kd.R_drewN | apply Kd.R_drew)); exact HO_5.out⟩, ⟨by (try simp only [hl5_1]); (try simp only [hl5_2]); (try simp only [hl6_2]); (try simp only [hl5_3]); (try simp only [hl6_3]); (with_reducible repeat (first | apply Kd.R_alloc | apply Kd.R_drewN | apply Kd.R_drew)); exact HO_6.out⟩, ⟨by (try simp only [hl5_1]); (try simp only [hl5_2]); (try simp only [hl6_2]); (try simp only [hl5_3]); (try simp only [hl6_3]); (with_reducible repeat (first | apply Kd.R_alloc | apply Kd.R_drewN | apply Kd.R_drew)); exact HO_8.out⟩, ⟨by repeat (first | (with_reducible first | exact HB.out | apply bal | apply pbn | apply bd1) | exact HB.out)⟩⟩
                         ·rw [if_neg c51] at H
                          have c51b0 : ((rd (rd_L2 l0 (rd x8_2 x10_2)) x52_3) == (rd x6_3 (rd x8_2 x10_2))) = false := bqm c51
                          have c51b1 : ((rd (rd_L2 l0 (rd x8_2 x10_2)) x52_3) != (rd x6_3 (rd x8_2 x10_2))) = true := bne_iff_ne.mpr c51
                          by_cases c52 : x9_3 = 0
                          ·rw [if_pos c52] at H
                           have c52b0 : (x9_3 == 0) = true := beq_iff_eq.mpr c52
                           have c52b1 : (x9_3 != 0) = false := bnm c52
                           clear c52
                           by_cases c53 : (rd x8_2 x10_2) < (x5_3.length : Int)
                           ·rw [if_pos c53] at H
                            have c53b0 : decide ((rd x8_2 x10_2) < (x5_3.length : Int)) = true := det c53
                            clear c53
                            have H' := ak H
                            clear H
                            have p157 : 0 ≤ (x52_3 : Int) := odt (by with_reducible assumption)
                            have q157 : x52_3 < ((rd_L2 l0 (rd x8_2 x10_2)).length : Int) := odt (by with_reducible assumption)
                            obtain ⟨ad157, e157, hx157_0⟩ := Kd.at_int HR156_0.out x52_3 p157 q157
                            cases e157
                            replace hx157_0 := (HB.out.cell (World.block_lt_of_cell? w _ hx157_0)).trans hx157_0
                            replace p157 := eq_true p157
                            replace q157 := eq_true q157
                            have p158 : 0 ≤ ((rd (rd_L2 l0 (rd x8_2 x10_2)) x52_3) : Int) := odt (by with_reducible assumption)
                            have q158 : (rd (rd_L2 l0 (rd x8_2 x10_2)) x52_3) < (x5_3.length : Int) := odt (by with_reducible assumption)
                            obtain ⟨ad158, e158, hx158_0⟩ := Kd.at_int (Kd.R_reads' HO_5.out).2.2 (rd (rd_L2 l0 (rd x8_2 x10_2)) x52_3) p158 q158
                            obtain rfl : (⟨go18, 0, none⟩ : Addr) = ad158 := (by injection e158)
                            (simp only [add_plain] at hx158_0)
                            replace p158 := eq_true p158
                            replace q158 := eq_true q158
                            have p165 : 0 ≤ ((rd x8_2 x10_2) : Int) := odt (by with_reducible assumption)
                            have q165 : (rd x8_2 x10_2) < (x6_3.length : Int) := odt (by with_reducible assumption)
                            obtain ⟨ad165, e165, hx165_0⟩ := Kd.at_int (Kd.R_reads' HO_6.out).2.2 (rd x8_2 x10_2) p165 q165
                            obtain rfl : (⟨go20, 0, none⟩ : Addr) = ad165 := (by injection e165)
                            (simp only [add_plain] at hx165_0)
                            replace p165 := eq_true p165
                            replace q165 := eq_true q165
                            have p166 : 0 ≤ ((rd x8_2 x10_2) : Int) := odt (by with_reducible assumption)
                            have q166 : (rd x8_2 x10_2) < (x5_3.length : Int) := odt (by with_reducible assumption)
                            obtain ⟨ad166, e166, hx166_0⟩ := Kd.at_int (Kd.R_reads' HO_5.out).2.2 (rd x8_2 x10_2) p166 q166
                            obtain rfl : (⟨go18, 0, none⟩ : Addr) = ad166 := (by injection e166)
                            (simp only [add_plain] at hx166_0)
                            replace p166 := eq_true p166
                            replace q166 := eq_true q166
                            have p167 : 0 ≤ ((rd (rd_L2 l0 (rd x8_2 x10_2)) x52_3) : Int) := odt (by with_reducible assumption)
                            have q167 : (rd (rd_L2 l0 (rd x8_2 x10_2)) x52_3) < (x5_3.length : Int) := odt (by with_reducible assumption)
                            obtain ⟨ad167, e167, hx167_0⟩ := Kd.at_int (Kd.R_reads' HO_5.out).2.2 (rd (rd_L2 l0 (rd x8_2 x10_2)) x52_3) p167 q167
                            obtain rfl : (⟨go18, 0, none⟩ : Addr) = ad167 := (by injection e167)
                            (simp only [add_plain] at hx167_0)
                            replace p167 := eq_true p167
                            replace q167 := eq_true q167
                            go_wp2
                            repeat (go_quiet (fail); try go_wp2)
                            (try (simp only [← hl5_3, ← hl6_3]))
                            go_roundg k3
                            case measure => have := HK1.out; have := HK2.out; have := HK3.out; omega
                            case rel => exact ⟨(x5_3), (x6_3), (x8_3), (wrap64 ((wrap64 ((rd x5_3 (rd x8_2 x10_2)) + (rd x5_3 (rd (rd_L2 l0 (rd x8_2 x10_2)) x52_3)))) + 1)), (wrap64 (x52_3 + 1)), (by first | rfl | (simp; done) | (simp [*]; done)), (by first | rfl | (simp; done) | (simp [*]; done)), H', ⟨by have := HK1.out; have := HK2.out; have := HK3.out; omega⟩, ⟨by (try simp only [hl5_1]); (try simp only [hl5_2]); (try simp only [hl6_2]); (try simp only [hl5_3]); (try simp only [hl6_3]); (with_reducible repeat (first | apply Kd.R_alloc | apply Kd.R_drewN | apply Kd.R_drew)); exact HO_5.out⟩, ⟨by (try simp only [hl5_1]); (try simp only [hl5_2]); (try simp only [hl6_2]); (try simp only [hl5_3]); (try simp only [hl6_3]); (with_reducible repeat (first | apply Kd.R_alloc | apply Kd.R_drewN | apply Kd.R_drew)); exact HO_6.out⟩, ⟨by (try simp only [hl5_1]); (try simp only [hl5_2]); (try simp only [hl6_2]); (try simp only [hl5_3]); (try simp only [hl6_3]); (with_reducible repeat (first | apply Kd.R_alloc | apply Kd.R_drewN | apply Kd.R_drew)); exact HO_8.out⟩, ⟨by repeat (first | (with_reducible first | exact HB.out | apply bal | apply pbn | apply bd1) | exact HB.out)⟩⟩
                           ·rw [if_neg c53] at H
                            exact absurd H (by simp)
                          ·rw [if_neg c52] at H
                           have c52b0 : (x9_3 == 0) = false := bqm c52
                           have c52b1 : (x9_3 != 0) = true := bne_iff_ne.mpr c52
                           by_cases c54 : (rd x8_2 x10_2) < (x5_3.length : Int)
                           ·rw [if_pos c54] at H
                            have c54b0 : decide ((rd x8_2 x10_2) < (x5_3.length : Int)) = true := det c54
                            clear c54
                            by_cases c55 : (wrap64 ((wrap64 ((rd x5_3 (rd x8_2 x10_2)) + (rd x5_3 (rd (rd_L2 l0 (rd x8_2 x10_2)) x52_3)))) + 1)) < x9_3
                            ·rw [if_pos c55] at H
                             have c55b0 : decide ((wrap64 ((wrap64 ((rd x5_3 (rd x8_2 x10_2)) + (rd x5_3 (rd (rd_L2 l0 (rd x8_2 x10_2)) x52_3)))) + 1)) < x9_3) = true := det c55
                             clear c55
                             have H' := ak H
                             clear H
                             have p157 : 0 ≤ (x52_3 : Int) := odt (by with_reducible assumption)
                             have q157 : x52_3 < ((rd_L2 l0 (rd x8_2 x10_2)).length : Int) := odt (by with_reducible assumption)
                             obtain ⟨ad157, e157, hx157_0⟩ := Kd.at_int HR156_0.out x52_3 p157 q157
                             cases e157
                             replace hx157_0 := (HB.out.cell (World.block_lt_of_cell? w _ hx157_0)).trans hx157_0
                             replace p157 := eq_true p157
                             replace q157 := eq_true q157
                             have p158 : 0 ≤ ((rd (rd_L2 l0 (rd x8_2 x10_2)) x52_3) : Int) := odt (by with_reducible assumption)
                             have q158 : (rd (rd_L2 l0 (rd x8_2 x10_2)) x52_3) < (x5_3.length : Int) := odt (by with_reducible assumption)
                             obtain ⟨ad158, e158, hx158_0⟩ := Kd.at_int (Kd.R_reads' HO_5.out).2.2 (rd (rd_L2 l0 (rd x8_2 x10_2)) x52_3) p158 q158
                             obtain rfl : (⟨go18, 0, none⟩ : Addr) = ad158 := (by injection e158)
                             (simp only [add_plain] at hx158_0)
                             replace p158 := eq_true p158
                             replace q158 := eq_true q158
                             have p165 : 0 ≤ ((rd x8_2 x10_2) : Int) := odt (by with_reducible assumption)
                             have q165 : (rd x8_2 x10_2) < (x6_3.length : Int) := odt (by with_reducible assumption)
                             obtain ⟨ad165, e165, hx165_0⟩ := Kd.at_int (Kd.R_reads' HO_6.out).2.2 (rd x8_2 x10_2) p165 q165
                             obtain rfl : (⟨go20, 0, none⟩ : Addr) = ad165 := (by injection e165)
                             (simp only [add_plain] at hx165_0)
                             replace p165 := eq_true p165
                             replace q165 := eq_true q165
                             have p168 : 0 ≤ ((rd x8_2 x10_2) : Int) := odt (by with_reducible assumption)
                             have q168 : (rd x8_2 x10_2) < (x5_3.length : Int) := odt (by with_reducible assumption)
                             obtain ⟨ad168, e168, hx168_0⟩ := Kd.at_int (Kd.R_reads' HO_5.out).2.2 (rd x8_2 x10_2) p168 q168
                             obtain rfl : (⟨go18, 0, none⟩ : Addr) = ad168 := (by injection e168)
                             (simp only [add_plain] at hx168_0)
                             replace p168 := eq_true p168
                             replace q168 := eq_true q168
                             have p169 : 0 ≤ ((rd (rd_L2 l0 (rd x8_2 x10_2)) x52_3) : Int) := odt (by with_reducible assumption)
                             have q169 : (rd (rd_L2 l0 (rd x8_2 x10_2)) x52_3) < (x5_3.length : Int) := odt (by with_reducible assumption)
                             obtain ⟨ad169, e169, hx169_0⟩ := Kd.at_int (Kd.R_reads' HO_5.out).2.2 (rd (rd_L2 l0 (rd x8_2 x10_2)) x52_3) p169 q169
                             obtain rfl : (⟨go18, 0, none⟩ : Addr) = ad169 := (by injection e169)
                             (simp only [add_plain] at hx169_0)
                             replace p169 := eq_true p169
                             replace q169 := eq_true q169
                             have p170 : 0 ≤ ((rd x8_2 x10_2) : Int) := odt (by with_reducible assumption)
                             have q170 : (rd x8_2 x10_2) < (x5_3.length : Int) := odt (by with_reducible assumption)
                             obtain ⟨ad170, e170, hx170_0⟩ := Kd.at_int (Kd.R_reads' HO_5.out).2.2 (rd x8_2 x10_2) p170 q170
                             obtain rfl : (⟨go18, 0, none⟩ : Addr) = ad170 := (by injection e170)
                             (simp only [add_plain] at hx170_0)
                             replace p170 := eq_true p170
                             replace q170 := eq_true q170
                             have p171 : 0 ≤ ((rd (rd_L2 l0 (rd x8_2 x10_2)) x52_3) : Int) := odt (by with_reducible assumption)
                             have q171 : (rd (rd_L2 l0 (rd x8_2 x10_2)) x52_3) < (x5_3.length : Int) := odt (by with_reducible assumption)
                             obtain ⟨ad171, e171, hx171_0⟩ := Kd.at_int (Kd.R_reads' HO_5.out).2.2 (rd (rd_L2 l0 (rd x8_2 x10_2)) x52_3) p171 q171
                             obtain rfl : (⟨go18, 0, none⟩ : Addr) = ad171 := (by injection e171)
                             (simp only [add_plain] at hx171_0)
                             replace p171 := eq_true p171
                             replace q171 := eq_true q171
                             go_wp2
                             repeat (go_quiet (fail); try go_wp2)
                             (try (simp only [← hl5_3, ← hl6_3]))
                             go_roundg k3
                             case measure => have := HK1.out; have := HK2.out; have := HK3.out; omega
                             case rel => exact ⟨(x5_3), (x6_3), (x8_3), (wrap64 ((wrap64 ((rd x5_3 (rd x8_2 x10_2)) + (rd x5_3 (rd (rd_L2 l0 (rd x8_2 x10_2)) x52_3)))) + 1)), (wrap64 (x52_3 + 1)), (by first | rfl | (simp; done) | (simp [*]; done)), (by first | rfl | (simp; done) | (simp [*]; done)), H', ⟨by have := HK1.out; have := HK2.out; have := HK3.out; omega⟩, ⟨by (try simp only [hl5_1]); (try simp only [hl5_2]); (try simp only [hl6_2]); (try simp only [hl5_3]); (try simp only [hl6_3]); (with_reducible repeat (first | apply Kd.R_alloc | apply Kd.R_drewN | apply Kd.R_drew)); exact HO_5.out⟩, ⟨by (try simp only [hl5_1]); (try simp only [hl5_2]); (try simp only [hl6_2]); (try simp only [hl5_3]); (try simp only [hl6_3]); (with_reducible repeat (first | apply Kd.R_alloc | apply Kd.R_drewN | apply Kd.R_drew)); exact HO_6.out⟩, ⟨by (try simp only [hl5_1]); (try simp only [hl5_2]); (try simp only [hl6_2]); (try simp only [hl5_3]); (try simp only [hl6_3]); (with_reducible repeat (first | apply Kd.R_alloc | apply Kd.R_drewN | apply Kd.R_drew)); exact HO_8.out⟩, ⟨by repeat (first | (with_reducible first | exact HB.out | apply bal | apply pbn | apply bd1) | exact HB.out)⟩⟩
                            ·rw [if_neg c55] at H
                             have c55b0 : decide ((wrap64 ((wrap64 ((rd x5_3 (rd x8_2 x10_2)) + (rd x5_3 (rd (rd_L2 l0 (rd x8_2 x10_2)) x52_3)))) + 1)) < x9_3) = false := dff c55
                             clear c55
                             have H' := ak H
                             clear H
                             have p157 : 0 ≤ (x52_3 : Int) := odt (by with_reducible assumption)
                             have q157 : x52_3 < ((rd_L2 l0 (rd x8_2 x10_2)).length : Int) := odt (by with_reducible assumption)
                             obtain ⟨ad157, e157, hx157_0⟩ := Kd.at_int HR156_0.out x52_3 p157 q157
                             cases e157
                             replace hx157_0 := (HB.out.cell (World.block_lt_of_cell? w _ hx157_0)).trans hx157_0
                             replace p157 := eq_true p157
                             replace q157 := eq_true q157
                             have p158 : 0 ≤ ((rd (rd_L2 l0 (rd x8_2 x10_2)) x52_3) : Int) := odt (by with_reducible assumption)
                             have q158 : (rd (rd_L2 l0 (rd x8_2 x10_2)) x52_3) < (x5_3.length : Int) := odt (by with_reducible assumption)
                             obtain ⟨ad158, e158, hx158_0⟩ := Kd.at_int (Kd.R_reads' HO_5.out).2.2 (rd (rd_L2 l0 (rd x8_2 x10_2)) x52_3) p158 q158
                             obtain rfl : (⟨go18, 0, none⟩ : Addr) = ad158 := (by injection e158)
                             (simp only [add_plain] at hx158_0)
                             replace p158 := eq_true p158
                             replace q158 := eq_true q158
                             have p165 : 0 ≤ ((rd x8_2 x10_2) : Int) := odt (by with_reducible assumption)
                             have q165 : (rd x8_2 x10_2) < (x6_3.length : Int) := odt (by with_reducible assumption)
                             obtain ⟨ad165, e165, hx165_0⟩ := Kd.at_int (Kd.R_reads' HO_6.out).2.2 (rd x8_2 x10_2) p165 q165
                             obtain rfl : (⟨go20, 0, none⟩ : Addr) = ad165 := (by injection e165)
                             (simp only [add_plain] at hx165_0)
                             replace p165 := eq_true p165
                             replace q165 := eq_true q165
                             have p168 : 0 ≤ ((rd x8_2 x10_2) : Int) := odt (by with_reducible assumption)
                             have q168 : (rd x8_2 x10_2) < (x5_3.length : Int) := odt (by with_reducible assumption)
                             obtain ⟨ad168, e168, hx168_0⟩ := Kd.at_int (Kd.R_reads' HO_5.out).2.2 (rd x8_2 x10_2) p168 q168
                             obtain rfl : (⟨go18, 0, none⟩ : Addr) = ad168 := (by injection e168)
                             (simp only [add_plain] at hx168_0)
                             replace p168 := eq_true p168
                             replace q168 := eq_true q168
                             have p169 : 0 ≤ ((rd (rd_L2 l0 (rd x8_2 x10_2)) x52_3) : Int) := odt (by with_reducible assumption)
                             have q169 : (rd (rd_L2 l0 (rd x8_2 x10_2)) x52_3) < (x5_3.length : Int) := odt (by with_reducible assumption)
                             obtain ⟨ad169, e169, hx169_0⟩ := Kd.at_int (Kd.R_reads' HO_5.out).2.2 (rd (rd_L2 l0 (rd x8_2 x10_2)) x52_3) p169 q169
                             obtain rfl : (⟨go18, 0, none⟩ : Addr) = ad169 := (by injection e169)
                             (simp only [add_plain] at hx169_0)
                             replace p169 := eq_true p169
                             replace q169 := eq_true q169
                             go_wp2
                             repeat (go_quiet (fail); try go_wp2)
                             (try (simp only [← hl5_3, ← hl6_3]))
                             go_roundg k3
                             case measure => have := HK1.out; have := HK2.out; have := HK3.out; omega
                             case rel => exact ⟨(x5_3), (x6_3), (x8_3), (x9_3), (wrap64 (x52_3 + 1)), (by first | rfl | (simp; done) | (simp [*]; done)), (by first | rfl | (simp; done) | (simp [*]; done)), H', ⟨by have := HK1.out; have := HK2.out; have := HK3.out; omega⟩, ⟨by (try simp only [hl5_1]); (try simp only [hl5_2]); (try simp only [hl6_2]); (try simp only [hl5_3]); (try simp only [hl6_3]); (with_reducible repeat (first | apply Kd.R_alloc | apply Kd.R_drewN | apply Kd.R_drew)); exact HO_5.out⟩, ⟨by (try simp only [hl5_1]); (try simp only [hl5_2]); (try simp only [hl6_2]); (try simp only [hl5_3]); (try simp only [hl6_3]); (with_reducible repeat (first | apply Kd.R_alloc | apply Kd.R_drewN | apply Kd.R_drew)); exact HO_6.out⟩, ⟨by (try simp only [hl5_1]); (try simp only [hl5_2]); (try simp only [hl6_2]); (try simp only [hl5_3]); (try simp only [hl6_3]); (with_reducible repeat (first | apply Kd.R_alloc | apply Kd.R_drewN | apply Kd.R_drew)); exact HO_8.out⟩, ⟨by repeat (first | (with_reducible first | exact HB.out | apply bal | apply pbn | apply bd1) | exact HB.out)⟩⟩
                           ·rw [if_neg c54] at H
                            exact absurd H (by simp)
                        ·rw [if_neg c50] at H
                         exact absurd H (by simp)
                       ·rw [if_neg c49] at H
                        exact absurd H (by simp)
                     ·rw [if_neg c36] at H
                      exact absurd H (by simp)
                    ·rw [if_neg c35] at H
                     exact absurd H (by simp)
                   ·rw [if_neg c34] at H
                    exact absurd H (by simp)
                  ·rw [if_neg c33] at H
                   exact absurd H (by simp)
                 ·rw [if_neg c32] at H
                  have c32b0 : decide (x52_3 < ((rd_L2 l0 (rd x8_2 x10_2)).length : Int)) = false := dff c32
                  clear c32
                  have H' := ak H
                  clear H
                  go_wp2
                  (try (simp only [← hl5_2, ← hl6_2, ← hl5_3, ← hl6_3]))
                  go_roundg k3
                  case measure => have := HK1.out; have := HK2.out; have := HK3.out; omega
                  case rel => exact ⟨(x5_3), (x6_3), (x8_3), (x9_3), (wrap64 (x10_2 + 1)), (by first | rfl | (simp; done) | (simp [*]; done)), (by first | rfl | (simp; done) | (simp [*]; done)), H', ⟨by have := HK1.out; have := HK2.out; have := HK3.out; omega⟩, ⟨by (try simp only [hl5_1]); (try simp only [hl5_2]); (try simp only [hl6_2]); (try simp only [hl5_3]); (try simp only [hl6_3]); (with_reducible repeat (first | apply Kd.R_alloc | apply Kd.R_drewN | apply Kd.R_drew)); exact HO_5.out⟩, ⟨by (try simp only [hl5_1]); (try simp only [hl5_2]); (try simp only [hl6_2]); (try simp only [hl5_3]); (try simp only [hl6_3]); (with_reducible repeat (first | apply Kd.R_alloc | apply Kd.R_drewN | apply Kd.R_drew)); exact HO_6.out⟩, ⟨by (try simp only [hl5_1]); (try simp only [hl5_2]); (try simp only [hl6_2]); (try simp only [hl5_3]); (try simp only [hl6_3]); (with_reducible repeat (first | apply Kd.R_alloc | apply Kd.R_drewN | apply Kd.R_drew)); exact HO_8.out⟩, ⟨by repeat (first | (with_reducible first | exact HB.out | apply bal | apply pbn | apply bd1) | exact HB.out)⟩⟩
              ·rw [if_neg c30] at H
               exact absurd H (by simp)
             ·rw [if_neg c29] at H
              exact absurd H (by simp)
            ·rw [if_neg c28] at H
             exact absurd H (by simp)
           ·rw [if_neg c27] at H
            have c27b0 : decide (x10_2 < (x8_2.length : Int)) = false := dff c27
            clear c27
            obtain rfl := osi H
            obtain ⟨Ao56, co56, eo56⟩ := Kd.R_slice HO_8.out
            subst eo56
            go_wp2
            go_ret
            exact ⟨by first | rfl | (simp <;> rfl) | (simp [*] <;> rfl), by repeat (first | (with_reducible first | exact HB.out | apply bal | apply pbn | apply bd1) | exact HB.out)⟩
        ·rw [if_neg c19] at H
         exact absurd H (by simp)
       ·rw [if_neg c17] at H
        exact absurd H (by simp)
      ·rw [if_neg c16] at H
       exact absurd H (by simp)
  ·rw [if_neg c4] at H
   exact absurd H (by simp)
 ·rw [if_neg c3] at H
  exact absurd H (by simp)
end Go.Proofs.Ytkifipakikbhcaa.Pg
namespace Go.Proofs.Ytkifipakikbhcaa.Hand
open Ytkifipakikbhcaa.Ref
open Go.RowKit YtkifipakikbhcaaW.PrintWords YtkifipakikbhcaaW.PrintLast YtkifipakikbhcaaW.PrintMore
theorem wrap64_succ {x : Int} {n : Nat} (h0 : 0 ≤ x) (h1 : x < n) (hn : n ≤ 9223372036854775807) : wrap64 (x + 1) = x + 1 := by
 unfold wrap64; omega
theorem drop_cons {α : Type} {l : List α} {d : α} {i : Int} (h0 : 0 ≤ i) (h1 : i < l.length) : l.drop i.toNat = l.getD i.toNat d :: l.drop (i + 1).toNat := by
 have h : i.toNat < l.length := by omega
 rw [List.drop_eq_getElem_cons h, show (i + 1).toNat = i.toNat + 1 from by omega]
 simp [List.getD, h]
theorem rd_mem {l : List Int} {i : Int} (h0 : 0 ≤ i) (h1 : i < l.length) : rd l i ∈ l := by
 unfold rd
 have h2 : i.toNat < l.length := by omega
 simp [List.getD, h2]
def idxf {α : Type} (p : α → Bool) : List α → Int → Int
 | [], _ => -1
 | x :: l, i => if p x = true then i else idxf p l (i + 1)
theorem any_idxf {α : Type} (p : α → Bool) : ∀ (l : List α) (i : Int), 0 ≤ i → l.any p = decide (0 ≤ idxf p l i)
 | [], i, h => by simp [idxf]
 | x :: l, i, h => by
  have ih := any_idxf p l (i + 1) (by omega)
  simp only [List.any_cons, idxf]
  by_cases hp : p x = true
  ·simp [hp, h]
  ·simp [hp, ih]
theorem rd_memInt {l : List Int} {i : Int} (h0 : 0 ≤ i) (h1 : i < l.length) : rd l i ∈ l := rd_mem h0 h1
theorem rd_memRow {l : List (List Int)} {i : Int} (h0 : 0 ≤ i) (h1 : i < l.length) : rd_L1 l i ∈ l := by
 unfold rd_L1
 have h2 : i.toNat < l.length := by omega
 simp [List.getD, h2]
def PredInt (P : Program) (f : Nat) (caps : Array Value) (I : World → Prop) (l : List Int) (p : Int → Bool) : Prop :=
 ∀ (x : Int) (W : World), x ∈ l → I W → Calls P f (#[.int .i64 x] ++ caps) W fun e W' => e = .returned (.bool (p x)) ∧ I W'
theorem IndexFunc_Int (f : Nat) (eg : ∀ args w, (callFunc f args).run Try.prog w = .ok (.enter f args) w)
  (caps : Array Value) (I : World → Prop) (A : Option Addr) (c : Nat) (l : List Int) (p : Int → Bool) (w w0 : World)
  (hr : Kd.C (Kd.int .i64) w0 A l.length l) (hI : I w) (hB : ∀ W, I W → Below w0.heap.size w0 W) (hp : PredInt Try.prog f caps I l p) :
  Calls Try.prog 88 #[.slice A l.length c, .func (.func f) #[] caps] w fun e w' => e = .returned (.int .i64 (idxf p l 0)) ∧ I w' := by
 have HR := ak hr
 have HP := ak hp
 have HI := ak hI
 have HBB := ak hB
 clear hr hp hI hB
 go_enter Try.func88, Try.ntmps88
 go_wp2
 go_loopg [5, 8] (l.length) (fun gk v5 v8 w' => ∃ x : Int, v8 = .int .i64 x ∧ Aside0 (0 ≤ x ∧ x ≤ l.length ∧ gk = l.length - x.toNat ∧ idxf p (l.drop x.toNat) x = idxf p l 0) ∧ Aside0 (I w'))
 case atStart => exact ⟨0, rfl, ⟨by omega, by omega, rfl, rfl⟩, HI⟩
 case round =>
  clear HI
  obtain ⟨x, rfl, HA, HI⟩ := hrel
  by_cases hlt : x < l.length
  ·have q1 := eq_true hlt
   have q2 := eq_true HA.out.1
   have HX := ak hlt
   obtain ⟨ad, e2, hx⟩ := Kd.at_int HR.out x HA.out.1 hlt
   have HM := ak (show rd l x ∈ l from rd_memInt HA.out.1 hlt)
   have HD := ak (show l.drop x.toNat = rd l x :: l.drop (x + 1).toNat from drop_cons HA.out.1 hlt)
   cases e2
   replace hx := ((HBB.out _ HI.out).cell (World.block_lt_of_cell? w0 _ hx)).trans hx
   clear hlt
   have HC := ak (HP.out (rd l x) wr HM.out HI.out)
   cases hq : p (rd l x) with
   | true =>
    rw [hq] at HC
    have HQ := ak hq
    clear hq
    go_wp2_with (go_at_fn f; refine HC.out.mono ?_; rintro e w' ⟨rfl, hI⟩; have HI2 := ak hI; clear hI)
    go_ret
    refine ⟨?_, HI2.out⟩
    rw [← HA.out.2.2.2, HD.out, idxf, if_pos HQ.out]
    rfl
   | false =>
    rw [hq] at HC
    have HQ := ak hq
    clear hq
    go_wp2_with (go_at_fn f; refine HC.out.mono ?_; rintro e w' ⟨rfl, hI⟩; have HI2 := ak hI; clear hI)
    go_roundg (l.length - (x + 1).toNat)
    case measure => have := HA.out; have := HX.out; omega
    case rel =>
     have h1 := HA.out; have h2 := HX.out
     refine ⟨x + 1, by rw [wrap64_succ h1.1 h2 (Kd.C_max HR.out)], ⟨by omega, by omega, rfl, ?_⟩, HI2⟩
     rw [← h1.2.2.2, HD.out, idxf, HQ.out]
     simp
  ·go_wp2
   go_ret
   refine ⟨?_, HI.out⟩
   have h1 := HA.out
   rw [← h1.2.2.2, List.drop_eq_nil_of_le (by omega), idxf]
   rfl
theorem ContainsFunc_Int (f : Nat) (eg : ∀ args w, (callFunc f args).run Try.prog w = .ok (.enter f args) w)
  (caps : Array Value) (I : World → Prop) (A : Option Addr) (c : Nat) (l : List Int) (p : Int → Bool) (w w0 : World)
  (hr : Kd.C (Kd.int .i64) w0 A l.length l) (hI : I w) (hB : ∀ W, I W → Below w0.heap.size w0 W) (hp : PredInt Try.prog f caps I l p) :
  Calls Try.prog 61 #[.slice A l.length c, .func (.func f) #[] caps] w fun e w' => e = .returned (.bool (l.any p)) ∧ I w' := by
 rw [show l.any p = decide (0 ≤ idxf p l 0) from any_idxf p l 0 (by omega)]
 have HC := ak (IndexFunc_Int f eg caps I A c l p w w0 hr hI hB hp)
 clear hr hp hI hB
 go_enter Try.func61, Try.ntmps61
 go_wp2_with (go_at_call 88; refine HC.out.mono ?_; rintro e w' ⟨rfl, hI⟩; have HI2 := ak hI; clear hI)
 go_ret
 exact ⟨rfl, HI2.out⟩
def PredRow (P : Program) (f : Nat) (caps : Array Value) (I : World → Prop) (l : List (List Int)) (p : (List Int) → Bool) : Prop :=
 ∀ (x : (List Int)) (W : World) (A : Option Addr) (c : Nat), x ∈ l → I W → x.length ≤ c → Kd.C (Kd.int .i64) W A x.length x → Calls P f (#[.slice A x.length c] ++ caps) W fun e W' => e = .returned (.bool (p x)) ∧ I W'
theorem IndexFunc_Row (f : Nat) (eg : ∀ args w, (callFunc f args).run Try.prog w = .ok (.enter f args) w)
  (caps : Array Value) (I : World → Prop) (A : Option Addr) (c : Nat) (l : List (List Int)) (p : (List Int) → Bool) (w w0 : World)
  (hr : Kd.C (Kd.slice 3 (Kd.int .i64)) w0 A l.length l) (hI : I w) (hB : ∀ W, I W → Below w0.heap.size w0 W) (hp : PredRow Try.prog f caps I l p) :
  Calls Try.prog 84 #[.slice A l.length c, .func (.func f) #[] caps] w fun e w' => e = .returned (.int .i64 (idxf p l 0)) ∧ I w' := by
 have HR := ak hr
 have HP := ak hp
 have HI := ak hI
 have HBB := ak hB
 clear hr hp hI hB
 go_enter Try.func84, Try.ntmps84
 go_wp2
 go_loopg [5, 8] (l.length) (fun gk v5 v8 w' => ∃ x : Int, v8 = .int .i64 x ∧ Aside0 (0 ≤ x ∧ x ≤ l.length ∧ gk = l.length - x.toNat ∧ idxf p (l.drop x.toNat) x = idxf p l 0) ∧ Aside0 (I w'))
 case atStart => exact ⟨0, rfl, ⟨by omega, by omega, rfl, rfl⟩, HI⟩
 case round =>
  clear HI
  obtain ⟨x, rfl, HA, HI⟩ := hrel
  by_cases hlt : x < l.length
  ·have q1 := eq_true hlt
   have q2 := eq_true HA.out.1
   have HX := ak hlt
   obtain ⟨ad, A2, cp2, e2, hx, hl2, hC⟩ := at_L1 HR.out x HA.out.1 hlt
   have HC2 := ak hC
   have HL2 := ak hl2
   clear hC hl2
   have HM := ak (show rd_L1 l x ∈ l from rd_memRow HA.out.1 hlt)
   have HD := ak (show l.drop x.toNat = rd_L1 l x :: l.drop (x + 1).toNat from drop_cons HA.out.1 hlt)
   cases e2
   replace hx := ((HBB.out _ HI.out).cell (World.block_lt_of_cell? w0 _ hx)).trans hx
   clear hlt
   have HC := ak (HP.out (rd_L1 l x) wr A2 cp2 HM.out HI.out HL2.out (Kd.C_below HC2.out (HBB.out _ HI.out)))
   cases hq : p (rd_L1 l x) with
   | true =>
    rw [hq] at HC
    have HQ := ak hq
    clear hq
    go_wp2_with (go_at_fn f; refine HC.out.mono ?_; rintro e w' ⟨rfl, hI⟩; have HI2 := ak hI; clear hI)
    go_ret
    refine ⟨?_, HI2.out⟩
    rw [← HA.out.2.2.2, HD.out, idxf, if_pos HQ.out]
    rfl
   | false =>
    rw [hq] at HC
    have HQ := ak hq
    clear hq
    go_wp2_with (go_at_fn f; refine HC.out.mono ?_; rintro e w' ⟨rfl, hI⟩; have HI2 := ak hI; clear hI)
    go_roundg (l.length - (x + 1).toNat)
    case measure => have := HA.out; have := HX.out; omega
    case rel =>
     have h1 := HA.out; have h2 := HX.out
     refine ⟨x + 1, by rw [wrap64_succ h1.1 h2 (Kd.C_max HR.out)], ⟨by omega, by omega, rfl, ?_⟩, HI2⟩
     rw [← h1.2.2.2, HD.out, idxf, HQ.out]
     simp
  ·go_wp2
   go_ret
   refine ⟨?_, HI.out⟩
   have h1 := HA.out
   rw [← h1.2.2.2, List.drop_eq_nil_of_le (by omega), idxf]
   rfl
theorem ContainsFunc_Row (f : Nat) (eg : ∀ args w, (callFunc f args).run Try.prog w = .ok (.enter f args) w)
  (caps : Array Value) (I : World → Prop) (A : Option Addr) (c : Nat) (l : List (List Int)) (p : (List Int) → Bool) (w w0 : World)
  (hr : Kd.C (Kd.slice 3 (Kd.int .i64)) w0 A l.length l) (hI : I w) (hB : ∀ W, I W → Below w0.heap.size w0 W) (hp : PredRow Try.prog f caps I l p) :
  Calls Try.prog 53 #[.slice A l.length c, .func (.func f) #[] caps] w fun e w' => e = .returned (.bool (l.any p)) ∧ I w' := by
 rw [show l.any p = decide (0 ≤ idxf p l 0) from any_idxf p l 0 (by omega)]
 have HC := ak (IndexFunc_Row f eg caps I A c l p w w0 hr hI hB hp)
 clear hr hp hI hB
 go_enter Try.func53, Try.ntmps53
 go_wp2_with (go_at_call 84; refine HC.out.mono ?_; rintro e w' ⟨rfl, hI⟩; have HI2 := ak hI; clear hI)
 go_ret
 exact ⟨rfl, HI2.out⟩
end Go.Proofs.Ytkifipakikbhcaa.Hand
namespace Go.Proofs.Ytkifipakikbhcaa.Hand
open Go.RowKit YtkifipakikbhcaaW.PrintWords YtkifipakikbhcaaW.PrintLast YtkifipakikbhcaaW.PrintMore
open Ytkifipakikbhcaa.Ref
def inAt (inn : List Bool) (i : Int) : Bool := inn.getD i.toNat false
def aloneRow (inn : List Bool) : List Int → Int → Option Int
 | [], only => some only
 | i :: l, only => if inAt inn i = true then (if 0 ≤ only then none else aloneRow inn l i) else aloneRow inn l only
def alone (inn : List Bool) : List (List Int) → Int
 | [] => -1
 | l :: ls => match aloneRow inn l (-1) with
  | some o => if 0 ≤ o then o else alone inn ls
  | none => alone inn ls
theorem alone_calls (vars : Int) (A0 : Option Addr) (c0 : Nat) (ls : List (List Int)) (A1 : Option Addr) (c1 : Nat) (inn : List Bool) (w : World)
  (hr0 : Kd.C (Kd.slice 3 (Kd.int .i64)) w A0 ls.length ls) (hc0 : ls.length ≤ c0) (hr1 : Kd.C Kd.bool w A1 inn.length inn) (hc1 : inn.length ≤ c1)
  (hin : ∀ l ∈ ls, ∀ i ∈ l, 0 ≤ i ∧ i < inn.length) (hl : ls.length ≤ 9223372036854775807) :
  Calls Try.prog 49 #[.agg #[.int .i64 vars, .slice A0 ls.length c0], .slice A1 inn.length c1] w fun e w' => e = .returned (.int .i64 (alone inn ls)) ∧ Below w.heap.size w w' := by
 have hu31 := Try.underlying31
 have HR0 := ak hr0
 have HR1 := ak hr1
 have HIN := ak hin
 have HL := ak hl
 clear hr0 hr1 hin hl
 go_enter Try.func49, Try.ntmps49
 go_wp2
 obtain ⟨w1, hw1⟩ : ∃ w1 : World, w1 = w.alloc (Obj.cells #[Value.int IntKind.i64 vars, Value.slice A0 ls.length c0] 31) := ⟨_, rfl⟩
 have hb : Below w.heap.size w w1 := by rw [hw1]; exact bal (Below.refl _ _) _
 have BK : w1.heap[w.heap.size]? = some (.cells #[.int .i64 vars, .slice A0 ls.length c0] 31 (0, 0)) := by rw [hw1]; exact heap_alloc_new w _
 rw [← hw1]
 have HB := ak hb
 have hcz0 : w1.cell? ⟨w.heap.size, 0, none⟩ = some (.int .i64 vars) := (kce BK 0).trans rfl
 have hcz1 : w1.cell? ⟨w.heap.size, 1, none⟩ = some (.slice A0 ls.length c0) := (kce BK 1).trans rfl
 clear hb hw1 BK
 go_step3
 go_wp2
 go_step3
 go_wp2
 go_loopg [13] (ls.length) (fun gk v13 w' => w' = w1 ∧ ∃ x : Int, v13 = .int .i64 x ∧ Aside0 (0 ≤ x ∧ x ≤ ls.length ∧ gk = ls.length - x.toNat ∧ alone inn (ls.drop x.toNat) = alone inn ls))
 case atStart => exact ⟨rfl, 0, rfl, ⟨by omega, by omega, rfl, rfl⟩⟩
 case round =>
  obtain ⟨rfl, x, rfl, HA⟩ := hrel
  by_cases hlt : x < ls.length
  ·have c1 := eq_true hlt
   have c2 := eq_true HA.out.1
   have HX := ak hlt
   obtain ⟨ad, A2, cp2, e2, hx, hl2, hC⟩ := at_L1 HR0.out x HA.out.1 hlt
   have HM := ak (show rd_L1 ls x ∈ ls from by
    unfold rd_L1
    have h := HA.out.1
    have h2 : x.toNat < ls.length := by omega
    simp [List.getD, h2])
   have HD := ak (show ls.drop x.toNat = rd_L1 ls x :: ls.drop (x + 1).toNat from drop_cons HA.out.1 hlt)
   cases e2
   replace hx := (HB.out.cell (World.block_lt_of_cell? w _ hx)).trans hx
   have HC := ak hC
   have HL2 := ak hl2
   clear hC hl2 hlt
   go_wp2
   go_loopg [7, 9, 19] ((rd_L1 ls x).length) (fun gk v7 v9 v19 w' => w' = wr ∧ ∃ o j : Int, v7 = .int .i64 o ∧ v19 = .int .i64 j ∧ Aside0 (0 ≤ j ∧ j ≤ (rd_L1 ls x).length ∧ gk = (rd_L1 ls x).length - j.toNat ∧ aloneRow inn ((rd_L1 ls x).drop j.toNat) o = aloneRow inn (rd_L1 ls x) (-1)))
   case atStart => exact ⟨rfl, -1, 0, rfl, rfl, ⟨by omega, by omega, rfl, rfl⟩⟩
   case round =>
    obtain ⟨rfl, o, j, rfl, rfl, HJ⟩ := hrel
    by_cases hlj : j < (rd_L1 ls x).length
    ·have q1 := eq_true hlj
     have q2 := eq_true HJ.out.1
     have HY := ak hlj
     obtain ⟨aj, ej, hxj⟩ := Kd.at_int HC.out j HJ.out.1 hlj
     cases ej
     replace hxj := (HB.out.cell (World.block_lt_of_cell? w _ hxj)).trans hxj
     have hri := HIN.out _ HM.out (rd (rd_L1 ls x) j) (by
      unfold rd
      have h := HJ.out.1
      have h2 : j.toNat < (rd_L1 ls x).length := by omega
      simp [List.getD, h2])
     obtain ⟨ai, ei, hxi⟩ := Kd.at_bool HR1.out (rd (rd_L1 ls x) j) hri.1 hri.2
     cases ei
     replace hxi := (HB.out.cell (World.block_lt_of_cell? w _ hxi)).trans hxi
     have HN := ak (show aloneRow inn ((rd_L1 ls x).drop j.toNat) o = if inAt inn (rd (rd_L1 ls x) j) = true then (if 0 ≤ o then none else aloneRow inn ((rd_L1 ls x).drop (j + 1).toNat) (rd (rd_L1 ls x) j)) else aloneRow inn ((rd_L1 ls x).drop (j + 1).toNat) o from by
      rw [drop_cons (d := 0) HJ.out.1 hlj, aloneRow]; rfl)
     have q3 := eq_true hri.1
     have q4 := eq_true hri.2
     clear hri hlj
     go_wp2
     ·go_roundg (ls.length - (x + 1).toNat)
      case measure => have := HA.out; have := HX.out; omega
      case rel =>
       have h1 := HA.out; have h2 := HX.out
       refine ⟨rfl, x + 1, by rw [wrap64_succ h1.1 h2 HL.out], ⟨by omega, by omega, rfl, ?_⟩⟩
       rw [← HA.out.2.2.2, HD.out, alone, ← HJ.out.2.2.2, HN.out, if_pos (by assumption), if_pos (by assumption)]
     ·go_roundg ((rd_L1 ls x).length - (j + 1).toNat)
      case measure => have := HJ.out; have := HY.out; omega
      case rel =>
       have h1 := HJ.out; have h2 := HY.out
       refine ⟨rfl, _, j + 1, rfl, by rw [wrap64_succ h1.1 h2 (Kd.C_max HC.out)], ⟨by omega, by omega, rfl, ?_⟩⟩
       rw [← HJ.out.2.2.2, HN.out, if_pos (by assumption), if_neg (by omega)]
     ·go_roundg ((rd_L1 ls x).length - (j + 1).toNat)
      case measure => have := HJ.out; have := HY.out; omega
      case rel =>
       have h1 := HJ.out; have h2 := HY.out
       refine ⟨rfl, _, j + 1, rfl, by rw [wrap64_succ h1.1 h2 (Kd.C_max HC.out)], ⟨by omega, by omega, rfl, ?_⟩⟩
       rw [← HJ.out.2.2.2, HN.out, if_neg (by assumption)]
    ·have HE := ak (show aloneRow inn (rd_L1 ls x) (-1) = some o from by
      have h1 := HJ.out
      rw [← h1.2.2.2, List.drop_eq_nil_of_le (by omega), aloneRow])
     go_wp2
     ·(try rw [Exit.noGoto_ret])
      go_ret
      refine ⟨?_, HB.out⟩
      rw [← HA.out.2.2.2, HD.out, alone, HE.out]
      simp only []
      rw [if_pos (by assumption)]
      rfl
     ·go_roundg (ls.length - (x + 1).toNat)
      case measure => have := HA.out; have := HX.out; omega
      case rel =>
       have h1 := HA.out; have h2 := HX.out
       refine ⟨rfl, x + 1, by rw [wrap64_succ h1.1 h2 HL.out], ⟨by omega, by omega, rfl, ?_⟩⟩
       rw [← HA.out.2.2.2, HD.out, alone, HE.out]
       simp only []
       rw [if_neg (by omega)]
  ·go_wp2
   go_ret
   refine ⟨?_, HB.out⟩
   have h1 := HA.out
   rw [← h1.2.2.2, List.drop_eq_nil_of_le (by omega), alone]
   rfl
def peel_alone.f (a0_0 : Int) (l0_1 : List (List Int)) (l1 : List Bool) : Option Int :=
 if l0_1.all (fun l => l.all fun i => decide (0 ≤ i ∧ i < l1.length)) = true then (if l0_1.length ≤ 9223372036854775807 then some (alone l1 l0_1) else none) else none
theorem peel_alone.f_some {a0_0 : Int} {l0_1 : List (List Int)} {l1 : List Bool} {r : Int} (h : peel_alone.f a0_0 l0_1 l1 = some r) : (∀ l ∈ l0_1, ∀ i ∈ l, 0 ≤ i ∧ i < l1.length) ∧ l0_1.length ≤ 9223372036854775807 ∧ r = alone l1 l0_1 := by
 unfold peel_alone.f at h
 split at h
 ·rename_i h1
  split at h
  ·rename_i h2
   exact ⟨fun l hl i hi => odt (List.all_eq_true.1 (List.all_eq_true.1 h1 l hl) i hi), h2, (osi h).symm⟩
  ·exact absurd h (by simp)
 ·exact absurd h (by simp)
theorem peel_alone.calls (a0_0 : Int) (A0_1 : Option Addr) (c0_1 : Nat) (l0_1 : List (List Int)) (A1 : Option Addr) (c1 : Nat) (l1 : List Bool) (r : Int) (w : World) (hr0_1 : Kd.C (Kd.slice 3 (Kd.int .i64)) w A0_1 l0_1.length l0_1) (hc0_1 : l0_1.length ≤ c0_1) (hr1 : Kd.C Kd.bool w A1 l1.length l1) (hc1 : l1.length ≤ c1) (h : peel_alone.f a0_0 l0_1 l1 = some r) :
  Calls Try.prog 49 #[.agg #[.int .i64 a0_0, .slice A0_1 l0_1.length c0_1], .slice A1 l1.length c1] w fun e w' => e = .returned (.int .i64 r) ∧ Below w.heap.size w w' := by
 obtain ⟨h1, h2, rfl⟩ := peel_alone.f_some h
 exact alone_calls a0_0 A0_1 c0_1 l0_1 A1 c1 l1 w hr0_1 hc0_1 hr1 hc1 h1 h2
end Go.Proofs.Ytkifipakikbhcaa.Hand
namespace Go.Proofs.Ytkifipakikbhcaa.Hand
open Go.RowKit YtkifipakikbhcaaW.PrintWords YtkifipakikbhcaaW.PrintLast YtkifipakikbhcaaW.PrintMore
theorem copy_self {P : Program} {ops : Array Oper} {rest : List Oper} {o : Oper} {a : Act} {Q : Exit → Act → World → Prop} {W : World} (hgd : o.guard = none) (s x : Operand) (t t' e : TypeId)
  (ho : o.op = .call { callee := .builtin .copy, args := #[s, x], argTypes := #[t, t'] }) (ht : P.underlying t = some (.slice e)) (hinfo : (P.info? e).map (·.size) = some 1)
  (g base n cap d m c dl dc : Nat) (D : Option Addr) (xs : List Int) (ok : Nat → Prop)
  (hs : a.eval s = .slice D dl dc) (hx : a.eval x = .slice (some ⟨g, 0, none⟩) m c) (hD : 0 < min m dl → D = some ⟨g, d, none⟩)
  (HO : (Kd.int .i64).R e W base ok (.slice (some ⟨g, 0, none⟩) n cap) xs) (hm : m ≤ n) (hfit : d + min m dl ≤ n)
  (h : ∀ w1, (Kd.int .i64).R e w1 base ok (.slice (some ⟨g, 0, none⟩) n cap) (xs.take d ++ xs.take (min m dl) ++ xs.drop (d + min m dl)) → W.grownBy w1 (some g) → wpList P ops Q rest (a.put o.dst (.int .i64 ((min m dl : Nat) : Int))) w1) :
  wpList P ops Q (o :: rest) a W := by
 have hn : n = xs.length := (Kd.R_reads' HO).1
 subst hn
 have hown := Kd.own_of_R HO
 have fin : ∀ w1, (Builtin.copy_ #[t, t'] o.type #[.slice D dl dc, .slice (some ⟨g, 0, none⟩) m c]).run P W = .ok (goInt ((min m dl : Nat) : Int)) w1 → (Kd.int .i64).R e w1 base ok (.slice (some ⟨g, 0, none⟩) xs.length cap) (xs.take d ++ xs.take (min m dl) ++ xs.drop (d + min m dl)) → W.grownBy w1 (some g) → wpList P ops Q (o :: rest) a W := by
  intro w1 hr hrow hg
  refine wpList_plain hgd fun K hK => ?_
  unfold Oper.wp execOp
  simp only [ho, resolve, invoke, builtin, Sem.run_bind, Sem.run_pure, Result.andThen_ok, List.map_toArray, List.map_cons, List.map_nil, hs, hx, hr]
  exact hK _ _ (h w1 hrow hg)
 rcases Nat.eq_zero_or_pos (min m dl) with h0 | hp
 ·refine fin W ?_ (by rw [h0]; simpa using HO) (World.grownBy.refl W _)
  rw [h0]
  exact run_copy_none W t t' o.type e D _ dl dc m c ht hinfo h0
 ·obtain rfl := hD hp
  rcases hown.2 with ⟨hv, _⟩ | ⟨g', cap', cur, hv, hb, hh, hnc, hcm, hcs, htake⟩
  ·injection hv with h1 _ _; cases h1
  injection hv with h1 _ h3
  injection h1 with h1
  injection h1 with h1
  subst h1 h3
  have htk : cur.toList.take xs.length = encs (Value.int .i64) xs := by rw [← htake, Nat.mul_one]
  have hkl : (encs (Value.int .i64) (xs.take (min m dl))).length = min m dl := by rw [encs_length, List.length_take]; omega
  have hcur : ∀ j, j < xs.length → cur[j]? = some (.int .i64 (xs.getD j 0)) := by
   intro j hj
   have h1 := encs_get (enc := Value.int .i64) (d := (0 : Int)) xs j hj
   rw [← htk, List.getElem?_take_of_lt hj] at h1
   simpa using h1
  have hsrc : ∀ j u, (encs (Value.int .i64) (xs.take (min m dl)))[j]? = some u → W.cell? ((⟨g, 0, none⟩ : Addr).add j) = some u := by
   intro j u hu
   have hj : j < min m dl := by
    rcases Nat.lt_or_ge j (min m dl) with h | h
    ·exact h
    ·rw [List.getElem?_eq_none (by rw [hkl]; exact h)] at hu
     cases hu
   rw [encs_get (d := (0 : Int)) _ j (by rw [List.length_take]; omega)] at hu
   rw [add_plain, cell_of_row W g _ cur e (0, 0) hh, hcur j (by omega), ← hu]
   simp [List.getD_eq_getElem?_getD, hj]
  have hr := run_copy_cells (P := P) W t t' o.type e g d dl dc ⟨g, 0, none⟩ m c (encs (Value.int .i64) (xs.take (min m dl))) ht hinfo (by rw [hkl]) hsrc
   (fun j hj => by rw [cell_of_row W g _ cur e (0, 0) hh]; rw [hkl] at hj; simp; omega) (fun j _ => kfz hh _) (by intro u hu; simp only [encs, List.mem_map] at hu; obtain ⟨q, _, rfl⟩ := hu; rfl)
  obtain ⟨cur', h3, h4, h5⟩ := setCells_row (encs (Value.int .i64) (xs.take (min m dl))) d W cur hh (by rw [hkl]; omega)
  obtain ⟨s1, s2, s3, s4⟩ := setCells_same g (encs (Value.int .i64) (xs.take (min m dl))) d W
  refine fin _ (by rw [hr, hkl]) ?_ ⟨s1, s2, s3, by rw [s4]; exact Nat.le_refl _, fun k _ hk => setCells_far _ _ k (fun he => hk (by rw [he]))⟩
  have hln : (xs.take d ++ xs.take (min m dl) ++ xs.drop (d + min m dl)).length = xs.length := by
   simp only [List.length_append, List.length_take, List.length_drop]
   omega
  have hrow := Kd.R_of_own (enc := Value.int .i64) (h1 := fun _ => rfl) (e := e) (w := W.setCells g d (encs (Value.int .i64) (xs.take (min m dl)))) (base := base) (ok := ok) (v := .slice (some ⟨g, 0, none⟩) xs.length cap)
   (xs := xs.take d ++ xs.take (min m dl) ++ xs.drop (d + min m dl)) ?_ HO.1
  ·exact hrow
  rw [hln]
  refine ⟨by rw [encs_length, hln, Nat.mul_one], .inr ⟨g, cap, cur', rfl, hb, h3, hnc, hcm, by rw [h4, hcs], ?_⟩⟩
  rw [h5, hkl, encs_append, encs_append, Nat.mul_one]
  have e1 : encs (Value.int .i64) (xs.take d) = cur.toList.take d := by
   simp only [encs, List.map_take]
   rw [show List.map (fun x => Value.int .i64 x) xs = encs (Value.int .i64) xs from rfl, ← htk, List.take_take, Nat.min_eq_left (by omega)]
  have e2 : encs (Value.int .i64) (xs.drop (d + min m dl)) = (cur.toList.take xs.length).drop (d + min m dl) := by
   simp only [encs, List.map_drop]
   rw [show List.map (fun x => Value.int .i64 x) xs = encs (Value.int .i64) xs from rfl, ← htk]
  rw [e1, e2, List.drop_take]
  have l1 : (cur.toList.take d ++ encs (Value.int .i64) (xs.take (min m dl))).length = d + min m dl := by
   rw [List.length_append, hkl, List.length_take, Array.length_toList]; omega
  rw [List.take_append, l1, List.take_of_length_le (by rw [l1]; omega)]
end Go.Proofs.Ytkifipakikbhcaa.Hand
namespace Go.Proofs.Ytkifipakikbhcaa.Hand
open Ytkifipakikbhcaa.Ref
open Go.RowKit YtkifipakikbhcaaW.PrintWords YtkifipakikbhcaaW.PrintLast YtkifipakikbhcaaW.PrintMore
attribute [local go_sem ↓] Go.wp_at_zero Go.wp_at_succ
def lowc (N : Nat) (md : List Int) (j : Int) : Int := if 1 < N then rd md j else 0
def mulCell (P : Int) (N : Nat) (md a : List Int) (bi top : Int) (sh : List Int) (j : Int) : Int :=
 Int.tmod (wrap64 (wrap64 (rd sh j + wrap64 (wrap64 (P - top) * lowc N md j)) + wrap64 (bi * rd a j))) P
def mulRnd (P : Int) (N : Nat) (md a : List Int) (bi : Int) (o : List Int) : List Int :=
 (List.range N).map fun (j : Nat) => mulCell P N md a bi (rd o ((N : Int) - 1)) (0 :: o) (j : Int)
def mulL (P : Int) (N : Nat) (md a b : List Int) : Nat → List Int → List Int
 | 0, o => o
 | i + 1, o => mulL P N md a b i (mulRnd P N md a (rd b (i : Int)) o)
theorem shift_set (o : List Int) (N : Nat) (m1 : Int) (ho : o.length = N) (hN : 1 ≤ N) (hm : m1 = (N : Int) - 1) :
  (o.take 1 ++ o.take (min m1.toNat (N - 1)) ++ o.drop (1 + min m1.toNat (N - 1))).set (0 : Int).toNat 0 = 0 :: o.take (N - 1) := by
 have e : min m1.toNat (N - 1) = N - 1 := by omega
 rw [e, List.drop_eq_nil_of_le (by omega), List.append_nil]
 match o, ho with
 | [], h => simp at h; omega
 | x :: l, _ => simp
theorem wrap64_pred {i : Int} (h0 : 0 ≤ i) (h1 : i < 9223372036854775807) : wrap64 (i - 1) = i - 1 := by unfold wrap64; omega
theorem cell_eq (P : Int) (N : Nat) (md a : List Int) (bi top : Int) (o u : List Int) (j : Int) (h0 : 0 ≤ j) (h1 : j < N) (ho : o.length = N)
  (hu : u = ((List.range j.toNat).map fun (q : Nat) => mulCell P N md a bi top (0 :: o) q) ++ (0 :: o.take (N - 1)).drop j.toNat) : rd u j = rd (0 :: o) j := by
 obtain ⟨j, rfl⟩ := Int.eq_ofNat_of_zero_le h0
 simp only [Int.toNat_natCast] at hu
 unfold rd
 rw [hu, Int.toNat_natCast]
 rw [List.getD_eq_getElem?_getD, List.getD_eq_getElem?_getD, List.getElem?_append_right (by simp)]
 congr 1
 rw [List.length_map, List.length_range, Nat.sub_self, List.getElem?_drop, Nat.add_zero]
 cases j with
 | zero => rfl
 | succ j =>
  rw [List.getElem?_cons_succ, List.getElem?_cons_succ, List.getElem?_take_of_lt (by omega)]
theorem cell_step (P : Int) (N : Nat) (md a : List Int) (bi top : Int) (o u : List Int) (j : Int) (h0 : 0 ≤ j) (h1 : j < N) (ho : o.length = N)
  (hu : u = ((List.range j.toNat).map fun (q : Nat) => mulCell P N md a bi top (0 :: o) q) ++ (0 :: o.take (N - 1)).drop j.toNat) :
  u.set j.toNat (mulCell P N md a bi top (0 :: o) j) = ((List.range (j + 1).toNat).map fun (q : Nat) => mulCell P N md a bi top (0 :: o) q) ++ (0 :: o.take (N - 1)).drop (j + 1).toNat := by
 obtain ⟨j, rfl⟩ := Int.eq_ofNat_of_zero_le h0
 simp only [Int.toNat_natCast, show ((j : Int) + 1).toNat = j + 1 from by omega] at hu ⊢
 have hl : j < (0 :: o.take (N - 1)).length := by simp only [List.length_cons, List.length_take]; omega
 rw [hu, List.set_append_right _ _ (by simp), List.length_map, List.length_range, Nat.sub_self, List.drop_eq_getElem_cons hl, scz, List.range_succ, List.map_append, List.append_assoc]
 rfl
theorem wrap64_succ' {x : Int} {n : Nat} (h0 : 0 ≤ x) (h1 : x < n) (hn : n ≤ 9223372036854775807) : wrap64 (x + 1) = x + 1 := by
 unfold wrap64; omega
theorem info3s : (Try.prog.info? 3).map (·.size) = some 1 := by kernel_rfl
theorem block_lt {W : World} {g : Nat} {o : Obj} (h : W.heap[g]? = some o) : g < W.heap.size := by
 rcases Nat.lt_or_ge g W.heap.size with h1 | h1
 ·exact h1
 ·rw [Array.getElem?_eq_none h1] at h; cases h
theorem cbl {W W' : World} {p : Addr} {v : Value} (h : W.cell? p = some v) (hb : Below W.heap.size W W') : W'.cell? p = some v :=
 (hb.cell (World.block_lt_of_cell? W p h)).trans h
theorem cells2_below {W W' : World} {p q : Addr} {u v : Value} (h : W.cell? p = some u ∧ W.cell? q = some v) (hb : Below W.heap.size W W') : W'.cell? p = some u ∧ W'.cell? q = some v :=
 ⟨cbl h.1 hb, cbl h.2 hb⟩
theorem multiply_calls (k : Nat) (P : Int) (N : Nat) (A : Option Addr) (c : Nat) (md : List Int) (x y : Int) (w : World) (hr : Kd.C (Kd.int .i64) w A md.length md) (hc : md.length ≤ c)
  (hN1 : 1 ≤ N) (hN8 : N ≤ 8) (hmd : 1 < N → md.length = N) (a b : List Int) (hal : a.length = N) (hbl : b.length = N) (ha : field_digitsOf.f k x P N = some a) (hb : field_digitsOf.f k y P N = some b)
  (r : Int) (hv : field_valueOf.f k (mulL P N md a b N (List.replicate N 0)) P = some r) (hP : P ≠ 0) :
  Calls Try.prog 104 #[.agg #[.int .i64 P, .int .i64 N, .slice A md.length c], .int .i64 x, .int .i64 y] w fun e w' => e = .returned (.int .i64 r) ∧ Below w.heap.size w w' := by
 have hu24 := Try.underlying24
 have HR := ak hr
 have HC := ak hc
 have HDA := ak ha
 have HDB := ak hb
 have HV := ak hv
 have HP := ak hP
 have HN := ak (And.intro hN1 hN8)
 have HMD := ak hmd
 have HL := ak (And.intro hal hbl)
 clear hr hc ha hb hv hP hN1 hN8 hmd hal hbl
 go_enter Try.func104, Try.ntmps104
 go_wp2
 obtain ⟨w1, hw1⟩ : ∃ w1 : World, w1 = w.alloc (Obj.cells #[.int .i64 P, .int .i64 N, .slice A md.length c] 24) := ⟨_, rfl⟩
 have hb : Below w.heap.size w w1 := by rw [hw1]; exact bal (Below.refl _ _) _
 have BK : w1.heap[w.heap.size]? = some (.cells #[.int .i64 P, .int .i64 N, .slice A md.length c] 24 (0, 0)) := by rw [hw1]; exact heap_alloc_new w _
 rw [← hw1]
 have HB := ak hb
 have HBK := ak BK
 have hcz0 : w1.cell? ⟨w.heap.size, 0, none⟩ = some (.int .i64 P) := (kce BK 0).trans rfl
 have hcz1 : w1.cell? ⟨w.heap.size, 1, none⟩ = some (.int .i64 N) := (kce BK 1).trans rfl
 have hcz2 : w1.cell? ⟨w.heap.size, 2, none⟩ = some (.slice A md.length c) := (kce BK 2).trans rfl
 clear hb hw1 BK
 have HLT := ak (show w.heap.size < w1.heap.size from World.block_lt_of_cell? w1 _ hcz0)
 go_region_held3 (fun w' => w'.cell? ⟨w.heap.size, 0, none⟩ = some (.int .i64 P) ∧ w'.cell? ⟨w.heap.size, 1, none⟩ = some (.int .i64 N)) (first | go_keep | exact HSB.out | exact HSA.out)
  (first | (go_at_call 113; (with_reducible refine (field_digitsOf.calls k x P N a _ HDA.out).mono ?_); rintro e w2 ⟨va, rfl, hRa, hBa⟩; have HSA := ak (cells2_below (by assumption) hBa); have HRA := ak hRa; have HBA := ak hBa; clear hRa hBa) | (go_at_call 113; (with_reducible refine (field_digitsOf.calls k y P N b _ HDB.out).mono ?_); rintro e w3 ⟨vb, rfl, hRb, hBb⟩; have HSB := ak (cells2_below HSA.out hBb); have HRB := ak hRb; have HBB := ak hBb; clear hRb hBb))
 obtain ⟨Aa, ca, ea⟩ := Kd.R_slice HRA.out
 obtain ⟨Ab, cb, eb⟩ := Kd.R_slice HRB.out
 subst ea eb
 have HCA := ak (Kd.C_below (Kd.R_reads' HRA.out).2.2 HBB.out)
 have HCB := ak (Kd.R_reads' HRB.out).2.2
 have HB3 := ak (bsp (bsp (below_drew HB.out) HBA.out) HBB.out)
 have HBK3 := ak (((HBB.out.block _ (Nat.lt_of_lt_of_le HLT.out HBA.out.size)).trans (HBA.out.block _ HLT.out)).trans HBK.out)
 have p0 := eq_true (show 0 ≤ (N : Int) from by omega)
 clear hcz0 hcz1 hcz2
 have hcz0 : w3.cell? ⟨w.heap.size, 0, none⟩ = some (.int .i64 P) := (kce HBK3.out 0).trans rfl
 have hcz1 : w3.cell? ⟨w.heap.size, 1, none⟩ = some (.int .i64 N) := (kce HBK3.out 1).trans rfl
 have hcz2 : w3.cell? ⟨w.heap.size, 2, none⟩ = some (.slice A md.length c) := (kce HBK3.out 2).trans rfl
 obtain ⟨m1, hm1⟩ : ∃ m1 : Int, wrap64 ((N : Int) - 1) = m1 := ⟨_, rfl⟩
 have hm2 : IntKind.i64.wrap ((N : Int) - 1) = m1 := (i64_w _).trans hm1
 have HM1 := ak (show m1 = (N : Int) - 1 from by have := HN.out; rw [← hm1]; unfold wrap64; omega)
 go_wp2_with ((with_reducible refine gate_dst (N := 28) rfl ?_); refine Kd.R_make (Kd.int .i64) _ 3 rfl (N := 28) rfl 22 _ _ rfl N rfl rfl Try.underlying22 (.int .i64 0) 8 info3 rfl (by decide) (by omega) 0 (ok := fun _ => True) (okp := fun _ => True) rfl (fun _ hk => hk) trivial (of_eq_true p0) (by have := HN.out; omega) (Below.refl _ _) (Nat.le_refl _) ?_; intro vo w4 ho hb4 hg4 hnew4; clear hg4 hnew4; replace hcz0 := cbl hcz0 hb4; replace hcz1 := cbl hcz1 hb4; replace hcz2 := cbl hcz2 hb4; rw [Int.toNat_natCast] at ho; have HO := ak ho; have HB4 := ak hb4; clear ho hb4)
 obtain ⟨Ao, co, eo⟩ := Kd.R_slice HO.out
 subst eo
 rw [List.length_replicate]
 go_loopg [10] N (fun gk v10 w' => ∃ (i : Int) (o : List Int), v10 = .int .i64 i ∧ Aside0 (-1 ≤ i ∧ i < N ∧ gk = (i + 1).toNat ∧ o.length = N ∧ mulL P N md a b (i + 1).toNat o = mulL P N md a b N (List.replicate N 0)) ∧ Aside0 (Kd.R (Kd.int .i64) 3 w' w3.heap.size (fun _ => True) (.slice Ao N co) o) ∧ Aside0 (Below w3.heap.size w3 w'))
 case atStart =>
  refine ⟨m1, _, rfl, ⟨?_, ?_, ?_, List.length_replicate, ?_⟩, ⟨by have h := HO.out; rw [List.length_replicate] at h; exact h⟩, HB4⟩
  ·have := HN.out; have := HM1.out; omega
  ·have := HN.out; have := HM1.out; omega
  ·have := HN.out; have := HM1.out; omega
  ·rw [show (m1 + 1).toNat = N from by have := HN.out; have := HM1.out; omega]
 case round =>
  clear hcz0 hcz1 hcz2
  obtain ⟨i, o, rfl, HI, HR1, HB5⟩ := hrel
  have BK5 := ak ((HB5.out.block _ (block_lt HBK3.out)).trans HBK3.out)
  have hcz0 : wr.cell? ⟨w.heap.size, 0, none⟩ = some (.int .i64 P) := (kce BK5.out 0).trans rfl
  have hcz1 : wr.cell? ⟨w.heap.size, 1, none⟩ = some (.int .i64 N) := (kce BK5.out 1).trans rfl
  have hcz2 : wr.cell? ⟨w.heap.size, 2, none⟩ = some (.slice A md.length c) := (kce BK5.out 2).trans rfl
  by_cases hi : i ≥ 0
  ·have c1 : decide (0 ≤ i) = true := det hi
   have HI0 := ak hi
   clear hi
   obtain ⟨go, co', eo, gb, gl, cl, HG⟩ := Kd.R_form HR1.out (by have := HI.out; have := HN.out; omega)
   injection eo with e1 e2 e3
   subst e1 e3
   clear e2
   have HGB := ak gb
   have HGG := ak HG
   clear gb gl HG
   have q1 : (0 ≤ m1) = True := eq_true (by have := HN.out; have := HM1.out; omega)
   have q2 : (m1 < (N : Int)) = True := eq_true (by have := HN.out; have := HM1.out; omega)
   obtain ⟨hx1, _⟩ := Kd.R_celln 0 HR1.out m1 (of_eq_true q1) (of_eq_true q2)
   have q3 : ((1 : Int) ≤ (N : Int)) = True := eq_true (by have := HN.out; omega)
   have q4 : (N ≤ co) = True := eq_true (Kd.R_reads' HR1.out).2.1
   have q5 : ((N : Int) ≤ (co : Int)) = True := eq_true (by have := of_eq_true q4; omega)
   have q6 : (1 ≤ N) = True := eq_true HN.out.1
   have q7 : (m1 ≤ (co : Int)) = True := eq_true (by have := of_eq_true q4; have := HM1.out; omega)
   go_wp2
   go_still_tail 7, (by kernel_rfl)
   change wpList _ _ _ _ _ wr.drew
   have HRd := ak (Kd.R_drew HR1.out)
   have HBd := ak (bd1 HB5.out)
   have hczd := ak (And.intro hcz0 (And.intro hcz1 hcz2))
   generalize wr.drew = w5 at HRd HBd ⊢
   refine copy_self rfl (.tmp 43) (.tmp 48) 22 22 3 rfl Try.underlying22 info3s go _ N co 1 m1.toNat co (N - 1) (co - 1) _ o _ rfl rfl ?_ HRd.out ?_ ?_ ?_
   ·intro h
    have := HM1.out
    rw [if_neg (by have := of_eq_true q4; omega)]
   ·have := HM1.out; omega
   ·have := HM1.out; have := HN.out; omega
   intro w6 hR6 hg6
   generalize (if co = 1 then (some ⟨go, 0, none⟩ : Option Addr) else some ⟨go, 1, none⟩) = DD
   have HR6 := ak hR6
   have HB6 := ak (HBd.out.grown hg6 HBd.out.size (fun k hk => by cases hk; exact HGB.out))
   clear hR6 hg6
   have HSH := ak (shift_set o N m1 (by have := HI.out; omega) HN.out.1 HM1.out)
   have BK6 := ak ((HB6.out.block _ (block_lt HBK3.out)).trans HBK3.out)
   clear hcz0 hcz1 hcz2 hx1
   have hcz0 : w6.cell? ⟨w.heap.size, 0, none⟩ = some (.int .i64 P) := (kce BK6.out 0).trans rfl
   have hcz1 : w6.cell? ⟨w.heap.size, 1, none⟩ = some (.int .i64 N) := (kce BK6.out 1).trans rfl
   have hcz2 : w6.cell? ⟨w.heap.size, 2, none⟩ = some (.slice A md.length c) := (kce BK6.out 2).trans rfl
   have q8 : ((0 : Int) < (N : Int)) = True := eq_true (by have := HN.out; omega)
   have q9 : (0 < N) = True := eq_true (by have := HN.out; omega)
   obtain ⟨hx0, hf0⟩ := Kd.R_celln 0 HR6.out 0 (by omega) (by have := HN.out; omega)
   have HP6 := ak (Kd.R_putg HR6.out 0 0)
   simp only [Int.toNat_zero] at hx0 hf0
   go_wp2_with ((with_reducible refine gate_store (t := 3) (p := 51) rfl ?_); refine store_event (t := 3) (p := 51) (v := ?vo_w) (w1 := (w6.setCell ⟨go, 0, none⟩ (.int .i64 0))) ?hg ?ho ?hn ?hr ?_; (case ho => rfl); (case hg => rfl); (case hn => rfl); (case hr => (go_simp; done)); intro w7 hw7; have HR7 := ak (show Kd.R (Kd.int .i64) 3 w7 w3.heap.size (fun _ => True) (.slice (some ⟨go, 0, none⟩) N co) (0 :: o.take (N - 1)) from by (rw [hw7, ← HSH.out]; exact HP6.out.1)); have HB7 := ak (show Below w3.heap.size w3 w7 from by (rw [hw7]; exact bst HB6.out HGB.out)); clear hw7)
   have HIN := ak (And.intro HI.out HI0.out)
   go_loopg [54] N (fun gk v54 w' => ∃ (j : Int) (u : List Int), v54 = .int .i64 j ∧ Aside0 (0 ≤ j ∧ j ≤ N ∧ gk = N - j.toNat ∧ u.length = N ∧ u = ((List.range j.toNat).map fun (q : Nat) => mulCell P N md a (rd b i) (rd o m1) (0 :: o) q) ++ (0 :: o.take (N - 1)).drop j.toNat) ∧ Aside0 (Kd.R (Kd.int .i64) 3 w' w3.heap.size (fun _ => True) (.slice (some ⟨go, 0, none⟩) N co) u) ∧ Aside0 (Below w3.heap.size w3 w'))
   case atStart =>
    refine ⟨0, _, rfl, ⟨by omega, by omega, by omega, ?_, by simp⟩, HR7, HB7⟩
    have := HI.out; have := HN.out
    simp only [List.length_cons, List.length_take]; omega
   case round =>
    clear HR7 HB7 HR6 HB6 HP6 hcz0 hcz1 hcz2 hx0 hf0
    obtain ⟨j, u, rfl, HJ, HR7, HB7⟩ := hrel
    have BK7 := ak ((HB7.out.block _ (block_lt HBK3.out)).trans HBK3.out)
    have hcz0 : wr.cell? ⟨w.heap.size, 0, none⟩ = some (.int .i64 P) := (kce BK7.out 0).trans rfl
    have hcz1 : wr.cell? ⟨w.heap.size, 1, none⟩ = some (.int .i64 N) := (kce BK7.out 1).trans rfl
    have hcz2 : wr.cell? ⟨w.heap.size, 2, none⟩ = some (.slice A md.length c) := (kce BK7.out 2).trans rfl
    by_cases hj : j < N
    ·have c2 : decide (j < (N : Int)) = true := det hj
     have HJ0 := ak hj
     clear hj
     have r1 : (0 ≤ j) = True := eq_true HJ.out.1
     have r2 : (j < (N : Int)) = True := eq_true HJ0.out
     have r3 : (0 ≤ i) = True := eq_true HIN.out.2
     have r4 : (i < (b.length : Int)) = True := eq_true (by have := HIN.out; have := HL.out; omega)
     have r5 : (j < (a.length : Int)) = True := eq_true (by have := HJ0.out; have := HL.out; omega)
     obtain ⟨hu1, hu2⟩ := Kd.R_celln 0 HR7.out j HJ.out.1 HJ0.out
     obtain ⟨aa, eaa, hxa⟩ := Kd.at_int HCA.out j HJ.out.1 (of_eq_true r5)
     cases eaa
     replace hxa := cbl hxa HB7.out
     obtain ⟨ab, eab, hxb⟩ := Kd.at_int HCB.out i HIN.out.2 (of_eq_true r4)
     cases eab
     replace hxb := cbl hxb HB7.out
     have hP0 : (P == 0) = false := bqm HP.out
     have hP1 : ¬ P = 0 := HP.out
     by_cases hN : 1 < N
     ·have d1 : decide ((1 : Int) < (N : Int)) = true := det (by omega)
      have d2 : decide (1 < N) = true := det (by omega)
      have hlen := HMD.out hN
      have r6 : (j < (md.length : Int)) = True := eq_true (by have := HJ0.out; omega)
      obtain ⟨am, eam, hxm⟩ := Kd.at_int HR.out j HJ.out.1 (of_eq_true r6)
      cases eam
      replace hxm := cbl (cbl hxm HB3.out) HB7.out
      have HN1 := ak hN
      clear hN hlen
      go_wp2
      go_still_tail 27, (by kernel_rfl)
      change wpList _ _ _ _ _ wr.drew
      have HPU := ak (Kd.R_putg (Kd.R_drew HR7.out) j (mulCell P N md a (rd b i) (rd o m1) (0 :: o) j))
      have HBd7 := ak (bd1 HB7.out)
      have hu1d : wr.drew.cell? ⟨go, j.toNat, none⟩ = some (.int .i64 (rdOf 0 u j)) := hu1
      have hu2d : wr.drew.frozen? ⟨go, j.toNat, none⟩ = false := hu2
      clear hu1 hu2 hxa hxb hxm hcz0 hcz1 hcz2
      generalize wr.drew = w8 at HPU HBd7 hu1d hu2d ⊢
      have HCL := ak (cell_eq P N md a (rd b i) (rd o m1) o u j HJ.out.1 HJ0.out (by have := HIN.out; omega) HJ.out.2.2.2.2)
      refine store_event (t := 3) (p := 91) (v := .tmp 90) (w1 := ?w1a) ?hg ?ho ?hn ?hr ?_
      case ho => rfl
      case hg => rfl
      case hn => rfl
      case hr => go_simp; rfl
      intro w9 hw9
      have hw10 : w9 = w8.setCell ⟨go, j.toNat, none⟩ (.int .i64 (mulCell P N md a (rd b i) (rd o m1) (0 :: o) j)) := by
       rw [hw9, mulCell, lowc, if_pos HN1.out, ← HCL.out]
       simp only [i64_w]
       rfl
      clear hw9
      have HR9 := ak (show Kd.R (Kd.int .i64) 3 w9 w3.heap.size (fun _ => True) (.slice (some ⟨go, 0, none⟩) N co) (u.set j.toNat (mulCell P N md a (rd b i) (rd o m1) (0 :: o) j)) from by rw [hw10]; exact HPU.out.1)
      have HB9 := ak (show Below w3.heap.size w3 w9 from by rw [hw10]; exact bst HBd7.out HGB.out)
      clear hw10
      go_wp2
      go_roundg (N - (j + 1).toNat)
      case measure => have := HJ.out; have := HJ0.out; omega
      case rel =>
       have h1 := HJ.out; have h2 := HJ0.out
       refine ⟨j + 1, _, by rw [wrap64_succ' h1.1 h2 (by have := HN.out; omega)], ⟨by omega, by omega, rfl, by rw [List.length_set]; exact h1.2.2.2.1, ?_⟩, HR9, HB9⟩
       exact cell_step P N md a (rd b i) (rd o m1) o u j h1.1 h2 (by have := HIN.out; omega) h1.2.2.2.2
     ·have d1 : decide ((1 : Int) < (N : Int)) = false := dff (by omega)
      have d2 : decide (1 < N) = false := dff (by omega)
      have HN1 := ak hN
      clear hN
      go_wp2
      go_still_tail 27, (by kernel_rfl)
      change wpList _ _ _ _ _ wr.drew
      have HPU := ak (Kd.R_putg (Kd.R_drew HR7.out) j (mulCell P N md a (rd b i) (rd o m1) (0 :: o) j))
      have HBd7 := ak (bd1 HB7.out)
      have hu1d : wr.drew.cell? ⟨go, j.toNat, none⟩ = some (.int .i64 (rdOf 0 u j)) := hu1
      have hu2d : wr.drew.frozen? ⟨go, j.toNat, none⟩ = false := hu2
      clear hu1 hu2 hxa hxb  hcz0 hcz1 hcz2
      generalize wr.drew = w8 at HPU HBd7 hu1d hu2d ⊢
      have HCL := ak (cell_eq P N md a (rd b i) (rd o m1) o u j HJ.out.1 HJ0.out (by have := HIN.out; omega) HJ.out.2.2.2.2)
      refine store_event (t := 3) (p := 91) (v := .tmp 90) (w1 := ?w1b) ?hg ?ho ?hn ?hr ?_
      case ho => rfl
      case hg => rfl
      case hn => rfl
      case hr => go_simp; rfl
      intro w9 hw9
      have hw10 : w9 = w8.setCell ⟨go, j.toNat, none⟩ (.int .i64 (mulCell P N md a (rd b i) (rd o m1) (0 :: o) j)) := by
       rw [hw9, mulCell, lowc, if_neg HN1.out, ← HCL.out]
       simp only [i64_w, Int.mul_zero]
       rfl
      clear hw9
      have HR9 := ak (show Kd.R (Kd.int .i64) 3 w9 w3.heap.size (fun _ => True) (.slice (some ⟨go, 0, none⟩) N co) (u.set j.toNat (mulCell P N md a (rd b i) (rd o m1) (0 :: o) j)) from by rw [hw10]; exact HPU.out.1)
      have HB9 := ak (show Below w3.heap.size w3 w9 from by rw [hw10]; exact bst HBd7.out HGB.out)
      clear hw10
      go_wp2
      go_roundg (N - (j + 1).toNat)
      case measure => have := HJ.out; have := HJ0.out; omega
      case rel =>
       have h1 := HJ.out; have h2 := HJ0.out
       refine ⟨j + 1, _, by rw [wrap64_succ' h1.1 h2 (by have := HN.out; omega)], ⟨by omega, by omega, rfl, by rw [List.length_set]; exact h1.2.2.2.1, ?_⟩, HR9, HB9⟩
       exact cell_step P N md a (rd b i) (rd o m1) o u j h1.1 h2 (by have := HIN.out; omega) h1.2.2.2.2
    ·have c2 : decide (j < (N : Int)) = false := dff hj
     go_wp2
     go_roundg (i.toNat)
     case measure => have := HIN.out; omega
     case rel =>
      have h1 := HIN.out; have h2 := HJ.out
      refine ⟨i - 1, u, by rw [wrap64_pred h1.2 (by have := HN.out; omega)], ⟨by omega, by omega, by omega, h2.2.2.2.1, ?_⟩, HR7, HB7⟩
      rw [← h1.1.2.2.2.2, show (i + 1).toNat = i.toNat + 1 from by omega, mulL, show i - 1 + 1 = i from by omega]
      congr 1
      rw [h2.2.2.2.2, mulRnd, HM1.out, show j.toNat = N from by omega, Int.toNat_of_nonneg h1.2]
      rw [List.drop_eq_nil_of_le (by simp only [List.length_cons, List.length_take]; omega), List.append_nil]
  ·have c1 : decide (0 ≤ i) = false := dff hi
   have HE := ak (show o = mulL P N md a b N (List.replicate N 0) from by
    have h1 := HI.out
    rw [← h1.2.2.2.2, show (i + 1).toNat = 0 from by omega, mulL])
   have hlen := HI.out.2.2.2.1
   have HC114 := ak (show Calls Try.prog 114 #[.slice Ao N co, .int .i64 P] wr fun e w' => e = .returned (.int .i64 r) ∧ Drawn0 wr w' from by
    have hR := Kd.R_reads' HR1.out
    have h := field_valueOf.calls k Ao co o P r wr hR.2.2 (by rw [← hR.1]; exact hR.2.1) (by rw [HE.out]; exact HV.out)
    rwa [hlen] at h)
   go_wp2_with (go_at_call 114; (with_reducible refine HC114.out.mono ?_); rintro e w' ⟨rfl, hd⟩; have HD := ak hd; clear hd)
   go_ret
   exact ⟨rfl, bsp HB3.out (HB5.out.trans (HD.out.below.mono HB5.out.size))⟩
end Go.Proofs.Ytkifipakikbhcaa.Hand
namespace Go.Proofs.Ytkifipakikbhcaa.Hand
open Ytkifipakikbhcaa.Ref Ytkifipakikbhcaa.Pg
open Go.RowKit YtkifipakikbhcaaW.PrintWords YtkifipakikbhcaaW.PrintLast YtkifipakikbhcaaW.PrintMore
attribute [local go_sem ↓] Go.wp_at_zero Go.wp_at_succ
def setR (n : Int) : Option Int → List Int → Bool
 | _, [] => true
 | p, x :: l => if x < 0 then false else if x ≥ n then false else if (match p with | some y => decide (x ≤ y) | none => false) then false else setR n (some x) l
theorem setR_cons (n : Int) (p : Option Int) (x : Int) (l : List Int) : setR n p (x :: l) = if x < 0 then false else if x ≥ n then false else if (match p with | some y => decide (x ≤ y) | none => false) then false else setR n (some x) l := by
 cases p <;> rfl
theorem rd_drop {l : List Int} {i : Nat} (h : i < l.length) : l.drop i = rd l (i : Int) :: l.drop (i + 1) := by
 have := drop_cons (d := (0 : Int)) (i := (i : Int)) (l := l) (by omega) (by omega)
 rw [Int.toNat_natCast, show ((i : Int) + 1).toNat = i + 1 from by omega] at this
 exact this
theorem set_l0 (l : List Int) (n : Int) (hl : l.length ≤ 4611686018427387904) : ∀ (m k i : Nat), m = l.length - i → i ≤ l.length → m < k →
  peel_set.l0 k l n l (l.length : Int) (i : Int) = some (setR n (if i = 0 then none else some (rd l ((i : Int) - 1))) (l.drop i)) := by
 intro m
 induction m with
 | zero =>
  intro k i hm hi hk
  obtain ⟨k, rfl⟩ : ∃ k', k = k' + 1 := ⟨k - 1, by omega⟩
  have h : i = l.length := by omega
  rw [peel_set.l0, if_neg (by omega), h, List.drop_length, setR]
 | succ m ih =>
  intro k i hm hi hk
  obtain ⟨k, rfl⟩ : ∃ k', k = k' + 1 := ⟨k - 1, by omega⟩
  have h : i < l.length := by omega
  have hn := ih k (i + 1) (by omega) (by omega) (by omega)
  have hw : wrap64 ((i : Int) + 1) = ((i + 1 : Nat) : Int) := by unfold wrap64; omega
  rw [if_neg (by omega), show (((i + 1 : Nat) : Int) - 1) = (i : Int) from by omega] at hn
  rw [peel_set.l0, if_pos (by omega), if_pos (by omega), if_pos (by omega), rd_drop h, setR_cons, hw, hn]
  by_cases h1 : rd l (i : Int) < 0
  ·rw [if_pos h1, if_pos h1]
  ·rw [if_neg h1, if_neg h1]
   by_cases h2 : rd l (i : Int) ≥ n
   ·rw [if_pos h2, if_pos h2]
   ·rw [if_neg h2, if_neg h2]
    by_cases h3 : i = 0
    ·rw [if_neg (by omega), if_pos h3]
     simp
    ·have hw1 : wrap64 ((i : Int) - 1) = (i : Int) - 1 := by unfold wrap64; omega
     rw [if_pos (by omega), hw1, if_pos (by omega), if_pos (by omega), if_neg h3]
     by_cases h4 : rd l (i : Int) ≤ rd l ((i : Int) - 1)
     ·rw [if_pos h4]; simp [h4]
     ·rw [if_neg h4]; simp [h4]
theorem set_f (l : List Int) (n : Int) (hl : l.length ≤ 4611686018427387904) : peel_set.f (l.length + 1) l n = some (setR n none l) := by
 have := set_l0 l n hl l.length (l.length + 1) 0 (by omega) (by omega) (by omega)
 exact this
theorem eg54 : ∀ args w, (callFunc 54 args).run Try.prog w = .ok (.enter 54 args) w := enters_of Try.func54 (by kernel_rfl) rfl
theorem check_closure (b : Addr) (V : Int) (x : List Int) (A : Option Addr) (c : Nat) (W : World) (hx : x.length ≤ 4611686018427387904) (hc : x.length ≤ c) (hr : Kd.C (Kd.int .i64) W A x.length x) (g : Nat) (hcell : W.cell? ⟨g, 0, none⟩ = some (.int .i64 V)) :
  Calls Try.prog 54 #[.slice A x.length c, .pointer (some ⟨g, 0, none⟩)] W fun e W' => e = .returned (.bool (!setR V none x)) ∧ Drawn0 W W' := by
 have HC := ak hc
 have HR := ak hr
 have HX := ak (set_f x V hx)
 clear hc hr hx
 go_enter Try.func54, Try.ntmps54
 go_wp2_with (go_at_call 48; (with_reducible refine (peel_set.calls _ A c x V _ W HR.out HC.out HX.out).mono ?_); rintro e w2 ⟨rfl, hd⟩)
 go_ret
 exact ⟨rfl, hd⟩
theorem drawn0_below {W W' : World} (h : Drawn0 W W') : Below W.heap.size W W' := by
 obtain ⟨n, rfl⟩ := h
 exact pbn (Below.refl _ _) n
def peel_Check.f (V : Int) (ch : List (List Int)) : Option Int :=
 if ch.all (fun l => decide (l.length ≤ 4611686018427387904)) = true then some (if V < 1 then 4 else if V > 64 then 4 else if (ch.length : Int) > 256 then 8 else if ch.any (fun l => !setR V none l) = true then 6 else 0) else none
theorem peel_Check.calls (a0_0 : Int) (A0_1 : Option Addr) (c0_1 : Nat) (l0_1 : List (List Int)) (r : Int) (w : World) (hr0_1 : Kd.C (Kd.slice 3 (Kd.int .i64)) w A0_1 l0_1.length l0_1) (hc0_1 : l0_1.length ≤ c0_1) (h : peel_Check.f a0_0 l0_1 = some r) :
  Calls Try.prog 22 #[.agg #[.int .i64 a0_0, .slice A0_1 l0_1.length c0_1]] w fun e w' => e = .returned (.int .i64 r) ∧ Below w.heap.size w w' := by
 have hu31 := Try.underlying31
 have HR := ak hr0_1
 have HC := ak hc0_1
 have HH : Aside0 ((∀ l ∈ l0_1, l.length ≤ 4611686018427387904) ∧ r = (if a0_0 < 1 then 4 else if a0_0 > 64 then 4 else if (l0_1.length : Int) > 256 then 8 else if l0_1.any (fun l => !setR a0_0 none l) = true then 6 else 0)) := by
  unfold peel_Check.f at h
  split at h
  ·rename_i h1
   exact ⟨fun l hl => odt (List.all_eq_true.1 h1 l hl), (osi h).symm⟩
  ·exact absurd h (by simp)
 clear hr0_1 hc0_1 h
 go_enter Try.func22, Try.ntmps22
 go_wp2_with (first | ((with_reducible refine gate_dst (N := 1) rfl ?_); refine box_event ?hg (N := 1) ?hd (cs := #[.int .i64 a0_0, .slice A0_1 l0_1.length c0_1]) (t := 31) ?hr ?_; (case hd => rfl); (case hg => rfl); (case hr => (go_simp; done)); intro gb hgb w1 hbox hb; have HGB := ak (show w.heap.size ≤ gb by omega); have HBK := ak hbox; have HB := ak hb; clear hgb; have hcz0 : w1.cell? ⟨gb, 0, none⟩ = some (.int .i64 a0_0) := (kce hbox 0).trans rfl; have hcz1 : w1.cell? ⟨gb, 1, none⟩ = some (.slice A0_1 l0_1.length c0_1) := (kce hbox 1).trans rfl; clear hbox hb) | (go_at_call 53; (with_reducible refine (ContainsFunc_Row 54 eg54 #[.pointer (some ⟨gb, 0, none⟩)] (fun W => Below w1.heap.size w1 W ∧ W.cell? ⟨gb, 0, none⟩ = some (.int .i64 a0_0)) A0_1 c0_1 l0_1 (fun l => !setR a0_0 none l) w1 w1 ?sa ?sb ?sc ?sd).mono ?_); (case sa => exact Kd.C_below HR.out HB.out); (case sb => exact ⟨Below.refl _ _, hcz0⟩); (case sc => exact fun W hW => hW.1); (case sd => exact fun x W A c hx hI hc hr => (check_closure ⟨gb, 0, none⟩ a0_0 x A c W (HH.out.1 x hx) hc hr gb hI.2).mono (fun e W' h => ⟨h.1, bsp hI.1 (drawn0_below h.2), cbl hI.2 (drawn0_below h.2)⟩)); rintro e w2 ⟨rfl, hI, _⟩; have HB2 := ak hI; obtain ⟨b, hb⟩ : ∃ b, l0_1.any (fun l => !setR a0_0 none l) = b := ⟨_, rfl⟩; rw [hb]; have HBB := ak hb; clear hI hb))
 all_goals (try (go_ret))
 all_goals (refine ⟨?_, by first | exact HB.out | exact bsp HB.out HB2.out⟩)
 all_goals rw [HH.out.2]
 all_goals (try (rw [HBB.out]))
 all_goals (repeat' split)
 all_goals first | rfl | (exfalso; omega) | (exfalso; simp_all; done)
def srch (f : List Bool → Nat → Option (List Bool)) (inn : List Bool) : Nat → Nat → Option (List Bool)
 | 0, _ => none
 | n + 1, i => match f (inn.set i true) (i + 1) with
  | some r => some r
  | none => srch f inn n (i + 1)
def fromS (V : Nat) (ch : List (List Int)) : Nat → List Bool → Nat → Option (List Bool)
 | 0, inn, _ => if alone inn ch < 0 then some inn else none
 | s + 1, inn, i => srch (fromS V ch s) inn (V + 1 - (i + s + 1)) i
theorem eg57 : ∀ args w, (callFunc 57 args).run Try.prog w = .ok (.enter 57 args) w := enters_of Try.func57 (by kernel_rfl) rfl
structure SJ (w : World) (V : Nat) (A : Option Addr) (c : Nat) (ch : List (List Int)) (b1 b2 b3 gi ci : Nat) (W : World) (inn : List Bool) : Prop where
 c0 : W.cell? ⟨b1, 0, none⟩ = some (.int .i64 V)
 c1 : W.cell? ⟨b1, 1, none⟩ = some (.slice A ch.length c)
 c2 : W.cell? ⟨b2, 0, none⟩ = some (.slice (some ⟨gi, 0, none⟩) V ci)
 c3 : W.cell? ⟨b3, 0, none⟩ = some (.func (.func 57) #[] #[.pointer (some ⟨b1, 0, none⟩), .pointer (some ⟨b2, 0, none⟩), .pointer (some ⟨b3, 0, none⟩)])
 n1 : b1 ≠ gi
 n2 : b2 ≠ gi
 n3 : b3 ≠ gi
 len : inn.length = V
 own : Kd.R Kd.bool 4 W w.heap.size (fun _ => True) (.slice (some ⟨gi, 0, none⟩) V ci) inn
 below : Below w.heap.size w W
theorem SJ.step {w : World} {V : Nat} {A : Option Addr} {c : Nat} {ch : List (List Int)} {b1 b2 b3 gi ci : Nat} {W W' : World} {inn : List Bool} (h : SJ w V A c ch b1 b2 b3 gi ci W inn) (hb : Below W.heap.size W W') : SJ w V A c ch b1 b2 b3 gi ci W' inn :=
 ⟨cbl h.c0 hb, cbl h.c1 hb, cbl h.c2 hb, cbl h.c3 hb, h.n1, h.n2, h.n3, h.len, Kd.R_below h.own hb, bsp h.below hb⟩
theorem SJ.put {w : World} {V : Nat} {A : Option Addr} {c : Nat} {ch : List (List Int)} {b1 b2 b3 gi ci : Nat} {W : World} {inn : List Bool} (h : SJ w V A c ch b1 b2 b3 gi ci W inn) (i : Nat) (b : Bool) : SJ w V A c ch b1 b2 b3 gi ci (W.setCell ⟨gi, i, none⟩ (.bool b)) (inn.set i b) := by
 have ho : Kd.R Kd.bool 4 W w.heap.size (fun _ => True) (.slice (some ⟨gi, 0, none⟩) inn.length ci) inn := by rw [h.len]; exact h.own
 have hp := Kd.R_put ho (i : Int) b
 rw [Int.toNat_natCast] at hp
 refine ⟨cell_grown hp.2 h.c0 ?_, cell_grown hp.2 h.c1 ?_, cell_grown hp.2 h.c2 ?_, cell_grown hp.2 h.c3 ?_, h.n1, h.n2, h.n3, by rw [List.length_set]; exact h.len, by rw [← h.len]; exact hp.1, bst h.below (Kd.R_base h.own gi rfl)⟩
 ·exact fun e => h.n1 (osi e)
 ·exact fun e => h.n1 (osi e)
 ·exact fun e => h.n2 (osi e)
 ·exact fun e => h.n3 (osi e)
theorem set_false {inn : List Bool} {i V : Nat} (hi : i < V) (hl : inn.length = V) (h : inn.getD i false = false) : inn.set i false = inn := by
 apply List.ext_getElem?
 intro j
 by_cases hj : i = j
 ·subst hj
  rw [List.getElem?_set_self (by omega)]
  rw [List.getD_eq_getElem?_getD, List.getElem?_eq_getElem (by omega)] at h
  rw [List.getElem?_eq_getElem (by omega)]
  simp at h; rw [h]
 ·rw [List.getElem?_set_ne hj]
def SPost (w : World) (V : Nat) (A : Option Addr) (c : Nat) (ch : List (List Int)) (b1 b2 b3 gi ci : Nat) (inn : List Bool) (o : Option (List Bool)) (e : Ending) (W' : World) : Prop :=
 match o with
 | some r => e = .returned (.bool true) ∧ SJ w V A c ch b1 b2 b3 gi ci W' r
 | none => e = .returned (.bool false) ∧ SJ w V A c ch b1 b2 b3 gi ci W' inn
theorem from_calls (w : World) (V : Nat) (A : Option Addr) (c : Nat) (ch : List (List Int)) (b1 b2 b3 gi ci : Nat) (hr : Kd.C (Kd.slice 3 (Kd.int .i64)) w A ch.length ch) (hc : ch.length ≤ c) (hch : ∀ l ∈ ch, ∀ i ∈ l, 0 ≤ i ∧ i < (V : Int)) (hcl : ch.length ≤ 256) (hV : V ≤ 64) :
  ∀ (s : Nat) (inn : List Bool) (i : Nat) (W : World), SJ w V A c ch b1 b2 b3 gi ci W inn → (∀ j, i ≤ j → inn.getD j false = false) → i ≤ V → s ≤ V →
  Calls Try.prog 57 #[.int .i64 i, .int .i64 s, .pointer (some ⟨b1, 0, none⟩), .pointer (some ⟨b2, 0, none⟩), .pointer (some ⟨b3, 0, none⟩)] W (SPost w V A c ch b1 b2 b3 gi ci inn (fromS V ch s inn i)) := by
 have HR := ak hr
 have HC := ak hc
 have HCH := ak hch
 have HCL := ak hcl
 have HV := ak hV
 have hu31 := Try.underlying31
 clear hr hc hch hcl hV
 intro s
 induction s with
 | zero =>
  intro inn i W hJ hz hi hs
  have HJ := ak hJ
  have hc0 := hJ.c0
  have hc1 := hJ.c1
  have hc2 := hJ.c2
  clear hJ hz hi hs
  have ha := alone_calls (V : Int) A c ch (some ⟨gi, 0, none⟩) ci inn W (Kd.C_below HR.out HJ.out.below) HC.out (Kd.R_reads' (show Kd.R Kd.bool 4 W w.heap.size (fun _ => True) (.slice (some ⟨gi, 0, none⟩) inn.length ci) inn by rw [HJ.out.len]; exact HJ.out.own)).2.2 (by have h := (Kd.R_reads' HJ.out.own).2.1; rw [HJ.out.len]; exact h) (by rw [HJ.out.len]; exact HCH.out) (Nat.le_trans HCL.out (by decide))
  rw [HJ.out.len] at ha
  have HA := ak ha
  clear ha
  go_enter Try.func57, Try.ntmps57
  obtain ⟨al, hal⟩ : ∃ x, alone inn ch = x := ⟨_, rfl⟩
  rw [hal] at HA
  have HAL := ak hal
  clear hal
  go_wp2_with (go_at_call 49; (with_reducible refine HA.out.mono ?_); rintro e w2 ⟨rfl, hB⟩; have HB := ak hB; clear hB)
  go_ret
  have hJ2 := HJ.out.step HB.out
  rw [fromS, HAL.out]
  by_cases h : al < 0
  ·rw [if_pos h, SPost]
   exact ⟨by simp [h], hJ2⟩
  ·rw [if_neg h, SPost]
   exact ⟨by simp [h], hJ2⟩
 | succ s ih =>
  intro inn i W hJ hz hi hs
  have HJ := ak hJ
  have HZ := ak hz
  have HI := ak hi
  have HS := ak hs
  have IH := ak ih
  clear hJ hz hi hs ih
  have d0 : (((s + 1 : Nat) : Int) == 0) = false := by simp; omega
  obtain ⟨sz, hsz⟩ : ∃ x : Int, ((s + 1 : Nat) : Int) = x := ⟨_, rfl⟩
  rw [hsz] at d0 ⊢
  have HSZ := ak hsz
  clear hsz
  go_enter Try.func57, Try.ntmps57
  go_wp2
  clear d0
  go_loopg [8] (V + 1 - i) (fun gk v8 w' => ∃ i' : Nat, v8 = .int .i64 i' ∧ Aside0 (i ≤ i' ∧ i' ≤ V + 1 ∧ gk = V + 1 - i' ∧ srch (fromS V ch s) inn (V + 1 - (i' + s + 1)) i' = fromS V ch (s + 1) inn i) ∧ Aside0 (SJ w V A c ch b1 b2 b3 gi ci w' inn))
  case atStart => exact ⟨i, rfl, ⟨Nat.le_refl _, by have := HI.out; omega, rfl, by rw [fromS]⟩, HJ⟩
  case round =>
   obtain ⟨i', rfl, HN, HJr⟩ := hrel
   have hc0 := HJr.out.c0
   have hc1 := HJr.out.c1
   have hc2 := HJr.out.c2
   have hc3 := HJr.out.c3
   have w1 : IntKind.i64.wrap ((i' : Int) + sz) = (i' : Int) + sz := (i64_w _).trans (by unfold wrap64; have := HN.out; have := HSZ.out; have := HS.out; have := HV.out; omega)
   by_cases hlt : (i' : Int) + sz ≤ (V : Int)
   ·have HLT := ak hlt
    have hi1 : i' < V := by have := HSZ.out; omega
    obtain ⟨hcm, hfm⟩ := Kd.R_cell false (show Kd.R Kd.bool 4 wr w.heap.size (fun _ => True) (.slice (some ⟨gi, 0, none⟩) inn.length ci) inn by rw [HJr.out.len]; exact HJr.out.own) (i' : Int) (by omega) (by rw [HJr.out.len]; omega)
    rw [Int.toNat_natCast] at hcm hfm
    have HJ1 := ak (HJr.out.put i' true)
    have hd0 := HJ1.out.c0
    have hd1 := HJ1.out.c1
    have hd2 := HJ1.out.c2
    have hd3 := HJ1.out.c3
    have w2 : IntKind.i64.wrap ((i' : Int) + 1) = (i' : Int) + 1 := (i64_w _).trans (by unfold wrap64; have := HV.out; omega)
    have w3 : IntKind.i64.wrap (sz - 1) = (s : Int) := (i64_w _).trans (by unfold wrap64; have := HSZ.out; have := HS.out; have := HV.out; omega)
    have HF := ak (IH.out (inn.set i' true) (i' + 1) _ HJ1.out (by
     intro j hj
     rw [List.getD_eq_getElem?_getD, List.getElem?_set_ne (by omega), ← List.getD_eq_getElem?_getD]
     exact HZ.out j (by have := HN.out.1; omega)) (by omega) (by have := HS.out; omega))
    have eg := eg57
    have HI1 := ak hi1
    have t3 := eq_true hi1
    rw [show ((i' + 1 : Nat) : Int) = (i' : Int) + 1 from by omega] at HF
    have t1 := eq_true hlt
    have t2 : decide ((i' : Int) + sz ≤ (V : Int)) = true := det hlt
    have hn1 : srch (fromS V ch s) inn (V + 1 - (i' + s + 1)) i' = match fromS V ch s (inn.set i' true) (i' + 1) with | some r => some r | none => srch (fromS V ch s) inn (V + 1 - (i' + 1 + s + 1)) (i' + 1) := by
     rw [show V + 1 - (i' + s + 1) = (V + 1 - (i' + 1 + s + 1)) + 1 from by have := HSZ.out; omega, srch]
    have HN1 := ak hn1
    clear hn1
    cases hf : fromS V ch s (inn.set i' true) (i' + 1) with
    | some r =>
     rw [hf] at HF
     have HFF := ak hf
     clear hf hlt hi1
     go_wp2_with (go_at_fn 57; (with_reducible refine HF.out.mono ?_); rintro e w3 ⟨rfl, hJ⟩; have HJ3 := ak hJ; clear hJ)
     go_ret
     have h : fromS V ch (s + 1) inn i = some r := by
      rw [← HN.out.2.2.2, HN1.out, HFF.out]
     rw [h]
     exact ⟨rfl, HJ3.out⟩
    | none =>
     rw [hf] at HF
     have HFF := ak hf
     clear hf hlt hi1
     go_upto_region 9 with (go_at_fn 57; (with_reducible refine HF.out.mono ?_); rintro e w3 ⟨rfl, hJ⟩; have HJ3 := ak hJ; clear hJ)
     clear hd0 hd1 hd2 hd3 hc0 hc1 hc2 hc3 hcm hfm w2
     have hc2 := HJ3.out.c2
     obtain ⟨hcm, hfm⟩ := Kd.R_cell false (show Kd.R Kd.bool 4 w3 w.heap.size (fun _ => True) (.slice (some ⟨gi, 0, none⟩) (inn.set i' true).length ci) (inn.set i' true) by rw [HJ3.out.len]; exact HJ3.out.own) (i' : Int) (by omega) (by rw [HJ3.out.len]; have := HI1.out; omega)
     rw [Int.toNat_natCast] at hcm hfm
     have HJ4 := ak (show SJ w V A c ch b1 b2 b3 gi ci (w3.setCell ⟨gi, i', none⟩ (.bool false)) inn by
      have h := HJ3.out.put i' false
      rw [List.set_set, set_false HI1.out HJr.out.len (HZ.out i' HN.out.1)] at h
      exact h)
     have w5 : IntKind.i64.wrap ((i' : Int) + 1) = (i' : Int) + 1 := (i64_w _).trans (by unfold wrap64; have := HV.out; have := HI1.out; omega)
     go_wp2
     go_roundg (V + 1 - (i' + 1))
     case measure => have := HN.out; have := HI1.out; omega
     case rel =>
      have h := HN.out
      have h2 := HI1.out
      refine ⟨i' + 1, ?_, ⟨by omega, by omega, rfl, ?_⟩, HJ4⟩
      ·exact congrArg _ (by omega)
      ·rw [← h.2.2.2, HN1.out, HFF.out]
   ·have t1 := eq_false hlt
    have t2 : decide ((i' : Int) + sz ≤ (V : Int)) = false := dff hlt
    have HLT := ak hlt
    clear hlt
    go_wp2
    go_ret
    have h : fromS V ch (s + 1) inn i = none := by
     rw [← HN.out.2.2.2, show V + 1 - (i' + s + 1) = 0 from by have := HSZ.out; have := HLT.out; omega, srch]
    rw [h]
    exact ⟨rfl, HJr.out⟩
def firstSize (V : Nat) (ch : List (List Int)) : Nat → Nat → Option (List Bool)
 | 0, _ => none
 | n + 1, s => match fromS V ch s (List.replicate V false) 0 with
  | some r => some r
  | none => firstSize V ch n (s + 1)
def peel_Smallest.f (V : Int) (ch : List (List Int)) : Option (List Int × Int) :=
 (peel_Check.f V ch).bind fun e => if e = 0 then (if V > 16 then some ([], 8) else match firstSize V.toNat ch V.toNat 1 with
  | some r => (peel_left.f 100 r).map fun l => (l, 0)
  | none => some ([], 11)) else some ([], e)
theorem setR_mem {n : Int} : ∀ {l : List Int} {p : Option Int}, setR n p l = true → ∀ x ∈ l, 0 ≤ x ∧ x < n
 | [], _, _, x, hx => by simp at hx
 | y :: l, p, h, x, hx => by
  rw [setR_cons] at h
  by_cases h1 : y < 0
  ·rw [if_pos h1] at h; simp at h
  ·rw [if_neg h1] at h
   by_cases h2 : y ≥ n
   ·rw [if_pos h2] at h; simp at h
   ·rw [if_neg h2] at h
    cases hs : setR n (some y) l with
    | true =>
     rcases List.mem_cons.1 hx with rfl | h4
     ·omega
     ·exact setR_mem hs x h4
    | false => rw [hs] at h; simp at h
theorem check_zero {V : Int} {ch : List (List Int)} (h : peel_Check.f V ch = some 0) : 1 ≤ V ∧ V ≤ 64 ∧ ch.length ≤ 256 ∧ ∀ l ∈ ch, setR V none l = true := by
 unfold peel_Check.f at h
 split at h
 ·have h := osi h
  split at h
  ·simp at h
  ·split at h
   ·simp at h
   ·split at h
    ·simp at h
    ·split at h
     ·simp at h
     ·rename_i h1 h2 h3 h4
      refine ⟨by omega, by omega, by omega, fun l hl => ?_⟩
      have h5 : ¬ (∃ l ∈ ch, (!setR V none l) = true) := fun he => h4 (List.any_eq_true.2 he)
      cases hb : setR V none l with
      | true => rfl
      | false => exact absurd ⟨l, hl, by simp [hb]⟩ h5
 ·simp at h
theorem smallest_ok (V : Nat) (A0_1 : Option Addr) (c0_1 : Nat) (l0_1 : List (List Int)) (w : World) (hr0_1 : Kd.C (Kd.slice 3 (Kd.int .i64)) w A0_1 l0_1.length l0_1) (hc0_1 : l0_1.length ≤ c0_1) (hck : peel_Check.f V l0_1 = some 0) (hV : V ≤ 16)
  (o : Option (List Bool)) (ho : firstSize V l0_1 V 1 = o) (r1 : List Int) (r2 : Int) (hl : ∀ r, o = some r → r2 = 0 ∧ peel_left.f 100 r = some r1) (hnn : o = none → r2 = 11 ∧ r1 = []) :
  Calls Try.prog 26 #[.agg #[.int .i64 V, .slice A0_1 l0_1.length c0_1]] w fun e w' => ∃ v0_ : Value, e = .returned (.tuple #[v0_, .int .i64 r2]) ∧ Kd.R (Kd.int .i64) 3 w' w.heap.size (fun _ => True) v0_ r1 ∧ Below w.heap.size w w' := by
 have hu31 := Try.underlying31
 have hz := check_zero hck
 have HZ := ak hz
 have HR := ak hr0_1
 have HC := ak hc0_1
 have HCK := ak hck
 have HV := ak hV
 have HO := ak ho
 have HL := ak hl
 have HNN := ak hnn
 clear hr0_1 hc0_1 hck hV ho hl hz hnn
 go_enter Try.func26, Try.ntmps26
 go_upto_region 4 with (first | ((with_reducible refine gate_dst (N := 1) rfl ?_); refine box_event ?hg (N := 1) ?hd (cs := #[.int .i64 V, .slice A0_1 l0_1.length c0_1]) (t := 31) ?hr ?_; (case hd => rfl); (case hg => rfl); (case hr => (go_simp; done)); intro gb hgb w1 hbox hb; have HGB := ak (show w.heap.size ≤ gb by omega); have HBK := ak hbox; have HB := ak hb; clear hgb; have hcz0 : w1.cell? ⟨gb, 0, none⟩ = some (.int .i64 V) := (kce hbox 0).trans rfl; have hcz1 : w1.cell? ⟨gb, 1, none⟩ = some (.slice A0_1 l0_1.length c0_1) := (kce hbox 1).trans rfl; clear hbox hb) | (go_at_call 22; (with_reducible refine (peel_Check.calls (V : Int) A0_1 c0_1 l0_1 0 w1 (Kd.C_below HR.out HB.out) HC.out HCK.out).mono ?_); rintro e w2 ⟨rfl, hB⟩; have HB2 := ak hB; replace hcz0 := cbl hcz0 hB; replace hcz1 := cbl hcz1 hB; have HBK2 := ak (blk_grown HBK.out (grown_of_below hB none) (by simp)); clear hB))
 have hp : wrap64 (2 ^ min V 64) ≤ 65536 := by
  have h := HV.out
  rw [Nat.min_eq_left (by omega)]
  have h2 : ∀ v : Fin 17, wrap64 (2 ^ v.val) ≤ 65536 := by decide +kernel
  exact h2 ⟨V, by omega⟩
 have hp1 := eq_false (show ¬ 65536 < wrap64 (2 ^ min V 64) by omega)
 have hp2 : decide (65536 < wrap64 (2 ^ min V 64)) = false := dff (by omega)
 have hp3 := eq_false (show ¬ 62 < (V : Int) by have := HV.out; omega)
 have hp4 : decide (62 < (V : Int)) = false := dff (by have := HV.out; omega)
 clear hp
 go_upto_region 7 with ((with_reducible refine gate_dst (N := 24) rfl ?_); refine Kd.R_make Kd.bool _ 4 rfl (N := 24) rfl 73 _ _ rfl (V : Int) rfl rfl Try.underlying73 (.bool false) 1 Go.Proofs.Ytkifipakikbhcaa.Pg.info4 rfl (by decide) (by omega) false (ok := fun _ => True) (okp := fun _ => True) rfl (fun _ hk => hk) trivial (by omega) (by have := HV.out; omega) (Below.refl _ _) (Nat.le_refl _) ?_; intro v24 w3 hM hb hg hn; rw [Int.toNat_natCast] at hM; obtain ⟨gi, ci, e24, hgi1, hgi2, -⟩ := Kd.R_form hM (by rw [List.length_replicate]; have := HZ.out.1; omega); rw [List.length_replicate] at e24; subst e24; have HGI := ak (And.intro hgi1 hgi2); clear hgi1 hgi2; have HM := ak hM; have HB3 := ak hb; clear hM hb hg hn)
 clear hp1 hp2 hp3 hp4
 go_upto_region 9 with (fail)
 have hsj : SJ w V A0_1 c0_1 l0_1 gb w3.heap.size (w3.heap.size + 1) gi ci ((w3.alloc (Obj.cells #[Value.slice (some { block := gi, off := 0 }) V ci] 73)).alloc (Obj.cells #[Value.func (Fn.func 57) #[] #[Value.pointer (some { block := gb, off := 0 }), Value.pointer (some { block := w3.heap.size, off := 0 }), Value.pointer (some { block := w3.heap.size + 1, off := 0 })]] 80)) (List.replicate V false) := by
  have hb3 := HB3.out
  have hbb := bal (bal (Below.refl w3.heap.size w3) (Obj.cells #[Value.slice (some { block := gi, off := 0 }) V ci] 73)) (Obj.cells #[Value.func (Fn.func 57) #[] #[Value.pointer (some { block := gb, off := 0 }), Value.pointer (some { block := w3.heap.size, off := 0 }), Value.pointer (some { block := w3.heap.size + 1, off := 0 })]] 80)
  have hsz : (w3.alloc (Obj.cells #[Value.slice (some { block := gi, off := 0 }) V ci] 73)).heap.size = w3.heap.size + 1 := by exact Array.size_push _
  have hlt : gb < w2.heap.size := World.block_lt_of_cell? _ _ hcz0
  have hgi := HGI.out
  refine ⟨cbl (cbl hcz0 hb3) hbb, cbl (cbl hcz1 hb3) hbb, ?_, ?_, by omega, by omega, by omega, by simp, ?_, bsp (bsp (bsp HB.out HB2.out) hb3) hbb⟩
  ·exact cbl ((kce (heap_alloc_new w3 _) 0).trans rfl) (bal (Below.refl _ _) _)
  ·have h := heap_alloc_new (w3.alloc (Obj.cells #[Value.slice (some { block := gi, off := 0 }) V ci] 73)) (Obj.cells #[Value.func (Fn.func 57) #[] #[Value.pointer (some { block := gb, off := 0 }), Value.pointer (some { block := w3.heap.size, off := 0 }), Value.pointer (some { block := w3.heap.size + 1, off := 0 })]] 80)
   rw [hsz] at h
   exact (kce h 0).trans rfl
  ·exact Kd.R_alloc (Kd.R_alloc (Kd.R_lower HM.out (bsz (bsp HB.out HB2.out))) _) _
 have HSJ := ak hsj
 generalize hw4 : ((w3.alloc (Obj.cells #[Value.slice (some { block := gi, off := 0 }) V ci] 73)).alloc (Obj.cells #[Value.func (Fn.func 57) #[] #[Value.pointer (some { block := gb, off := 0 }), Value.pointer (some { block := w3.heap.size, off := 0 }), Value.pointer (some { block := w3.heap.size + 1, off := 0 })]] 80)) = w4 at HSJ ⊢
 generalize w3.heap.size + 1 = b3 at HSJ ⊢
 generalize w3.heap.size = b2 at HSJ ⊢
 clear hw4 hsj hcz0 hcz1 HM HB3 HBK2 HB2 HBK HGI
 go_wp2
 have eg := eg57
 have HCH := ak (show ∀ l ∈ l0_1, ∀ x ∈ l, 0 ≤ x ∧ x < (V : Int) from fun l hl x hx => setR_mem (HZ.out.2.2.2 l hl) x hx)
 go_loopg [7] V (fun gk v7 w' => ∃ s : Nat, v7 = .int .i64 s ∧ Aside0 (1 ≤ s ∧ s ≤ V + 1 ∧ gk = V + 1 - s ∧ firstSize V l0_1 (V + 1 - s) s = o) ∧ Aside0 (SJ w V A0_1 c0_1 l0_1 gb b2 b3 gi ci w' (List.replicate V false)))
 case atStart => exact ⟨1, rfl, ⟨Nat.le_refl _, by omega, by omega, HO.out⟩, HSJ⟩
 case round =>
  obtain ⟨s, rfl, HN, HJr⟩ := hrel
  have hc0 := HJr.out.c0
  have hc3 := HJr.out.c3
  by_cases hlt : s ≤ V
  ·have t1 : ((s : Int) ≤ (V : Int)) = True := eq_true (by omega)
   have t2 : decide ((s : Int) ≤ (V : Int)) = true := det (by omega)
   have t3 := eq_true hlt
   have HLT := ak hlt
   have HF := ak (from_calls w V A0_1 c0_1 l0_1 gb b2 b3 gi ci HR.out HC.out HCH.out HZ.out.2.2.1 (by have := HV.out; omega) s (List.replicate V false) 0 wr HJr.out (by intro j _; simp [List.getD_eq_getElem?_getD, List.getElem?_replicate]; split <;> rfl) (by omega) hlt)
   rw [show ((0 : Nat) : Int) = (0 : Int) from rfl] at HF
   have hn1 : firstSize V l0_1 (V + 1 - s) s = match fromS V l0_1 s (List.replicate V false) 0 with | some r => some r | none => firstSize V l0_1 (V + 1 - (s + 1)) (s + 1) := by
    rw [show V + 1 - s = (V + 1 - (s + 1)) + 1 from by omega, firstSize]
   have HN1 := ak hn1
   clear hn1 hlt
   cases hf : fromS V l0_1 s (List.replicate V false) 0 with
   | some r =>
    rw [hf] at HF
    have ho : o = some r := by rw [← HN.out.2.2.2, HN1.out, hf]
    have HLL := ak (HL.out r ho)
    clear hf ho
    go_upto_region 13 with (go_at_fn 57; (with_reducible refine HF.out.mono ?_); rintro e w5 ⟨rfl, hJ⟩; have HJ3 := ak hJ; clear hJ)
    have hd2 := HJ3.out.c2
    have hlf := peel_left.calls 100 (some ⟨gi, 0, none⟩) ci r r1 w5 (Kd.R_reads' (show Kd.R Kd.bool 4 w5 w.heap.size (fun _ => True) (.slice (some ⟨gi, 0, none⟩) r.length ci) r by rw [HJ3.out.len]; exact HJ3.out.own)).2.2 (by have h := (Kd.R_reads' HJ3.out.own).2.1; rw [HJ3.out.len]; exact h) HLL.out.2
    rw [HJ3.out.len] at hlf
    have HLF := ak hlf
    clear hlf hc0 hc3
    go_wp2_with (go_at_call 55; (with_reducible refine HLF.out.mono ?_); rintro e w6 ⟨v6, rfl, hR6, hB6⟩; have HR6 := ak hR6; have HB6 := ak hB6; clear hR6 hB6)
    go_ret2
    rw [HLL.out.1]
    exact ⟨_, rfl, Kd.R_lower HR6.out (bsz HJ3.out.below), bsp HJ3.out.below HB6.out⟩
   | none =>
    rw [hf] at HF
    have HFF := ak hf
    clear hf
    go_wp2_with (go_at_fn 57; (with_reducible refine HF.out.mono ?_); rintro e w5 ⟨rfl, hJ⟩; have HJ3 := ak hJ; clear hJ)
    go_roundg (V + 1 - (s + 1))
    case measure => have := HN.out; have := HLT.out; omega
    case rel =>
     have h := HN.out
     have h2 := HLT.out
     refine ⟨s + 1, ?_, ⟨by omega, by omega, rfl, ?_⟩, HJ3⟩
     ·(rw [wrap64_succ' (n := 65) (by omega) (by have := HV.out; omega) (by omega)]; rfl)
     ·rw [← h.2.2.2, HN1.out, HFF.out]
  ·have t1 : ((s : Int) ≤ (V : Int)) = False := eq_false (by omega)
   have t2 : decide ((s : Int) ≤ (V : Int)) = false := dff (by omega)
   have t3 := eq_false hlt
   have HLT := ak hlt
   clear hlt
   go_wp2
   go_ret2
   have ho : o = none := by
    rw [← HN.out.2.2.2, show V + 1 - s = 0 from by have := HLT.out; omega, firstSize]
   obtain ⟨h1, h2⟩ := HNN.out ho
   subst h1 h2
   exact ⟨_, rfl, Kd.R_nil _ _ _ _ _, HJr.out.below⟩
theorem smallest_err (a0_0 : Int) (A0_1 : Option Addr) (c0_1 : Nat) (l0_1 : List (List Int)) (w : World) (hr0_1 : Kd.C (Kd.slice 3 (Kd.int .i64)) w A0_1 l0_1.length l0_1) (hc0_1 : l0_1.length ≤ c0_1) (er : Int) (hck : peel_Check.f a0_0 l0_1 = some er) (he : er ≠ 0) :
  Calls Try.prog 26 #[.agg #[.int .i64 a0_0, .slice A0_1 l0_1.length c0_1]] w fun e w' => ∃ v0_ : Value, e = .returned (.tuple #[v0_, .int .i64 er]) ∧ Kd.R (Kd.int .i64) 3 w' w.heap.size (fun _ => True) v0_ [] ∧ Below w.heap.size w w' := by
 have hu31 := Try.underlying31
 have HR := ak hr0_1
 have HC := ak hc0_1
 have HCK := ak hck
 have t1 : (er != 0) = true := by simpa using he
 clear hr0_1 hc0_1 hck he
 go_enter Try.func26, Try.ntmps26
 go_wp2_with (first | ((with_reducible refine gate_dst (N := 1) rfl ?_); refine box_event ?hg (N := 1) ?hd (cs := #[.int .i64 a0_0, .slice A0_1 l0_1.length c0_1]) (t := 31) ?hr ?_; (case hd => rfl); (case hg => rfl); (case hr => (go_simp; done)); intro gb hgb w1 hbox hb; have HGB := ak (show w.heap.size ≤ gb by omega); have HBK := ak hbox; have HB := ak hb; clear hgb; have hcz0 : w1.cell? ⟨gb, 0, none⟩ = some (.int .i64 a0_0) := (kce hbox 0).trans rfl; have hcz1 : w1.cell? ⟨gb, 1, none⟩ = some (.slice A0_1 l0_1.length c0_1) := (kce hbox 1).trans rfl; clear hbox hb) | (go_at_call 22; (with_reducible refine (peel_Check.calls a0_0 A0_1 c0_1 l0_1 er w1 (Kd.C_below HR.out HB.out) HC.out HCK.out).mono ?_); rintro e w2 ⟨rfl, hB⟩; have HB2 := ak hB; replace hcz0 := cbl hcz0 hB; replace hcz1 := cbl hcz1 hB; have HBK2 := ak (blk_grown HBK.out (grown_of_below hB none) (by simp)); clear hB))
 go_ret2
 exact ⟨_, rfl, Kd.R_nil _ _ _ _ _, bsp HB.out HB2.out⟩
theorem smallest_big (V : Nat) (A0_1 : Option Addr) (c0_1 : Nat) (l0_1 : List (List Int)) (w : World) (hr0_1 : Kd.C (Kd.slice 3 (Kd.int .i64)) w A0_1 l0_1.length l0_1) (hc0_1 : l0_1.length ≤ c0_1) (hck : peel_Check.f V l0_1 = some 0) (hV : 16 < V) (hV2 : V ≤ 64) :
  Calls Try.prog 26 #[.agg #[.int .i64 V, .slice A0_1 l0_1.length c0_1]] w fun e w' => ∃ v0_ : Value, e = .returned (.tuple #[v0_, .int .i64 8]) ∧ Kd.R (Kd.int .i64) 3 w' w.heap.size (fun _ => True) v0_ [] ∧ Below w.heap.size w w' := by
 have hu31 := Try.underlying31
 have HR := ak hr0_1
 have HC := ak hc0_1
 have HCK := ak hck
 have hall : ∀ v : Fin 65, 16 < v.val → v.val ≤ 62 → 65536 < wrap64 (2 ^ v.val) := by decide +kernel
 have hall2 : ∀ v : Fin 65, 62 < v.val → wrap64 (2 ^ v.val) ≤ 65536 := by decide +kernel
 have hm : min V 64 = V := Nat.min_eq_left hV2
 by_cases h : V ≤ 62
 ·have h1 := hall ⟨V, by omega⟩ hV h
  have hp1 := eq_true (show 65536 < wrap64 (2 ^ min V 64) by rw [hm]; exact h1)
  have hp2 : decide (65536 < wrap64 (2 ^ min V 64)) = true := det (by rw [hm]; exact h1)
  clear hr0_1 hc0_1 hck hV hV2 hall hall2 h h1 hm
  go_enter Try.func26, Try.ntmps26
  go_wp2_with (first | ((with_reducible refine gate_dst (N := 1) rfl ?_); refine box_event ?hg (N := 1) ?hd (cs := #[.int .i64 V, .slice A0_1 l0_1.length c0_1]) (t := 31) ?hr ?_; (case hd => rfl); (case hg => rfl); (case hr => (go_simp; done)); intro gb hgb w1 hbox hb; have HGB := ak (show w.heap.size ≤ gb by omega); have HBK := ak hbox; have HB := ak hb; clear hgb; have hcz0 : w1.cell? ⟨gb, 0, none⟩ = some (.int .i64 V) := (kce hbox 0).trans rfl; have hcz1 : w1.cell? ⟨gb, 1, none⟩ = some (.slice A0_1 l0_1.length c0_1) := (kce hbox 1).trans rfl; clear hbox hb) | (go_at_call 22; (with_reducible refine (peel_Check.calls (V : Int) A0_1 c0_1 l0_1 0 w1 (Kd.C_below HR.out HB.out) HC.out HCK.out).mono ?_); rintro e w2 ⟨rfl, hB⟩; have HB2 := ak hB; replace hcz0 := cbl hcz0 hB; replace hcz1 := cbl hcz1 hB; have HBK2 := ak (blk_grown HBK.out (grown_of_below hB none) (by simp)); clear hB))
  go_ret2
  exact ⟨_, rfl, Kd.R_nil _ _ _ _ _, bsp HB.out HB2.out⟩
 ·have h1 := hall2 ⟨V, by omega⟩ (by show 62 < V; omega)
  have hp1 := eq_false (show ¬ 65536 < wrap64 (2 ^ min V 64) by rw [hm]; show ¬ 65536 < wrap64 (2 ^ V); have h2 : wrap64 (2 ^ V) ≤ 65536 := h1; omega)
  have hp2 : decide (65536 < wrap64 (2 ^ min V 64)) = false := dff (of_eq_false hp1)
  have hp3 := eq_true (show 62 < (V : Int) by omega)
  have hp4 : decide (62 < (V : Int)) = true := det (by omega)
  clear hr0_1 hc0_1 hck hV hV2 hall hall2 h h1 hm
  go_enter Try.func26, Try.ntmps26
  go_wp2_with (first | ((with_reducible refine gate_dst (N := 1) rfl ?_); refine box_event ?hg (N := 1) ?hd (cs := #[.int .i64 V, .slice A0_1 l0_1.length c0_1]) (t := 31) ?hr ?_; (case hd => rfl); (case hg => rfl); (case hr => (go_simp; done)); intro gb hgb w1 hbox hb; have HGB := ak (show w.heap.size ≤ gb by omega); have HBK := ak hbox; have HB := ak hb; clear hgb; have hcz0 : w1.cell? ⟨gb, 0, none⟩ = some (.int .i64 V) := (kce hbox 0).trans rfl; have hcz1 : w1.cell? ⟨gb, 1, none⟩ = some (.slice A0_1 l0_1.length c0_1) := (kce hbox 1).trans rfl; clear hbox hb) | (go_at_call 22; (with_reducible refine (peel_Check.calls (V : Int) A0_1 c0_1 l0_1 0 w1 (Kd.C_below HR.out HB.out) HC.out HCK.out).mono ?_); rintro e w2 ⟨rfl, hB⟩; have HB2 := ak hB; replace hcz0 := cbl hcz0 hB; replace hcz1 := cbl hcz1 hB; have HBK2 := ak (blk_grown HBK.out (grown_of_below hB none) (by simp)); clear hB))
  go_ret2
  exact ⟨_, rfl, Kd.R_nil _ _ _ _ _, bsp HB.out HB2.out⟩
theorem peel_Smallest.calls (a0_0 : Int) (A0_1 : Option Addr) (c0_1 : Nat) (l0_1 : List (List Int)) (r1 : List Int) (r2 : Int) (w : World) (hr0_1 : Kd.C (Kd.slice 3 (Kd.int .i64)) w A0_1 l0_1.length l0_1) (hc0_1 : l0_1.length ≤ c0_1) (h : peel_Smallest.f a0_0 l0_1 = some (r1, r2)) :
  Calls Try.prog 26 #[.agg #[.int .i64 a0_0, .slice A0_1 l0_1.length c0_1]] w fun e w' => ∃ v0_ : Value, e = .returned (.tuple #[v0_, .int .i64 r2]) ∧ Kd.R (Kd.int .i64) 3 w' w.heap.size (fun _ => True) v0_ r1 ∧ Below w.heap.size w w' := by
 unfold peel_Smallest.f at h
 obtain ⟨e, he, h⟩ := Option.bind_eq_some_iff.1 h
 by_cases h0 : e = 0
 ·rw [if_pos h0] at h
  subst h0
  have hz := check_zero he
  obtain ⟨V, rfl⟩ := Int.eq_ofNat_of_zero_le (show 0 ≤ a0_0 by omega)
  by_cases h1 : (V : Int) > 16
  ·rw [if_pos h1] at h
   have h := osi h
   injection h with ha hb
   subst ha hb
   exact smallest_big V A0_1 c0_1 l0_1 w hr0_1 hc0_1 he (by omega) (by omega)
  ·rw [if_neg h1, Int.toNat_natCast] at h
   cases hf : firstSize V l0_1 V 1 with
   | some r =>
    rw [hf] at h
    obtain ⟨l, hl, hp⟩ := Option.map_eq_some_iff.1 h
    injection hp with ha hb
    subst ha hb
    exact smallest_ok V A0_1 c0_1 l0_1 w hr0_1 hc0_1 he (by omega) _ hf l 0 (fun r' hr' => by injection hr' with hr'; subst hr'; exact ⟨rfl, hl⟩) (fun hn => by simp at hn)
   | none =>
    rw [hf] at h
    have h := osi h
    injection h with ha hb
    subst ha hb
    exact smallest_ok V A0_1 c0_1 l0_1 w hr0_1 hc0_1 he (by omega) _ hf [] 11 (fun r' hr' => by simp at hr') (fun _ => ⟨rfl, rfl⟩)
 ·rw [if_neg h0] at h
  have h := osi h
  injection h with ha hb
  subst ha hb
  exact smallest_err a0_0 A0_1 c0_1 l0_1 w hr0_1 hc0_1 e he h0
end Go.Proofs.Ytkifipakikbhcaa.Hand
namespace Go.Proofs.Ytkifipakikbhcaa.Pk
open Ytkifipakikbhcaa.Ref Ytkifipakikbhcaa.Pg Ytkifipakikbhcaa.Hand
open Go.RowKit YtkifipakikbhcaaW.PrintWords YtkifipakikbhcaaW.PrintLast YtkifipakikbhcaaW.PrintMore
def rd_L1 (xs : List (List Int)) (i : Int) : (List Int) := xs.getD i.toNat ([] : List Int)
def peel_Girth.l0 : Nat → List (List Int) → Int → Int → Int → Option (Int × Int)
 | 0, _, _, _, _ => none
 | k + 1, x5, x6, x17, x18 => if x18 < x17 then ((peel_around.f k x5 x18).bind fun t106 => (if t106 > 0 then (if x6 = 0 then (peel_Girth.l0 k x5 t106 x17 (wrap64 (x18 + 1))) else (if t106 < x6 then (peel_Girth.l0 k x5 t106 x17 (wrap64 (x18 + 1))) else (peel_Girth.l0 k x5 x6 x17 (wrap64 (x18 + 1))))) else (peel_Girth.l0 k x5 x6 x17 (wrap64 (x18 + 1))))) else (some (x6, 0))
def peel_Girth.f (k : Nat) (a0_0 : Int) (l0_1 : List (List Int)) : Option (Int × Int) := (peel_Check.f a0_0 l0_1).bind fun t102 => (if t102 = 0 then ((peel_neighbors.f k a0_0 l0_1).bind fun t103 => (peel_Girth.l0 k t103 0 a0_0 0)) else (some (0, t102)))
theorem peel_Girth.calls (k : Nat) (a0_0 : Int) (A0_1 : Option Addr) (c0_1 : Nat) (l0_1 : List (List Int)) (r1 : Int) (r2 : Int) (w : World) (hr0_1 : Kd.C (Kd.slice 3 (Kd.int .i64)) w A0_1 l0_1.length l0_1) (hc0_1 : l0_1.length ≤ c0_1) (h : peel_Girth.f k a0_0 l0_1 = some (r1, r2)) :
  Calls Try.prog 18 #[.agg #[.int .i64 a0_0, .slice A0_1 l0_1.length c0_1]] w fun e w' => e = .returned (.tuple #[.int .i64 r1, .int .i64 r2]) ∧ Below w.heap.size w w' := by
 have hu31 := Try.underlying31
 have HR0_1 := ak hr0_1
 have HC0_1 := ak hc0_1
 clear hr0_1 hc0_1
 have HB := ak (Below.refl w.heap.size w)
 have H : ((peel_Check.f a0_0 l0_1).bind fun t102 => (if t102 = 0 then ((peel_neighbors.f k a0_0 l0_1).bind fun t103 => (peel_Girth.l0 k t103 0 a0_0 0)) else (some (0, t102)))) = some (r1, r2) := h
 clear h
 replace H := obm H
 obtain ⟨t102, A20, H⟩ := H
 replace H : (if t102 = 0 then ((peel_neighbors.f k a0_0 l0_1).bind fun t103 => (peel_Girth.l0 k t103 0 a0_0 0)) else (some (0, t102))) = some (r1, r2) := H
 have A2 := ak A20
 clear A20
 by_cases c3 : t102 = 0
 ·rw [if_pos c3] at H
  have c3b0 : (t102 == 0) = true := beq_iff_eq.mpr c3
  have c3b1 : (t102 != 0) = false := bnm c3
  clear c3
  replace H := obm H
  obtain ⟨t103, A40, H⟩ := H
  replace H : (peel_Girth.l0 k t103 0 a0_0 0) = some (r1, r2) := H
  have A4 := ak A40
  clear A40
  have H' := ak H
  clear H
  go_enter Try.func18, Try.ntmps18
  go_wp2_with (first | ((with_reducible refine gate_dst (N := 1) rfl ?_); refine box_event ?hg (N := 1) ?hd (cs := #[.int .i64 a0_0, .slice A0_1 l0_1.length c0_1]) (t := 31) ?hr ?_; (case hd => rfl); (case hg => rfl); (case hr => first | (go_simp; done) | (go_simp; rfl)); intro gb101 hg w5 hbox hb; have n0_ := ak (bsp HB.out hb); have n1_ := ak (hbox); have n2_ := ak ((by rw [hg]; exact (bsz HB.out) : w.heap.size ≤ gb101)); have n3_ := ak ((by rw [hg]; exact (bsz HB.out) : w.heap.size ≤ gb101)); clear HB; have HB := n0_; have BK101 := n1_; have GW101 := n2_; have GE101 := n3_; clear n0_ n1_ n2_ n3_; clear hb hbox hg; have hcz6_0 : w5.cell? ⟨gb101, 0, none⟩ = some (.int .i64 a0_0) := (kce BK101.out 0).trans rfl; have hcz6_1 : w5.cell? ⟨gb101, 1, none⟩ = some (.slice A0_1 l0_1.length c0_1) := (kce BK101.out 1).trans rfl) | ((with_reducible refine gate_callee (f := 22) rfl ?_); refine goesL_ (some 10) rfl rfl Try.func22 (by kernel_rfl) rfl #[.agg #[.int .i64 a0_0, .slice A0_1 l0_1.length c0_1]] rfl (by (try simp only [List.map_toArray, List.map_cons, List.map_nil]); first | done | rfl) ?_; (with_reducible refine (peel_Check.calls a0_0 _ _ l0_1 t102 _ ?side1 ?side2 A2.out).mono ?_); (case side1 => repeat (first | exact (Kd.C_below HR0_1.out HB.out) | (with_reducible refine Kd.C_alloc ?_ _) | (with_reducible refine Kd.C_drewN ?_ _) | (with_reducible refine Kd.C_drew ?_))); (case side2 => exact HC0_1.out); rintro e w7 ⟨rfl, hb⟩; refine ⟨_, rfl, ?_⟩; have n0_ := ak (kbe BK101.out hb); have n1_ := ak (bsp HB.out hb); clear BK101 HB; have BK101 := n0_; have HB := n1_; clear n0_ n1_; have hcz8_0 : w7.cell? ⟨gb101, 0, none⟩ = some (.int .i64 a0_0) := (kce BK101.out 0).trans rfl; have hcz8_1 : w7.cell? ⟨gb101, 1, none⟩ = some (.slice A0_1 l0_1.length c0_1) := (kce BK101.out 1).trans rfl) | ((with_reducible refine gate_callee (f := 45) rfl ?_); refine goesL_ (some 15) rfl rfl Try.func45 (by kernel_rfl) rfl #[.agg #[.int .i64 a0_0, .slice A0_1 l0_1.length c0_1]] rfl (by (try simp only [List.map_toArray, List.map_cons, List.map_nil]); first | done | rfl) ?_; (with_reducible refine (peel_neighbors.calls k a0_0 _ _ l0_1 t103 _ ?side1 ?side2 A4.out).mono ?_); (case side1 => repeat (first | exact (Kd.C_below HR0_1.out HB.out) | (with_reducible refine Kd.C_alloc ?_ _) | (with_reducible refine Kd.C_drewN ?_ _) | (with_reducible refine Kd.C_drew ?_))); (case side2 => exact HC0_1.out); rintro e w9 ⟨v104, rfl, ho0, hb⟩; refine ⟨_, rfl, ?_⟩; have n0_ := ak (Kd.S_lower ho0 (bsz HB.out)); have n1_ := ak (kbe BK101.out hb); have n2_ := ak (bsp HB.out hb); clear BK101 HB; have HO105 := n0_; have BK101 := n1_; have HB := n2_; clear n0_ n1_ n2_; (try clear ho0); have hcz10_0 : w9.cell? ⟨gb101, 0, none⟩ = some (.int .i64 a0_0) := (kce BK101.out 0).trans rfl; have hcz10_1 : w9.cell? ⟨gb101, 1, none⟩ = some (.slice A0_1 l0_1.length c0_1) := (kce BK101.out 1).trans rfl))
  go_loopg [6, 18] k (fun kq v6 v18 w' => ∃ (x6_1 : Int) (x18_1 : Int), v6 = .int .i64 x6_1 ∧ v18 = .int .i64 x18_1 ∧ Aside0 (peel_Girth.l0 kq t103 x6_1 a0_0 x18_1 = some (r1, r2)) ∧ Aside0 (kq ≤ k) ∧ Aside0 (Kd.S (Kd.slice 3 (Kd.int .i64)) 22 w' w.heap.size (fun _ => True) v104 t103) ∧ Aside0 (w'.heap[gb101]? = some (.cells #[.int .i64 a0_0, (.slice A0_1 l0_1.length c0_1)] 31 (0, 0))) ∧ Aside0 (Below w.heap.size w w'))
  case atStart => exact ⟨(0), (0), (by first | rfl | (simp; done) | (simp [*]; done)), (by first | rfl | (simp; done) | (simp [*]; done)), H', ⟨Nat.le_refl _⟩, ⟨by (with_reducible repeat (first | apply Kd.S_alloc | apply Kd.S_drewN | apply Kd.S_drew)); exact HO105.out⟩, ⟨by (with_reducible repeat (first | refine kdn ?_ _ | refine kdr ?_ | refine kal ?_ _)); exact BK101.out⟩, ⟨by repeat (first | (with_reducible first | exact HB.out | apply bal | apply pbn | apply bd1 | refine bst ?_ GE101.out) | exact HB.out)⟩⟩
  case round =>
   clear H'
   try (clear c3b0)
   try (clear c3b1)
   try (clear hcz10_0)
   try (clear hcz10_1)
   try (clear hcz6_0)
   try (clear hcz6_1)
   try (clear hcz8_0)
   try (clear hcz8_1)
   obtain ⟨x6_1, x18_1, rfl, rfl, HA, HK1, HO_5, BK101, HB⟩ := hrel
   cases gk with
   | zero => exact absurd HA.out (by simp [peel_Girth.l0])
   | succ k1 =>
    have H := HA.out
    clear HA
    simp only [peel_Girth.l0] at H
    by_cases c11 : x18_1 < a0_0
    ·rw [if_pos c11] at H
     have c11b0 : decide (x18_1 < a0_0) = true := det c11
     clear c11
     replace H := obm H
     obtain ⟨t106, A120, H⟩ := H
     replace H : (if t106 > 0 then (if x6_1 = 0 then (peel_Girth.l0 k1 t103 t106 a0_0 (wrap64 (x18_1 + 1))) else (if t106 < x6_1 then (peel_Girth.l0 k1 t103 t106 a0_0 (wrap64 (x18_1 + 1))) else (peel_Girth.l0 k1 t103 x6_1 a0_0 (wrap64 (x18_1 + 1))))) else (peel_Girth.l0 k1 t103 x6_1 a0_0 (wrap64 (x18_1 + 1)))) = some (r1, r2) := H
     have A12 := ak A120
     clear A120
     by_cases c13 : t106 > 0
     ·rw [if_pos c13] at H
      have c13b0 : decide (0 < t106) = true := det c13
      clear c13
      by_cases c14 : x6_1 = 0
      ·rw [if_pos c14] at H
       have c14b0 : (x6_1 == 0) = true := beq_iff_eq.mpr c14
       have c14b1 : (x6_1 != 0) = false := bnm c14
       clear c14
       have H' := ak H
       clear H
       obtain ⟨Ao15, co15, eo15⟩ := Kd.S_slice HO_5.out
       subst eo15
       go_wp2_with (first | ((with_reducible refine gate_callee (f := 46) rfl ?_); refine goesL_ (some 23) rfl rfl Try.func46 (by kernel_rfl) rfl #[.slice Ao15 t103.length co15, .int .i64 x18_1] rfl (by (try simp only [List.map_toArray, List.map_cons, List.map_nil]); first | done | rfl) ?_; (with_reducible refine (peel_around.calls k1 _ _ t103 x18_1 t106 _ ?side1 ?side2 A12.out).mono ?_); (case side1 => exact (Kd.S_reads' HO_5.out).2.2); (case side2 => exact (Kd.S_reads' HO_5.out).2.1); rintro e w16 ⟨rfl, hb⟩; refine ⟨_, rfl, ?_⟩; have n0_ := ak (Kd.S_below (by (with_reducible repeat (first | apply Kd.S_alloc | apply Kd.S_drewN | apply Kd.S_drew)); exact HO_5.out) hb); have n1_ := ak (kbe BK101.out hb); have n2_ := ak (bsp HB.out hb); clear HO_5 BK101 HB; have HO_5 := n0_; have BK101 := n1_; have HB := n2_; clear n0_ n1_ n2_; (try clear hb); (try clear hb2); (try clear hk); (try clear hi)))
       go_roundg k1
       case measure => have := HK1.out; omega
       case rel => exact ⟨(t106), (wrap64 (x18_1 + 1)), (by first | rfl | (simp; done) | (simp [*]; done)), (by first | rfl | (simp; done) | (simp [*]; done)), H', ⟨by have := HK1.out; omega⟩, ⟨by (with_reducible repeat (first | apply Kd.S_alloc | apply Kd.S_drewN | apply Kd.S_drew)); exact HO_5.out⟩, ⟨by (with_reducible repeat (first | refine kdn ?_ _ | refine kdr ?_ | refine kal ?_ _)); exact BK101.out⟩, ⟨by repeat (first | (with_reducible first | exact HB.out | apply bal | apply pbn | apply bd1 | refine bst ?_ GE101.out) | exact HB.out)⟩⟩
      ·rw [if_neg c14] at H
       have c14b0 : (x6_1 == 0) = false := bqm c14
       have c14b1 : (x6_1 != 0) = true := bne_iff_ne.mpr c14
       by_cases c17 : t106 < x6_1
       ·rw [if_pos c17] at H
        have c17b0 : decide (t106 < x6_1) = true := det c17
        clear c17
        have H' := ak H
        clear H
        obtain ⟨Ao18, co18, eo18⟩ := Kd.S_slice HO_5.out
        subst eo18
        go_wp2_with (first | ((with_reducible refine gate_callee (f := 46) rfl ?_); refine goesL_ (some 23) rfl rfl Try.func46 (by kernel_rfl) rfl #[.slice Ao18 t103.length co18, .int .i64 x18_1] rfl (by (try simp only [List.map_toArray, List.map_cons, List.map_nil]); first | done | rfl) ?_; (with_reducible refine (peel_around.calls k1 _ _ t103 x18_1 t106 _ ?side1 ?side2 A12.out).mono ?_); (case side1 => exact (Kd.S_reads' HO_5.out).2.2); (case side2 => exact (Kd.S_reads' HO_5.out).2.1); rintro e w19 ⟨rfl, hb⟩; refine ⟨_, rfl, ?_⟩; have n0_ := ak (Kd.S_below (by (with_reducible repeat (first | apply Kd.S_alloc | apply Kd.S_drewN | apply Kd.S_drew)); exact HO_5.out) hb); have n1_ := ak (kbe BK101.out hb); have n2_ := ak (bsp HB.out hb); clear HO_5 BK101 HB; have HO_5 := n0_; have BK101 := n1_; have HB := n2_; clear n0_ n1_ n2_; (try clear hb); (try clear hb2); (try clear hk); (try clear hi)))
        go_roundg k1
        case measure => have := HK1.out; omega
        case rel => exact ⟨(t106), (wrap64 (x18_1 + 1)), (by first | rfl | (simp; done) | (simp [*]; done)), (by first | rfl | (simp; done) | (simp [*]; done)), H', ⟨by have := HK1.out; omega⟩, ⟨by (with_reducible repeat (first | apply Kd.S_alloc | apply Kd.S_drewN | apply Kd.S_drew)); exact HO_5.out⟩, ⟨by (with_reducible repeat (first | refine kdn ?_ _ | refine kdr ?_ | refine kal ?_ _)); exact BK101.out⟩, ⟨by repeat (first | (with_reducible first | exact HB.out | apply bal | apply pbn | apply bd1 | refine bst ?_ GE101.out) | exact HB.out)⟩⟩
       ·rw [if_neg c17] at H
        have c17b0 : decide (t106 < x6_1) = false := dff c17
        clear c17
        have H' := ak H
        clear H
        obtain ⟨Ao20, co20, eo20⟩ := Kd.S_slice HO_5.out
        subst eo20
        go_wp2_with (first | ((with_reducible refine gate_callee (f := 46) rfl ?_); refine goesL_ (some 23) rfl rfl Try.func46 (by kernel_rfl) rfl #[.slice Ao20 t103.length co20, .int .i64 x18_1] rfl (by (try simp only [List.map_toArray, List.map_cons, List.map_nil]); first | done | rfl) ?_; (with_reducible refine (peel_around.calls k1 _ _ t103 x18_1 t106 _ ?side1 ?side2 A12.out).mono ?_); (case side1 => exact (Kd.S_reads' HO_5.out).2.2); (case side2 => exact (Kd.S_reads' HO_5.out).2.1); rintro e w21 ⟨rfl, hb⟩; refine ⟨_, rfl, ?_⟩; have n0_ := ak (Kd.S_below (by (with_reducible repeat (first | apply Kd.S_alloc | apply Kd.S_drewN | apply Kd.S_drew)); exact HO_5.out) hb); have n1_ := ak (kbe BK101.out hb); have n2_ := ak (bsp HB.out hb); clear HO_5 BK101 HB; have HO_5 := n0_; have BK101 := n1_; have HB := n2_; clear n0_ n1_ n2_; (try clear hb); (try clear hb2); (try clear hk); (try clear hi)))
        go_roundg k1
        case measure => have := HK1.out; omega
        case rel => exact ⟨(x6_1), (wrap64 (x18_1 + 1)), (by first | rfl | (simp; done) | (simp [*]; done)), (by first | rfl | (simp; done) | (simp [*]; done)), H', ⟨by have := HK1.out; omega⟩, ⟨by (with_reducible repeat (first | apply Kd.S_alloc | apply Kd.S_drewN | apply Kd.S_drew)); exact HO_5.out⟩, ⟨by (with_reducible repeat (first | refine kdn ?_ _ | refine kdr ?_ | refine kal ?_ _)); exact BK101.out⟩, ⟨by repeat (first | (with_reducible first | exact HB.out | apply bal | apply pbn | apply bd1 | refine bst ?_ GE101.out) | exact HB.out)⟩⟩
     ·rw [if_neg c13] at H
      have c13b0 : decide (0 < t106) = false := dff c13
      clear c13
      have H' := ak H
      clear H
      obtain ⟨Ao22, co22, eo22⟩ := Kd.S_slice HO_5.out
      subst eo22
      go_wp2_with (first | ((with_reducible refine gate_callee (f := 46) rfl ?_); refine goesL_ (some 23) rfl rfl Try.func46 (by kernel_rfl) rfl #[.slice Ao22 t103.length co22, .int .i64 x18_1] rfl (by (try simp only [List.map_toArray, List.map_cons, List.map_nil]); first | done | rfl) ?_; (with_reducible refine (peel_around.calls k1 _ _ t103 x18_1 t106 _ ?side1 ?side2 A12.out).mono ?_); (case side1 => exact (Kd.S_reads' HO_5.out).2.2); (case side2 => exact (Kd.S_reads' HO_5.out).2.1); rintro e w23 ⟨rfl, hb⟩; refine ⟨_, rfl, ?_⟩; have n0_ := ak (Kd.S_below (by (with_reducible repeat (first | apply Kd.S_alloc | apply Kd.S_drewN | apply Kd.S_drew)); exact HO_5.out) hb); have n1_ := ak (kbe BK101.out hb); have n2_ := ak (bsp HB.out hb); clear HO_5 BK101 HB; have HO_5 := n0_; have BK101 := n1_; have HB := n2_; clear n0_ n1_ n2_; (try clear hb); (try clear hb2); (try clear hk); (try clear hi)))
      go_roundg k1
      case measure => have := HK1.out; omega
      case rel => exact ⟨(x6_1), (wrap64 (x18_1 + 1)), (by first | rfl | (simp; done) | (simp [*]; done)), (by first | rfl | (simp; done) | (simp [*]; done)), H', ⟨by have := HK1.out; omega⟩, ⟨by (with_reducible repeat (first | apply Kd.S_alloc | apply Kd.S_drewN | apply Kd.S_drew)); exact HO_5.out⟩, ⟨by (with_reducible repeat (first | refine kdn ?_ _ | refine kdr ?_ | refine kal ?_ _)); exact BK101.out⟩, ⟨by repeat (first | (with_reducible first | exact HB.out | apply bal | apply pbn | apply bd1 | refine bst ?_ GE101.out) | exact HB.out)⟩⟩
    ·rw [if_neg c11] at H
     have c11b0 : decide (x18_1 < a0_0) = false := dff c11
     clear c11
     simp only [Option.some.injEq, Prod.mk.injEq] at H
     obtain ⟨rfl, rfl⟩ := H
     go_wp2
     go_ret2
     exact ⟨by first | rfl | (simp <;> rfl) | (simp [*] <;> rfl), by repeat (first | (with_reducible first | exact HB.out | apply bal | apply pbn | apply bd1 | refine bst ?_ GE101.out) | exact HB.out)⟩
 ·rw [if_neg c3] at H
  have c3b0 : (t102 == 0) = false := bqm c3
  have c3b1 : (t102 != 0) = true := bne_iff_ne.mpr c3
  simp only [Option.some.injEq, Prod.mk.injEq] at H
  obtain ⟨rfl, rfl⟩ := H
  go_enter Try.func18, Try.ntmps18
  go_wp2_with (first | ((with_reducible refine gate_dst (N := 1) rfl ?_); refine box_event ?hg (N := 1) ?hd (cs := #[.int .i64 a0_0, .slice A0_1 l0_1.length c0_1]) (t := 31) ?hr ?_; (case hd => rfl); (case hg => rfl); (case hr => first | (go_simp; done) | (go_simp; rfl)); intro gb101 hg w24 hbox hb; have n0_ := ak (bsp HB.out hb); have n1_ := ak (hbox); have n2_ := ak ((by rw [hg]; exact (bsz HB.out) : w.heap.size ≤ gb101)); have n3_ := ak ((by rw [hg]; exact (bsz HB.out) : w.heap.size ≤ gb101)); clear HB; have HB := n0_; have BK101 := n1_; have GW101 := n2_; have GE101 := n3_; clear n0_ n1_ n2_ n3_; clear hb hbox hg; have hcz25_0 : w24.cell? ⟨gb101, 0, none⟩ = some (.int .i64 a0_0) := (kce BK101.out 0).trans rfl; have hcz25_1 : w24.cell? ⟨gb101, 1, none⟩ = some (.slice A0_1 l0_1.length c0_1) := (kce BK101.out 1).trans rfl) | ((with_reducible refine gate_callee (f := 22) rfl ?_); refine goesL_ (some 10) rfl rfl Try.func22 (by kernel_rfl) rfl #[.agg #[.int .i64 a0_0, .slice A0_1 l0_1.length c0_1]] rfl (by (try simp only [List.map_toArray, List.map_cons, List.map_nil]); first | done | rfl) ?_; (with_reducible refine (peel_Check.calls a0_0 _ _ l0_1 t102 _ ?side1 ?side2 A2.out).mono ?_); (case side1 => repeat (first | exact (Kd.C_below HR0_1.out HB.out) | (with_reducible refine Kd.C_alloc ?_ _) | (with_reducible refine Kd.C_drewN ?_ _) | (with_reducible refine Kd.C_drew ?_))); (case side2 => exact HC0_1.out); rintro e w26 ⟨rfl, hb⟩; refine ⟨_, rfl, ?_⟩; have n0_ := ak (kbe BK101.out hb); have n1_ := ak (bsp HB.out hb); clear BK101 HB; have BK101 := n0_; have HB := n1_; clear n0_ n1_; (try clear hb); (try clear hb2); (try clear hk); (try clear hi)))
  go_ret2
  exact ⟨by first | rfl | (simp <;> rfl) | (simp [*] <;> rfl), by repeat (first | (with_reducible first | exact HB.out | apply bal | apply pbn | apply bd1 | refine bst ?_ GE101.out) | exact HB.out)⟩
def peel_Stopping.f (k : Nat) (a0_0 : Int) (l0_1 : List (List Int)) (l1 : List Int) : Option (Bool × Int) := (peel_Check.f a0_0 l0_1).bind fun t108 => (if t108 = 0 then ((peel_set.f k l1 a0_0).bind fun t109 => (if t109 = true then ((peel_mask.f k a0_0 l0_1 l1).bind fun t110 => ((peel_alone.f a0_0 l0_1 t110).bind fun t113 => (some (decide (t113 < 0), 0)))) else (some (false, 6)))) else (some (false, t108)))
def peel_Stopping.T6 : Bool × List (List Nat × List Nat) := (true, [([], []), ([], []), ([], []), ([1, 2], [1, 2]), ([0, 3, 3], [0, 3]), ([4], [4]), ([5, 4, 0, 1, 2, 3, 4, 5], [5]), ([6, 0, 1, 2, 3, 4, 5, 6], [])])
def peel_Stopping.B6 : List Nat := [0, 0, 0, 6, 15, 31, 63, 127]
theorem peel_Stopping.tab6 : rtab .any (opsOf Try.f20 6) = peel_Stopping.T6 := by kernel_rfl
theorem peel_Stopping.bits6 : waitsOk peel_Stopping.T6.2 peel_Stopping.B6 = true := by kernel_rfl
theorem peel_Stopping.calls (k : Nat) (a0_0 : Int) (A0_1 : Option Addr) (c0_1 : Nat) (l0_1 : List (List Int)) (A1 : Option Addr) (c1 : Nat) (l1 : List Int) (r1 : Bool) (r2 : Int) (w : World) (hr0_1 : Kd.C (Kd.slice 3 (Kd.int .i64)) w A0_1 l0_1.length l0_1) (hc0_1 : l0_1.length ≤ c0_1) (hr1 : Kd.C (Kd.int .i64) w A1 l1.length l1) (hc1 : l1.length ≤ c1) (h : peel_Stopping.f k a0_0 l0_1 l1 = some (r1, r2)) :
  Calls Try.prog 20 #[.agg #[.int .i64 a0_0, .slice A0_1 l0_1.length c0_1], .slice A1 l1.length c1] w fun e w' => e = .returned (.tuple #[.bool r1, .int .i64 r2]) ∧ Below w.heap.size w w' := by
 have hu31 := Try.underlying31
 have HR0_1 := ak hr0_1
 have HC0_1 := ak hc0_1
 clear hr0_1 hc0_1
 have HR1 := ak hr1
 have HC1 := ak hc1
 clear hr1 hc1
 have HB := ak (Below.refl w.heap.size w)
 have H : ((peel_Check.f a0_0 l0_1).bind fun t108 => (if t108 = 0 then ((peel_set.f k l1 a0_0).bind fun t109 => (if t109 = true then ((peel_mask.f k a0_0 l0_1 l1).bind fun t110 => ((peel_alone.f a0_0 l0_1 t110).bind fun t113 => (some (decide (t113 < 0), 0)))) else (some (false, 6)))) else (some (false, t108)))) = some (r1, r2) := h
 clear h
 replace H := obm H
 obtain ⟨t108, A30, H⟩ := H
 replace H : (if t108 = 0 then ((peel_set.f k l1 a0_0).bind fun t109 => (if t109 = true then ((peel_mask.f k a0_0 l0_1 l1).bind fun t110 => ((peel_alone.f a0_0 l0_1 t110).bind fun t113 => (some (decide (t113 < 0), 0)))) else (some (false, 6)))) else (some (false, t108))) = some (r1, r2) := H
 have A3 := ak A30
 clear A30
 by_cases c4 : t108 = 0
 ·rw [if_pos c4] at H
  have c4b0 : (t108 == 0) = true := beq_iff_eq.mpr c4
  have c4b1 : (t108 != 0) = false := bnm c4
  clear c4
  replace H := obm H
  obtain ⟨t109, A50, H⟩ := H
  replace H : (if t109 = true then ((peel_mask.f k a0_0 l0_1 l1).bind fun t110 => ((peel_alone.f a0_0 l0_1 t110).bind fun t113 => (some (decide (t113 < 0), 0)))) else (some (false, 6))) = some (r1, r2) := H
  have A5 := ak A50
  clear A50
  by_cases c6 : t109 = true
  ·subst c6
   have H1 : ((peel_mask.f k a0_0 l0_1 l1).bind fun t110 => ((peel_alone.f a0_0 l0_1 t110).bind fun t113 => (some (decide (t113 < 0), 0)))) = some (r1, r2) := by rw [if_pos rfl] at H; exact H
   clear H
   have H := H1
   clear H1
   replace H := obm H
   obtain ⟨t110, A70, H⟩ := H
   replace H : ((peel_alone.f a0_0 l0_1 t110).bind fun t113 => (some (decide (t113 < 0), 0))) = some (r1, r2) := H
   have A7 := ak A70
   clear A70
   replace H := obm H
   obtain ⟨t113, A80, H⟩ := H
   replace H : (some (decide (t113 < 0), 0)) = some (r1, r2) := H
   have A8 := ak A80
   clear A80
   simp only [Option.some.injEq, Prod.mk.injEq] at H
   obtain ⟨rfl, rfl⟩ := H
   go_enter Try.func20, Try.ntmps20
   try go_wp2_with (first | ((with_reducible refine gate_dst (N := 2) rfl ?_); refine box_event ?hg (N := 2) ?hd (cs := #[.int .i64 a0_0, .slice A0_1 l0_1.length c0_1]) (t := 31) ?hr ?_; (case hd => rfl); (case hg => rfl); (case hr => first | (go_simp; done) | (go_simp; rfl)); intro gb107 hg w9 hbox hb; have n0_ := ak (bsp (by repeat (first | (with_reducible first | exact HB.out | apply bal | apply pbn | apply bd1) | exact HB.out)) hb); have n1_ := ak (hbox); have n2_ := ak ((by rw [hg]; exact (bsz (by repeat (first | (with_reducible first | exact HB.out | apply bal | apply pbn | apply bd1) | exact HB.out))) : w.heap.size ≤ gb107)); have n3_ := ak ((by rw [hg]; exact (bsz (by repeat (first | (with_reducible first | exact HB.out | apply bal | apply pbn | apply bd1) | exact HB.out))) : w.heap.size ≤ gb107)); clear HB; have HB := n0_; have BK107 := n1_; have GW107 := n2_; have GE107 := n3_; clear n0_ n1_ n2_ n3_; clear hb hbox hg; have hcz10_0 : w9.cell? ⟨gb107, 0, none⟩ = some (.int .i64 a0_0) := (kce BK107.out 0).trans rfl; have hcz10_1 : w9.cell? ⟨gb107, 1, none⟩ = some (.slice A0_1 l0_1.length c0_1) := (kce BK107.out 1).trans rfl; have hfz10_0 := kfz BK107.out 0; have hfz10_1 := kfz BK107.out 1) | ((with_reducible refine gate_callee (f := 22) rfl ?_); refine goesL_ (some 8) rfl rfl Try.func22 (by kernel_rfl) rfl #[.agg #[.int .i64 a0_0, .slice A0_1 l0_1.length c0_1]] rfl (by (try simp only [List.map_toArray, List.map_cons, List.map_nil]); first | done | rfl | (simp only [List.length_drop, List.length_take]; rfl)) ?_; (with_reducible refine (peel_Check.calls a0_0 _ _ l0_1 t108 _ ?side1 ?side2 A3.out).mono ?_); (case side1 => repeat (first | exact (Kd.C_below HR0_1.out HB.out) | (with_reducible refine Kd.C_alloc ?_ _) | (with_reducible refine Kd.C_drewN ?_ _) | (with_reducible refine Kd.C_drew ?_))); (case side2 => exact HC0_1.out); rintro e w11 ⟨rfl, hb⟩; refine ⟨_, rfl, ?_⟩; have n0_ := ak (kbe (g := gb107) (o := .cells #[.int .i64 a0_0, .slice A0_1 l0_1.length c0_1] 31 (0, 0)) (by (with_reducible repeat (first | refine kdn ?_ _ | refine kdr ?_ | refine kal ?_ _)); exact BK107.out) hb); have n1_ := ak (bsp (by repeat (first | (with_reducible first | exact HB.out | apply bal | apply pbn | apply bd1 | refine bst ?_ GE107.out) | exact HB.out)) hb); clear BK107 HB; have BK107 := n0_; have HB := n1_; clear n0_ n1_; (try clear hb); (try clear hb2); (try clear hk); (try clear hi); have hcz12_0 : w11.cell? ⟨gb107, 0, none⟩ = some (.int .i64 a0_0) := (kce BK107.out 0).trans rfl; have hcz12_1 : w11.cell? ⟨gb107, 1, none⟩ = some (.slice A0_1 l0_1.length c0_1) := (kce BK107.out 1).trans rfl; have hfz12_0 := kfz BK107.out 0; have hfz12_1 := kfz BK107.out 1) | ((with_reducible refine gate_callee (f := 48) rfl ?_); refine goesL_ (some 15) rfl rfl Try.func48 (by kernel_rfl) rfl #[.slice A1 l1.length c1, .int .i64 a0_0] rfl (by (try simp only [List.map_toArray, List.map_cons, List.map_nil]); first | done | rfl | (simp only [List.length_drop, List.length_take]; rfl)) ?_; (with_reducible refine (peel_set.calls k _ _ l1 a0_0 true _ ?side1 ?side2 A5.out).mono ?_); (case side1 => repeat (first | exact (Kd.C_below HR1.out HB.out) | (with_reducible refine Kd.C_alloc ?_ _) | (with_reducible refine Kd.C_drewN ?_ _) | (with_reducible refine Kd.C_drew ?_))); (case side2 => exact HC1.out); rintro e w' ⟨rfl, ⟨nd, rfl⟩⟩; refine ⟨_, rfl, ?_⟩))
   (try (rw [drewN_self w11]; generalize hq_ : World.drewN w11 _ = w11; have n0_ : Aside0 (w11.heap[gb107]? = some (.cells #[.int .i64 a0_0, .slice A0_1 l0_1.length c0_1] 31 (0, 0))) := ⟨by rw [← hq_]; exact (by (with_reducible repeat (first | refine kdn ?_ _ | refine kdr ?_ | refine kal ?_ _)); exact BK107.out)⟩; have n1_ : Aside0 (Below w.heap.size w w11) := ⟨by rw [← hq_]; exact (by repeat (first | (with_reducible first | exact HB.out | apply bal | apply pbn | apply bd1 | refine bst ?_ GE107.out) | exact HB.out))⟩; clear BK107 HB hq_; have BK107 := n0_; have HB := n1_; clear n0_ n1_))
   have n0_ := ak (kdr BK107.out)
   have n1_ := ak (bd1 HB.out)
   clear BK107
   clear HB
   have BK107 := n0_
   have HB := n1_
   clear n0_ n1_
   refine start_ (n := 8) (S := fun w' => w'.cell? ⟨gb107, 0, none⟩ = some (.int .i64 a0_0) ∧ w'.cell? ⟨gb107, 1, none⟩ = some (.slice A0_1 l0_1.length c0_1)) (ds := []) #[false, false, false, false, false, false, false, false] (by kernel_rfl) rfl rfl ⟨(kce BK107.out 0).trans rfl, (kce BK107.out 1).trans rfl⟩ (fun hHeld => ?_); refine with_tabW peel_Stopping.tab6 peel_Stopping.bits6 (fun HT_ HW_ => ?_)
   generalize w11.drew = w13 at BK107 HB hHeld ⊢
   refine pure_ (i := 2) (N := some 19) (v := ?_) (a' := ?_) #[false, false, true, false, false, false, false, false] rfl rfl (any_of HT_.out (by kernel_rfl)) (fun _ _ _ h => h) (Or.inl ⟨by rfl, ?_⟩) ?_ ?_
   rotate_left
   ·intro w'
    go_simp
    with_reducible rfl
   rotate_left
   ·simp only [Act.put, sia, scz, scs, i64_w, i32_w]
    rfl
   refine take_ (i := 0) (N := some 17) (v := ?_) (a' := ?_) #[true, false, true, false, false, false, false, false] rfl rfl (take_ofW HT_.out HW_.out (by kernel_rfl)) (fun _ _ _ h => h) (Or.inl ⟨by rfl, ?_⟩) hHeld ?_ ?_
   rotate_left
   ·rintro w' ⟨s0, s1⟩
    go_simp
    with_reducible rfl
   rotate_left
   ·simp only [Act.put, sia, scz, scs, i64_w, i32_w]
    rfl
   refine take_ (i := 1) (N := some 18) (v := ?_) (a' := ?_) #[true, true, true, false, false, false, false, false] rfl rfl (take_ofW HT_.out HW_.out (by kernel_rfl)) (fun _ _ _ h => h) (Or.inl ⟨by rfl, ?_⟩) hHeld ?_ ?_
   rotate_left
   ·rintro w' ⟨s0, s1⟩
    go_simp
    with_reducible rfl
   rotate_left
   ·simp only [Act.put, sia, scz, scs, i64_w, i32_w]
    rfl
   refine one_ (i := 3) (N := some 20) #[true, true, true, true, false, false, false, false] rfl rfl (one_of HT_.out (by kernel_rfl)) (by decide) (fun K hK => ?_)
   refine goes_ Try.func50 (by kernel_rfl) rfl #[.agg #[.int .i64 a0_0, .slice A0_1 l0_1.length c0_1], .slice A1 l1.length c1] (by rfl) rfl rfl (by (try (simp only [List.map_toArray, List.map_cons, List.map_nil])); rfl) ?_
   with_reducible refine (peel_mask.calls k a0_0 _ _ l0_1 _ _ l1 t110 _ ?side1 ?side2 ?side3 ?side4 A7.out).mono ?_
   (case side1 => repeat (first | exact (Kd.C_below HR0_1.out HB.out) | (with_reducible refine Kd.C_alloc ?_ _) | (with_reducible refine Kd.C_drewN ?_ _) | (with_reducible refine Kd.C_drew ?_)))
   (case side2 => exact HC0_1.out)
   (case side3 => repeat (first | exact (Kd.C_below HR1.out HB.out) | (with_reducible refine Kd.C_alloc ?_ _) | (with_reducible refine Kd.C_drewN ?_ _) | (with_reducible refine Kd.C_drew ?_)))
   (case side4 => exact HC1.out)
   rintro e w14 ⟨v111, rfl, ho0, hb⟩
   refine ⟨_, rfl, ?_⟩
   have n0_ := ak (Kd.R_lower ho0 (bsz (by repeat (first | (with_reducible first | exact HB.out | apply bal | apply pbn | apply bd1 | refine bst ?_ GE107.out) | exact HB.out))))
   have n1_ := ak (kbe (g := gb107) (o := .cells #[.int .i64 a0_0, .slice A0_1 l0_1.length c0_1] 31 (0, 0)) (by (with_reducible repeat (first | refine kdn ?_ _ | refine kdr ?_ | refine kal ?_ _)); exact BK107.out) hb)
   have n2_ := ak (bsp (by repeat (first | (with_reducible first | exact HB.out | apply bal | apply pbn | apply bd1 | refine bst ?_ GE107.out) | exact HB.out)) hb)
   clear BK107
   clear HB
   have HO112 := n0_
   have BK107 := n1_
   have HB := n2_
   clear n0_ n1_ n2_
   (try (clear hb))
   (try (clear ho0))
   obtain ⟨Ao15, co15, eo15⟩ := Kd.R_slice HO112.out
   (subst eo15)
   refine hK.out _ _ ⟨(kce BK107.out 0).trans rfl, (kce BK107.out 1).trans rfl⟩ (fun hHeld => ?_)
   clear hK K
   refine norm_ (a' := ?_) ?_ ?_
   rotate_left
   ·show Act.put _ (some 20) _ = _
    simp only [Act.put, sia, scz, scs, i64_w, i32_w]
    rfl
   refine one_ (i := 4) (N := some 21) #[true, true, true, true, true, false, false, false] rfl rfl (one_of HT_.out (by kernel_rfl)) (by decide) (fun K hK => ?_)
   refine goes_ Try.func49 (by kernel_rfl) rfl #[.agg #[.int .i64 a0_0, .slice A0_1 l0_1.length c0_1], .slice Ao15 t110.length co15] (by rfl) rfl rfl (by (try (simp only [List.map_toArray, List.map_cons, List.map_nil])); rfl) ?_
   with_reducible refine (peel_alone.calls a0_0 _ _ l0_1 _ _ t110 t113 _ ?side1 ?side2 ?side3 ?side4 A8.out).mono ?_
   (case side1 => repeat (first | exact (Kd.C_below HR0_1.out HB.out) | (with_reducible refine Kd.C_alloc ?_ _) | (with_reducible refine Kd.C_drewN ?_ _) | (with_reducible refine Kd.C_drew ?_)))
   (case side2 => exact HC0_1.out)
   (case side3 => repeat (first | exact (Kd.R_reads' HO112.out).2.2 | (with_reducible refine Kd.C_alloc ?_ _) | (with_reducible refine Kd.C_drewN ?_ _) | (with_reducible refine Kd.C_drew ?_)))
   (case side4 => exact (Kd.R_reads' HO112.out).2.1)
   rintro e w16 ⟨rfl, hb⟩
   refine ⟨_, rfl, ?_⟩
   have n0_ := ak (Kd.R_below (by (with_reducible repeat (first | apply Kd.R_alloc | apply Kd.R_drewN | apply Kd.R_drew)); exact HO112.out) hb)
   have n1_ := ak (kbe (g := gb107) (o := .cells #[.int .i64 a0_0, .slice A0_1 l0_1.length c0_1] 31 (0, 0)) (by (with_reducible repeat (first | refine kdn ?_ _ | refine kdr ?_ | refine kal ?_ _)); exact BK107.out) hb)
   have n2_ := ak (bsp (by repeat (first | (with_reducible first | exact HB.out | apply bal | apply pbn | apply bd1 | refine bst ?_ GE107.out) | exact HB.out)) hb)
   clear HO112
   clear BK107
   clear HB
   have HO112 := n0_
   have BK107 := n1_
   have HB := n2_
   clear n0_ n1_ n2_
   (try (clear hb))
   refine hK.out _ _ ⟨(kce BK107.out 0).trans rfl, (kce BK107.out 1).trans rfl⟩ (fun hHeld => ?_)
   clear hK K
   refine norm_ (a' := ?_) ?_ ?_
   rotate_left
   ·show Act.put _ (some 21) _ = _
    simp only [Act.put, sia, scz, scs, i64_w, i32_w]
    rfl
   refine pure_ (i := 5) (N := some 22) (v := ?_) (a' := ?_) #[true, true, true, true, true, true, false, false] rfl rfl (any_of HT_.out (by kernel_rfl)) (fun _ _ _ h => h) (Or.inl ⟨by rfl, ?_⟩) ?_ ?_
   rotate_left
   ·intro w'
    go_simp
    with_reducible rfl
   rotate_left
   ·simp only [Act.put, sia, scz, scs, i64_w, i32_w]
    rfl
   refine pure_ (i := 6) (N := some 4) (v := ?_) (a' := ?_) #[true, true, true, true, true, true, true, false] rfl rfl (any_of HT_.out (by kernel_rfl)) (fun _ _ _ h => h) (Or.inl ⟨by rfl, ?_⟩) ?_ ?_
   rotate_left
   ·intro w'
    go_simp
    with_reducible rfl
   rotate_left
   ·simp only [Act.put, sia, scz, scs, i64_w, i32_w]
    rfl
   refine pure_ (i := 7) (N := some 5) (v := ?_) (a' := ?_) #[true, true, true, true, true, true, true, true] rfl rfl (any_of HT_.out (by kernel_rfl)) (fun _ _ _ h => h) (Or.inl ⟨by rfl, ?_⟩) ?_ ?_
   rotate_left
   ·intro w'
    go_simp
    with_reducible rfl
   rotate_left
   ·simp only [Act.put, sia, scz, scs, i64_w, i32_w]
    rfl
   refine done_ (done_of HT_.out (by kernel_rfl)) ?_
   try (go_wp2)
   go_ret2
   exact ⟨by first | rfl | (simp <;> rfl) | (simp [*] <;> rfl), by repeat (first | (with_reducible first | exact HB.out | apply bal | apply pbn | apply bd1 | refine bst ?_ GE107.out) | exact HB.out)⟩
  ·replace c6 := Bool.eq_false_iff.mpr c6
   subst c6
   have H1 : (some (false, 6)) = some (r1, r2) := by rw [if_neg (show ¬ (false = true) by decide)] at H; exact H
   clear H
   have H := H1
   clear H1
   simp only [Option.some.injEq, Prod.mk.injEq] at H
   obtain ⟨rfl, rfl⟩ := H
   go_enter Try.func20, Try.ntmps20
   go_wp2_with (first | ((with_reducible refine gate_dst (N := 2) rfl ?_); refine box_event ?hg (N := 2) ?hd (cs := #[.int .i64 a0_0, .slice A0_1 l0_1.length c0_1]) (t := 31) ?hr ?_; (case hd => rfl); (case hg => rfl); (case hr => first | (go_simp; done) | (go_simp; rfl)); intro gb107 hg w17 hbox hb; have n0_ := ak (bsp (by repeat (first | (with_reducible first | exact HB.out | apply bal | apply pbn | apply bd1) | exact HB.out)) hb); have n1_ := ak (hbox); have n2_ := ak ((by rw [hg]; exact (bsz (by repeat (first | (with_reducible first | exact HB.out | apply bal | apply pbn | apply bd1) | exact HB.out))) : w.heap.size ≤ gb107)); have n3_ := ak ((by rw [hg]; exact (bsz (by repeat (first | (with_reducible first | exact HB.out | apply bal | apply pbn | apply bd1) | exact HB.out))) : w.heap.size ≤ gb107)); clear HB; have HB := n0_; have BK107 := n1_; have GW107 := n2_; have GE107 := n3_; clear n0_ n1_ n2_ n3_; clear hb hbox hg; have hcz18_0 : w17.cell? ⟨gb107, 0, none⟩ = some (.int .i64 a0_0) := (kce BK107.out 0).trans rfl; have hcz18_1 : w17.cell? ⟨gb107, 1, none⟩ = some (.slice A0_1 l0_1.length c0_1) := (kce BK107.out 1).trans rfl; have hfz18_0 := kfz BK107.out 0; have hfz18_1 := kfz BK107.out 1) | ((with_reducible refine gate_callee (f := 22) rfl ?_); refine goesL_ (some 8) rfl rfl Try.func22 (by kernel_rfl) rfl #[.agg #[.int .i64 a0_0, .slice A0_1 l0_1.length c0_1]] rfl (by (try simp only [List.map_toArray, List.map_cons, List.map_nil]); first | done | rfl | (simp only [List.length_drop, List.length_take]; rfl)) ?_; (with_reducible refine (peel_Check.calls a0_0 _ _ l0_1 t108 _ ?side1 ?side2 A3.out).mono ?_); (case side1 => repeat (first | exact (Kd.C_below HR0_1.out HB.out) | (with_reducible refine Kd.C_alloc ?_ _) | (with_reducible refine Kd.C_drewN ?_ _) | (with_reducible refine Kd.C_drew ?_))); (case side2 => exact HC0_1.out); rintro e w19 ⟨rfl, hb⟩; refine ⟨_, rfl, ?_⟩; have n0_ := ak (kbe (g := gb107) (o := .cells #[.int .i64 a0_0, .slice A0_1 l0_1.length c0_1] 31 (0, 0)) (by (with_reducible repeat (first | refine kdn ?_ _ | refine kdr ?_ | refine kal ?_ _)); exact BK107.out) hb); have n1_ := ak (bsp (by repeat (first | (with_reducible first | exact HB.out | apply bal | apply pbn | apply bd1 | refine bst ?_ GE107.out) | exact HB.out)) hb); clear BK107 HB; have BK107 := n0_; have HB := n1_; clear n0_ n1_; (try clear hb); (try clear hb2); (try clear hk); (try clear hi); have hcz20_0 : w19.cell? ⟨gb107, 0, none⟩ = some (.int .i64 a0_0) := (kce BK107.out 0).trans rfl; have hcz20_1 : w19.cell? ⟨gb107, 1, none⟩ = some (.slice A0_1 l0_1.length c0_1) := (kce BK107.out 1).trans rfl; have hfz20_0 := kfz BK107.out 0; have hfz20_1 := kfz BK107.out 1) | ((with_reducible refine gate_callee (f := 48) rfl ?_); refine goesL_ (some 15) rfl rfl Try.func48 (by kernel_rfl) rfl #[.slice A1 l1.length c1, .int .i64 a0_0] rfl (by (try simp only [List.map_toArray, List.map_cons, List.map_nil]); first | done | rfl | (simp only [List.length_drop, List.length_take]; rfl)) ?_; (with_reducible refine (peel_set.calls k _ _ l1 a0_0 false _ ?side1 ?side2 A5.out).mono ?_); (case side1 => repeat (first | exact (Kd.C_below HR1.out HB.out) | (with_reducible refine Kd.C_alloc ?_ _) | (with_reducible refine Kd.C_drewN ?_ _) | (with_reducible refine Kd.C_drew ?_))); (case side2 => exact HC1.out); rintro e w' ⟨rfl, ⟨nd, rfl⟩⟩; refine ⟨_, rfl, ?_⟩))
   go_ret2
   exact ⟨by first | rfl | (simp <;> rfl) | (simp [*] <;> rfl), by repeat (first | (with_reducible first | exact HB.out | apply bal | apply pbn | apply bd1 | refine bst ?_ GE107.out) | exact HB.out)⟩
 ·rw [if_neg c4] at H
  have c4b0 : (t108 == 0) = false := bqm c4
  have c4b1 : (t108 != 0) = true := bne_iff_ne.mpr c4
  simp only [Option.some.injEq, Prod.mk.injEq] at H
  obtain ⟨rfl, rfl⟩ := H
  go_enter Try.func20, Try.ntmps20
  go_wp2_with (first | ((with_reducible refine gate_dst (N := 2) rfl ?_); refine box_event ?hg (N := 2) ?hd (cs := #[.int .i64 a0_0, .slice A0_1 l0_1.length c0_1]) (t := 31) ?hr ?_; (case hd => rfl); (case hg => rfl); (case hr => first | (go_simp; done) | (go_simp; rfl)); intro gb107 hg w21 hbox hb; have n0_ := ak (bsp (by repeat (first | (with_reducible first | exact HB.out | apply bal | apply pbn | apply bd1) | exact HB.out)) hb); have n1_ := ak (hbox); have n2_ := ak ((by rw [hg]; exact (bsz (by repeat (first | (with_reducible first | exact HB.out | apply bal | apply pbn | apply bd1) | exact HB.out))) : w.heap.size ≤ gb107)); have n3_ := ak ((by rw [hg]; exact (bsz (by repeat (first | (with_reducible first | exact HB.out | apply bal | apply pbn | apply bd1) | exact HB.out))) : w.heap.size ≤ gb107)); clear HB; have HB := n0_; have BK107 := n1_; have GW107 := n2_; have GE107 := n3_; clear n0_ n1_ n2_ n3_; clear hb hbox hg; have hcz22_0 : w21.cell? ⟨gb107, 0, none⟩ = some (.int .i64 a0_0) := (kce BK107.out 0).trans rfl; have hcz22_1 : w21.cell? ⟨gb107, 1, none⟩ = some (.slice A0_1 l0_1.length c0_1) := (kce BK107.out 1).trans rfl; have hfz22_0 := kfz BK107.out 0; have hfz22_1 := kfz BK107.out 1) | ((with_reducible refine gate_callee (f := 22) rfl ?_); refine goesL_ (some 8) rfl rfl Try.func22 (by kernel_rfl) rfl #[.agg #[.int .i64 a0_0, .slice A0_1 l0_1.length c0_1]] rfl (by (try simp only [List.map_toArray, List.map_cons, List.map_nil]); first | done | rfl | (simp only [List.length_drop, List.length_take]; rfl)) ?_; (with_reducible refine (peel_Check.calls a0_0 _ _ l0_1 t108 _ ?side1 ?side2 A3.out).mono ?_); (case side1 => repeat (first | exact (Kd.C_below HR0_1.out HB.out) | (with_reducible refine Kd.C_alloc ?_ _) | (with_reducible refine Kd.C_drewN ?_ _) | (with_reducible refine Kd.C_drew ?_))); (case side2 => exact HC0_1.out); rintro e w23 ⟨rfl, hb⟩; refine ⟨_, rfl, ?_⟩; have n0_ := ak (kbe (g := gb107) (o := .cells #[.int .i64 a0_0, .slice A0_1 l0_1.length c0_1] 31 (0, 0)) (by (with_reducible repeat (first | refine kdn ?_ _ | refine kdr ?_ | refine kal ?_ _)); exact BK107.out) hb); have n1_ := ak (bsp (by repeat (first | (with_reducible first | exact HB.out | apply bal | apply pbn | apply bd1 | refine bst ?_ GE107.out) | exact HB.out)) hb); clear BK107 HB; have BK107 := n0_; have HB := n1_; clear n0_ n1_; (try clear hb); (try clear hb2); (try clear hk); (try clear hi)))
  go_ret2
  exact ⟨by first | rfl | (simp <;> rfl) | (simp [*] <;> rfl), by repeat (first | (with_reducible first | exact HB.out | apply bal | apply pbn | apply bd1 | refine bst ?_ GE107.out) | exact HB.out)⟩
def peel_Greatest.l0 : Nat → List Bool → Int → Int → List (List Int) → Option (List Int × Int)
 | 0, _, _, _, _ => none
 | k + 1, x7, x8, x115000, x115001 => if x8 ≥ 0 then (if 0 ≤ x8 then (if x8 < (x7.length : Int) then ((some (x7.set (x8 : Int).toNat false : List Bool)).bind fun y121 => ((peel_alone.f x115000 x115001 y121).bind fun t122 => (peel_Greatest.l0 k y121 t122 x115000 x115001))) else (none)) else (none)) else ((peel_left.f k x7).bind fun t123 => (some (t123, 0)))
def peel_Greatest.f (k : Nat) (a0_0 : Int) (l0_1 : List (List Int)) (l1 : List Int) : Option (List Int × Int) := (peel_Check.f a0_0 l0_1).bind fun t115 => (if t115 = 0 then ((peel_set.f k l1 a0_0).bind fun t116 => (if t116 = true then ((peel_mask.f k a0_0 l0_1 l1).bind fun t117 => ((peel_alone.f a0_0 l0_1 t117).bind fun t120 => (peel_Greatest.l0 k t117 t120 a0_0 l0_1))) else (some (([] : List Int), 6)))) else (some (([] : List Int), t115)))
theorem peel_Greatest.calls (k : Nat) (a0_0 : Int) (A0_1 : Option Addr) (c0_1 : Nat) (l0_1 : List (List Int)) (A1 : Option Addr) (c1 : Nat) (l1 : List Int) (r1 : List Int) (r2 : Int) (w : World) (hr0_1 : Kd.C (Kd.slice 3 (Kd.int .i64)) w A0_1 l0_1.length l0_1) (hc0_1 : l0_1.length ≤ c0_1) (hr1 : Kd.C (Kd.int .i64) w A1 l1.length l1) (hc1 : l1.length ≤ c1) (h : peel_Greatest.f k a0_0 l0_1 l1 = some (r1, r2)) :
  Calls Try.prog 24 #[.agg #[.int .i64 a0_0, .slice A0_1 l0_1.length c0_1], .slice A1 l1.length c1] w fun e w' => ∃ v0_ : Value, e = .returned (.tuple #[v0_, .int .i64 r2]) ∧ Kd.R (Kd.int .i64) 3 w' w.heap.size (fun _ => True) v0_ r1 ∧ Below w.heap.size w w' := by
 have hu31 := Try.underlying31
 have HR0_1 := ak hr0_1
 have HC0_1 := ak hc0_1
 clear hr0_1 hc0_1
 have HR1 := ak hr1
 have HC1 := ak hc1
 clear hr1 hc1
 have HB := ak (Below.refl w.heap.size w)
 have H : ((peel_Check.f a0_0 l0_1).bind fun t115 => (if t115 = 0 then ((peel_set.f k l1 a0_0).bind fun t116 => (if t116 = true then ((peel_mask.f k a0_0 l0_1 l1).bind fun t117 => ((peel_alone.f a0_0 l0_1 t117).bind fun t120 => (peel_Greatest.l0 k t117 t120 a0_0 l0_1))) else (some (([] : List Int), 6)))) else (some (([] : List Int), t115)))) = some (r1, r2) := h
 clear h
 replace H := obm H
 obtain ⟨t115, A30, H⟩ := H
 replace H : (if t115 = 0 then ((peel_set.f k l1 a0_0).bind fun t116 => (if t116 = true then ((peel_mask.f k a0_0 l0_1 l1).bind fun t117 => ((peel_alone.f a0_0 l0_1 t117).bind fun t120 => (peel_Greatest.l0 k t117 t120 a0_0 l0_1))) else (some (([] : List Int), 6)))) else (some (([] : List Int), t115))) = some (r1, r2) := H
 have A3 := ak A30
 clear A30
 by_cases c4 : t115 = 0
 ·rw [if_pos c4] at H
  have c4b0 : (t115 == 0) = true := beq_iff_eq.mpr c4
  have c4b1 : (t115 != 0) = false := bnm c4
  clear c4
  replace H := obm H
  obtain ⟨t116, A50, H⟩ := H
  replace H : (if t116 = true then ((peel_mask.f k a0_0 l0_1 l1).bind fun t117 => ((peel_alone.f a0_0 l0_1 t117).bind fun t120 => (peel_Greatest.l0 k t117 t120 a0_0 l0_1))) else (some (([] : List Int), 6))) = some (r1, r2) := H
  have A5 := ak A50
  clear A50
  by_cases c6 : t116 = true
  ·subst c6
   have H1 : ((peel_mask.f k a0_0 l0_1 l1).bind fun t117 => ((peel_alone.f a0_0 l0_1 t117).bind fun t120 => (peel_Greatest.l0 k t117 t120 a0_0 l0_1))) = some (r1, r2) := by rw [if_pos rfl] at H; exact H
   clear H
   have H := H1
   clear H1
   replace H := obm H
   obtain ⟨t117, A70, H⟩ := H
   replace H : ((peel_alone.f a0_0 l0_1 t117).bind fun t120 => (peel_Greatest.l0 k t117 t120 a0_0 l0_1)) = some (r1, r2) := H
   have A7 := ak A70
   clear A70
   replace H := obm H
   obtain ⟨t120, A80, H⟩ := H
   replace H : (peel_Greatest.l0 k t117 t120 a0_0 l0_1) = some (r1, r2) := H
   have A8 := ak A80
   clear A80
   have H' := ak H
   clear H
   go_enter Try.func24, Try.ntmps24
   go_wp2_with (first | ((with_reducible refine gate_dst (N := 2) rfl ?_); refine box_event ?hg (N := 2) ?hd (cs := #[.int .i64 a0_0, .slice A0_1 l0_1.length c0_1]) (t := 31) ?hr ?_; (case hd => rfl); (case hg => rfl); (case hr => first | (go_simp; done) | (go_simp; rfl)); intro gb114 hg w9 hbox hb; have n0_ := ak (bsp (by repeat (first | (with_reducible first | exact HB.out | apply bal | apply pbn | apply bd1) | exact HB.out)) hb); have n1_ := ak (hbox); have n2_ := ak ((by rw [hg]; exact (bsz (by repeat (first | (with_reducible first | exact HB.out | apply bal | apply pbn | apply bd1) | exact HB.out))) : w.heap.size ≤ gb114)); have n3_ := ak ((by rw [hg]; exact (bsz (by repeat (first | (with_reducible first | exact HB.out | apply bal | apply pbn | apply bd1) | exact HB.out))) : w.heap.size ≤ gb114)); clear HB; have HB := n0_; have BK114 := n1_; have GW114 := n2_; have GE114 := n3_; clear n0_ n1_ n2_ n3_; clear hb hbox hg; have hcz10_0 : w9.cell? ⟨gb114, 0, none⟩ = some (.int .i64 a0_0) := (kce BK114.out 0).trans rfl; have hcz10_1 : w9.cell? ⟨gb114, 1, none⟩ = some (.slice A0_1 l0_1.length c0_1) := (kce BK114.out 1).trans rfl; have hfz10_0 := kfz BK114.out 0; have hfz10_1 := kfz BK114.out 1) | ((with_reducible refine gate_callee (f := 22) rfl ?_); refine goesL_ (some 10) rfl rfl Try.func22 (by kernel_rfl) rfl #[.agg #[.int .i64 a0_0, .slice A0_1 l0_1.length c0_1]] rfl (by (try simp only [List.map_toArray, List.map_cons, List.map_nil]); first | done | rfl | (simp only [List.length_drop, List.length_take]; rfl)) ?_; (with_reducible refine (peel_Check.calls a0_0 _ _ l0_1 t115 _ ?side1 ?side2 A3.out).mono ?_); (case side1 => repeat (first | exact (Kd.C_below HR0_1.out HB.out) | (with_reducible refine Kd.C_alloc ?_ _) | (with_reducible refine Kd.C_drewN ?_ _) | (with_reducible refine Kd.C_drew ?_))); (case side2 => exact HC0_1.out); rintro e w11 ⟨rfl, hb⟩; refine ⟨_, rfl, ?_⟩; have n0_ := ak (kbe (g := gb114) (o := .cells #[.int .i64 a0_0, .slice A0_1 l0_1.length c0_1] 31 (0, 0)) (by (with_reducible repeat (first | refine kdn ?_ _ | refine kdr ?_ | refine kal ?_ _)); exact BK114.out) hb); have n1_ := ak (bsp (by repeat (first | (with_reducible first | exact HB.out | apply bal | apply pbn | apply bd1 | refine bst ?_ GE114.out) | exact HB.out)) hb); clear BK114 HB; have BK114 := n0_; have HB := n1_; clear n0_ n1_; (try clear hb); (try clear hb2); (try clear hk); (try clear hi); have hcz12_0 : w11.cell? ⟨gb114, 0, none⟩ = some (.int .i64 a0_0) := (kce BK114.out 0).trans rfl; have hcz12_1 : w11.cell? ⟨gb114, 1, none⟩ = some (.slice A0_1 l0_1.length c0_1) := (kce BK114.out 1).trans rfl; have hfz12_0 := kfz BK114.out 0; have hfz12_1 := kfz BK114.out 1) | ((with_reducible refine gate_callee (f := 48) rfl ?_); refine goesL_ (some 17) rfl rfl Try.func48 (by kernel_rfl) rfl #[.slice A1 l1.length c1, .int .i64 a0_0] rfl (by (try simp only [List.map_toArray, List.map_cons, List.map_nil]); first | done | rfl | (simp only [List.length_drop, List.length_take]; rfl)) ?_; (with_reducible refine (peel_set.calls k _ _ l1 a0_0 true _ ?side1 ?side2 A5.out).mono ?_); (case side1 => repeat (first | exact (Kd.C_below HR1.out HB.out) | (with_reducible refine Kd.C_alloc ?_ _) | (with_reducible refine Kd.C_drewN ?_ _) | (with_reducible refine Kd.C_drew ?_))); (case side2 => exact HC1.out); rintro e w' ⟨rfl, ⟨nd, rfl⟩⟩; refine ⟨_, rfl, ?_⟩) | ((with_reducible refine gate_callee (f := 50) rfl ?_); refine goesL_ (some 21) rfl rfl Try.func50 (by kernel_rfl) rfl #[.agg #[.int .i64 a0_0, .slice A0_1 l0_1.length c0_1], .slice A1 l1.length c1] rfl (by (try simp only [List.map_toArray, List.map_cons, List.map_nil]); first | done | rfl | (simp only [List.length_drop, List.length_take]; rfl)) ?_; (with_reducible refine (peel_mask.calls k a0_0 _ _ l0_1 _ _ l1 t117 _ ?side1 ?side2 ?side3 ?side4 A7.out).mono ?_); (case side1 => repeat (first | exact (Kd.C_below HR0_1.out (by repeat (first | (with_reducible first | exact HB.out | apply bal | apply pbn | apply bd1 | refine bst ?_ GE114.out) | exact HB.out))) | (with_reducible refine Kd.C_alloc ?_ _) | (with_reducible refine Kd.C_drewN ?_ _) | (with_reducible refine Kd.C_drew ?_))); (case side2 => exact HC0_1.out); (case side3 => repeat (first | exact (Kd.C_below HR1.out (by repeat (first | (with_reducible first | exact HB.out | apply bal | apply pbn | apply bd1 | refine bst ?_ GE114.out) | exact HB.out))) | (with_reducible refine Kd.C_alloc ?_ _) | (with_reducible refine Kd.C_drewN ?_ _) | (with_reducible refine Kd.C_drew ?_))); (case side4 => exact HC1.out); rintro e w13 ⟨v118, rfl, ho0, hb⟩; refine ⟨_, rfl, ?_⟩; have n0_ := ak (Kd.R_lower ho0 (bsz (by repeat (first | (with_reducible first | exact HB.out | apply bal | apply pbn | apply bd1 | refine bst ?_ GE114.out) | exact HB.out)))); have n1_ := ak (kbe (g := gb114) (o := .cells #[.int .i64 a0_0, .slice A0_1 l0_1.length c0_1] 31 (0, 0)) (by (with_reducible repeat (first | refine kdn ?_ _ | refine kdr ?_ | refine kal ?_ _)); exact BK114.out) hb); have n2_ := ak (bsp (by repeat (first | (with_reducible first | exact HB.out | apply bal | apply pbn | apply bd1 | refine bst ?_ GE114.out) | exact HB.out)) hb); clear BK114 HB; have HO119 := n0_; have BK114 := n1_; have HB := n2_; clear n0_ n1_ n2_; (try clear hb); (try clear hb2); (try clear hk); (try clear hi); (try clear ho0); have hcz14_0 : w13.cell? ⟨gb114, 0, none⟩ = some (.int .i64 a0_0) := (kce BK114.out 0).trans rfl; have hcz14_1 : w13.cell? ⟨gb114, 1, none⟩ = some (.slice A0_1 l0_1.length c0_1) := (kce BK114.out 1).trans rfl; have hfz14_0 := kfz BK114.out 0; have hfz14_1 := kfz BK114.out 1; obtain ⟨Ao15, co15, eo15⟩ := Kd.R_slice HO119.out; subst eo15) | ((with_reducible refine gate_callee (f := 49) rfl ?_); refine goesL_ (some 24) rfl rfl Try.func49 (by kernel_rfl) rfl #[.agg #[.int .i64 a0_0, .slice A0_1 l0_1.length c0_1], .slice Ao15 t117.length co15] rfl (by (try simp only [List.map_toArray, List.map_cons, List.map_nil]); first | done | rfl | (simp only [List.length_drop, List.length_take]; rfl)) ?_; (with_reducible refine (peel_alone.calls a0_0 _ _ l0_1 _ _ t117 t120 _ ?side1 ?side2 ?side3 ?side4 A8.out).mono ?_); (case side1 => repeat (first | exact (Kd.C_below HR0_1.out HB.out) | (with_reducible refine Kd.C_alloc ?_ _) | (with_reducible refine Kd.C_drewN ?_ _) | (with_reducible refine Kd.C_drew ?_))); (case side2 => exact HC0_1.out); (case side3 => repeat (first | exact (Kd.R_reads' HO119.out).2.2 | (with_reducible refine Kd.C_alloc ?_ _) | (with_reducible refine Kd.C_drewN ?_ _) | (with_reducible refine Kd.C_drew ?_))); (case side4 => exact (Kd.R_reads' HO119.out).2.1); rintro e w16 ⟨rfl, hb⟩; refine ⟨_, rfl, ?_⟩; have n0_ := ak (Kd.R_below (by (with_reducible repeat (first | apply Kd.R_alloc | apply Kd.R_drewN | apply Kd.R_drew)); exact HO119.out) hb); have n1_ := ak (kbe (g := gb114) (o := .cells #[.int .i64 a0_0, .slice A0_1 l0_1.length c0_1] 31 (0, 0)) (by (with_reducible repeat (first | refine kdn ?_ _ | refine kdr ?_ | refine kal ?_ _)); exact BK114.out) hb); have n2_ := ak (bsp (by repeat (first | (with_reducible first | exact HB.out | apply bal | apply pbn | apply bd1 | refine bst ?_ GE114.out) | exact HB.out)) hb); clear HO119 BK114 HB; have HO119 := n0_; have BK114 := n1_; have HB := n2_; clear n0_ n1_ n2_; (try clear hb); (try clear hb2); (try clear hk); (try clear hi)))
   go_loopg [8] k (fun kq v8 w' => ∃ (x7_1 : List Bool) (x8_1 : Int), v8 = .int .i64 x8_1 ∧ Aside0 (peel_Greatest.l0 kq x7_1 x8_1 a0_0 l0_1 = some (r1, r2)) ∧ Aside0 (kq ≤ k) ∧ Aside0 (Kd.R Kd.bool 4 w' w.heap.size (fun _ => True) (.slice Ao15 t117.length co15) x7_1) ∧ Aside0 (w'.heap[gb114]? = some (.cells #[.int .i64 a0_0, (.slice A0_1 l0_1.length c0_1)] 31 (0, 0))) ∧ Aside0 (Below w.heap.size w w'))
   case atStart => exact ⟨(t117), (t120), (by first | rfl | (simp; done) | (simp [*]; done)), H', ⟨Nat.le_refl _⟩, ⟨by (with_reducible repeat (first | apply Kd.R_alloc | apply Kd.R_drewN | apply Kd.R_drew)); exact HO119.out⟩, ⟨by (with_reducible repeat (first | refine kdn ?_ _ | refine kdr ?_ | refine kal ?_ _)); exact BK114.out⟩, ⟨by repeat (first | (with_reducible first | exact HB.out | apply bal | apply pbn | apply bd1 | refine bst ?_ GE114.out) | exact HB.out)⟩⟩
   case round =>
    clear H'
    try (clear c4b0)
    try (clear c4b1)
    try (clear hcz10_0)
    try (clear hcz10_1)
    try (clear hcz12_0)
    try (clear hcz12_1)
    try (clear hcz14_0)
    try (clear hcz14_1)
    try (clear hfz10_0)
    try (clear hfz10_1)
    try (clear hfz12_0)
    try (clear hfz12_1)
    try (clear hfz14_0)
    try (clear hfz14_1)
    obtain ⟨x7_1, x8_1, rfl, HA, HK1, HO_7, BK114, HB⟩ := hrel
    have hl7_1 := (Kd.R_reads' HO_7.out).1
    rw [hl7_1] at HO_7
    (try (simp only [hl7_1]))
    cases gk with
    | zero => exact absurd HA.out (by simp [peel_Greatest.l0])
    | succ k1 =>
     have H := HA.out
     clear HA
     simp only [peel_Greatest.l0] at H
     by_cases c17 : x8_1 ≥ 0
     ·rw [if_pos c17] at H
      have c17b0 : decide (0 ≤ x8_1) = true := det c17
      clear c17
      by_cases c18 : 0 ≤ x8_1
      ·rw [if_pos c18] at H
       have c18b0 : decide (0 ≤ x8_1) = true := det c18
       clear c18
       by_cases c19 : x8_1 < (x7_1.length : Int)
       ·rw [if_pos c19] at H
        have c19b0 : decide (x8_1 < (x7_1.length : Int)) = true := det c19
        clear c19
        obtain ⟨y121, hy121⟩ : ∃ y_ : List Bool, y_ = (x7_1.set (x8_1 : Int).toNat false) := ⟨_, rfl⟩
        replace H : ((peel_alone.f a0_0 l0_1 y121).bind fun t122 => (peel_Greatest.l0 k1 y121 t122 a0_0 l0_1)) = some (r1, r2) := by (have H2_ := (Option.bind_some _ _).symm.trans H; rw [hy121]; with_reducible exact H2_)
        have Ny121 := ak hy121
        clear hy121
        replace H := obm H
        obtain ⟨t122, A210, H⟩ := H
        replace H : (peel_Greatest.l0 k1 y121 t122 a0_0 l0_1) = some (r1, r2) := H
        have A21 := ak A210
        clear A210
        have H' := ak H
        clear H
        have p20 : 0 ≤ (x8_1 : Int) := odt (by with_reducible assumption)
        have q20 : (x8_1 : Int) < ((x7_1.length : Int) : Int) := odt (by with_reducible assumption)
        obtain ⟨go20, co20, eo20, gb20, gl20, cl20, HG20⟩ := Kd.R_form HO_7.out (by omega)
        (cases eo20)
        have GB20 := ak gb20
        have GG20 := ak HG20
        clear gb20 gl20 HG20
        obtain ⟨hx20_0, hf20_0⟩ := Kd.R_celln false HO_7.out (x8_1 : Int) p20 q20
        replace p20 := eq_true p20
        replace q20 := eq_true q20
        have HP22 := Kd.R_putg HO_7.out (x8_1 : Int) false
        go_wp2_with (first | ((with_reducible refine gate_store (t := 4) (p := 32) rfl ?_); refine store_event (t := 4) (p := 32) (v := ?vo_w23) (w1 := (wr.setCell ⟨go20, (x8_1 : Int).toNat, none⟩ (.bool false))) ?hg ?ho ?hn ?hr ?_; (case ho => rfl); (case hg => rfl); (case hn => rfl); (case hr => first | (go_simp; done) | (go_simp; rfl)); intro w23 hw; have hg : wr.grownBy w23 (some go20) := (by rw [hw]; exact HP22.2); have hp_ : Kd.R Kd.bool 4 w23 w.heap.size (fun _ => True) (.slice (some ⟨go20, 0, none⟩) x7_1.length co15) y121 := (by rw [hw, Ny121.out]; exact HP22.1); clear HP22; have n0_ := ak (hp_); have n1_ := ak (blk_grown (g := gb114) (o := .cells #[.int .i64 a0_0, .slice A0_1 l0_1.length c0_1] 31 (0, 0)) BK114.out hg (Kd.R_ne HO_7.out BK114.out (by decide))); have n2_ := ak ((by rw [hw]; exact bst (HB.out) GB20.out : Below w.heap.size w w23)); clear HO_7 BK114 HB; have HO_7 := n0_; have BK114 := n1_; have HB := n2_; clear n0_ n1_ n2_; clear hg hw hp_; have hcz24_0 : w23.cell? ⟨gb114, 0, none⟩ = some (.int .i64 a0_0) := (kce BK114.out 0).trans rfl; have hcz24_1 : w23.cell? ⟨gb114, 1, none⟩ = some (.slice A0_1 l0_1.length c0_1) := (kce BK114.out 1).trans rfl) | ((with_reducible refine gate_callee (f := 49) rfl ?_); refine goesL_ (some 29) rfl rfl Try.func49 (by kernel_rfl) rfl #[.agg #[.int .i64 a0_0, .slice A0_1 l0_1.length c0_1], .slice (some ⟨go20, 0, none⟩) y121.length co15] rfl (by (try simp only [List.map_toArray, List.map_cons, List.map_nil]); first | done | (rw [show y121.length = x7_1.length from (Kd.R_reads' HO_7.out).1.symm] <;> rfl) | rfl | (simp only [List.length_drop, List.length_take]; rfl)) ?_; (with_reducible refine (peel_alone.calls a0_0 _ _ l0_1 _ _ y121 t122 _ ?side1 ?side2 ?side3 ?side4 A21.out).mono ?_); (case side1 => repeat (first | exact (Kd.C_below HR0_1.out HB.out) | (with_reducible refine Kd.C_alloc ?_ _) | (with_reducible refine Kd.C_drewN ?_ _) | (with_reducible refine Kd.C_drew ?_))); (case side2 => exact HC0_1.out); (case side3 => exact (Kd.R_reads' HO_7.out).2.2); (case side4 => rw [show y121.length = x7_1.length from (Kd.R_reads' HO_7.out).1.symm]; exact (Kd.R_reads' HO_7.out).2.1); rintro e w25 ⟨rfl, hb⟩; refine ⟨_, rfl, ?_⟩; have n0_ := ak (Kd.R_below HO_7.out hb); have n1_ := ak (kbe BK114.out hb); have n2_ := ak (bsp HB.out hb); clear HO_7 BK114 HB; have HO_7 := n0_; have BK114 := n1_; have HB := n2_; clear n0_ n1_ n2_; (try clear hb); (try clear hb2); (try clear hk); (try clear hi)))
        (try (simp only [← hl7_1]))
        go_roundg k1
        case measure => have := HK1.out; omega
        case rel => exact ⟨(y121), (t122), (by first | rfl | (simp; done) | (simp [*]; done)), H', ⟨by have := HK1.out; omega⟩, ⟨by (try simp only [hl7_1]); (with_reducible repeat (first | apply Kd.R_alloc | apply Kd.R_drewN | apply Kd.R_drew)); exact HO_7.out⟩, ⟨by (try simp only [hl7_1]); (with_reducible repeat (first | refine kdn ?_ _ | refine kdr ?_ | refine kal ?_ _)); exact BK114.out⟩, ⟨by repeat (first | (with_reducible first | exact HB.out | apply bal | apply pbn | apply bd1 | refine bst ?_ GE114.out) | exact HB.out)⟩⟩
       ·rw [if_neg c19] at H
        exact absurd H (by simp)
      ·rw [if_neg c18] at H
       exact absurd H (by simp)
     ·rw [if_neg c17] at H
      have c17b0 : decide (0 ≤ x8_1) = false := dff c17
      clear c17
      replace H := obm H
      obtain ⟨t123, A260, H⟩ := H
      replace H : (some (t123, 0)) = some (r1, r2) := H
      have A26 := ak A260
      clear A260
      simp only [Option.some.injEq, Prod.mk.injEq] at H
      obtain ⟨rfl, rfl⟩ := H
      go_wp2_with ((with_reducible refine gate_callee (f := 55) rfl ?_); refine goesL_ (some 34) rfl rfl Try.func55 (by kernel_rfl) rfl #[.slice Ao15 x7_1.length co15] rfl (by (try (simp only [List.map_toArray, List.map_cons, List.map_nil])); rfl) ?_; (with_reducible refine (peel_left.calls k1 _ _ x7_1 t123 _ ?side1 ?side2 A26.out).mono ?_); (case side1 => exact (Kd.R_reads' HO_7.out).2.2); (case side2 => exact (Kd.R_reads' HO_7.out).2.1); rintro e w27 ⟨v124, rfl, ho0, hb⟩; refine ⟨_, rfl, ?_⟩; have n0_ := ak (Kd.R_below HO_7.out hb); have n1_ := ak (Kd.R_lower ho0 (bsz HB.out)); have n2_ := ak (kbe BK114.out hb); have n3_ := ak (bsp HB.out hb); clear HO_7 BK114 HB; have HO_7 := n0_; have HO125 := n1_; have BK114 := n2_; have HB := n3_; clear n0_ n1_ n2_ n3_; (try (clear ho0)))
      go_ret2
      exact ⟨_, by first | rfl | (simp <;> rfl) | (simp [*] <;> rfl), by (with_reducible repeat (first | apply Kd.R_alloc | apply Kd.R_drewN | apply Kd.R_drew)); exact HO125.out, by repeat (first | (with_reducible first | exact HB.out | apply bal | apply pbn | apply bd1 | refine bst ?_ GE114.out) | exact HB.out)⟩
  ·replace c6 := Bool.eq_false_iff.mpr c6
   subst c6
   have H1 : (some (([] : List Int), 6)) = some (r1, r2) := by rw [if_neg (show ¬ (false = true) by decide)] at H; exact H
   clear H
   have H := H1
   clear H1
   simp only [Option.some.injEq, Prod.mk.injEq] at H
   obtain ⟨rfl, rfl⟩ := H
   go_enter Try.func24, Try.ntmps24
   go_wp2_with (first | ((with_reducible refine gate_dst (N := 2) rfl ?_); refine box_event ?hg (N := 2) ?hd (cs := #[.int .i64 a0_0, .slice A0_1 l0_1.length c0_1]) (t := 31) ?hr ?_; (case hd => rfl); (case hg => rfl); (case hr => first | (go_simp; done) | (go_simp; rfl)); intro gb114 hg w28 hbox hb; have n0_ := ak (bsp HB.out hb); have n1_ := ak (hbox); have n2_ := ak ((by rw [hg]; exact (bsz HB.out) : w.heap.size ≤ gb114)); have n3_ := ak ((by rw [hg]; exact (bsz HB.out) : w.heap.size ≤ gb114)); clear HB; have HB := n0_; have BK114 := n1_; have GW114 := n2_; have GE114 := n3_; clear n0_ n1_ n2_ n3_; clear hb hbox hg; have hcz29_0 : w28.cell? ⟨gb114, 0, none⟩ = some (.int .i64 a0_0) := (kce BK114.out 0).trans rfl; have hcz29_1 : w28.cell? ⟨gb114, 1, none⟩ = some (.slice A0_1 l0_1.length c0_1) := (kce BK114.out 1).trans rfl) | ((with_reducible refine gate_callee (f := 22) rfl ?_); refine goesL_ (some 10) rfl rfl Try.func22 (by kernel_rfl) rfl #[.agg #[.int .i64 a0_0, .slice A0_1 l0_1.length c0_1]] rfl (by (try simp only [List.map_toArray, List.map_cons, List.map_nil]); first | done | rfl) ?_; (with_reducible refine (peel_Check.calls a0_0 _ _ l0_1 t115 _ ?side1 ?side2 A3.out).mono ?_); (case side1 => repeat (first | exact (Kd.C_below HR0_1.out HB.out) | (with_reducible refine Kd.C_alloc ?_ _) | (with_reducible refine Kd.C_drewN ?_ _) | (with_reducible refine Kd.C_drew ?_))); (case side2 => exact HC0_1.out); rintro e w30 ⟨rfl, hb⟩; refine ⟨_, rfl, ?_⟩; have n0_ := ak (kbe BK114.out hb); have n1_ := ak (bsp HB.out hb); clear BK114 HB; have BK114 := n0_; have HB := n1_; clear n0_ n1_; have hcz31_0 : w30.cell? ⟨gb114, 0, none⟩ = some (.int .i64 a0_0) := (kce BK114.out 0).trans rfl; have hcz31_1 : w30.cell? ⟨gb114, 1, none⟩ = some (.slice A0_1 l0_1.length c0_1) := (kce BK114.out 1).trans rfl) | ((with_reducible refine gate_callee (f := 48) rfl ?_); refine goesL_ (some 17) rfl rfl Try.func48 (by kernel_rfl) rfl #[.slice A1 l1.length c1, .int .i64 a0_0] rfl (by (try simp only [List.map_toArray, List.map_cons, List.map_nil]); first | done | rfl) ?_; (with_reducible refine (peel_set.calls k _ _ l1 a0_0 false _ ?side1 ?side2 A5.out).mono ?_); (case side1 => repeat (first | exact (Kd.C_below HR1.out HB.out) | (with_reducible refine Kd.C_alloc ?_ _) | (with_reducible refine Kd.C_drewN ?_ _) | (with_reducible refine Kd.C_drew ?_))); (case side2 => exact HC1.out); rintro e w' ⟨rfl, ⟨nd, rfl⟩⟩; refine ⟨_, rfl, ?_⟩))
   go_ret2
   exact ⟨_, by first | rfl | (simp <;> rfl) | (simp [*] <;> rfl), by first | exact Kd.R_nil _ _ _ _ _ | exact Kd.N_nil _ _ _ _ _ | exact Kd.V_nil _ _ _ _ _ | exact Kd.Q_nil _ _ _ _ _ | exact Kd.S_nil _ _ _ _ _, by repeat (first | (with_reducible first | exact HB.out | apply bal | apply pbn | apply bd1 | refine bst ?_ GE114.out) | exact HB.out)⟩
 ·rw [if_neg c4] at H
  have c4b0 : (t115 == 0) = false := bqm c4
  have c4b1 : (t115 != 0) = true := bne_iff_ne.mpr c4
  simp only [Option.some.injEq, Prod.mk.injEq] at H
  obtain ⟨rfl, rfl⟩ := H
  go_enter Try.func24, Try.ntmps24
  go_wp2_with (first | ((with_reducible refine gate_dst (N := 2) rfl ?_); refine box_event ?hg (N := 2) ?hd (cs := #[.int .i64 a0_0, .slice A0_1 l0_1.length c0_1]) (t := 31) ?hr ?_; (case hd => rfl); (case hg => rfl); (case hr => first | (go_simp; done) | (go_simp; rfl)); intro gb114 hg w32 hbox hb; have n0_ := ak (bsp HB.out hb); have n1_ := ak (hbox); have n2_ := ak ((by rw [hg]; exact (bsz HB.out) : w.heap.size ≤ gb114)); have n3_ := ak ((by rw [hg]; exact (bsz HB.out) : w.heap.size ≤ gb114)); clear HB; have HB := n0_; have BK114 := n1_; have GW114 := n2_; have GE114 := n3_; clear n0_ n1_ n2_ n3_; clear hb hbox hg; have hcz33_0 : w32.cell? ⟨gb114, 0, none⟩ = some (.int .i64 a0_0) := (kce BK114.out 0).trans rfl; have hcz33_1 : w32.cell? ⟨gb114, 1, none⟩ = some (.slice A0_1 l0_1.length c0_1) := (kce BK114.out 1).trans rfl) | ((with_reducible refine gate_callee (f := 22) rfl ?_); refine goesL_ (some 10) rfl rfl Try.func22 (by kernel_rfl) rfl #[.agg #[.int .i64 a0_0, .slice A0_1 l0_1.length c0_1]] rfl (by (try simp only [List.map_toArray, List.map_cons, List.map_nil]); first | done | rfl) ?_; (with_reducible refine (peel_Check.calls a0_0 _ _ l0_1 t115 _ ?side1 ?side2 A3.out).mono ?_); (case side1 => repeat (first | exact (Kd.C_below HR0_1.out HB.out) | (with_reducible refine Kd.C_alloc ?_ _) | (with_reducible refine Kd.C_drewN ?_ _) | (with_reducible refine Kd.C_drew ?_))); (case side2 => exact HC0_1.out); rintro e w34 ⟨rfl, hb⟩; refine ⟨_, rfl, ?_⟩; have n0_ := ak (kbe BK114.out hb); have n1_ := ak (bsp HB.out hb); clear BK114 HB; have BK114 := n0_; have HB := n1_; clear n0_ n1_; (try clear hb); (try clear hb2); (try clear hk); (try clear hi)))
  go_ret2
  exact ⟨_, by first | rfl | (simp <;> rfl) | (simp [*] <;> rfl), by first | exact Kd.R_nil _ _ _ _ _ | exact Kd.N_nil _ _ _ _ _ | exact Kd.V_nil _ _ _ _ _ | exact Kd.Q_nil _ _ _ _ _ | exact Kd.S_nil _ _ _ _ _, by repeat (first | (with_reducible first | exact HB.out | apply bal | apply pbn | apply bd1 | refine bst ?_ GE114.out) | exact HB.out)⟩
end Go.Proofs.Ytkifipakikbhcaa.Pk
namespace Go.Proofs.Ytkifipakikbhcaa.Ref
open Ytkifipakikbhcaa.Hand
open Go.RowKit YtkifipakikbhcaaW.PrintWords YtkifipakikbhcaaW.PrintLast YtkifipakikbhcaaW.PrintMore
def field_multiply.f (k : Nat) (P M : Int) (md : List Int) (x y : Int) : Option Int :=
 if 1 ≤ M ∧ M ≤ 8 ∧ (1 < M → (md.length : Int) = M) ∧ P ≠ 0 then
  (field_digitsOf.f k x P M).bind fun a => (field_digitsOf.f k y P M).bind fun b =>
   if (a.length : Int) = M ∧ (b.length : Int) = M then field_valueOf.f k (mulL P M.toNat md a b M.toNat (List.replicate M.toNat 0)) P else none
 else none
theorem field_multiply.calls (k : Nat) (a0_0 : Int) (a0_1 : Int) (A0_2 : Option Addr) (c0_2 : Nat) (l0_2 : List Int) (a1 : Int) (a2 : Int) (r : Int) (w : World) (hr0_2 : Kd.C (Kd.int .i64) w A0_2 l0_2.length l0_2) (hc0_2 : l0_2.length ≤ c0_2) (h : field_multiply.f k a0_0 a0_1 l0_2 a1 a2 = some r) :
  Calls Try.prog 104 #[.agg #[.int .i64 a0_0, .int .i64 a0_1, .slice A0_2 l0_2.length c0_2], .int .i64 a1, .int .i64 a2] w fun e w' => e = .returned (.int .i64 r) ∧ Below w.heap.size w w' := by
 unfold field_multiply.f at h
 by_cases hc : 1 ≤ a0_1 ∧ a0_1 ≤ 8 ∧ (1 < a0_1 → (l0_2.length : Int) = a0_1) ∧ a0_0 ≠ 0
 ·rw [if_pos hc] at h
  obtain ⟨a, ha, h⟩ := Option.bind_eq_some_iff.1 h
  obtain ⟨b, hb, h⟩ := Option.bind_eq_some_iff.1 h
  by_cases hd : (a.length : Int) = a0_1 ∧ (b.length : Int) = a0_1
  ·rw [if_pos hd] at h
   obtain ⟨N, rfl⟩ := Int.eq_ofNat_of_zero_le (show 0 ≤ a0_1 by omega)
   rw [Int.toNat_natCast] at h
   exact multiply_calls k a0_0 N A0_2 c0_2 l0_2 a1 a2 w hr0_2 hc0_2 (by omega) (by omega) (fun h1 => by have := hc.2.2.1 (by omega); omega) a b (by omega) (by omega) ha hb r h hc.2.2.2
  ·rw [if_neg hd] at h; cases h
 ·rw [if_neg hc] at h; cases h
end Go.Proofs.Ytkifipakikbhcaa.Ref
namespace Go.Proofs.Ytkifipakikbhcaa.Pg
open Ytkifipakikbhcaa.Ref
open Go.RowKit YtkifipakikbhcaaW.PrintWords YtkifipakikbhcaaW.PrintLast YtkifipakikbhcaaW.PrintMore
def field_powers.l0 : Nat → Int → List Int → List Bool → Int → Int → Int → List Int → Option (List Int)
 | 0, _, _, _, _, _, _, _ => none
 | k + 1, x2, x7, x8, x9, x102000, x102001, x102002 => if x9 = 0 then (some x7) else (if 0 ≤ x9 then (if x9 < (x8.length : Int) then (if rdOf false x8 x9 = true then (some x7) else (if x7.length < 17592186044416 then ((field_multiply.f k x102000 x102001 x102002 x9 x2).bind fun t114 => (field_powers.l0 k x2 (x7 ++ [x9]) (x8.set (x9 : Int).toNat true) t114 x102000 x102001 x102002)) else (none))) else (none)) else (none))
def field_powers.f (k : Nat) (a0_0 : Int) (a0_1 : Int) (l0_2 : List Int) (a1 : Int) (a2 : Int) : Option (List Int) := if 0 ≤ a1 then (if (a1 : Int).toNat ≤ 281474976710656 then ((some (List.replicate (a1 : Int).toNat false : List Bool)).bind fun y105 => (if 1 < (y105.length : Int) then (field_powers.l0 k a2 (([1] : List Int)) (y105.set (1 : Int).toNat true) a2 a0_0 a0_1 l0_2) else (none))) else (none)) else (none)
theorem field_powers.calls (k : Nat) (a0_0 : Int) (a0_1 : Int) (A0_2 : Option Addr) (c0_2 : Nat) (l0_2 : List Int) (a1 : Int) (a2 : Int) (r : List Int) (w : World) (hr0_2 : Kd.C (Kd.int .i64) w A0_2 l0_2.length l0_2) (hc0_2 : l0_2.length ≤ c0_2) (h : field_powers.f k a0_0 a0_1 l0_2 a1 a2 = some r) :
  Calls Try.prog 103 #[.agg #[.int .i64 a0_0, .int .i64 a0_1, .slice A0_2 l0_2.length c0_2], .int .i64 a1, .int .i64 a2] w fun e w' => ∃ v0_ : Value, e = .returned (v0_) ∧ Kd.R (Kd.int .i64) 3 w' w.heap.size (fun _ => True) v0_ r ∧ Below w.heap.size w w' := by
 have hu24 := Try.underlying24
 have HR0_2 := ak hr0_2
 have HC0_2 := ak hc0_2
 clear hr0_2 hc0_2
 have HB := ak (Below.refl w.heap.size w)
 have H : (if 0 ≤ a1 then (if (a1 : Int).toNat ≤ 281474976710656 then ((some (List.replicate (a1 : Int).toNat false : List Bool)).bind fun y105 => (if 1 < (y105.length : Int) then (field_powers.l0 k a2 (([1] : List Int)) (y105.set (1 : Int).toNat true) a2 a0_0 a0_1 l0_2) else (none))) else (none)) else (none)) = some r := h
 clear h
 obtain ⟨y102, hy102⟩ : ∃ y_ : List Int, y_ = (([1] : List Int)) := ⟨_, rfl⟩
 replace H : (if 0 ≤ a1 then (if (a1 : Int).toNat ≤ 281474976710656 then ((some (List.replicate (a1 : Int).toNat false : List Bool)).bind fun y105 => (if 1 < (y105.length : Int) then (field_powers.l0 k a2 y102 (y105.set (1 : Int).toNat true) a2 a0_0 a0_1 l0_2) else (none))) else (none)) else (none)) = some r := by (rw [hy102]; with_reducible exact H)
 have Ny102 := ak hy102
 clear hy102
 by_cases c4 : 0 ≤ a1
 ·rw [if_pos c4] at H
  have c4b0 := eq_true c4
  have c4b1 : decide (0 ≤ a1) = true := det c4
  clear c4
  by_cases c5 : (a1 : Int).toNat ≤ 281474976710656
  ·rw [if_pos c5] at H
   have c5b0 := eq_true c5
   have c5b1 : decide ((a1 : Int).toNat ≤ 281474976710656) = true := det c5
   clear c5
   obtain ⟨y105, hy105⟩ : ∃ y_ : List Bool, y_ = (List.replicate (a1 : Int).toNat false) := ⟨_, rfl⟩
   replace H : (if 1 < (y105.length : Int) then (field_powers.l0 k a2 y102 (y105.set (1 : Int).toNat true) a2 a0_0 a0_1 l0_2) else (none)) = some r := by (have H2_ := (Option.bind_some _ _).symm.trans H; rw [hy105]; with_reducible exact H2_)
   have Ny105 := ak hy105
   clear hy105
   by_cases c6 : 1 < (y105.length : Int)
   ·rw [if_pos c6] at H
    have c6b0 : decide (1 < (y105.length : Int)) = true := det c6
    have c6b1 : decide (1 < y105.length) = true := det (by omega)
    clear c6
    obtain ⟨y108, hy108⟩ : ∃ y_ : List Bool, y_ = (y105.set (1 : Int).toNat true) := ⟨_, rfl⟩
    replace H : (field_powers.l0 k a2 y102 y108 a2 a0_0 a0_1 l0_2) = some r := by (rw [hy108]; with_reducible exact H)
    have Ny108 := ak hy108
    clear hy108
    have H' := ak H
    clear H
    go_enter Try.func103, Try.ntmps103
    go_wp2_with (first | ((with_reducible refine gate_dst (N := 3) rfl ?_); refine box_event ?hg (N := 3) ?hd (cs := #[.int .i64 a0_0, .int .i64 a0_1, .slice A0_2 l0_2.length c0_2]) (t := 24) ?hr ?_; (case hd => rfl); (case hg => rfl); (case hr => (go_simp; done)); intro gb101 hg w8 hbox hb; have n0_ := ak (bsp HB.out hb); have n1_ := ak (hbox); have n2_ := ak ((by rw [hg]; exact (bsz HB.out) : w.heap.size ≤ gb101)); have n3_ := ak ((by rw [hg]; exact (bsz HB.out) : w.heap.size ≤ gb101)); clear HB; have HB := n0_; have BK101 := n1_; have GW101 := n2_; have GE101 := n3_; clear n0_ n1_ n2_ n3_; clear hb hbox hg) | ((with_reducible refine gate_dst (N := 10) rfl ?_); refine Kd.R_lit (Kd.int .i64) _ 3 ?hg (N := 10) ?hd (xs := ([1] : List Int)) (inner := [.int .i64 1]) (ok := fun _ => True) (okp := fun _ => True) ?hr ?hp (fun _ hk => hk) trivial (Below.refl _ _) (Nat.le_refl _) (by simp) ?_; (case hd => rfl); (case hg => rfl); (case hr => (go_simp; done)); (case hp => exact (Reps.one (show Kd.M (Kd.int .i64) _ _ _ 1 [.int .i64 1] from rfl) (Reps.none _ _))); intro v103 w9 ho10 hb hg_ hnew_; clear hg_ hnew_; (rw [← Ny102.out] at ho10); have n0_ := ak (Kd.R_lower ho10 (bsz HB.out)); have n1_ := ak (kbe BK101.out hb); have n2_ := ak (bsp HB.out hb); clear BK101 HB; have HO104 := n0_; have BK101 := n1_; have HB := n2_; clear n0_ n1_ n2_; clear hb ho10) | ((with_reducible refine gate_dst (N := 12) rfl ?_); refine Kd.R_make Kd.bool _ 4 rfl (N := 12) rfl 73 _ _ rfl a1 rfl rfl Try.underlying73 (.bool false) 1 info4 rfl (by decide) (by omega) false (ok := fun _ => True) (okp := fun _ => True) rfl (fun _ hk => hk) trivial (odt (by with_reducible assumption)) (Nat.le_trans (Nat.mul_le_mul_right _ (odt (by with_reducible assumption) : a1.toNat ≤ 281474976710656)) (by omega)) (Below.refl _ _) (Nat.le_refl _) ?_; intro v106 w11 ho12 hb hg_ hnew_; clear hg_ hnew_; (rw [← Ny105.out] at ho12); have n0_ := ak (Kd.R_below HO104.out hb); have n1_ := ak (Kd.R_lower ho12 (bsz HB.out)); have n2_ := ak (kbe BK101.out hb); have n3_ := ak (bsp HB.out hb); clear HO104 BK101 HB; have HO104 := n0_; have HO107 := n1_; have BK101 := n2_; have HB := n3_; clear n0_ n1_ n2_ n3_; clear hb ho12; have p7 : 0 ≤ (1 : Int) := (by omega); have q7 : (1 : Int) < ((y105.length : Int) : Int) := odt (by with_reducible assumption); have qi7 : (1 < y105.length) = True := eq_true (by omega); obtain ⟨go7, co7, eo7, gb7, gl7, cl7, HG7⟩ := Kd.R_form HO107.out (by omega); (cases eo7); have GB7 := ak gb7; have GG7 := ak HG7; clear gb7 gl7 HG7; obtain ⟨hx7_0, hf7_0⟩ := Kd.R_celln false HO107.out (1 : Int) p7 q7; (try (rw [show ((1 : Int)).toNat = 1 from rfl] at hx7_0)); (try (rw [show ((1 : Int)).toNat = 1 from rfl] at hf7_0)); replace p7 := eq_true p7; replace q7 := eq_true q7; obtain ⟨hy13_, hz13_⟩ := Kd.R_celln false HO107.out (1 : Int) (by omega) (odt (by with_reducible assumption)); (try (rw [show ((1 : Int)).toNat = 1 from rfl] at hy13_)); (try (rw [show ((1 : Int)).toNat = 1 from rfl] at hz13_)); have HP13 := Kd.R_putg HO107.out (1 : Int) true) | ((with_reducible refine gate_store (t := 4) (p := 14) rfl ?_); refine store_event (t := 4) (p := 14) (v := ?vo_w14) (w1 := (w11.setCell ⟨go7, (1 : Int).toNat, none⟩ (.bool true))) ?hg ?ho ?hn ?hr ?_; (case ho => rfl); (case hg => rfl); (case hn => rfl); (case hr => (go_simp; done)); intro w14 hw; have hg : w11.grownBy w14 (some go7) := (by rw [hw]; exact HP13.2); have hp_ : Kd.R Kd.bool 4 w14 w.heap.size (fun _ => True) (.slice (some ⟨go7, 0, none⟩) y105.length co7) y108 := (by rw [hw, Ny108.out]; exact HP13.1); clear HP13; have n0_ := ak (blk_grown (g := gb101) (o := .cells #[.int .i64 a0_0, .int .i64 a0_1, .slice A0_2 l0_2.length c0_2] 24 (0, 0)) BK101.out hg (Kd.R_ne HO107.out BK101.out (by decide))); have n1_ := ak (Kd.R_over' (v := (.slice (some ⟨go7, 0, none⟩) y105.length co7)) HO104.out (Kd.R_typed HO107.out) (by decide) hg); have n2_ := ak (hp_); have n3_ := ak ((by rw [hw]; exact bst (HB.out) GB7.out : Below w.heap.size w w14)); clear BK101 HO104 HO107 HB; have BK101 := n0_; have HO104 := n1_; have HO107 := n2_; have HB := n3_; clear n0_ n1_ n2_ n3_; clear hg hw hp_))
    go_loopg [7, 9] k (fun kq v7 v9 w' => ∃ (x7_1 : List Int) (x8_1 : List Bool) (x9_1 : Int), v9 = .int .i64 x9_1 ∧ Aside0 (field_powers.l0 kq a2 x7_1 x8_1 x9_1 a0_0 a0_1 l0_2 = some r) ∧ Aside0 (kq ≤ k) ∧ Aside0 (Kd.R (Kd.int .i64) 3 w' w.heap.size (fun _ => True) v7 x7_1) ∧ Aside0 (Kd.R Kd.bool 4 w' w.heap.size (fun _ => True) (.slice (some ⟨go7, 0, none⟩) y105.length co7) x8_1) ∧ Aside0 (w'.heap[gb101]? = some (.cells #[.int .i64 a0_0, .int .i64 a0_1, (.slice A0_2 l0_2.length c0_2)] 24 (0, 0))) ∧ Aside0 (Below w.heap.size w w'))
    case atStart => exact ⟨(y102), (y108), (a2), (by first | rfl | (simp; done) | (simp [*]; done)), H', ⟨Nat.le_refl _⟩, ⟨by (with_reducible repeat (first | apply Kd.R_alloc | apply Kd.R_drewN | apply Kd.R_drew)); exact HO104.out⟩, ⟨by (with_reducible repeat (first | apply Kd.R_alloc | apply Kd.R_drewN | apply Kd.R_drew)); exact HO107.out⟩, ⟨by (with_reducible repeat (first | refine kdn ?_ _ | refine kdr ?_ | refine kal ?_ _)); exact BK101.out⟩, ⟨by repeat (first | (with_reducible first | exact HB.out | apply bal | apply pbn | apply bd1 | refine bst ?_ GE101.out) | exact HB.out)⟩⟩
    case round =>
     clear H'
     try (clear c4b0)
     try (clear c4b1)
     try (clear c5b0)
     try (clear c5b1)
     try (clear c6b0)
     try (clear c6b1)
     try (clear p7)
     try (clear q7)
     try (clear qi7)
     try (clear hx7_0)
     obtain ⟨x7_1, x8_1, x9_1, rfl, HA, HK1, HO_7, HO_8, BK101, HB⟩ := hrel
     have hl8_1 := (Kd.R_reads' HO_8.out).1
     rw [hl8_1] at HO_8
     (try (simp only [hl8_1]))
     cases gk with
     | zero => exact absurd HA.out (by simp [field_powers.l0])
     | succ k1 =>
      have H := HA.out
      clear HA
      simp only [field_powers.l0] at H
      by_cases c15 : x9_1 = 0
      ·rw [if_pos c15] at H
       have c15b0 : (x9_1 == 0) = true := beq_iff_eq.mpr c15
       have c15b1 : (x9_1 != 0) = false := bnm c15
       clear c15
       obtain rfl := osi H
       go_wp2
       go_ret
       exact ⟨_, by first | rfl | (simp <;> rfl) | (simp [*] <;> rfl), by (with_reducible repeat (first | apply Kd.R_alloc | apply Kd.R_drewN | apply Kd.R_drew)); exact HO_7.out, by repeat (first | (with_reducible first | exact HB.out | apply bal | apply pbn | apply bd1 | refine bst ?_ GE101.out) | exact HB.out)⟩
      ·rw [if_neg c15] at H
       have c15b0 : (x9_1 == 0) = false := bqm c15
       have c15b1 : (x9_1 != 0) = true := bne_iff_ne.mpr c15
       by_cases c16 : 0 ≤ x9_1
       ·rw [if_pos c16] at H
        have c16b0 : decide (0 ≤ x9_1) = true := det c16
        clear c16
        by_cases c17 : x9_1 < (x8_1.length : Int)
        ·rw [if_pos c17] at H
         have c17b0 : decide (x9_1 < (x8_1.length : Int)) = true := det c17
         clear c17
         obtain ⟨bq18, hbq18⟩ : ∃ b_ : Bool, b_ = (rdOf false x8_1 x9_1) := ⟨_, rfl⟩
         replace H : (if bq18 = true then (some x7_1) else (if x7_1.length < 17592186044416 then ((field_multiply.f k1 a0_0 a0_1 l0_2 x9_1 a2).bind fun t114 => (field_powers.l0 k1 a2 (x7_1 ++ [x9_1]) (x8_1.set (x9_1 : Int).toNat true) t114 a0_0 a0_1 l0_2)) else (none))) = some r := by rw [← hbq18] at H; exact H
         have Nbq18 := ak hbq18
         clear hbq18
         by_cases c19 : bq18 = true
         ·subst c19
          have H1 : (some x7_1) = some r := by rw [if_pos rfl] at H; exact H
          clear H
          have H := H1
          clear H1
          obtain rfl := osi H
          have p109 : 0 ≤ (x9_1 : Int) := odt (by with_reducible assumption)
          have q109 : x9_1 < (x8_1.length : Int) := odt (by with_reducible assumption)
          obtain ⟨ad109, e109, hx109_0⟩ := Kd.at_bool (Kd.R_reads' HO_8.out).2.2 x9_1 p109 q109
          (try (rw [← Nbq18.out] at hx109_0))
          obtain rfl : (⟨go7, 0, none⟩ : Addr) = ad109 := (by injection e109)
          (simp only [add_plain] at hx109_0)
          replace p109 := eq_true p109
          replace q109 := eq_true q109
          go_wp2
          go_ret
          exact ⟨_, by first | rfl | (simp <;> rfl) | (simp [*] <;> rfl), by (with_reducible repeat (first | apply Kd.R_alloc | apply Kd.R_drewN | apply Kd.R_drew)); exact HO_7.out, by repeat (first | (with_reducible first | exact HB.out | apply bal | apply pbn | apply bd1 | refine bst ?_ GE101.out) | exact HB.out)⟩
         ·replace c19 := Bool.eq_false_iff.mpr c19
          subst c19
          have H1 : (if x7_1.length < 17592186044416 then ((field_multiply.f k1 a0_0 a0_1 l0_2 x9_1 a2).bind fun t114 => (field_powers.l0 k1 a2 (x7_1 ++ [x9_1]) (x8_1.set (x9_1 : Int).toNat true) t114 a0_0 a0_1 l0_2)) else (none)) = some r := by rw [if_neg (show ¬ (false = true) by decide)] at H; exact H
          clear H
          have H := H1
          clear H1
          obtain ⟨y110, hy110⟩ : ∃ y_ : List Bool, y_ = (x8_1.set (x9_1 : Int).toNat true) := ⟨_, rfl⟩
          replace H : (if x7_1.length < 17592186044416 then ((field_multiply.f k1 a0_0 a0_1 l0_2 x9_1 a2).bind fun t114 => (field_powers.l0 k1 a2 (x7_1 ++ [x9_1]) y110 t114 a0_0 a0_1 l0_2)) else (none)) = some r := by (rw [hy110]; with_reducible exact H)
          have Ny110 := ak hy110
          clear hy110
          by_cases c21 : x7_1.length < 17592186044416
          ·rw [if_pos c21] at H
           have LMc21 := ak c21
           clear c21
           obtain ⟨y111, hy111⟩ : ∃ y_ : List Int, y_ = (x7_1 ++ [x9_1]) := ⟨_, rfl⟩
           replace H : ((field_multiply.f k1 a0_0 a0_1 l0_2 x9_1 a2).bind fun t114 => (field_powers.l0 k1 a2 y111 y110 t114 a0_0 a0_1 l0_2)) = some r := by (rw [hy111]; with_reducible exact H)
           have Ny111 := ak hy111
           clear hy111
           replace H := obm H
           obtain ⟨t114, A220, H⟩ := H
           replace H : (field_powers.l0 k1 a2 y111 y110 t114 a0_0 a0_1 l0_2) = some r := H
           have A22 := ak A220
           clear A220
           have H' := ak H
           clear H
           have p109 : 0 ≤ (x9_1 : Int) := odt (by with_reducible assumption)
           have q109 : x9_1 < (x8_1.length : Int) := odt (by with_reducible assumption)
           obtain ⟨ad109, e109, hx109_0⟩ := Kd.at_bool (Kd.R_reads' HO_8.out).2.2 x9_1 p109 q109
           (try (rw [← Nbq18.out] at hx109_0))
           obtain rfl : (⟨go7, 0, none⟩ : Addr) = ad109 := (by injection e109)
           (simp only [add_plain] at hx109_0)
           replace p109 := eq_true p109
           replace q109 := eq_true q109
           have p20 : 0 ≤ (x9_1 : Int) := odt (by with_reducible assumption)
           have q20 : (x9_1 : Int) < ((x8_1.length : Int) : Int) := odt (by with_reducible assumption)
           obtain ⟨hx20_0, hf20_0⟩ := Kd.R_celln false HO_8.out (x9_1 : Int) p20 q20
           replace p20 := eq_true p20
           replace q20 := eq_true q20
           have HP23 := Kd.R_putg HO_8.out (x9_1 : Int) true
           go_wp2_with (first | ((with_reducible refine gate_store (t := 4) (p := 31) rfl ?_); refine store_event (t := 4) (p := 31) (v := ?vo_w24) (w1 := (wr.setCell ⟨go7, (x9_1 : Int).toNat, none⟩ (.bool true))) ?hg ?ho ?hn ?hr ?_; (case ho => rfl); (case hg => rfl); (case hn => rfl); (case hr => first | (go_simp; done) | (go_simp; rfl)); intro w24 hw; have hg : wr.grownBy w24 (some go7) := (by rw [hw]; exact HP23.2); have hp_ : Kd.R Kd.bool 4 w24 w.heap.size (fun _ => True) (.slice (some ⟨go7, 0, none⟩) x8_1.length co7) y110 := (by rw [hw, Ny110.out]; exact HP23.1); clear HP23; have n0_ := ak (Kd.R_over' (v := (.slice (some ⟨go7, 0, none⟩) x8_1.length co7)) HO_7.out (Kd.R_typed HO_8.out) (by decide) hg); have n1_ := ak (hp_); have n2_ := ak (blk_grown (g := gb101) (o := .cells #[.int .i64 a0_0, .int .i64 a0_1, .slice A0_2 l0_2.length c0_2] 24 (0, 0)) BK101.out hg (Kd.R_ne HO_8.out BK101.out (by decide))); have n3_ := ak ((by rw [hw]; exact bst (HB.out) GB7.out : Below w.heap.size w w24)); clear HO_7 HO_8 BK101 HB; have HO_7 := n0_; have HO_8 := n1_; have BK101 := n2_; have HB := n3_; clear n0_ n1_ n2_ n3_; clear hg hw hp_) | ((with_reducible refine gate_builtin (b := .append) (xs := #[.tmp 32, .tmp 34]) rfl ?_); at_builtin; refine Kd.R_append (Kd.int .i64) (w0 := w) w.heap.size rfl (.tmp 32) (.tmp 34) 22 3 (.int .i64 0) 8 rfl Try.underlying22 info3 rfl (by decide) (by omega) u7 x7_1 x9_1 [.int .i64 x9_1] (fun _ => True) (fun _ => False) rfl rfl ?aP (fun _ hk => hk.elim) ?aF ?aO ?aB ?aS ?aL ?_; (case aP => exact rfl); (case aB => exact HB.out); (case aF => exact (fun _ _ => trivial)); (case aO => exact HO_7.out); (case aS => exact (bsz HB.out)); (case aL => have := LMc21.out; omega); intro v112 w25 ho hb hg hat; rw [← Ny111.out] at ho; have n0_ := ak (Kd.R_over' HO_8.out (Kd.R_typed HO_7.out) (by decide) hg); have n1_ := ak (blk_grown (g := gb101) (o := .cells #[.int .i64 a0_0, .int .i64 a0_1, .slice A0_2 l0_2.length c0_2] 24 (0, 0)) BK101.out hg (Kd.R_ne HO_7.out BK101.out (by decide))); have n2_ := ak (hb); have n3_ := ak (ho); clear HO_8 BK101 HB HO_7; have HO_8 := n0_; have BK101 := n1_; have HB := n2_; have HO113 := n3_; clear n0_ n1_ n2_ n3_; clear ho hb hg hat; have hcz26_0 : w25.cell? ⟨gb101, 0, none⟩ = some (.int .i64 a0_0) := (kce BK101.out 0).trans rfl; have hcz26_1 : w25.cell? ⟨gb101, 1, none⟩ = some (.int .i64 a0_1) := (kce BK101.out 1).trans rfl; have hcz26_2 : w25.cell? ⟨gb101, 2, none⟩ = some (.slice A0_2 l0_2.length c0_2) := (kce BK101.out 2).trans rfl) | ((with_reducible refine gate_callee (f := 104) rfl ?_); refine goesL_ (some 28) rfl rfl Try.func104 (by kernel_rfl) rfl #[.agg #[.int .i64 a0_0, .int .i64 a0_1, .slice A0_2 l0_2.length c0_2], .int .i64 x9_1, .int .i64 a2] rfl (by (try simp only [List.map_toArray, List.map_cons, List.map_nil]); first | done | rfl) ?_; (with_reducible refine (field_multiply.calls k1 a0_0 a0_1 _ _ l0_2 x9_1 a2 t114 _ ?side1 ?side2 A22.out).mono ?_); (case side1 => repeat (first | exact (Kd.C_below HR0_2.out HB.out) | (with_reducible refine Kd.C_alloc ?_ _) | (with_reducible refine Kd.C_drewN ?_ _) | (with_reducible refine Kd.C_drew ?_))); (case side2 => exact HC0_2.out); rintro e w27 ⟨rfl, hb⟩; refine ⟨_, rfl, ?_⟩; have n0_ := ak (Kd.R_below HO_8.out hb); have n1_ := ak (Kd.R_below HO113.out hb); have n2_ := ak (kbe BK101.out hb); have n3_ := ak (bsp HB.out hb); clear HO_8 HO113 BK101 HB; have HO_8 := n0_; have HO113 := n1_; have BK101 := n2_; have HB := n3_; clear n0_ n1_ n2_ n3_; (try clear hb); (try clear hb2); (try clear hk); (try clear hi)))
           (try (simp only [← hl8_1]))
           go_roundg k1
           case measure => have := HK1.out; omega
           case rel => exact ⟨(y111), (y110), (t114), (by first | rfl | (simp; done) | (simp [*]; done)), H', ⟨by have := HK1.out; omega⟩, ⟨by (try simp only [hl8_1]); (with_reducible repeat (first | apply Kd.R_alloc | apply Kd.R_drewN | apply Kd.R_drew)); exact HO113.out⟩, ⟨by (try simp only [hl8_1]); (with_reducible repeat (first | apply Kd.R_alloc | apply Kd.R_drewN | apply Kd.R_drew)); exact HO_8.out⟩, ⟨by (try simp only [hl8_1]); (with_reducible repeat (first | refine kdn ?_ _ | refine kdr ?_ | refine kal ?_ _)); exact BK101.out⟩, ⟨by repeat (first | (with_reducible first | exact HB.out | apply bal | apply pbn | apply bd1 | refine bst ?_ GE101.out) | exact HB.out)⟩⟩
          ·rw [if_neg c21] at H
           exact absurd H (by simp)
        ·rw [if_neg c17] at H
         exact absurd H (by simp)
       ·rw [if_neg c16] at H
        exact absurd H (by simp)
   ·rw [if_neg c6] at H
    exact absurd H (by simp)
  ·rw [if_neg c5] at H
   exact absurd H (by simp)
 ·rw [if_neg c4] at H
  exact absurd H (by simp)
end Go.Proofs.Ytkifipakikbhcaa.Pg
namespace Go.Proofs.Ytkifipakikbhcaa.Hand
open Ytkifipakikbhcaa.Ref Ytkifipakikbhcaa.Pg
open Go.RowKit YtkifipakikbhcaaW.PrintWords YtkifipakikbhcaaW.PrintLast YtkifipakikbhcaaW.PrintMore
def genL (pw : Int → List Int) (one : Int → Int) (q : Int) : Nat → Int → List Int
 | 0, _ => []
 | d + 1, x => if ((pw x).length : Int) = q - 1 ∧ one x = 1 then pw x else genL pw one q d (x + 1)
theorem cells4_below {W W' : World} {a b c d : Addr} {s t u v : Value} (h : W.cell? a = some s ∧ W.cell? b = some t ∧ W.cell? c = some u ∧ W.cell? d = some v) (hb : Below W.heap.size W W') :
  W'.cell? a = some s ∧ W'.cell? b = some t ∧ W'.cell? c = some u ∧ W'.cell? d = some v :=
 ⟨cbl h.1 hb, cbl h.2.1 hb, cbl h.2.2.1 hb, cbl h.2.2.2 hb⟩
theorem generator_calls (k : Nat) (P M : Int) (A : Option Addr) (c : Nat) (md : List Int) (q : Int) (w : World) (hr : Kd.C (Kd.int .i64) w A md.length md) (hc : md.length ≤ c)
  (hq : 2 ≤ q) (hq2 : q ≤ 256) (pw : Int → List Int) (one : Int → Int) (hpw : ∀ x, 1 ≤ x → x < q → field_powers.f k P M md q x = some (pw x))
  (hone : ∀ x, 1 ≤ x → x < q → ((pw x).length : Int) = q - 1 → field_multiply.f k P M md (rd (pw x) (q - 2)) x = some (one x)) :
  Calls Try.prog 87 #[.agg #[.int .i64 P, .int .i64 M, .slice A md.length c], .int .i64 q] w fun e w' => ∃ v, e = .returned v ∧ Kd.R (Kd.int .i64) 3 w' w.heap.size (fun _ => True) v (genL pw one q (q - 1).toNat 1) ∧ (genL pw one q (q - 1).toNat 1 = [] → v = .slice none 0 0) ∧ Below w.heap.size w w' := by
 have hu24 := Try.underlying24
 have HR := ak hr
 have HC := ak hc
 have HQ := ak (And.intro hq hq2)
 have HPW := ak hpw
 have HONE := ak hone
 obtain ⟨q1, hq1⟩ : ∃ q1 : Int, wrap64 (q - 1) = q1 := ⟨_, rfl⟩
 have hq1' : IntKind.i64.wrap (q - 1) = q1 := (i64_w _).trans hq1
 have HQ1 := ak (show q1 = q - 1 from by rw [← hq1]; unfold wrap64; omega)
 obtain ⟨q2, hq2'⟩ : ∃ q2 : Int, wrap64 (q - 2) = q2 := ⟨_, rfl⟩
 have hq2'' : IntKind.i64.wrap (q - 2) = q2 := (i64_w _).trans hq2'
 have HQ2 := ak (show q2 = q - 2 from by rw [← hq2']; unfold wrap64; omega)
 clear hr hc hq hq2 hpw hone
 go_enter Try.func87, Try.ntmps87
 go_wp2
 obtain ⟨w1, hw1⟩ : ∃ w1 : World, w1 = w.alloc (Obj.cells #[.int .i64 P, .int .i64 M, .slice A md.length c] 24) := ⟨_, rfl⟩
 have HB := ak (show Below w.heap.size w w1 by rw [hw1]; exact bal (Below.refl _ _) _)
 have HBK := ak (show w1.heap[w.heap.size]? = some (.cells #[.int .i64 P, .int .i64 M, .slice A md.length c] 24 (0, 0)) by rw [hw1]; exact heap_alloc_new w _)
 rw [← hw1]
 clear hw1
 go_loopg [5] (q - 1).toNat (fun gk v5 w' => ∃ x : Int, v5 = .int .i64 x ∧ Aside0 (1 ≤ x ∧ x ≤ q ∧ gk = (q - x).toNat ∧ genL pw one q (q - x).toNat x = genL pw one q (q - 1).toNat 1) ∧ Aside0 (Below w1.heap.size w1 w'))
 case atStart => exact ⟨1, rfl, ⟨by omega, by have := HQ.out; omega, rfl, rfl⟩, ⟨Below.refl _ _⟩⟩
 case round =>
  obtain ⟨x, rfl, HX, HB2⟩ := hrel
  have BK2 := ak ((HB2.out.block _ (klt HBK.out)).trans HBK.out)
  have hcz0 : wr.cell? ⟨w.heap.size, 0, none⟩ = some (.int .i64 P) := (kce BK2.out 0).trans rfl
  have hcz1 : wr.cell? ⟨w.heap.size, 1, none⟩ = some (.int .i64 M) := (kce BK2.out 1).trans rfl
  have hcz2 : wr.cell? ⟨w.heap.size, 2, none⟩ = some (.slice A md.length c) := (kce BK2.out 2).trans rfl
  by_cases hx : x < q
  ·have c1 : decide (x < q) = true := det hx
   have HX0 := ak hx
   clear hx
   have HP := ak (HPW.out x HX.out.1 HX0.out)
   have HCW := ak (Kd.C_below (Kd.C_below HR.out HB.out) HB2.out)
   go_wp2_with (go_at_call 103; (with_reducible refine (field_powers.calls k P M A c md q x (pw x) wr ?side1 ?side2 ?side3).mono ?_); (case side1 => exact HCW.out); (case side2 => exact HC.out); (case side3 => exact HP.out); rintro e w2 ⟨vp, rfl, hR, hB⟩; have HRP := ak hR; have HB3 := ak hB; clear hR hB)
   obtain ⟨Ap, cp, ep⟩ := Kd.R_slice HRP.out
   subst ep
   replace hcz0 := cbl hcz0 HB3.out
   replace hcz1 := cbl hcz1 HB3.out
   replace hcz2 := cbl hcz2 HB3.out
   by_cases hg : ((pw x).length : Int) = q1
   ·have g1 : (((pw x).length : Int) == q1) = true := beq_iff_eq.2 hg
    have HG := ak hg
    clear hg
    have r1 : (0 ≤ q2) = True := eq_true (by have := HQ.out; have := HQ2.out; omega)
    have r2 : (q2 < ((pw x).length : Int)) = True := eq_true (by have := HG.out; have := HQ1.out; have := HQ2.out; omega)
    obtain ⟨ap, eap, hxp⟩ := Kd.at_int (Kd.R_reads' HRP.out).2.2 q2 (of_eq_true r1) (of_eq_true r2)
    cases eap
    have HM := ak (show field_multiply.f k P M md (rd (pw x) q2) x = some (one x) from by rw [HQ2.out]; exact HONE.out x HX.out.1 HX0.out (by rw [HG.out, HQ1.out]))
    have HCM := ak (Kd.C_below HCW.out HB3.out)
    go_region_held3 (fun w' => w'.cell? ⟨w.heap.size, 0, none⟩ = some (.int .i64 P) ∧ w'.cell? ⟨w.heap.size, 1, none⟩ = some (.int .i64 M) ∧ w'.cell? ⟨w.heap.size, 2, none⟩ = some (.slice A md.length c) ∧ w'.cell? (ap.add q2.toNat) = some (.int .i64 (rd (pw x) q2))) (first | go_keep | exact HS4.out)
     (first | (go_at_call 104; (with_reducible refine (field_multiply.calls k P M A c md (rd (pw x) q2) x (one x) _ ?side1 ?side2 ?side3).mono ?_); (case side1 => exact Kd.C_drew HCM.out); (case side2 => exact HC.out); (case side3 => exact HM.out); rintro e w3 ⟨rfl, hB⟩; have HB4 := ak hB; have HS4 := ak (cells4_below (by assumption) hB); clear hB))
    go_wp2
    ·go_ret
     have hone : one x = 1 := by rename_i h; exact beq_iff_eq.1 h
     have hG : genL pw one q (q - 1).toNat 1 = pw x := by
      have h := HX.out; have h2 := HX0.out
      rw [← h.2.2.2, show (q - x).toNat = (q - x).toNat - 1 + 1 from by omega, genL, if_pos ⟨by rw [HG.out, HQ1.out], hone⟩]
     refine ⟨_, rfl, by rw [hG]; exact Kd.R_lower (Kd.R_below (Kd.R_drew HRP.out) HB4.out) (bsz (bsp HB.out HB2.out)), ?_, bsp HB.out (bsp (bd1 (bsp HB2.out HB3.out)) HB4.out)⟩
     intro h0
     rw [hG] at h0
     have h1 := HG.out; have h2 := HQ1.out; have h3 := HQ.out
     rw [h0] at h1
     simp at h1; omega
    ·go_roundg (q - (x + 1)).toNat
     case measure => have := HX.out; have := HX0.out; omega
     case rel =>
      have h := HX.out; have h2 := HX0.out
      refine ⟨x + 1, by rw [wrap64_succ' (n := 256) (by omega) (by have := HQ.out; omega) (by omega)], ⟨by omega, by omega, rfl, ?_⟩, ⟨bsp (bd1 (bsp HB2.out HB3.out)) HB4.out⟩⟩
      rw [← h.2.2.2, show (q - x).toNat = (q - (x + 1)).toNat + 1 from by omega, genL, if_neg]
      intro hh; rename_i h0; rw [hh.2] at h0; simp at h0
   ·have g1 : (((pw x).length : Int) == q1) = false := beq_eq_false_iff_ne.2 hg
    have HG := ak hg
    clear hg
    go_quiet (fail)
    go_wp2
    go_roundg (q - (x + 1)).toNat
    case measure => have := HX.out; have := HX0.out; omega
    case rel =>
     have h := HX.out; have h2 := HX0.out
     refine ⟨x + 1, by rw [wrap64_succ' (n := 256) (by omega) (by have := HQ.out; omega) (by omega)], ⟨by omega, by omega, rfl, ?_⟩, ⟨pbn (bsp HB2.out HB3.out) _⟩⟩
     rw [← h.2.2.2, show (q - x).toNat = (q - (x + 1)).toNat + 1 from by omega, genL, if_neg]
     intro hh; exact HG.out (by rw [hh.1, HQ1.out])
  ·have c1 : decide (x < q) = false := dff hx
   go_wp2
   go_ret
   have hG : genL pw one q (q - 1).toNat 1 = [] := by
    have h := HX.out
    rw [← h.2.2.2, show (q - x).toNat = 0 from by omega, genL]
   exact ⟨_, rfl, by (rw [show q.toNat - 1 = (q - 1).toNat from by omega, hG]); exact Kd.R_nil _ _ _ _ _, fun _ => rfl, bsp HB.out HB2.out⟩
end Go.Proofs.Ytkifipakikbhcaa.Hand
namespace Go.Proofs.Ytkifipakikbhcaa.Gf
open Ytkifipakikbhcaa.Ref
open Go.RowKit YtkifipakikbhcaaW.PrintWords YtkifipakikbhcaaW.PrintLast YtkifipakikbhcaaW.PrintMore
def rd_L1 (xs : List (List Int)) (i : Int) : (List Int) := xs.getD i.toNat ([] : List Int)
def IsS109 (w0 W : World) (g : Nat) (f0 : Int) (f1 : Int) (f2 : List Int) (f3 : Int) (f4 : List Int) (f5 : List Int) : Prop := ∃ A2 c2, ∃ A4 c4, ∃ A5 c5, W.heap[g]? = some (.cells #[.int .i64 f0, .int .i64 f1, .slice A2 f2.length c2, .int .i64 f3, .slice A4 f4.length c4, .slice A5 f5.length c5] 109 (0, 0)) ∧ w0.heap.size ≤ g ∧ Kd.C (Kd.int .i64) w0 A2 f2.length f2 ∧ Kd.C (Kd.int .i64) w0 A4 f4.length f4 ∧ Kd.C (Kd.int .i64) w0 A5 f5.length f5
theorem IsS109.grown {w0 W : World} {g : Nat} {f0 : Int} {f1 : Int} {f2 : List Int} {f3 : Int} {f4 : List Int} {f5 : List Int} {W1 : World} {row : Option Nat} (h : IsS109 w0 W g f0 f1 f2 f3 f4 f5) (hw : W.grownBy W1 row) (hne : some g ≠ row) : IsS109 w0 W1 g f0 f1 f2 f3 f4 f5 := by
 obtain ⟨A2, c2, A4, c4, A5, c5, hb, hg, hr2, hr4, hr5⟩ := h
 exact ⟨A2, c2, A4, c4, A5, c5, blk_grown hb hw hne, hg, hr2, hr4, hr5⟩
theorem IsS109.below {w0 W : World} {g : Nat} {f0 : Int} {f1 : Int} {f2 : List Int} {f3 : Int} {f4 : List Int} {f5 : List Int} {W1 : World} (h : IsS109 w0 W g f0 f1 f2 f3 f4 f5) (hw : Below W.heap.size W W1) : IsS109 w0 W1 g f0 f1 f2 f3 f4 f5 := h.grown (grown_of_below hw none) (by simp)
theorem IsS109.alloc {w0 W : World} {g : Nat} {f0 : Int} {f1 : Int} {f2 : List Int} {f3 : Int} {f4 : List Int} {f5 : List Int} (h : IsS109 w0 W g f0 f1 f2 f3 f4 f5) (o : Obj) : IsS109 w0 (W.alloc o) g f0 f1 f2 f3 f4 f5 := h.below (bal (Below.refl _ _) o)
theorem IsS109.drewN {w0 W : World} {g : Nat} {f0 : Int} {f1 : Int} {f2 : List Int} {f3 : Int} {f4 : List Int} {f5 : List Int} (h : IsS109 w0 W g f0 f1 f2 f3 f4 f5) (m : Nat) : IsS109 w0 (W.drewN m) g f0 f1 f2 f3 f4 f5 := h
theorem IsS109.drew {w0 W : World} {g : Nat} {f0 : Int} {f1 : Int} {f2 : List Int} {f3 : Int} {f4 : List Int} {f5 : List Int} (h : IsS109 w0 W g f0 f1 f2 f3 f4 f5) : IsS109 w0 W.drew g f0 f1 f2 f3 f4 f5 := h
theorem IsS109.lt {w0 W : World} {g : Nat} {f0 : Int} {f1 : Int} {f2 : List Int} {f3 : Int} {f4 : List Int} {f5 : List Int} (h : IsS109 w0 W g f0 f1 f2 f3 f4 f5) : g < W.heap.size := by
 obtain ⟨A2, c2, A4, c4, A5, c5, hb, hg, hr2, hr4, hr5⟩ := h
 exact klt hb
theorem IsS109.ge {w0 W : World} {g : Nat} {f0 : Int} {f1 : Int} {f2 : List Int} {f3 : Int} {f4 : List Int} {f5 : List Int} (h : IsS109 w0 W g f0 f1 f2 f3 f4 f5) : w0.heap.size ≤ g := by
 obtain ⟨A2, c2, A4, c4, A5, c5, hb, hg, hr2, hr4, hr5⟩ := h
 exact hg
theorem IsS109.far {w0 W : World} {g : Nat} {f0 : Int} {f1 : Int} {f2 : List Int} {f3 : Int} {f4 : List Int} {f5 : List Int} {p : Addr} (h : IsS109 w0 W g f0 f1 f2 f3 f4 f5) (hne : g ≠ p.block) (u : Value) : IsS109 w0 (W.setCell p u) g f0 f1 f2 f3 f4 f5 := by
 obtain ⟨A2, c2, A4, c4, A5, c5, hb, hg, hr2, hr4, hr5⟩ := h
 exact ⟨A2, c2, A4, c4, A5, c5, blk_far hb hne u, hg, hr2, hr4, hr5⟩
theorem cellS109_0 {W : World} {g : Nat} {A2 : Option Addr} {c2 : Nat} {A4 : Option Addr} {c4 : Nat} {A5 : Option Addr} {c5 : Nat} {f0 : Int} {f1 : Int} {f2 : List Int} {f3 : Int} {f4 : List Int} {f5 : List Int} (h : W.heap[g]? = some (.cells #[.int .i64 f0, .int .i64 f1, .slice A2 f2.length c2, .int .i64 f3, .slice A4 f4.length c4, .slice A5 f5.length c5] 109 (0, 0))) : W.cell? ⟨g, 0, none⟩ = some (.int .i64 f0) := (kce h 0).trans rfl
theorem cellS109_1 {W : World} {g : Nat} {A2 : Option Addr} {c2 : Nat} {A4 : Option Addr} {c4 : Nat} {A5 : Option Addr} {c5 : Nat} {f0 : Int} {f1 : Int} {f2 : List Int} {f3 : Int} {f4 : List Int} {f5 : List Int} (h : W.heap[g]? = some (.cells #[.int .i64 f0, .int .i64 f1, .slice A2 f2.length c2, .int .i64 f3, .slice A4 f4.length c4, .slice A5 f5.length c5] 109 (0, 0))) : W.cell? ⟨g, 1, none⟩ = some (.int .i64 f1) := (kce h 1).trans rfl
theorem cellS109_2 {W : World} {g : Nat} {A2 : Option Addr} {c2 : Nat} {A4 : Option Addr} {c4 : Nat} {A5 : Option Addr} {c5 : Nat} {f0 : Int} {f1 : Int} {f2 : List Int} {f3 : Int} {f4 : List Int} {f5 : List Int} (h : W.heap[g]? = some (.cells #[.int .i64 f0, .int .i64 f1, .slice A2 f2.length c2, .int .i64 f3, .slice A4 f4.length c4, .slice A5 f5.length c5] 109 (0, 0))) : W.cell? ⟨g, 2, none⟩ = some (.slice A2 f2.length c2) := (kce h 2).trans rfl
theorem cellS109_3 {W : World} {g : Nat} {A2 : Option Addr} {c2 : Nat} {A4 : Option Addr} {c4 : Nat} {A5 : Option Addr} {c5 : Nat} {f0 : Int} {f1 : Int} {f2 : List Int} {f3 : Int} {f4 : List Int} {f5 : List Int} (h : W.heap[g]? = some (.cells #[.int .i64 f0, .int .i64 f1, .slice A2 f2.length c2, .int .i64 f3, .slice A4 f4.length c4, .slice A5 f5.length c5] 109 (0, 0))) : W.cell? ⟨g, 3, none⟩ = some (.int .i64 f3) := (kce h 3).trans rfl
theorem cellS109_4 {W : World} {g : Nat} {A2 : Option Addr} {c2 : Nat} {A4 : Option Addr} {c4 : Nat} {A5 : Option Addr} {c5 : Nat} {f0 : Int} {f1 : Int} {f2 : List Int} {f3 : Int} {f4 : List Int} {f5 : List Int} (h : W.heap[g]? = some (.cells #[.int .i64 f0, .int .i64 f1, .slice A2 f2.length c2, .int .i64 f3, .slice A4 f4.length c4, .slice A5 f5.length c5] 109 (0, 0))) : W.cell? ⟨g, 4, none⟩ = some (.slice A4 f4.length c4) := (kce h 4).trans rfl
theorem cellS109_5 {W : World} {g : Nat} {A2 : Option Addr} {c2 : Nat} {A4 : Option Addr} {c4 : Nat} {A5 : Option Addr} {c5 : Nat} {f0 : Int} {f1 : Int} {f2 : List Int} {f3 : Int} {f4 : List Int} {f5 : List Int} (h : W.heap[g]? = some (.cells #[.int .i64 f0, .int .i64 f1, .slice A2 f2.length c2, .int .i64 f3, .slice A4 f4.length c4, .slice A5 f5.length c5] 109 (0, 0))) : W.cell? ⟨g, 5, none⟩ = some (.slice A5 f5.length c5) := (kce h 5).trans rfl
def field_GF_Is.f (s0_0 : Int) (s0_1 : Int) (s0_2 : List Int) (s0_3 : Int) (s0_4 : List Int) (s0_5 : List Int) (a1 : Int) : Option (Bool × Int × Int × Int) := if a1 ≥ 0 then (some (decide (a1 < s0_3), s0_0, s0_1, s0_3)) else (some (false, s0_0, s0_1, s0_3))
theorem field_GF_Is.calls (g : Nat) (s0_0 : Int) (s0_1 : Int) (s0_2 : List Int) (s0_3 : Int) (s0_4 : List Int) (s0_5 : List Int) (a1 : Int) (r1 : Bool) (r2 : Int) (r3 : Int) (r4 : Int) (w0 w : World) (hI : IsS109 w0 w g s0_0 s0_1 s0_2 s0_3 s0_4 s0_5) (hB : Below w0.heap.size w0 w) (h : field_GF_Is.f s0_0 s0_1 s0_2 s0_3 s0_4 s0_5 a1 = some (r1, r2, r3, r4)) :
  Calls Try.prog 63 #[.pointer (some ⟨g, 0, none⟩), .int .i64 a1] w fun e w' => e = .returned (.bool r1) ∧ IsS109 w0 w' g r2 r3 s0_2 r4 s0_4 s0_5 ∧ Below w0.heap.size w0 w' ∧ KeepBut w w' g none := by
 have HI0 := ak hI
 have HK := ak (KeepBut.refl w g none)
 have HL := ak hB.size
 clear hI
 have HW0 := ak hB.size
 have HB := ak hB
 clear hB
 have H : (if a1 ≥ 0 then (some (decide (a1 < s0_3), s0_0, s0_1, s0_3)) else (some (false, s0_0, s0_1, s0_3))) = some (r1, r2, r3, r4) := h
 clear h
 by_cases c3 : a1 ≥ 0
 ·rw [if_pos c3] at H
  have c3b0 : decide (0 ≤ a1) = true := det c3
  clear c3
  simp only [Option.some.injEq, Prod.mk.injEq] at H
  obtain ⟨rfl, rfl, rfl, rfl⟩ := H
  obtain ⟨ASz4_2, cSz4_2, ASz4_4, cSz4_4, ASz4_5, cSz4_5, HGz4, hgz4, HSz4_2, HSz4_4, HSz4_5⟩ := HI0.out
  have hcz4_0 := cellS109_0 HGz4
  have hcz4_1 := cellS109_1 HGz4
  have hcz4_2 := cellS109_2 HGz4
  have hcz4_3 := cellS109_3 HGz4
  have hcz4_4 := cellS109_4 HGz4
  have hcz4_5 := cellS109_5 HGz4
  have hfz4_0 := kfz HGz4 0
  have hfz4_1 := kfz HGz4 1
  have hfz4_3 := kfz HGz4 3
  clear HGz4 hgz4
  go_enter Try.func63, Try.ntmps63
  go_wp2
  go_ret
  exact ⟨by first | rfl | (simp <;> rfl) | (simp [*] <;> rfl), by repeat (first | (with_reducible first | exact HI0.out | apply IsS109.alloc | apply IsS109.drewN | apply IsS109.drew | apply IsS109.set_0 | apply IsS109.set_1 | apply IsS109.set_3) | exact HI0.out), by repeat (first | (with_reducible first | exact HB.out | apply bal | apply pbn | apply bd1 | refine bst ?_ (IsS109.ge HI0.out)) | exact HB.out), by repeat (first | (with_reducible first | exact HK.out | apply KeepBut.set_ | apply keep_drewN | apply keep_drew | apply keep_alloc) | exact HK.out)⟩
 ·rw [if_neg c3] at H
  have c3b0 : decide (0 ≤ a1) = false := dff c3
  clear c3
  simp only [Option.some.injEq, Prod.mk.injEq] at H
  obtain ⟨rfl, rfl, rfl, rfl⟩ := H
  go_enter Try.func63, Try.ntmps63
  go_wp2
  go_ret
  exact ⟨by first | rfl | (simp <;> rfl) | (simp [*] <;> rfl), by repeat (first | (with_reducible first | exact HI0.out | apply IsS109.alloc | apply IsS109.drewN | apply IsS109.drew | apply IsS109.set_0 | apply IsS109.set_1 | apply IsS109.set_3) | exact HI0.out), by repeat (first | (with_reducible first | exact HB.out | apply bal | apply pbn | apply bd1 | refine bst ?_ (IsS109.ge HI0.out)) | exact HB.out), by repeat (first | (with_reducible first | exact HK.out | apply KeepBut.set_ | apply keep_drewN | apply keep_drew | apply keep_alloc) | exact HK.out)⟩
def matrix_entries.l0 : Nat → List Int → Int → Int → Int → Int → List Int → Int → List Int → List Int → Option (Int × Int × Int × Int)
 | 0, _, _, _, _, _, _, _, _, _ => none
 | k + 1, x7, x8, x9, x1000, x1001, x1002, x1003, x1004, x1005 => if x9 < x8 then (if 0 ≤ x9 then (if x9 < (x7.length : Int) then ((field_GF_Is.f x1000 x1001 x1002 x1003 x1004 x1005 (rd x7 x9)).bind fun bt154 => (if bt154.1 = true then (matrix_entries.l0 k x7 x8 (wrap64 (x9 + 1)) bt154.2.1 bt154.2.2.1 x1002 bt154.2.2.2 x1004 x1005) else (some (2, bt154.2.1, bt154.2.2.1, bt154.2.2.2)))) else (none)) else (none)) else (some (0, x1000, x1001, x1003))
def matrix_entries.f (k : Nat) (s0_0 : Int) (s0_1 : Int) (s0_2 : List Int) (s0_3 : Int) (s0_4 : List Int) (s0_5 : List Int) (l1 : List Int) : Option (Int × Int × Int × Int) := matrix_entries.l0 k l1 (l1.length : Int) 0 s0_0 s0_1 s0_2 s0_3 s0_4 s0_5
theorem matrix_entries.calls (k : Nat) (g : Nat) (s0_0 : Int) (s0_1 : Int) (s0_2 : List Int) (s0_3 : Int) (s0_4 : List Int) (s0_5 : List Int) (A1 : Option Addr) (c1 : Nat) (l1 : List Int) (r1 : Int) (r2 : Int) (r3 : Int) (r4 : Int) (w0 w : World) (hI : IsS109 w0 w g s0_0 s0_1 s0_2 s0_3 s0_4 s0_5) (hB : Below w0.heap.size w0 w) (hr1 : Kd.C (Kd.int .i64) w A1 l1.length l1) (hc1 : l1.length ≤ c1) (hf1 : ∀ ad, A1 = some ad → 0 < l1.length → ad.block ≠ g) (h : matrix_entries.f k s0_0 s0_1 s0_2 s0_3 s0_4 s0_5 l1 = some (r1, r2, r3, r4)) :
  Calls Try.prog 82 #[.pointer (some ⟨g, 0, none⟩), .slice A1 l1.length c1] w fun e w' => e = .returned (.int .i64 r1) ∧ IsS109 w0 w' g r2 r3 s0_2 r4 s0_4 s0_5 ∧ Below w0.heap.size w0 w' ∧ KeepBut w w' g none := by
 have HR1 := ak hr1
 have HC1 := ak hc1
 clear hr1 hc1
 have HI0 := ak hI
 have HK := ak (KeepBut.refl w g none)
 have HL := ak hB.size
 clear hI
 have HW0 := ak hB.size
 have HB := ak hB
 clear hB
 have H : (matrix_entries.l0 k l1 (l1.length : Int) 0 s0_0 s0_1 s0_2 s0_3 s0_4 s0_5) = some (r1, r2, r3, r4) := h
 clear h
 have H' := ak H
 clear H
 go_enter Try.func82, Try.ntmps82
 go_wp2
 go_loopg [9] k (fun kq v9 w' => ∃ (x9_1 : Int) (x1000_1 : Int) (x1001_1 : Int) (x1003_1 : Int), v9 = .int .i64 x9_1 ∧ Aside0 (matrix_entries.l0 kq l1 (l1.length : Int) x9_1 x1000_1 x1001_1 s0_2 x1003_1 s0_4 s0_5 = some (r1, r2, r3, r4)) ∧ Aside0 (kq ≤ k) ∧ Aside0 (IsS109 w0 w' g x1000_1 x1001_1 s0_2 x1003_1 s0_4 s0_5) ∧ Aside0 (KeepBut w w' g none) ∧ Aside0 (Below w0.heap.size w0 w'))
 case atStart => exact ⟨(0), (s0_0), (s0_1), (s0_3), (by first | rfl | (simp; done) | (simp [*]; done)), H', ⟨Nat.le_refl _⟩, ⟨by repeat (first | (with_reducible first | exact HI0.out | apply IsS109.alloc | apply IsS109.drewN | apply IsS109.drew | apply IsS109.set_0 | apply IsS109.set_1 | apply IsS109.set_3) | exact HI0.out)⟩, ⟨by repeat (first | (with_reducible first | exact HK.out | apply KeepBut.set_ | apply keep_drewN | apply keep_drew | apply keep_alloc) | exact HK.out)⟩, ⟨by repeat (first | (with_reducible first | exact HB.out | apply bal | apply pbn | apply bd1 | refine bst ?_ (IsS109.ge HI0.out)) | exact HB.out)⟩⟩
 case round =>
  clear H'
  obtain ⟨x9_1, x1000_1, x1001_1, x1003_1, rfl, HA, HK1, HI0, HK, HB⟩ := hrel
  cases gk with
  | zero => exact absurd HA.out (by simp [matrix_entries.l0])
  | succ k1 =>
   have H := HA.out
   clear HA
   simp only [matrix_entries.l0] at H
   by_cases c3 : x9_1 < (l1.length : Int)
   ·rw [if_pos c3] at H
    have c3b0 : decide (x9_1 < (l1.length : Int)) = true := det c3
    clear c3
    by_cases c4 : 0 ≤ x9_1
    ·rw [if_pos c4] at H
     have c4b0 : decide (0 ≤ x9_1) = true := det c4
     clear c4
     by_cases c5 : x9_1 < (l1.length : Int)
     ·rw [if_pos c5] at H
      have c5b0 : decide (x9_1 < (l1.length : Int)) = true := det c5
      clear c5
      replace H := obm H
      obtain ⟨⟨t154, t155, t156, t157⟩, A60, H⟩ := H
      replace H : (if t154 = true then (matrix_entries.l0 k1 l1 (l1.length : Int) (wrap64 (x9_1 + 1)) t155 t156 s0_2 t157 s0_4 s0_5) else (some (2, t155, t156, t157))) = some (r1, r2, r3, r4) := H
      have A6 := ak A60
      clear A60
      by_cases c7 : t154 = true
      ·subst c7
       have H1 : (matrix_entries.l0 k1 l1 (l1.length : Int) (wrap64 (x9_1 + 1)) t155 t156 s0_2 t157 s0_4 s0_5) = some (r1, r2, r3, r4) := by rw [if_pos rfl] at H; exact H
       clear H
       have H := H1
       clear H1
       have H' := ak H
       clear H
       have p153 : 0 ≤ (x9_1 : Int) := odt (by with_reducible assumption)
       have q153 : x9_1 < (l1.length : Int) := odt (by with_reducible assumption)
       obtain ⟨ad153, e153, hx153_0⟩ := Kd.at_int HR1.out x9_1 p153 q153
       cases e153
       replace hx153_0 := keep_cell HK.out hx153_0 (by (rw [add_block]; exact hf1 _ rfl (by omega)))
       replace p153 := eq_true p153
       replace q153 := eq_true q153
       go_wp2_with (first | ((with_reducible refine gate_callee (f := 63) rfl ?_); refine goesL_ (some 15) rfl rfl Try.func63 (by kernel_rfl) rfl #[.pointer (some ⟨g, 0, none⟩), .int .i64 (rd l1 x9_1)] rfl (by (try simp only [List.map_toArray, List.map_cons, List.map_nil]); first | done | rfl | (simp only [List.length_drop, List.length_take]; rfl)) ?_; (with_reducible refine (field_GF_Is.calls g x1000_1 x1001_1 s0_2 x1003_1 s0_4 s0_5 (rd l1 x9_1) true t155 t156 t157 w0 _ ?side1 ?side2 A6.out).mono ?_); (case side1 => repeat (first | (with_reducible first | exact HI0.out | apply IsS109.alloc | apply IsS109.drewN | apply IsS109.drew | apply IsS109.set_0 | apply IsS109.set_1 | apply IsS109.set_3) | exact HI0.out)); (case side2 => repeat (first | (with_reducible first | exact HB.out | apply bal | apply pbn | apply bd1 | refine bst ?_ (IsS109.ge HI0.out)) | exact HB.out)); rintro e w8 ⟨rfl, hi, hb, hk⟩; refine ⟨_, rfl, ?_⟩; have n0_ := ak (KeepBut.trans (by repeat (first | (with_reducible first | exact HK.out | apply KeepBut.set_ | apply keep_drewN | apply keep_drew | apply keep_alloc) | exact HK.out)) hk (.inl rfl)); have n1_ := ak (hb); have n2_ := ak (hi); clear HK HB HI0; have HK := n0_; have HB := n1_; have HI0 := n2_; clear n0_ n1_ n2_; (try clear hb); (try clear hb2); (try clear hk); (try clear hi)))
       go_roundg k1
       case measure => have := HK1.out; omega
       case rel => exact ⟨(wrap64 (x9_1 + 1)), (t155), (t156), (t157), (by first | rfl | (simp; done) | (simp [*]; done)), H', ⟨by have := HK1.out; omega⟩, ⟨by repeat (first | (with_reducible first | exact HI0.out | apply IsS109.alloc | apply IsS109.drewN | apply IsS109.drew | apply IsS109.set_0 | apply IsS109.set_1 | apply IsS109.set_3) | exact HI0.out)⟩, ⟨by repeat (first | (with_reducible first | exact HK.out | apply KeepBut.set_ | apply keep_drewN | apply keep_drew | apply keep_alloc) | exact HK.out)⟩, ⟨by repeat (first | (with_reducible first | exact HB.out | apply bal | apply pbn | apply bd1 | refine bst ?_ (IsS109.ge HI0.out)) | exact HB.out)⟩⟩
      ·replace c7 := Bool.eq_false_iff.mpr c7
       subst c7
       have H1 : (some (2, t155, t156, t157)) = some (r1, r2, r3, r4) := by rw [if_neg (show ¬ (false = true) by decide)] at H; exact H
       clear H
       have H := H1
       clear H1
       simp only [Option.some.injEq, Prod.mk.injEq] at H
       obtain ⟨rfl, rfl, rfl, rfl⟩ := H
       have p153 : 0 ≤ (x9_1 : Int) := odt (by with_reducible assumption)
       have q153 : x9_1 < (l1.length : Int) := odt (by with_reducible assumption)
       obtain ⟨ad153, e153, hx153_0⟩ := Kd.at_int HR1.out x9_1 p153 q153
       cases e153
       replace hx153_0 := keep_cell HK.out hx153_0 (by (rw [add_block]; exact hf1 _ rfl (by omega)))
       replace p153 := eq_true p153
       replace q153 := eq_true q153
       go_wp2_with (first | ((with_reducible refine gate_callee (f := 63) rfl ?_); refine goesL_ (some 15) rfl rfl Try.func63 (by kernel_rfl) rfl #[.pointer (some ⟨g, 0, none⟩), .int .i64 (rd l1 x9_1)] rfl (by (try simp only [List.map_toArray, List.map_cons, List.map_nil]); first | done | rfl | (simp only [List.length_drop, List.length_take]; rfl)) ?_; (with_reducible refine (field_GF_Is.calls g x1000_1 x1001_1 s0_2 x1003_1 s0_4 s0_5 (rd l1 x9_1) false t155 t156 t157 w0 _ ?side1 ?side2 A6.out).mono ?_); (case side1 => repeat (first | (with_reducible first | exact HI0.out | apply IsS109.alloc | apply IsS109.drewN | apply IsS109.drew | apply IsS109.set_0 | apply IsS109.set_1 | apply IsS109.set_3) | exact HI0.out)); (case side2 => repeat (first | (with_reducible first | exact HB.out | apply bal | apply pbn | apply bd1 | refine bst ?_ (IsS109.ge HI0.out)) | exact HB.out)); rintro e w9 ⟨rfl, hi, hb, hk⟩; refine ⟨_, rfl, ?_⟩; have n0_ := ak (KeepBut.trans (by repeat (first | (with_reducible first | exact HK.out | apply KeepBut.set_ | apply keep_drewN | apply keep_drew | apply keep_alloc) | exact HK.out)) hk (.inl rfl)); have n1_ := ak (hb); have n2_ := ak (hi); clear HK HB HI0; have HK := n0_; have HB := n1_; have HI0 := n2_; clear n0_ n1_ n2_; (try clear hb); (try clear hb2); (try clear hk); (try clear hi)))
       go_ret
       exact ⟨by first | rfl | (simp <;> rfl) | (simp [*] <;> rfl), by repeat (first | (with_reducible first | exact HI0.out | apply IsS109.alloc | apply IsS109.drewN | apply IsS109.drew | apply IsS109.set_0 | apply IsS109.set_1 | apply IsS109.set_3) | exact HI0.out), by repeat (first | (with_reducible first | exact HB.out | apply bal | apply pbn | apply bd1 | refine bst ?_ (IsS109.ge HI0.out)) | exact HB.out), by repeat (first | (with_reducible first | exact HK.out | apply KeepBut.set_ | apply keep_drewN | apply keep_drew | apply keep_alloc) | exact HK.out)⟩
     ·rw [if_neg c5] at H
      exact absurd H (by simp)
    ·rw [if_neg c4] at H
     exact absurd H (by simp)
   ·rw [if_neg c3] at H
    have c3b0 : decide (x9_1 < (l1.length : Int)) = false := dff c3
    clear c3
    simp only [Option.some.injEq, Prod.mk.injEq] at H
    obtain ⟨rfl, rfl, rfl, rfl⟩ := H
    go_wp2
    go_ret
    exact ⟨by first | rfl | (simp <;> rfl) | (simp [*] <;> rfl), by repeat (first | (with_reducible first | exact HI0.out | apply IsS109.alloc | apply IsS109.drewN | apply IsS109.drew | apply IsS109.set_0 | apply IsS109.set_1 | apply IsS109.set_3) | exact HI0.out), by repeat (first | (with_reducible first | exact HB.out | apply bal | apply pbn | apply bd1 | refine bst ?_ (IsS109.ge HI0.out)) | exact HB.out), by repeat (first | (with_reducible first | exact HK.out | apply KeepBut.set_ | apply keep_drewN | apply keep_drew | apply keep_alloc) | exact HK.out)⟩
def field_GF_in.f (s0_0 : Int) (s0_1 : Int) (s0_2 : List Int) (s0_3 : Int) (s0_4 : List Int) (s0_5 : List Int) (a1 : Int) : Option (Int × Int × Int × Int) := (field_GF_Is.f s0_0 s0_1 s0_2 s0_3 s0_4 s0_5 a1).bind fun bt101 => (if bt101.1 = true then (some (a1, bt101.2.1, bt101.2.2.1, bt101.2.2.2)) else (some (0, bt101.2.1, bt101.2.2.1, bt101.2.2.2)))
theorem field_GF_in.calls (g : Nat) (s0_0 : Int) (s0_1 : Int) (s0_2 : List Int) (s0_3 : Int) (s0_4 : List Int) (s0_5 : List Int) (a1 : Int) (r1 : Int) (r2 : Int) (r3 : Int) (r4 : Int) (w0 w : World) (hI : IsS109 w0 w g s0_0 s0_1 s0_2 s0_3 s0_4 s0_5) (hB : Below w0.heap.size w0 w) (h : field_GF_in.f s0_0 s0_1 s0_2 s0_3 s0_4 s0_5 a1 = some (r1, r2, r3, r4)) :
  Calls Try.prog 93 #[.pointer (some ⟨g, 0, none⟩), .int .i64 a1] w fun e w' => e = .returned (.int .i64 r1) ∧ IsS109 w0 w' g r2 r3 s0_2 r4 s0_4 s0_5 ∧ Below w0.heap.size w0 w' ∧ KeepBut w w' g none := by
 have HI0 := ak hI
 have HK := ak (KeepBut.refl w g none)
 have HL := ak hB.size
 clear hI
 have HW0 := ak hB.size
 have HB := ak hB
 clear hB
 have H : ((field_GF_Is.f s0_0 s0_1 s0_2 s0_3 s0_4 s0_5 a1).bind fun bt101 => (if bt101.1 = true then (some (a1, bt101.2.1, bt101.2.2.1, bt101.2.2.2)) else (some (0, bt101.2.1, bt101.2.2.1, bt101.2.2.2)))) = some (r1, r2, r3, r4) := h
 clear h
 replace H := obm H
 obtain ⟨⟨t101, t102, t103, t104⟩, A30, H⟩ := H
 replace H : (if t101 = true then (some (a1, t102, t103, t104)) else (some (0, t102, t103, t104))) = some (r1, r2, r3, r4) := H
 have A3 := ak A30
 clear A30
 by_cases c4 : t101 = true
 ·subst c4
  have H1 : (some (a1, t102, t103, t104)) = some (r1, r2, r3, r4) := by rw [if_pos rfl] at H; exact H
  clear H
  have H := H1
  clear H1
  simp only [Option.some.injEq, Prod.mk.injEq] at H
  obtain ⟨rfl, rfl, rfl, rfl⟩ := H
  go_enter Try.func93, Try.ntmps93
  go_wp2_with (first | ((with_reducible refine gate_callee (f := 63) rfl ?_); refine goesL_ (some 7) rfl rfl Try.func63 (by kernel_rfl) rfl #[.pointer (some ⟨g, 0, none⟩), .int .i64 a1] rfl (by (try simp only [List.map_toArray, List.map_cons, List.map_nil]); first | done | rfl | (simp only [List.length_drop, List.length_take]; rfl)) ?_; (with_reducible refine (field_GF_Is.calls g s0_0 s0_1 s0_2 s0_3 s0_4 s0_5 a1 true t102 t103 t104 w0 _ ?side1 ?side2 A3.out).mono ?_); (case side1 => repeat (first | (with_reducible first | exact HI0.out | apply IsS109.alloc | apply IsS109.drewN | apply IsS109.drew | apply IsS109.set_0 | apply IsS109.set_1 | apply IsS109.set_3) | exact HI0.out)); (case side2 => repeat (first | (with_reducible first | exact HB.out | apply bal | apply pbn | apply bd1 | refine bst ?_ (IsS109.ge HI0.out)) | exact HB.out)); rintro e w5 ⟨rfl, hi, hb, hk⟩; refine ⟨_, rfl, ?_⟩; have n0_ := ak (KeepBut.trans (by repeat (first | (with_reducible first | exact HK.out | apply KeepBut.set_ | apply keep_drewN | apply keep_drew | apply keep_alloc) | exact HK.out)) hk (.inl rfl)); have n1_ := ak (hb); have n2_ := ak (hi); clear HK HB HI0; have HK := n0_; have HB := n1_; have HI0 := n2_; clear n0_ n1_ n2_; (try clear hb); (try clear hb2); (try clear hk); (try clear hi)))
  go_ret
  exact ⟨by first | rfl | (simp <;> rfl) | (simp [*] <;> rfl), by repeat (first | (with_reducible first | exact HI0.out | apply IsS109.alloc | apply IsS109.drewN | apply IsS109.drew | apply IsS109.set_0 | apply IsS109.set_1 | apply IsS109.set_3) | exact HI0.out), by repeat (first | (with_reducible first | exact HB.out | apply bal | apply pbn | apply bd1 | refine bst ?_ (IsS109.ge HI0.out)) | exact HB.out), by repeat (first | (with_reducible first | exact HK.out | apply KeepBut.set_ | apply keep_drewN | apply keep_drew | apply keep_alloc) | exact HK.out)⟩
 ·replace c4 := Bool.eq_false_iff.mpr c4
  subst c4
  have H1 : (some (0, t102, t103, t104)) = some (r1, r2, r3, r4) := by rw [if_neg (show ¬ (false = true) by decide)] at H; exact H
  clear H
  have H := H1
  clear H1
  simp only [Option.some.injEq, Prod.mk.injEq] at H
  obtain ⟨rfl, rfl, rfl, rfl⟩ := H
  go_enter Try.func93, Try.ntmps93
  go_wp2_with (first | ((with_reducible refine gate_callee (f := 63) rfl ?_); refine goesL_ (some 7) rfl rfl Try.func63 (by kernel_rfl) rfl #[.pointer (some ⟨g, 0, none⟩), .int .i64 a1] rfl (by (try simp only [List.map_toArray, List.map_cons, List.map_nil]); first | done | rfl | (simp only [List.length_drop, List.length_take]; rfl)) ?_; (with_reducible refine (field_GF_Is.calls g s0_0 s0_1 s0_2 s0_3 s0_4 s0_5 a1 false t102 t103 t104 w0 _ ?side1 ?side2 A3.out).mono ?_); (case side1 => repeat (first | (with_reducible first | exact HI0.out | apply IsS109.alloc | apply IsS109.drewN | apply IsS109.drew | apply IsS109.set_0 | apply IsS109.set_1 | apply IsS109.set_3) | exact HI0.out)); (case side2 => repeat (first | (with_reducible first | exact HB.out | apply bal | apply pbn | apply bd1 | refine bst ?_ (IsS109.ge HI0.out)) | exact HB.out)); rintro e w6 ⟨rfl, hi, hb, hk⟩; refine ⟨_, rfl, ?_⟩; have n0_ := ak (KeepBut.trans (by repeat (first | (with_reducible first | exact HK.out | apply KeepBut.set_ | apply keep_drewN | apply keep_drew | apply keep_alloc) | exact HK.out)) hk (.inl rfl)); have n1_ := ak (hb); have n2_ := ak (hi); clear HK HB HI0; have HK := n0_; have HB := n1_; have HI0 := n2_; clear n0_ n1_ n2_; (try clear hb); (try clear hb2); (try clear hk); (try clear hi)))
  go_ret
  exact ⟨by first | rfl | (simp <;> rfl) | (simp [*] <;> rfl), by repeat (first | (with_reducible first | exact HI0.out | apply IsS109.alloc | apply IsS109.drewN | apply IsS109.drew | apply IsS109.set_0 | apply IsS109.set_1 | apply IsS109.set_3) | exact HI0.out), by repeat (first | (with_reducible first | exact HB.out | apply bal | apply pbn | apply bd1 | refine bst ?_ (IsS109.ge HI0.out)) | exact HB.out), by repeat (first | (with_reducible first | exact HK.out | apply KeepBut.set_ | apply keep_drewN | apply keep_drew | apply keep_alloc) | exact HK.out)⟩
def field_GF_Inv.f (s0_0 : Int) (s0_1 : Int) (s0_2 : List Int) (s0_3 : Int) (s0_4 : List Int) (s0_5 : List Int) (a1 : Int) : Option (Int × Int × Int × Int × Int) := (field_GF_in.f s0_0 s0_1 s0_2 s0_3 s0_4 s0_5 a1).bind fun bt105 => (if bt105.1 = 0 then (some (0, 7, bt105.2.1, bt105.2.2.1, bt105.2.2.2)) else (if 0 ≤ bt105.1 then (if bt105.1 < (s0_5.length : Int) then (if (wrap64 (bt105.2.2.2 - 1)) = 0 then (none) else (if 0 ≤ (Int.tmod (wrap64 ((wrap64 (bt105.2.2.2 - 1)) - (rd s0_5 bt105.1))) (wrap64 (bt105.2.2.2 - 1))) then (if (Int.tmod (wrap64 ((wrap64 (bt105.2.2.2 - 1)) - (rd s0_5 bt105.1))) (wrap64 (bt105.2.2.2 - 1))) < (s0_4.length : Int) then (some (rd s0_4 (Int.tmod (wrap64 ((wrap64 (bt105.2.2.2 - 1)) - (rd s0_5 bt105.1))) (wrap64 (bt105.2.2.2 - 1))), 0, bt105.2.1, bt105.2.2.1, bt105.2.2.2)) else (none)) else (none))) else (none)) else (none)))
theorem field_GF_Inv.calls (g : Nat) (s0_0 : Int) (s0_1 : Int) (s0_2 : List Int) (s0_3 : Int) (s0_4 : List Int) (s0_5 : List Int) (a1 : Int) (r1 : Int) (r2 : Int) (r3 : Int) (r4 : Int) (r5 : Int) (w0 w : World) (hI : IsS109 w0 w g s0_0 s0_1 s0_2 s0_3 s0_4 s0_5) (hB : Below w0.heap.size w0 w) (h : field_GF_Inv.f s0_0 s0_1 s0_2 s0_3 s0_4 s0_5 a1 = some (r1, r2, r3, r4, r5)) :
  Calls Try.prog 90 #[.pointer (some ⟨g, 0, none⟩), .int .i64 a1] w fun e w' => e = .returned (.tuple #[.int .i64 r1, .int .i64 r2]) ∧ IsS109 w0 w' g r3 r4 s0_2 r5 s0_4 s0_5 ∧ Below w0.heap.size w0 w' ∧ KeepBut w w' g none := by
 have HI0 := ak hI
 have HK := ak (KeepBut.refl w g none)
 have HL := ak hB.size
 clear hI
 have HW0 := ak hB.size
 have HB := ak hB
 clear hB
 have H : ((field_GF_in.f s0_0 s0_1 s0_2 s0_3 s0_4 s0_5 a1).bind fun bt105 => (if bt105.1 = 0 then (some (0, 7, bt105.2.1, bt105.2.2.1, bt105.2.2.2)) else (if 0 ≤ bt105.1 then (if bt105.1 < (s0_5.length : Int) then (if (wrap64 (bt105.2.2.2 - 1)) = 0 then (none) else (if 0 ≤ (Int.tmod (wrap64 ((wrap64 (bt105.2.2.2 - 1)) - (rd s0_5 bt105.1))) (wrap64 (bt105.2.2.2 - 1))) then (if (Int.tmod (wrap64 ((wrap64 (bt105.2.2.2 - 1)) - (rd s0_5 bt105.1))) (wrap64 (bt105.2.2.2 - 1))) < (s0_4.length : Int) then (some (rd s0_4 (Int.tmod (wrap64 ((wrap64 (bt105.2.2.2 - 1)) - (rd s0_5 bt105.1))) (wrap64 (bt105.2.2.2 - 1))), 0, bt105.2.1, bt105.2.2.1, bt105.2.2.2)) else (none)) else (none))) else (none)) else (none)))) = some (r1, r2, r3, r4, r5) := h
 clear h
 replace H := obm H
 obtain ⟨⟨t105, t106, t107, t108⟩, A30, H⟩ := H
 replace H : (if t105 = 0 then (some (0, 7, t106, t107, t108)) else (if 0 ≤ t105 then (if t105 < (s0_5.length : Int) then (if (wrap64 (t108 - 1)) = 0 then (none) else (if 0 ≤ (Int.tmod (wrap64 ((wrap64 (t108 - 1)) - (rd s0_5 t105))) (wrap64 (t108 - 1))) then (if (Int.tmod (wrap64 ((wrap64 (t108 - 1)) - (rd s0_5 t105))) (wrap64 (t108 - 1))) < (s0_4.length : Int) then (some (rd s0_4 (Int.tmod (wrap64 ((wrap64 (t108 - 1)) - (rd s0_5 t105))) (wrap64 (t108 - 1))), 0, t106, t107, t108)) else (none)) else (none))) else (none)) else (none))) = some (r1, r2, r3, r4, r5) := H
 have A3 := ak A30
 clear A30
 by_cases c4 : t105 = 0
 ·rw [if_pos c4] at H
  have c4b0 : (t105 == 0) = true := beq_iff_eq.mpr c4
  have c4b1 : (t105 != 0) = false := bnm c4
  clear c4
  simp only [Option.some.injEq, Prod.mk.injEq] at H
  obtain ⟨rfl, rfl, rfl, rfl, rfl⟩ := H
  go_enter Try.func90, Try.ntmps90
  go_wp2_with (first | (go_at_call 93; (with_reducible refine (field_GF_in.calls g s0_0 s0_1 s0_2 s0_3 s0_4 s0_5 a1 t105 t106 t107 t108 w0 _ ?side1 ?side2 A3.out).mono ?_); (case side1 => repeat (first | (with_reducible first | exact HI0.out | apply IsS109.alloc | apply IsS109.drewN | apply IsS109.drew | apply IsS109.set_0 | apply IsS109.set_1 | apply IsS109.set_3) | exact HI0.out)); (case side2 => repeat (first | (with_reducible first | exact HB.out | apply bal | apply pbn | apply bd1 | refine bst ?_ (IsS109.ge HI0.out)) | exact HB.out)); rintro e w5 ⟨rfl, hi, hb, hk⟩; have n0_ := ak (KeepBut.trans (by repeat (first | (with_reducible first | exact HK.out | apply KeepBut.set_ | apply keep_drewN | apply keep_drew | apply keep_alloc) | exact HK.out)) hk (.inl rfl)); have n1_ := ak (hb); have n2_ := ak (hi); clear HK HB HI0; have HK := n0_; have HB := n1_; have HI0 := n2_; clear n0_ n1_ n2_; (try clear hb); (try clear hb2); (try clear hk); (try clear hi)))
  go_ret2
  exact ⟨by first | rfl | (simp <;> rfl) | (simp [*] <;> rfl), by repeat (first | (with_reducible first | exact HI0.out | apply IsS109.alloc | apply IsS109.drewN | apply IsS109.drew | apply IsS109.set_0 | apply IsS109.set_1 | apply IsS109.set_3) | exact HI0.out), by repeat (first | (with_reducible first | exact HB.out | apply bal | apply pbn | apply bd1 | refine bst ?_ (IsS109.ge HI0.out)) | exact HB.out), by repeat (first | (with_reducible first | exact HK.out | apply KeepBut.set_ | apply keep_drewN | apply keep_drew | apply keep_alloc) | exact HK.out)⟩
 ·rw [if_neg c4] at H
  have c4b0 : (t105 == 0) = false := bqm c4
  have c4b1 : (t105 != 0) = true := bne_iff_ne.mpr c4
  by_cases c6 : 0 ≤ t105
  ·rw [if_pos c6] at H
   have c6b0 : decide (0 ≤ t105) = true := det c6
   clear c6
   by_cases c7 : t105 < (s0_5.length : Int)
   ·rw [if_pos c7] at H
    have c7b0 : decide (t105 < (s0_5.length : Int)) = true := det c7
    clear c7
    by_cases c8 : (wrap64 (t108 - 1)) = 0
    ·rw [if_pos c8] at H
     exact absurd H (by simp)
    ·rw [if_neg c8] at H
     have c8b0 : ((wrap64 (t108 - 1)) == 0) = false := bqm c8
     have c8b1 : ((wrap64 (t108 - 1)) != 0) = true := bne_iff_ne.mpr c8
     obtain ⟨ji9, hji9⟩ : ∃ j_ : Int, (Int.tmod (wrap64 ((wrap64 (t108 - 1)) - (rd s0_5 t105))) (wrap64 (t108 - 1))) = j_ := ⟨_, rfl⟩
     replace H : (if 0 ≤ (ji9) then (if (ji9) < (s0_4.length : Int) then (some (rd s0_4 (ji9), 0, t106, t107, t108)) else (none)) else (none)) = some (r1, r2, r3, r4, r5) := by (rw [hji9] at H; exact H)
     by_cases c10 : 0 ≤ (ji9)
     ·rw [if_pos c10] at H
      have c10b0 : decide (0 ≤ (ji9)) = true := det c10
      clear c10
      by_cases c11 : (ji9) < (s0_4.length : Int)
      ·rw [if_pos c11] at H
       have c11b0 : decide ((ji9) < (s0_4.length : Int)) = true := det c11
       clear c11
       simp only [Option.some.injEq, Prod.mk.injEq] at H
       obtain ⟨rfl, rfl, rfl, rfl, rfl⟩ := H
       go_enter Try.func90, Try.ntmps90
       go_wp2_with (first | (go_at_call 93; (with_reducible refine (field_GF_in.calls g s0_0 s0_1 s0_2 s0_3 s0_4 s0_5 a1 t105 t106 t107 t108 w0 _ ?side1 ?side2 A3.out).mono ?_); (case side1 => repeat (first | (with_reducible first | exact HI0.out | apply IsS109.alloc | apply IsS109.drewN | apply IsS109.drew | apply IsS109.set_0 | apply IsS109.set_1 | apply IsS109.set_3) | exact HI0.out)); (case side2 => repeat (first | (with_reducible first | exact HB.out | apply bal | apply pbn | apply bd1 | refine bst ?_ (IsS109.ge HI0.out)) | exact HB.out)); rintro e w12 ⟨rfl, hi, hb, hk⟩; have n0_ := ak (KeepBut.trans (by repeat (first | (with_reducible first | exact HK.out | apply KeepBut.set_ | apply keep_drewN | apply keep_drew | apply keep_alloc) | exact HK.out)) hk (.inl rfl)); have n1_ := ak (hb); have n2_ := ak (hi); clear HK HB HI0; have HK := n0_; have HB := n1_; have HI0 := n2_; clear n0_ n1_ n2_; (try clear hb); (try clear hb2); (try clear hk); (try clear hi); obtain ⟨ASz13_2, cSz13_2, ASz13_4, cSz13_4, ASz13_5, cSz13_5, HGz13, hgz13, HSz13_2, HSz13_4, HSz13_5⟩ := HI0.out; have hcz13_0 := cellS109_0 HGz13; have hcz13_1 := cellS109_1 HGz13; have hcz13_2 := cellS109_2 HGz13; have hcz13_3 := cellS109_3 HGz13; have hcz13_4 := cellS109_4 HGz13; have hcz13_5 := cellS109_5 HGz13; have hfz13_0 := kfz HGz13 0; have hfz13_1 := kfz HGz13 1; have hfz13_3 := kfz HGz13 3; clear HGz13 hgz13; have p109 : 0 ≤ (t105 : Int) := odt (by first | (with_reducible assumption) | assumption); have q109 : t105 < (s0_5.length : Int) := odt (by first | (with_reducible assumption) | assumption); obtain ⟨ad109, e109, hx109_0⟩ := Kd.at_int HSz13_5 t105 p109 q109; cases e109; replace hx109_0 := pcb HB.out hx109_0; replace p109 := eq_true p109; replace q109 := eq_true q109; have p110 : 0 ≤ ((ji9) : Int) := odt (by first | (with_reducible assumption) | assumption); have q110 : (ji9) < (s0_4.length : Int) := odt (by first | (with_reducible assumption) | assumption); obtain ⟨ad110, e110, hx110_0⟩ := Kd.at_int HSz13_4 (ji9) p110 q110; cases e110; replace hx110_0 := pcb HB.out hx110_0; replace p110 := eq_true p110; replace q110 := eq_true q110))
       repeat (go_quiet (first | (go_at_call 93; (with_reducible refine (field_GF_in.calls g s0_0 s0_1 s0_2 s0_3 s0_4 s0_5 a1 t105 t106 t107 t108 w0 _ ?side1 ?side2 A3.out).mono ?_); (case side1 => repeat (first | (with_reducible first | exact HI0.out | apply IsS109.alloc | apply IsS109.drewN | apply IsS109.drew | apply IsS109.set_0 | apply IsS109.set_1 | apply IsS109.set_3) | exact HI0.out)); (case side2 => repeat (first | (with_reducible first | exact HB.out | apply bal | apply pbn | apply bd1 | refine bst ?_ (IsS109.ge HI0.out)) | exact HB.out)); rintro e w12 ⟨rfl, hi, hb, hk⟩; have n0_ := ak (KeepBut.trans (by repeat (first | (with_reducible first | exact HK.out | apply KeepBut.set_ | apply keep_drewN | apply keep_drew | apply keep_alloc) | exact HK.out)) hk (.inl rfl)); have n1_ := ak (hb); have n2_ := ak (hi); clear HK HB HI0; have HK := n0_; have HB := n1_; have HI0 := n2_; clear n0_ n1_ n2_; (try clear hb); (try clear hb2); (try clear hk); (try clear hi); obtain ⟨ASz13_2, cSz13_2, ASz13_4, cSz13_4, ASz13_5, cSz13_5, HGz13, hgz13, HSz13_2, HSz13_4, HSz13_5⟩ := HI0.out; have hcz13_0 := cellS109_0 HGz13; have hcz13_1 := cellS109_1 HGz13; have hcz13_2 := cellS109_2 HGz13; have hcz13_3 := cellS109_3 HGz13; have hcz13_4 := cellS109_4 HGz13; have hcz13_5 := cellS109_5 HGz13; have hfz13_0 := kfz HGz13 0; have hfz13_1 := kfz HGz13 1; have hfz13_3 := kfz HGz13 3; clear HGz13 hgz13; have p109 : 0 ≤ (t105 : Int) := odt (by first | (with_reducible assumption) | assumption); have q109 : t105 < (s0_5.length : Int) := odt (by first | (with_reducible assumption) | assumption); obtain ⟨ad109, e109, hx109_0⟩ := Kd.at_int HSz13_5 t105 p109 q109; cases e109; replace hx109_0 := pcb HB.out hx109_0; replace p109 := eq_true p109; replace q109 := eq_true q109; have p110 : 0 ≤ ((ji9) : Int) := odt (by first | (with_reducible assumption) | assumption); have q110 : (ji9) < (s0_4.length : Int) := odt (by first | (with_reducible assumption) | assumption); obtain ⟨ad110, e110, hx110_0⟩ := Kd.at_int HSz13_4 (ji9) p110 q110; cases e110; replace hx110_0 := pcb HB.out hx110_0; replace p110 := eq_true p110; replace q110 := eq_true q110)); try go_wp2_with (first | (go_at_call 93; (with_reducible refine (field_GF_in.calls g s0_0 s0_1 s0_2 s0_3 s0_4 s0_5 a1 t105 t106 t107 t108 w0 _ ?side1 ?side2 A3.out).mono ?_); (case side1 => repeat (first | (with_reducible first | exact HI0.out | apply IsS109.alloc | apply IsS109.drewN | apply IsS109.drew | apply IsS109.set_0 | apply IsS109.set_1 | apply IsS109.set_3) | exact HI0.out)); (case side2 => repeat (first | (with_reducible first | exact HB.out | apply bal | apply pbn | apply bd1 | refine bst ?_ (IsS109.ge HI0.out)) | exact HB.out)); rintro e w12 ⟨rfl, hi, hb, hk⟩; have n0_ := ak (KeepBut.trans (by repeat (first | (with_reducible first | exact HK.out | apply KeepBut.set_ | apply keep_drewN | apply keep_drew | apply keep_alloc) | exact HK.out)) hk (.inl rfl)); have n1_ := ak (hb); have n2_ := ak (hi); clear HK HB HI0; have HK := n0_; have HB := n1_; have HI0 := n2_; clear n0_ n1_ n2_; (try clear hb); (try clear hb2); (try clear hk); (try clear hi); obtain ⟨ASz13_2, cSz13_2, ASz13_4, cSz13_4, ASz13_5, cSz13_5, HGz13, hgz13, HSz13_2, HSz13_4, HSz13_5⟩ := HI0.out; have hcz13_0 := cellS109_0 HGz13; have hcz13_1 := cellS109_1 HGz13; have hcz13_2 := cellS109_2 HGz13; have hcz13_3 := cellS109_3 HGz13; have hcz13_4 := cellS109_4 HGz13; have hcz13_5 := cellS109_5 HGz13; have hfz13_0 := kfz HGz13 0; have hfz13_1 := kfz HGz13 1; have hfz13_3 := kfz HGz13 3; clear HGz13 hgz13; have p109 : 0 ≤ (t105 : Int) := odt (by first | (with_reducible assumption) | assumption); have q109 : t105 < (s0_5.length : Int) := odt (by first | (with_reducible assumption) | assumption); obtain ⟨ad109, e109, hx109_0⟩ := Kd.at_int HSz13_5 t105 p109 q109; cases e109; replace hx109_0 := pcb HB.out hx109_0; replace p109 := eq_true p109; replace q109 := eq_true q109; have p110 : 0 ≤ ((ji9) : Int) := odt (by first | (with_reducible assumption) | assumption); have q110 : (ji9) < (s0_4.length : Int) := odt (by first | (with_reducible assumption) | assumption); obtain ⟨ad110, e110, hx110_0⟩ := Kd.at_int HSz13_4 (ji9) p110 q110; cases e110; replace hx110_0 := pcb HB.out hx110_0; replace p110 := eq_true p110; replace q110 := eq_true q110)))
       go_ret2
       exact ⟨by first | rfl | (simp <;> rfl) | (simp only [← hji9]; first | rfl | (simp <;> rfl)) | (simp [*] <;> rfl), by repeat (first | (with_reducible first | exact HI0.out | apply IsS109.alloc | apply IsS109.drewN | apply IsS109.drew | apply IsS109.set_0 | apply IsS109.set_1 | apply IsS109.set_3) | exact HI0.out), by repeat (first | (with_reducible first | exact HB.out | apply bal | apply pbn | apply bd1 | refine bst ?_ (IsS109.ge HI0.out)) | exact HB.out), by repeat (first | (with_reducible first | exact HK.out | apply KeepBut.set_ | apply keep_drewN | apply keep_drew | apply keep_alloc) | exact HK.out)⟩
      ·rw [if_neg c11] at H
       exact absurd H (by simp)
     ·rw [if_neg c10] at H
      exact absurd H (by simp)
   ·rw [if_neg c7] at H
    exact absurd H (by simp)
  ·rw [if_neg c6] at H
   exact absurd H (by simp)
end Go.Proofs.Ytkifipakikbhcaa.Gf
