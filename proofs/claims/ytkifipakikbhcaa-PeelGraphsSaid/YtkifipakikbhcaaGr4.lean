/- Part 4 of the claim: what the law reaches, walked (merged by slim.py out of the texts in wip). -/
import Derived.Test.YtkifipakikbhcaaGr3
import Derived.ArgAppend
import Derived.Below
import Derived.BigQuiet
import Derived.Deep.AppendLies
import Derived.Deep.CutBlock
import Derived.Deep.DeepCutAuto
import Derived.Deep.DrawnRows
import Derived.Deep.Draws
import Derived.Deep.LoopGhost
import Derived.Deep.OwnRows
import Derived.Deep.QuietTactic
import Derived.Deep.RegionHeld3
import Derived.KernelRfl
import Derived.Laws.BitsLemmas
import Derived.Laws.BytesArg
import Derived.Laws.IdiomCopy
import Derived.Laws.MakeOwn
import Derived.Laws.OwnMore
import Derived.Laws.Rows
import Derived.Laws.Slices
import Derived.Lib.AppendStr
import Derived.Lib.ConvBytes
import Derived.Maps.AppendAt
import Derived.OrdersHeld
import Derived.OwnWalk
import Derived.RowKit
import Derived.RowKit3
import Derived.Shelf.Abstract
import Derived.Tactics
import Derived.Test.YtkifipakikbhcaaProg
import Derived.WalkKit
import Derived.WalkSpells
import Derived.WideLaws
set_option maxHeartbeats 8000000
set_option maxRecDepth 100000
set_option linter.unusedSimpArgs false
set_option linter.unusedVariables false
namespace Go.Proofs.Ytkifipakikbhcaa.Gf
open Ytkifipakikbhcaa.Ref
open Go.RowKit YtkifipakikbhcaaW.PrintWords YtkifipakikbhcaaW.PrintLast YtkifipakikbhcaaW.PrintMore
def field_GF_Mul.f (s0_0 : Int) (s0_1 : Int) (s0_2 : List Int) (s0_3 : Int) (s0_4 : List Int) (s0_5 : List Int) (a1 : Int) (a2 : Int) : Option (Int × Int × Int × Int) := (field_GF_in.f s0_0 s0_1 s0_2 s0_3 s0_4 s0_5 a1).bind fun bt111 => ((field_GF_in.f bt111.2.1 bt111.2.2.1 s0_2 bt111.2.2.2 s0_4 s0_5 a2).bind fun bt115 => (if bt111.1 = 0 then (some (0, bt115.2.1, bt115.2.2.1, bt115.2.2.2)) else (if bt115.1 = 0 then (some (0, bt115.2.1, bt115.2.2.1, bt115.2.2.2)) else (if 0 ≤ bt111.1 then (if bt111.1 < (s0_5.length : Int) then (if 0 ≤ bt115.1 then (if bt115.1 < (s0_5.length : Int) then (if (wrap64 (bt115.2.2.2 - 1)) = 0 then (none) else (if 0 ≤ (Int.tmod (wrap64 ((rd s0_5 bt111.1) + (rd s0_5 bt115.1))) (wrap64 (bt115.2.2.2 - 1))) then (if (Int.tmod (wrap64 ((rd s0_5 bt111.1) + (rd s0_5 bt115.1))) (wrap64 (bt115.2.2.2 - 1))) < (s0_4.length : Int) then (some (rd s0_4 (Int.tmod (wrap64 ((rd s0_5 bt111.1) + (rd s0_5 bt115.1))) (wrap64 (bt115.2.2.2 - 1))), bt115.2.1, bt115.2.2.1, bt115.2.2.2)) else (none)) else (none))) else (none)) else (none)) else (none)) else (none)))))
theorem field_GF_Mul.calls (g : Nat) (s0_0 : Int) (s0_1 : Int) (s0_2 : List Int) (s0_3 : Int) (s0_4 : List Int) (s0_5 : List Int) (a1 : Int) (a2 : Int) (r1 : Int) (r2 : Int) (r3 : Int) (r4 : Int) (w0 w : World) (hI : IsS109 w0 w g s0_0 s0_1 s0_2 s0_3 s0_4 s0_5) (hB : Below w0.heap.size w0 w) (h : field_GF_Mul.f s0_0 s0_1 s0_2 s0_3 s0_4 s0_5 a1 a2 = some (r1, r2, r3, r4)) :
  Calls Try.prog 91 #[.pointer (some ⟨g, 0, none⟩), .int .i64 a1, .int .i64 a2] w fun e w' => e = .returned (.int .i64 r1) ∧ IsS109 w0 w' g r2 r3 s0_2 r4 s0_4 s0_5 ∧ Below w0.heap.size w0 w' ∧ KeepBut w w' g none := by
 have HI0 := ak hI
 have HK := ak (KeepBut.refl w g none)
 have HL := ak hB.size
 clear hI
 have HW0 := ak hB.size
 have HB := ak hB
 clear hB
 have H : ((field_GF_in.f s0_0 s0_1 s0_2 s0_3 s0_4 s0_5 a1).bind fun bt111 => ((field_GF_in.f bt111.2.1 bt111.2.2.1 s0_2 bt111.2.2.2 s0_4 s0_5 a2).bind fun bt115 => (if bt111.1 = 0 then (some (0, bt115.2.1, bt115.2.2.1, bt115.2.2.2)) else (if bt115.1 = 0 then (some (0, bt115.2.1, bt115.2.2.1, bt115.2.2.2)) else (if 0 ≤ bt111.1 then (if bt111.1 < (s0_5.length : Int) then (if 0 ≤ bt115.1 then (if bt115.1 < (s0_5.length : Int) then (if (wrap64 (bt115.2.2.2 - 1)) = 0 then (none) else (if 0 ≤ (Int.tmod (wrap64 ((rd s0_5 bt111.1) + (rd s0_5 bt115.1))) (wrap64 (bt115.2.2.2 - 1))) then (if (Int.tmod (wrap64 ((rd s0_5 bt111.1) + (rd s0_5 bt115.1))) (wrap64 (bt115.2.2.2 - 1))) < (s0_4.length : Int) then (some (rd s0_4 (Int.tmod (wrap64 ((rd s0_5 bt111.1) + (rd s0_5 bt115.1))) (wrap64 (bt115.2.2.2 - 1))), bt115.2.1, bt115.2.2.1, bt115.2.2.2)) else (none)) else (none))) else (none)) else (none)) else (none)) else (none)))))) = some (r1, r2, r3, r4) := h
 clear h
 replace H := obm H
 obtain ⟨⟨t111, t112, t113, t114⟩, A40, H⟩ := H
 replace H : ((field_GF_in.f t112 t113 s0_2 t114 s0_4 s0_5 a2).bind fun bt115 => (if t111 = 0 then (some (0, bt115.2.1, bt115.2.2.1, bt115.2.2.2)) else (if bt115.1 = 0 then (some (0, bt115.2.1, bt115.2.2.1, bt115.2.2.2)) else (if 0 ≤ t111 then (if t111 < (s0_5.length : Int) then (if 0 ≤ bt115.1 then (if bt115.1 < (s0_5.length : Int) then (if (wrap64 (bt115.2.2.2 - 1)) = 0 then (none) else (if 0 ≤ (Int.tmod (wrap64 ((rd s0_5 t111) + (rd s0_5 bt115.1))) (wrap64 (bt115.2.2.2 - 1))) then (if (Int.tmod (wrap64 ((rd s0_5 t111) + (rd s0_5 bt115.1))) (wrap64 (bt115.2.2.2 - 1))) < (s0_4.length : Int) then (some (rd s0_4 (Int.tmod (wrap64 ((rd s0_5 t111) + (rd s0_5 bt115.1))) (wrap64 (bt115.2.2.2 - 1))), bt115.2.1, bt115.2.2.1, bt115.2.2.2)) else (none)) else (none))) else (none)) else (none)) else (none)) else (none))))) = some (r1, r2, r3, r4) := H
 have A4 := ak A40
 clear A40
 replace H := obm H
 obtain ⟨⟨t115, t116, t117, t118⟩, A50, H⟩ := H
 replace H : (if t111 = 0 then (some (0, t116, t117, t118)) else (if t115 = 0 then (some (0, t116, t117, t118)) else (if 0 ≤ t111 then (if t111 < (s0_5.length : Int) then (if 0 ≤ t115 then (if t115 < (s0_5.length : Int) then (if (wrap64 (t118 - 1)) = 0 then (none) else (if 0 ≤ (Int.tmod (wrap64 ((rd s0_5 t111) + (rd s0_5 t115))) (wrap64 (t118 - 1))) then (if (Int.tmod (wrap64 ((rd s0_5 t111) + (rd s0_5 t115))) (wrap64 (t118 - 1))) < (s0_4.length : Int) then (some (rd s0_4 (Int.tmod (wrap64 ((rd s0_5 t111) + (rd s0_5 t115))) (wrap64 (t118 - 1))), t116, t117, t118)) else (none)) else (none))) else (none)) else (none)) else (none)) else (none)))) = some (r1, r2, r3, r4) := H
 have A5 := ak A50
 clear A50
 by_cases c6 : t111 = 0
 ·rw [if_pos c6] at H
  have c6b0 : (t111 == 0) = true := beq_iff_eq.mpr c6
  have c6b1 : (t111 != 0) = false := bnm c6
  clear c6
  simp only [Option.some.injEq, Prod.mk.injEq] at H
  obtain ⟨rfl, rfl, rfl, rfl⟩ := H
  go_enter Try.func91, Try.ntmps91
  go_wp2_with (first | (go_at_call 93; (with_reducible refine (field_GF_in.calls g s0_0 s0_1 s0_2 s0_3 s0_4 s0_5 a1 t111 t112 t113 t114 w0 _ ?side1 ?side2 A4.out).mono ?_); (case side1 => repeat (first | (with_reducible first | exact HI0.out | apply IsS109.alloc | apply IsS109.drewN | apply IsS109.drew | apply IsS109.set_0 | apply IsS109.set_1 | apply IsS109.set_3) | exact HI0.out)); (case side2 => repeat (first | (with_reducible first | exact HB.out | apply bal | apply pbn | apply bd1 | refine bst ?_ (IsS109.ge HI0.out)) | exact HB.out)); rintro e w7 ⟨rfl, hi, hb, hk⟩; have n0_ := ak (KeepBut.trans (by repeat (first | (with_reducible first | exact HK.out | apply KeepBut.set_ | apply keep_drewN | apply keep_drew | apply keep_alloc) | exact HK.out)) hk (.inl rfl)); have n1_ := ak (hb); have n2_ := ak (hi); clear HK HB HI0; have HK := n0_; have HB := n1_; have HI0 := n2_; clear n0_ n1_ n2_; (try clear hb); (try clear hb2); (try clear hk); (try clear hi)) | (go_at_call 93; (with_reducible refine (field_GF_in.calls g t112 t113 s0_2 t114 s0_4 s0_5 a2 t115 t116 t117 t118 w0 _ ?side1 ?side2 A5.out).mono ?_); (case side1 => repeat (first | (with_reducible first | exact HI0.out | apply IsS109.alloc | apply IsS109.drewN | apply IsS109.drew | apply IsS109.set_0 | apply IsS109.set_1 | apply IsS109.set_3) | exact HI0.out)); (case side2 => repeat (first | (with_reducible first | exact HB.out | apply bal | apply pbn | apply bd1 | refine bst ?_ (IsS109.ge HI0.out)) | exact HB.out)); rintro e w8 ⟨rfl, hi, hb, hk⟩; have n0_ := ak (KeepBut.trans (by repeat (first | (with_reducible first | exact HK.out | apply KeepBut.set_ | apply keep_drewN | apply keep_drew | apply keep_alloc) | exact HK.out)) hk (.inl rfl)); have n1_ := ak (hb); have n2_ := ak (hi); clear HK HB HI0; have HK := n0_; have HB := n1_; have HI0 := n2_; clear n0_ n1_ n2_; (try clear hb); (try clear hb2); (try clear hk); (try clear hi)))
  go_ret
  exact ⟨by first | rfl | (simp <;> rfl) | (simp [*] <;> rfl), by repeat (first | (with_reducible first | exact HI0.out | apply IsS109.alloc | apply IsS109.drewN | apply IsS109.drew | apply IsS109.set_0 | apply IsS109.set_1 | apply IsS109.set_3) | exact HI0.out), by repeat (first | (with_reducible first | exact HB.out | apply bal | apply pbn | apply bd1 | refine bst ?_ (IsS109.ge HI0.out)) | exact HB.out), by repeat (first | (with_reducible first | exact HK.out | apply KeepBut.set_ | apply keep_drewN | apply keep_drew | apply keep_alloc) | exact HK.out)⟩
 ·rw [if_neg c6] at H
  have c6b0 : (t111 == 0) = false := bqm c6
  have c6b1 : (t111 != 0) = true := bne_iff_ne.mpr c6
  by_cases c9 : t115 = 0
  ·rw [if_pos c9] at H
   have c9b0 : (t115 == 0) = true := beq_iff_eq.mpr c9
   have c9b1 : (t115 != 0) = false := bnm c9
   clear c9
   simp only [Option.some.injEq, Prod.mk.injEq] at H
   obtain ⟨rfl, rfl, rfl, rfl⟩ := H
   go_enter Try.func91, Try.ntmps91
   go_wp2_with (first | (go_at_call 93; (with_reducible refine (field_GF_in.calls g s0_0 s0_1 s0_2 s0_3 s0_4 s0_5 a1 t111 t112 t113 t114 w0 _ ?side1 ?side2 A4.out).mono ?_); (case side1 => repeat (first | (with_reducible first | exact HI0.out | apply IsS109.alloc | apply IsS109.drewN | apply IsS109.drew | apply IsS109.set_0 | apply IsS109.set_1 | apply IsS109.set_3) | exact HI0.out)); (case side2 => repeat (first | (with_reducible first | exact HB.out | apply bal | apply pbn | apply bd1 | refine bst ?_ (IsS109.ge HI0.out)) | exact HB.out)); rintro e w10 ⟨rfl, hi, hb, hk⟩; have n0_ := ak (KeepBut.trans (by repeat (first | (with_reducible first | exact HK.out | apply KeepBut.set_ | apply keep_drewN | apply keep_drew | apply keep_alloc) | exact HK.out)) hk (.inl rfl)); have n1_ := ak (hb); have n2_ := ak (hi); clear HK HB HI0; have HK := n0_; have HB := n1_; have HI0 := n2_; clear n0_ n1_ n2_; (try clear hb); (try clear hb2); (try clear hk); (try clear hi)) | (go_at_call 93; (with_reducible refine (field_GF_in.calls g t112 t113 s0_2 t114 s0_4 s0_5 a2 t115 t116 t117 t118 w0 _ ?side1 ?side2 A5.out).mono ?_); (case side1 => repeat (first | (with_reducible first | exact HI0.out | apply IsS109.alloc | apply IsS109.drewN | apply IsS109.drew | apply IsS109.set_0 | apply IsS109.set_1 | apply IsS109.set_3) | exact HI0.out)); (case side2 => repeat (first | (with_reducible first | exact HB.out | apply bal | apply pbn | apply bd1 | refine bst ?_ (IsS109.ge HI0.out)) | exact HB.out)); rintro e w11 ⟨rfl, hi, hb, hk⟩; have n0_ := ak (KeepBut.trans (by repeat (first | (with_reducible first | exact HK.out | apply KeepBut.set_ | apply keep_drewN | apply keep_drew | apply keep_alloc) | exact HK.out)) hk (.inl rfl)); have n1_ := ak (hb); have n2_ := ak (hi); clear HK HB HI0; have HK := n0_; have HB := n1_; have HI0 := n2_; clear n0_ n1_ n2_; (try clear hb); (try clear hb2); (try clear hk); (try clear hi)))
   go_ret
   exact ⟨by first | rfl | (simp <;> rfl) | (simp [*] <;> rfl), by repeat (first | (with_reducible first | exact HI0.out | apply IsS109.alloc | apply IsS109.drewN | apply IsS109.drew | apply IsS109.set_0 | apply IsS109.set_1 | apply IsS109.set_3) | exact HI0.out), by repeat (first | (with_reducible first | exact HB.out | apply bal | apply pbn | apply bd1 | refine bst ?_ (IsS109.ge HI0.out)) | exact HB.out), by repeat (first | (with_reducible first | exact HK.out | apply KeepBut.set_ | apply keep_drewN | apply keep_drew | apply keep_alloc) | exact HK.out)⟩
  ·rw [if_neg c9] at H
   have c9b0 : (t115 == 0) = false := bqm c9
   have c9b1 : (t115 != 0) = true := bne_iff_ne.mpr c9
   by_cases c12 : 0 ≤ t111
   ·rw [if_pos c12] at H
    have c12b0 : decide (0 ≤ t111) = true := det c12
    clear c12
    by_cases c13 : t111 < (s0_5.length : Int)
    ·rw [if_pos c13] at H
     have c13b0 : decide (t111 < (s0_5.length : Int)) = true := det c13
     clear c13
     by_cases c14 : 0 ≤ t115
     ·rw [if_pos c14] at H
      have c14b0 : decide (0 ≤ t115) = true := det c14
      clear c14
      by_cases c15 : t115 < (s0_5.length : Int)
      ·rw [if_pos c15] at H
       have c15b0 : decide (t115 < (s0_5.length : Int)) = true := det c15
       clear c15
       by_cases c16 : (wrap64 (t118 - 1)) = 0
       ·rw [if_pos c16] at H
        exact absurd H (by simp)
       ·rw [if_neg c16] at H
        have c16b0 : ((wrap64 (t118 - 1)) == 0) = false := bqm c16
        have c16b1 : ((wrap64 (t118 - 1)) != 0) = true := bne_iff_ne.mpr c16
        obtain ⟨ji17, hji17⟩ : ∃ j_ : Int, (Int.tmod (wrap64 ((rd s0_5 t111) + (rd s0_5 t115))) (wrap64 (t118 - 1))) = j_ := ⟨_, rfl⟩
        replace H : (if 0 ≤ (ji17) then (if (ji17) < (s0_4.length : Int) then (some (rd s0_4 (ji17), t116, t117, t118)) else (none)) else (none)) = some (r1, r2, r3, r4) := by (rw [hji17] at H; exact H)
        by_cases c18 : 0 ≤ (ji17)
        ·rw [if_pos c18] at H
         have c18b0 : decide (0 ≤ (ji17)) = true := det c18
         clear c18
         by_cases c19 : (ji17) < (s0_4.length : Int)
         ·rw [if_pos c19] at H
          have c19b0 : decide ((ji17) < (s0_4.length : Int)) = true := det c19
          clear c19
          simp only [Option.some.injEq, Prod.mk.injEq] at H
          obtain ⟨rfl, rfl, rfl, rfl⟩ := H
          go_enter Try.func91, Try.ntmps91
          go_wp2_with (first | (go_at_call 93; (with_reducible refine (field_GF_in.calls g s0_0 s0_1 s0_2 s0_3 s0_4 s0_5 a1 t111 t112 t113 t114 w0 _ ?side1 ?side2 A4.out).mono ?_); (case side1 => repeat (first | (with_reducible first | exact HI0.out | apply IsS109.alloc | apply IsS109.drewN | apply IsS109.drew | apply IsS109.set_0 | apply IsS109.set_1 | apply IsS109.set_3) | exact HI0.out)); (case side2 => repeat (first | (with_reducible first | exact HB.out | apply bal | apply pbn | apply bd1 | refine bst ?_ (IsS109.ge HI0.out)) | exact HB.out)); rintro e w20 ⟨rfl, hi, hb, hk⟩; have n0_ := ak (KeepBut.trans (by repeat (first | (with_reducible first | exact HK.out | apply KeepBut.set_ | apply keep_drewN | apply keep_drew | apply keep_alloc) | exact HK.out)) hk (.inl rfl)); have n1_ := ak (hb); have n2_ := ak (hi); clear HK HB HI0; have HK := n0_; have HB := n1_; have HI0 := n2_; clear n0_ n1_ n2_; (try clear hb); (try clear hb2); (try clear hk); (try clear hi)) | (go_at_call 93; (with_reducible refine (field_GF_in.calls g t112 t113 s0_2 t114 s0_4 s0_5 a2 t115 t116 t117 t118 w0 _ ?side1 ?side2 A5.out).mono ?_); (case side1 => repeat (first | (with_reducible first | exact HI0.out | apply IsS109.alloc | apply IsS109.drewN | apply IsS109.drew | apply IsS109.set_0 | apply IsS109.set_1 | apply IsS109.set_3) | exact HI0.out)); (case side2 => repeat (first | (with_reducible first | exact HB.out | apply bal | apply pbn | apply bd1 | refine bst ?_ (IsS109.ge HI0.out)) | exact HB.out)); rintro e w21 ⟨rfl, hi, hb, hk⟩; have n0_ := ak (KeepBut.trans (by repeat (first | (with_reducible first | exact HK.out | apply KeepBut.set_ | apply keep_drewN | apply keep_drew | apply keep_alloc) | exact HK.out)) hk (.inl rfl)); have n1_ := ak (hb); have n2_ := ak (hi); clear HK HB HI0; have HK := n0_; have HB := n1_; have HI0 := n2_; clear n0_ n1_ n2_; (try clear hb); (try clear hb2); (try clear hk); (try clear hi); obtain ⟨ASz22_2, cSz22_2, ASz22_4, cSz22_4, ASz22_5, cSz22_5, HGz22, hgz22, HSz22_2, HSz22_4, HSz22_5⟩ := HI0.out; have hcz22_0 := cellS109_0 HGz22; have hcz22_1 := cellS109_1 HGz22; have hcz22_2 := cellS109_2 HGz22; have hcz22_3 := cellS109_3 HGz22; have hcz22_4 := cellS109_4 HGz22; have hcz22_5 := cellS109_5 HGz22; have hfz22_0 := kfz HGz22 0; have hfz22_1 := kfz HGz22 1; have hfz22_3 := kfz HGz22 3; clear HGz22 hgz22; have p119 : 0 ≤ (t111 : Int) := odt (by first | (with_reducible assumption) | assumption); have q119 : t111 < (s0_5.length : Int) := odt (by first | (with_reducible assumption) | assumption); obtain ⟨ad119, e119, hx119_0⟩ := Kd.at_int HSz22_5 t111 p119 q119; cases e119; replace hx119_0 := pcb HB.out hx119_0; replace p119 := eq_true p119; replace q119 := eq_true q119; have p120 : 0 ≤ (t115 : Int) := odt (by first | (with_reducible assumption) | assumption); have q120 : t115 < (s0_5.length : Int) := odt (by first | (with_reducible assumption) | assumption); obtain ⟨ad120, e120, hx120_0⟩ := Kd.at_int HSz22_5 t115 p120 q120; obtain rfl : ad119 = ad120 := (by injection e120); replace hx120_0 := pcb HB.out hx120_0; replace p120 := eq_true p120; replace q120 := eq_true q120; have p121 : 0 ≤ ((ji17) : Int) := odt (by first | (with_reducible assumption) | assumption); have q121 : (ji17) < (s0_4.length : Int) := odt (by first | (with_reducible assumption) | assumption); obtain ⟨ad121, e121, hx121_0⟩ := Kd.at_int HSz22_4 (ji17) p121 q121; cases e121; replace hx121_0 := pcb HB.out hx121_0; replace p121 := eq_true p121; replace q121 := eq_true q121))
          repeat (go_quiet (first | (go_at_call 93; (with_reducible refine (field_GF_in.calls g s0_0 s0_1 s0_2 s0_3 s0_4 s0_5 a1 t111 t112 t113 t114 w0 _ ?side1 ?side2 A4.out).mono ?_); (case side1 => repeat (first | (with_reducible first | exact HI0.out | apply IsS109.alloc | apply IsS109.drewN | apply IsS109.drew | apply IsS109.set_0 | apply IsS109.set_1 | apply IsS109.set_3) | exact HI0.out)); (case side2 => repeat (first | (with_reducible first | exact HB.out | apply bal | apply pbn | apply bd1 | refine bst ?_ (IsS109.ge HI0.out)) | exact HB.out)); rintro e w20 ⟨rfl, hi, hb, hk⟩; have n0_ := ak (KeepBut.trans (by repeat (first | (with_reducible first | exact HK.out | apply KeepBut.set_ | apply keep_drewN | apply keep_drew | apply keep_alloc) | exact HK.out)) hk (.inl rfl)); have n1_ := ak (hb); have n2_ := ak (hi); clear HK HB HI0; have HK := n0_; have HB := n1_; have HI0 := n2_; clear n0_ n1_ n2_; (try clear hb); (try clear hb2); (try clear hk); (try clear hi)) | (go_at_call 93; (with_reducible refine (field_GF_in.calls g t112 t113 s0_2 t114 s0_4 s0_5 a2 t115 t116 t117 t118 w0 _ ?side1 ?side2 A5.out).mono ?_); (case side1 => repeat (first | (with_reducible first | exact HI0.out | apply IsS109.alloc | apply IsS109.drewN | apply IsS109.drew | apply IsS109.set_0 | apply IsS109.set_1 | apply IsS109.set_3) | exact HI0.out)); (case side2 => repeat (first | (with_reducible first | exact HB.out | apply bal | apply pbn | apply bd1 | refine bst ?_ (IsS109.ge HI0.out)) | exact HB.out)); rintro e w21 ⟨rfl, hi, hb, hk⟩; have n0_ := ak (KeepBut.trans (by repeat (first | (with_reducible first | exact HK.out | apply KeepBut.set_ | apply keep_drewN | apply keep_drew | apply keep_alloc) | exact HK.out)) hk (.inl rfl)); have n1_ := ak (hb); have n2_ := ak (hi); clear HK HB HI0; have HK := n0_; have HB := n1_; have HI0 := n2_; clear n0_ n1_ n2_; (try clear hb); (try clear hb2); (try clear hk); (try clear hi); obtain ⟨ASz22_2, cSz22_2, ASz22_4, cSz22_4, ASz22_5, cSz22_5, HGz22, hgz22, HSz22_2, HSz22_4, HSz22_5⟩ := HI0.out; have hcz22_0 := cellS109_0 HGz22; have hcz22_1 := cellS109_1 HGz22; have hcz22_2 := cellS109_2 HGz22; have hcz22_3 := cellS109_3 HGz22; have hcz22_4 := cellS109_4 HGz22; have hcz22_5 := cellS109_5 HGz22; have hfz22_0 := kfz HGz22 0; have hfz22_1 := kfz HGz22 1; have hfz22_3 := kfz HGz22 3; clear HGz22 hgz22; have p119 : 0 ≤ (t111 : Int) := odt (by first | (with_reducible assumption) | assumption); have q119 : t111 < (s0_5.length : Int) := odt (by first | (with_reducible assumption) | assumption); obtain ⟨ad119, e119, hx119_0⟩ := Kd.at_int HSz22_5 t111 p119 q119; cases e119; replace hx119_0 := pcb HB.out hx119_0; replace p119 := eq_true p119; replace q119 := eq_true q119; have p120 : 0 ≤ (t115 : Int) := odt (by first | (with_reducible assumption) | assumption); have q120 : t115 < (s0_5.length : Int) := odt (by first | (with_reducible assumption) | assumption); obtain ⟨ad120, e120, hx120_0⟩ := Kd.at_int HSz22_5 t115 p120 q120; obtain rfl : ad119 = ad120 := (by injection e120); replace hx120_0 := pcb HB.out hx120_0; replace p120 := eq_true p120; replace q120 := eq_true q120; have p121 : 0 ≤ ((ji17) : Int) := odt (by first | (with_reducible assumption) | assumption); have q121 : (ji17) < (s0_4.length : Int) := odt (by first | (with_reducible assumption) | assumption); obtain ⟨ad121, e121, hx121_0⟩ := Kd.at_int HSz22_4 (ji17) p121 q121; cases e121; replace hx121_0 := pcb HB.out hx121_0; replace p121 := eq_true p121; replace q121 := eq_true q121)); try go_wp2_with (first | (go_at_call 93; (with_reducible refine (field_GF_in.calls g s0_0 s0_1 s0_2 s0_3 s0_4 s0_5 a1 t111 t112 t113 t114 w0 _ ?side1 ?side2 A4.out).mono ?_); (case side1 => repeat (first | (with_reducible first | exact HI0.out | apply IsS109.alloc | apply IsS109.drewN | apply IsS109.drew | apply IsS109.set_0 | apply IsS109.set_1 | apply IsS109.set_3) | exact HI0.out)); (case side2 => repeat (first | (with_reducible first | exact HB.out | apply bal | apply pbn | apply bd1 | refine bst ?_ (IsS109.ge HI0.out)) | exact HB.out)); rintro e w20 ⟨rfl, hi, hb, hk⟩; have n0_ := ak (KeepBut.trans (by repeat (first | (with_reducible first | exact HK.out | apply KeepBut.set_ | apply keep_drewN | apply keep_drew | apply keep_alloc) | exact HK.out)) hk (.inl rfl)); have n1_ := ak (hb); have n2_ := ak (hi); clear HK HB HI0; have HK := n0_; have HB := n1_; have HI0 := n2_; clear n0_ n1_ n2_; (try clear hb); (try clear hb2); (try clear hk); (try clear hi)) | (go_at_call 93; (with_reducible refine (field_GF_in.calls g t112 t113 s0_2 t114 s0_4 s0_5 a2 t115 t116 t117 t118 w0 _ ?side1 ?side2 A5.out).mono ?_); (case side1 => repeat (first | (with_reducible first | exact HI0.out | apply IsS109.alloc | apply IsS109.drewN | apply IsS109.drew | apply IsS109.set_0 | apply IsS109.set_1 | apply IsS109.set_3) | exact HI0.out)); (case side2 => repeat (first | (with_reducible first | exact HB.out | apply bal | apply pbn | apply bd1 | refine bst ?_ (IsS109.ge HI0.out)) | exact HB.out)); rintro e w21 ⟨rfl, hi, hb, hk⟩; have n0_ := ak (KeepBut.trans (by repeat (first | (with_reducible first | exact HK.out | apply KeepBut.set_ | apply keep_drewN | apply keep_drew | apply keep_alloc) | exact HK.out)) hk (.inl rfl)); have n1_ := ak (hb); have n2_ := ak (hi); clear HK HB HI0; have HK := n0_; have HB := n1_; have HI0 := n2_; clear n0_ n1_ n2_; (try clear hb); (try clear hb2); (try clear hk); (try clear hi); obtain ⟨ASz22_2, cSz22_2, ASz22_4, cSz22_4, ASz22_5, cSz22_5, HGz22, hgz22, HSz22_2, HSz22_4, HSz22_5⟩ := HI0.out; have hcz22_0 := cellS109_0 HGz22; have hcz22_1 := cellS109_1 HGz22; have hcz22_2 := cellS109_2 HGz22; have hcz22_3 := cellS109_3 HGz22; have hcz22_4 := cellS109_4 HGz22; have hcz22_5 := cellS109_5 HGz22; have hfz22_0 := kfz HGz22 0; have hfz22_1 := kfz HGz22 1; have hfz22_3 := kfz HGz22 3; clear HGz22 hgz22; have p119 : 0 ≤ (t111 : Int) := odt (by first | (with_reducible assumption) | assumption); have q119 : t111 < (s0_5.length : Int) := odt (by first | (with_reducible assumption) | assumption); obtain ⟨ad119, e119, hx119_0⟩ := Kd.at_int HSz22_5 t111 p119 q119; cases e119; replace hx119_0 := pcb HB.out hx119_0; replace p119 := eq_true p119; replace q119 := eq_true q119; have p120 : 0 ≤ (t115 : Int) := odt (by first | (with_reducible assumption) | assumption); have q120 : t115 < (s0_5.length : Int) := odt (by first | (with_reducible assumption) | assumption); obtain ⟨ad120, e120, hx120_0⟩ := Kd.at_int HSz22_5 t115 p120 q120; obtain rfl : ad119 = ad120 := (by injection e120); replace hx120_0 := pcb HB.out hx120_0; replace p120 := eq_true p120; replace q120 := eq_true q120; have p121 : 0 ≤ ((ji17) : Int) := odt (by first | (with_reducible assumption) | assumption); have q121 : (ji17) < (s0_4.length : Int) := odt (by first | (with_reducible assumption) | assumption); obtain ⟨ad121, e121, hx121_0⟩ := Kd.at_int HSz22_4 (ji17) p121 q121; cases e121; replace hx121_0 := pcb HB.out hx121_0; replace p121 := eq_true p121; replace q121 := eq_true q121)))
          go_ret
          exact ⟨by first | rfl | (simp <;> rfl) | (simp only [← hji17]; first | rfl | (simp <;> rfl)) | (simp [*] <;> rfl), by repeat (first | (with_reducible first | exact HI0.out | apply IsS109.alloc | apply IsS109.drewN | apply IsS109.drew | apply IsS109.set_0 | apply IsS109.set_1 | apply IsS109.set_3) | exact HI0.out), by repeat (first | (with_reducible first | exact HB.out | apply bal | apply pbn | apply bd1 | refine bst ?_ (IsS109.ge HI0.out)) | exact HB.out), by repeat (first | (with_reducible first | exact HK.out | apply KeepBut.set_ | apply keep_drewN | apply keep_drew | apply keep_alloc) | exact HK.out)⟩
         ·rw [if_neg c19] at H
          exact absurd H (by simp)
        ·rw [if_neg c18] at H
         exact absurd H (by simp)
      ·rw [if_neg c15] at H
       exact absurd H (by simp)
     ·rw [if_neg c14] at H
      exact absurd H (by simp)
    ·rw [if_neg c13] at H
     exact absurd H (by simp)
   ·rw [if_neg c12] at H
    exact absurd H (by simp)
def field_GF_Div.f (s0_0 : Int) (s0_1 : Int) (s0_2 : List Int) (s0_3 : Int) (s0_4 : List Int) (s0_5 : List Int) (a1 : Int) (a2 : Int) : Option (Int × Int × Int × Int × Int) := (field_GF_Inv.f s0_0 s0_1 s0_2 s0_3 s0_4 s0_5 a2).bind fun bt122 => (if bt122.2.1 = 0 then ((field_GF_Mul.f bt122.2.2.1 bt122.2.2.2.1 s0_2 bt122.2.2.2.2 s0_4 s0_5 a1 bt122.1).bind fun bt127 => (some (bt127.1, 0, bt127.2.1, bt127.2.2.1, bt127.2.2.2))) else (some (0, bt122.2.1, bt122.2.2.1, bt122.2.2.2.1, bt122.2.2.2.2)))
theorem field_GF_Div.calls (g : Nat) (s0_0 : Int) (s0_1 : Int) (s0_2 : List Int) (s0_3 : Int) (s0_4 : List Int) (s0_5 : List Int) (a1 : Int) (a2 : Int) (r1 : Int) (r2 : Int) (r3 : Int) (r4 : Int) (r5 : Int) (w0 w : World) (hI : IsS109 w0 w g s0_0 s0_1 s0_2 s0_3 s0_4 s0_5) (hB : Below w0.heap.size w0 w) (h : field_GF_Div.f s0_0 s0_1 s0_2 s0_3 s0_4 s0_5 a1 a2 = some (r1, r2, r3, r4, r5)) :
  Calls Try.prog 67 #[.pointer (some ⟨g, 0, none⟩), .int .i64 a1, .int .i64 a2] w fun e w' => e = .returned (.tuple #[.int .i64 r1, .int .i64 r2]) ∧ IsS109 w0 w' g r3 r4 s0_2 r5 s0_4 s0_5 ∧ Below w0.heap.size w0 w' ∧ KeepBut w w' g none := by
 have HI0 := ak hI
 have HK := ak (KeepBut.refl w g none)
 have HL := ak hB.size
 clear hI
 have HW0 := ak hB.size
 have HB := ak hB
 clear hB
 have H : ((field_GF_Inv.f s0_0 s0_1 s0_2 s0_3 s0_4 s0_5 a2).bind fun bt122 => (if bt122.2.1 = 0 then ((field_GF_Mul.f bt122.2.2.1 bt122.2.2.2.1 s0_2 bt122.2.2.2.2 s0_4 s0_5 a1 bt122.1).bind fun bt127 => (some (bt127.1, 0, bt127.2.1, bt127.2.2.1, bt127.2.2.2))) else (some (0, bt122.2.1, bt122.2.2.1, bt122.2.2.2.1, bt122.2.2.2.2)))) = some (r1, r2, r3, r4, r5) := h
 clear h
 replace H := obm H
 obtain ⟨⟨t122, t123, t124, t125, t126⟩, A40, H⟩ := H
 replace H : (if t123 = 0 then ((field_GF_Mul.f t124 t125 s0_2 t126 s0_4 s0_5 a1 t122).bind fun bt127 => (some (bt127.1, 0, bt127.2.1, bt127.2.2.1, bt127.2.2.2))) else (some (0, t123, t124, t125, t126))) = some (r1, r2, r3, r4, r5) := H
 have A4 := ak A40
 clear A40
 by_cases c5 : t123 = 0
 ·rw [if_pos c5] at H
  have c5b0 : (t123 == 0) = true := beq_iff_eq.mpr c5
  have c5b1 : (t123 != 0) = false := bnm c5
  clear c5
  replace H := obm H
  obtain ⟨⟨t127, t128, t129, t130⟩, A60, H⟩ := H
  replace H : (some (t127, 0, t128, t129, t130)) = some (r1, r2, r3, r4, r5) := H
  have A6 := ak A60
  clear A60
  simp only [Option.some.injEq, Prod.mk.injEq] at H
  obtain ⟨rfl, rfl, rfl, rfl, rfl⟩ := H
  go_enter Try.func67, Try.ntmps67
  go_wp2_with (first | ((with_reducible refine gate_callee (f := 90) rfl ?_); refine goesL_ (some 13) rfl rfl Try.func90 (by kernel_rfl) rfl #[.pointer (some ⟨g, 0, none⟩), .int .i64 a2] rfl (by (try simp only [List.map_toArray, List.map_cons, List.map_nil]); first | done | rfl | (simp only [List.length_drop, List.length_take]; rfl)) ?_; (with_reducible refine (field_GF_Inv.calls g s0_0 s0_1 s0_2 s0_3 s0_4 s0_5 a2 t122 t123 t124 t125 t126 w0 _ ?side1 ?side2 A4.out).mono ?_); (case side1 => repeat (first | (with_reducible first | exact HI0.out | apply IsS109.alloc | apply IsS109.drewN | apply IsS109.drew | apply IsS109.set_0 | apply IsS109.set_1 | apply IsS109.set_3) | exact HI0.out)); (case side2 => repeat (first | (with_reducible first | exact HB.out | apply bal | apply pbn | apply bd1 | refine bst ?_ (IsS109.ge HI0.out)) | exact HB.out)); rintro e w7 ⟨rfl, hi, hb, hk⟩; refine ⟨_, rfl, ?_⟩; have n0_ := ak (KeepBut.trans (by repeat (first | (with_reducible first | exact HK.out | apply KeepBut.set_ | apply keep_drewN | apply keep_drew | apply keep_alloc) | exact HK.out)) hk (.inl rfl)); have n1_ := ak (hb); have n2_ := ak (hi); clear HK HB HI0; have HK := n0_; have HB := n1_; have HI0 := n2_; clear n0_ n1_ n2_; (try clear hb); (try clear hb2); (try clear hk); (try clear hi)) | ((with_reducible refine gate_callee (f := 91) rfl ?_); refine goesL_ (some 22) rfl rfl Try.func91 (by kernel_rfl) rfl #[.pointer (some ⟨g, 0, none⟩), .int .i64 a1, .int .i64 t122] rfl (by (try simp only [List.map_toArray, List.map_cons, List.map_nil]); first | done | rfl | (simp only [List.length_drop, List.length_take]; rfl)) ?_; (with_reducible refine (field_GF_Mul.calls g t124 t125 s0_2 t126 s0_4 s0_5 a1 t122 t127 t128 t129 t130 w0 _ ?side1 ?side2 A6.out).mono ?_); (case side1 => repeat (first | (with_reducible first | exact HI0.out | apply IsS109.alloc | apply IsS109.drewN | apply IsS109.drew | apply IsS109.set_0 | apply IsS109.set_1 | apply IsS109.set_3) | exact HI0.out)); (case side2 => repeat (first | (with_reducible first | exact HB.out | apply bal | apply pbn | apply bd1 | refine bst ?_ (IsS109.ge HI0.out)) | exact HB.out)); rintro e w8 ⟨rfl, hi, hb, hk⟩; refine ⟨_, rfl, ?_⟩; have n0_ := ak (KeepBut.trans (by repeat (first | (with_reducible first | exact HK.out | apply KeepBut.set_ | apply keep_drewN | apply keep_drew | apply keep_alloc) | exact HK.out)) hk (.inl rfl)); have n1_ := ak (hb); have n2_ := ak (hi); clear HK HB HI0; have HK := n0_; have HB := n1_; have HI0 := n2_; clear n0_ n1_ n2_; (try clear hb); (try clear hb2); (try clear hk); (try clear hi)))
  go_ret2
  exact ⟨by first | rfl | (simp <;> rfl) | (simp [*] <;> rfl), by repeat (first | (with_reducible first | exact HI0.out | apply IsS109.alloc | apply IsS109.drewN | apply IsS109.drew | apply IsS109.set_0 | apply IsS109.set_1 | apply IsS109.set_3) | exact HI0.out), by repeat (first | (with_reducible first | exact HB.out | apply bal | apply pbn | apply bd1 | refine bst ?_ (IsS109.ge HI0.out)) | exact HB.out), by repeat (first | (with_reducible first | exact HK.out | apply KeepBut.set_ | apply keep_drewN | apply keep_drew | apply keep_alloc) | exact HK.out)⟩
 ·rw [if_neg c5] at H
  have c5b0 : (t123 == 0) = false := bqm c5
  have c5b1 : (t123 != 0) = true := bne_iff_ne.mpr c5
  simp only [Option.some.injEq, Prod.mk.injEq] at H
  obtain ⟨rfl, rfl, rfl, rfl, rfl⟩ := H
  go_enter Try.func67, Try.ntmps67
  go_wp2_with (first | ((with_reducible refine gate_callee (f := 90) rfl ?_); refine goesL_ (some 13) rfl rfl Try.func90 (by kernel_rfl) rfl #[.pointer (some ⟨g, 0, none⟩), .int .i64 a2] rfl (by (try simp only [List.map_toArray, List.map_cons, List.map_nil]); first | done | rfl | (simp only [List.length_drop, List.length_take]; rfl)) ?_; (with_reducible refine (field_GF_Inv.calls g s0_0 s0_1 s0_2 s0_3 s0_4 s0_5 a2 t122 t123 t124 t125 t126 w0 _ ?side1 ?side2 A4.out).mono ?_); (case side1 => repeat (first | (with_reducible first | exact HI0.out | apply IsS109.alloc | apply IsS109.drewN | apply IsS109.drew | apply IsS109.set_0 | apply IsS109.set_1 | apply IsS109.set_3) | exact HI0.out)); (case side2 => repeat (first | (with_reducible first | exact HB.out | apply bal | apply pbn | apply bd1 | refine bst ?_ (IsS109.ge HI0.out)) | exact HB.out)); rintro e w9 ⟨rfl, hi, hb, hk⟩; refine ⟨_, rfl, ?_⟩; have n0_ := ak (KeepBut.trans (by repeat (first | (with_reducible first | exact HK.out | apply KeepBut.set_ | apply keep_drewN | apply keep_drew | apply keep_alloc) | exact HK.out)) hk (.inl rfl)); have n1_ := ak (hb); have n2_ := ak (hi); clear HK HB HI0; have HK := n0_; have HB := n1_; have HI0 := n2_; clear n0_ n1_ n2_; (try clear hb); (try clear hb2); (try clear hk); (try clear hi)))
  go_ret2
  exact ⟨by first | rfl | (simp <;> rfl) | (simp [*] <;> rfl), by repeat (first | (with_reducible first | exact HI0.out | apply IsS109.alloc | apply IsS109.drewN | apply IsS109.drew | apply IsS109.set_0 | apply IsS109.set_1 | apply IsS109.set_3) | exact HI0.out), by repeat (first | (with_reducible first | exact HB.out | apply bal | apply pbn | apply bd1 | refine bst ?_ (IsS109.ge HI0.out)) | exact HB.out), by repeat (first | (with_reducible first | exact HK.out | apply KeepBut.set_ | apply keep_drewN | apply keep_drew | apply keep_alloc) | exact HK.out)⟩
def field_GF_Add.l0 : Nat → Int → Int → Int → Int → Int → Int → List Int → Int → List Int → List Int → Option (Int × Int × Int × Int)
 | 0, _, _, _, _, _, _, _, _, _, _ => none
 | k + 1, x1, x2, x7, x8, x1000, x1001, x1002, x1003, x1004, x1005 => if x1 > 0 then (if x1000 = 0 then (none) else (field_GF_Add.l0 k (wrap64 (Int.tdiv x1 x1000)) (wrap64 (Int.tdiv x2 x1000)) (wrap64 (x7 + (wrap64 ((Int.tmod (wrap64 ((Int.tmod x1 x1000) + (Int.tmod x2 x1000))) x1000) * x8)))) (wrap64 (x8 * x1000)) x1000 x1001 x1002 x1003 x1004 x1005)) else (if x2 > 0 then (if x1000 = 0 then (none) else (field_GF_Add.l0 k (wrap64 (Int.tdiv x1 x1000)) (wrap64 (Int.tdiv x2 x1000)) (wrap64 (x7 + (wrap64 ((Int.tmod (wrap64 ((Int.tmod x1 x1000) + (Int.tmod x2 x1000))) x1000) * x8)))) (wrap64 (x8 * x1000)) x1000 x1001 x1002 x1003 x1004 x1005)) else (some (x7, x1000, x1001, x1003)))
def field_GF_Add.f (k : Nat) (s0_0 : Int) (s0_1 : Int) (s0_2 : List Int) (s0_3 : Int) (s0_4 : List Int) (s0_5 : List Int) (a1 : Int) (a2 : Int) : Option (Int × Int × Int × Int) := (field_GF_in.f s0_0 s0_1 s0_2 s0_3 s0_4 s0_5 a1).bind fun bt131 => ((field_GF_in.f bt131.2.1 bt131.2.2.1 s0_2 bt131.2.2.2 s0_4 s0_5 a2).bind fun bt135 => (if bt135.2.1 = 2 then (some (Go.bits .xor .i64 bt131.1 bt135.1, bt135.2.1, bt135.2.2.1, bt135.2.2.2)) else (field_GF_Add.l0 k bt131.1 bt135.1 0 1 bt135.2.1 bt135.2.2.1 s0_2 bt135.2.2.2 s0_4 s0_5)))
theorem field_GF_Add.calls (k : Nat) (g : Nat) (s0_0 : Int) (s0_1 : Int) (s0_2 : List Int) (s0_3 : Int) (s0_4 : List Int) (s0_5 : List Int) (a1 : Int) (a2 : Int) (r1 : Int) (r2 : Int) (r3 : Int) (r4 : Int) (w0 w : World) (hI : IsS109 w0 w g s0_0 s0_1 s0_2 s0_3 s0_4 s0_5) (hB : Below w0.heap.size w0 w) (h : field_GF_Add.f k s0_0 s0_1 s0_2 s0_3 s0_4 s0_5 a1 a2 = some (r1, r2, r3, r4)) :
  Calls Try.prog 92 #[.pointer (some ⟨g, 0, none⟩), .int .i64 a1, .int .i64 a2] w fun e w' => e = .returned (.int .i64 r1) ∧ IsS109 w0 w' g r2 r3 s0_2 r4 s0_4 s0_5 ∧ Below w0.heap.size w0 w' ∧ KeepBut w w' g none := by
 have HI0 := ak hI
 have HK := ak (KeepBut.refl w g none)
 have HL := ak hB.size
 clear hI
 have HW0 := ak hB.size
 have HB := ak hB
 clear hB
 have H : ((field_GF_in.f s0_0 s0_1 s0_2 s0_3 s0_4 s0_5 a1).bind fun bt131 => ((field_GF_in.f bt131.2.1 bt131.2.2.1 s0_2 bt131.2.2.2 s0_4 s0_5 a2).bind fun bt135 => (if bt135.2.1 = 2 then (some (Go.bits .xor .i64 bt131.1 bt135.1, bt135.2.1, bt135.2.2.1, bt135.2.2.2)) else (field_GF_Add.l0 k bt131.1 bt135.1 0 1 bt135.2.1 bt135.2.2.1 s0_2 bt135.2.2.2 s0_4 s0_5)))) = some (r1, r2, r3, r4) := h
 clear h
 replace H := obm H
 obtain ⟨⟨t131, t132, t133, t134⟩, A40, H⟩ := H
 replace H : ((field_GF_in.f t132 t133 s0_2 t134 s0_4 s0_5 a2).bind fun bt135 => (if bt135.2.1 = 2 then (some (Go.bits .xor .i64 t131 bt135.1, bt135.2.1, bt135.2.2.1, bt135.2.2.2)) else (field_GF_Add.l0 k t131 bt135.1 0 1 bt135.2.1 bt135.2.2.1 s0_2 bt135.2.2.2 s0_4 s0_5))) = some (r1, r2, r3, r4) := H
 have A4 := ak A40
 clear A40
 replace H := obm H
 obtain ⟨⟨t135, t136, t137, t138⟩, A50, H⟩ := H
 replace H : (if t136 = 2 then (some (Go.bits .xor .i64 t131 t135, t136, t137, t138)) else (field_GF_Add.l0 k t131 t135 0 1 t136 t137 s0_2 t138 s0_4 s0_5)) = some (r1, r2, r3, r4) := H
 have A5 := ak A50
 clear A50
 by_cases c6 : t136 = 2
 ·rw [if_pos c6] at H
  have c6b0 : (t136 == 2) = true := beq_iff_eq.mpr c6
  have c6b1 : (t136 != 2) = false := bnm c6
  clear c6
  simp only [Option.some.injEq, Prod.mk.injEq] at H
  obtain ⟨rfl, rfl, rfl, rfl⟩ := H
  go_enter Try.func92, Try.ntmps92
  go_wp2_with (first | (go_at_call 93; (with_reducible refine (field_GF_in.calls g s0_0 s0_1 s0_2 s0_3 s0_4 s0_5 a1 t131 t132 t133 t134 w0 _ ?side1 ?side2 A4.out).mono ?_); (case side1 => repeat (first | (with_reducible first | exact HI0.out | apply IsS109.alloc | apply IsS109.drewN | apply IsS109.drew | apply IsS109.set_0 | apply IsS109.set_1 | apply IsS109.set_3) | exact HI0.out)); (case side2 => repeat (first | (with_reducible first | exact HB.out | apply bal | apply pbn | apply bd1 | refine bst ?_ (IsS109.ge HI0.out)) | exact HB.out)); rintro e w7 ⟨rfl, hi, hb, hk⟩; have n0_ := ak (KeepBut.trans (by repeat (first | (with_reducible first | exact HK.out | apply KeepBut.set_ | apply keep_drewN | apply keep_drew | apply keep_alloc) | exact HK.out)) hk (.inl rfl)); have n1_ := ak (hb); have n2_ := ak (hi); clear HK HB HI0; have HK := n0_; have HB := n1_; have HI0 := n2_; clear n0_ n1_ n2_; (try clear hb); (try clear hb2); (try clear hk); (try clear hi)) | (go_at_call 93; (with_reducible refine (field_GF_in.calls g t132 t133 s0_2 t134 s0_4 s0_5 a2 t135 t136 t137 t138 w0 _ ?side1 ?side2 A5.out).mono ?_); (case side1 => repeat (first | (with_reducible first | exact HI0.out | apply IsS109.alloc | apply IsS109.drewN | apply IsS109.drew | apply IsS109.set_0 | apply IsS109.set_1 | apply IsS109.set_3) | exact HI0.out)); (case side2 => repeat (first | (with_reducible first | exact HB.out | apply bal | apply pbn | apply bd1 | refine bst ?_ (IsS109.ge HI0.out)) | exact HB.out)); rintro e w8 ⟨rfl, hi, hb, hk⟩; have n0_ := ak (KeepBut.trans (by repeat (first | (with_reducible first | exact HK.out | apply KeepBut.set_ | apply keep_drewN | apply keep_drew | apply keep_alloc) | exact HK.out)) hk (.inl rfl)); have n1_ := ak (hb); have n2_ := ak (hi); clear HK HB HI0; have HK := n0_; have HB := n1_; have HI0 := n2_; clear n0_ n1_ n2_; (try clear hb); (try clear hb2); (try clear hk); (try clear hi); obtain ⟨ASz9_2, cSz9_2, ASz9_4, cSz9_4, ASz9_5, cSz9_5, HGz9, hgz9, HSz9_2, HSz9_4, HSz9_5⟩ := HI0.out; have hcz9_0 := cellS109_0 HGz9; have hcz9_1 := cellS109_1 HGz9; have hcz9_2 := cellS109_2 HGz9; have hcz9_3 := cellS109_3 HGz9; have hcz9_4 := cellS109_4 HGz9; have hcz9_5 := cellS109_5 HGz9; have hfz9_0 := kfz HGz9 0; have hfz9_1 := kfz HGz9 1; have hfz9_3 := kfz HGz9 3; clear HGz9 hgz9))
  go_ret
  exact ⟨by first | rfl | (simp <;> rfl) | (simp [*] <;> rfl), by repeat (first | (with_reducible first | exact HI0.out | apply IsS109.alloc | apply IsS109.drewN | apply IsS109.drew | apply IsS109.set_0 | apply IsS109.set_1 | apply IsS109.set_3) | exact HI0.out), by repeat (first | (with_reducible first | exact HB.out | apply bal | apply pbn | apply bd1 | refine bst ?_ (IsS109.ge HI0.out)) | exact HB.out), by repeat (first | (with_reducible first | exact HK.out | apply KeepBut.set_ | apply keep_drewN | apply keep_drew | apply keep_alloc) | exact HK.out)⟩
 ·rw [if_neg c6] at H
  have c6b0 : (t136 == 2) = false := bqm c6
  have c6b1 : (t136 != 2) = true := bne_iff_ne.mpr c6
  have H' := ak H
  clear H
  go_enter Try.func92, Try.ntmps92
  go_wp2_with (first | (go_at_call 93; (with_reducible refine (field_GF_in.calls g s0_0 s0_1 s0_2 s0_3 s0_4 s0_5 a1 t131 t132 t133 t134 w0 _ ?side1 ?side2 A4.out).mono ?_); (case side1 => repeat (first | (with_reducible first | exact HI0.out | apply IsS109.alloc | apply IsS109.drewN | apply IsS109.drew | apply IsS109.set_0 | apply IsS109.set_1 | apply IsS109.set_3) | exact HI0.out)); (case side2 => repeat (first | (with_reducible first | exact HB.out | apply bal | apply pbn | apply bd1 | refine bst ?_ (IsS109.ge HI0.out)) | exact HB.out)); rintro e w10 ⟨rfl, hi, hb, hk⟩; have n0_ := ak (KeepBut.trans (by repeat (first | (with_reducible first | exact HK.out | apply KeepBut.set_ | apply keep_drewN | apply keep_drew | apply keep_alloc) | exact HK.out)) hk (.inl rfl)); have n1_ := ak (hb); have n2_ := ak (hi); clear HK HB HI0; have HK := n0_; have HB := n1_; have HI0 := n2_; clear n0_ n1_ n2_; (try clear hb); (try clear hb2); (try clear hk); (try clear hi)) | (go_at_call 93; (with_reducible refine (field_GF_in.calls g t132 t133 s0_2 t134 s0_4 s0_5 a2 t135 t136 t137 t138 w0 _ ?side1 ?side2 A5.out).mono ?_); (case side1 => repeat (first | (with_reducible first | exact HI0.out | apply IsS109.alloc | apply IsS109.drewN | apply IsS109.drew | apply IsS109.set_0 | apply IsS109.set_1 | apply IsS109.set_3) | exact HI0.out)); (case side2 => repeat (first | (with_reducible first | exact HB.out | apply bal | apply pbn | apply bd1 | refine bst ?_ (IsS109.ge HI0.out)) | exact HB.out)); rintro e w11 ⟨rfl, hi, hb, hk⟩; have n0_ := ak (KeepBut.trans (by repeat (first | (with_reducible first | exact HK.out | apply KeepBut.set_ | apply keep_drewN | apply keep_drew | apply keep_alloc) | exact HK.out)) hk (.inl rfl)); have n1_ := ak (hb); have n2_ := ak (hi); clear HK HB HI0; have HK := n0_; have HB := n1_; have HI0 := n2_; clear n0_ n1_ n2_; (try clear hb); (try clear hb2); (try clear hk); (try clear hi); obtain ⟨ASz12_2, cSz12_2, ASz12_4, cSz12_4, ASz12_5, cSz12_5, HGz12, hgz12, HSz12_2, HSz12_4, HSz12_5⟩ := HI0.out; have hcz12_0 := cellS109_0 HGz12; have hcz12_1 := cellS109_1 HGz12; have hcz12_2 := cellS109_2 HGz12; have hcz12_3 := cellS109_3 HGz12; have hcz12_4 := cellS109_4 HGz12; have hcz12_5 := cellS109_5 HGz12; have hfz12_0 := kfz HGz12 0; have hfz12_1 := kfz HGz12 1; have hfz12_3 := kfz HGz12 3; clear HGz12 hgz12))
  go_loopg [1, 2, 7, 8] k (fun kq v1 v2 v7 v8 w' => ∃ (x1_1 : Int) (x2_1 : Int) (x7_1 : Int) (x8_1 : Int), v1 = .int .i64 x1_1 ∧ v2 = .int .i64 x2_1 ∧ v7 = .int .i64 x7_1 ∧ v8 = .int .i64 x8_1 ∧ Aside0 (field_GF_Add.l0 kq x1_1 x2_1 x7_1 x8_1 t136 t137 s0_2 t138 s0_4 s0_5 = some (r1, r2, r3, r4)) ∧ Aside0 (kq ≤ k) ∧ Aside0 (IsS109 w0 w' g t136 t137 s0_2 t138 s0_4 s0_5) ∧ Aside0 (KeepBut w w' g none) ∧ Aside0 (Below w0.heap.size w0 w'))
  case atStart => exact ⟨(t131), (t135), (0), (1), (by first | rfl | (simp; done) | (simp [*]; done)), (by first | rfl | (simp; done) | (simp [*]; done)), (by first | rfl | (simp; done) | (simp [*]; done)), (by first | rfl | (simp; done) | (simp [*]; done)), H', ⟨Nat.le_refl _⟩, ⟨by repeat (first | (with_reducible first | exact HI0.out | apply IsS109.alloc | apply IsS109.drewN | apply IsS109.drew | apply IsS109.set_0 | apply IsS109.set_1 | apply IsS109.set_3) | exact HI0.out)⟩, ⟨by repeat (first | (with_reducible first | exact HK.out | apply KeepBut.set_ | apply keep_drewN | apply keep_drew | apply keep_alloc) | exact HK.out)⟩, ⟨by repeat (first | (with_reducible first | exact HB.out | apply bal | apply pbn | apply bd1 | refine bst ?_ (IsS109.ge HI0.out)) | exact HB.out)⟩⟩
  case round =>
   clear H'
   try (clear c6)
   try (clear c6b0)
   try (clear c6b1)
   try (clear hcz12_0)
   try (clear hcz12_1)
   try (clear hcz12_2)
   try (clear hcz12_3)
   try (clear hcz12_4)
   try (clear hcz12_5)
   try (clear hfz12_0)
   try (clear hfz12_1)
   try (clear hfz12_3)
   obtain ⟨x1_1, x2_1, x7_1, x8_1, rfl, rfl, rfl, rfl, HA, HK1, HI0, HK, HB⟩ := hrel
   cases gk with
   | zero => exact absurd HA.out (by simp [field_GF_Add.l0])
   | succ k1 =>
    have H := HA.out
    clear HA
    simp only [field_GF_Add.l0] at H
    by_cases c13 : x1_1 > 0
    ·rw [if_pos c13] at H
     have c13b0 : decide (0 < x1_1) = true := det c13
     clear c13
     by_cases c14 : t136 = 0
     ·rw [if_pos c14] at H
      exact absurd H (by simp)
     ·rw [if_neg c14] at H
      have c14b0 : (t136 == 0) = false := bqm c14
      have c14b1 : (t136 != 0) = true := bne_iff_ne.mpr c14
      have H' := ak H
      clear H
      obtain ⟨ASz15_2, cSz15_2, ASz15_4, cSz15_4, ASz15_5, cSz15_5, HGz15, hgz15, HSz15_2, HSz15_4, HSz15_5⟩ := HI0.out
      have hcz15_0 := cellS109_0 HGz15
      have hcz15_1 := cellS109_1 HGz15
      have hcz15_2 := cellS109_2 HGz15
      have hcz15_3 := cellS109_3 HGz15
      have hcz15_4 := cellS109_4 HGz15
      have hcz15_5 := cellS109_5 HGz15
      have hfz15_0 := kfz HGz15 0
      have hfz15_1 := kfz HGz15 1
      have hfz15_3 := kfz HGz15 3
      clear HGz15 hgz15
      go_wp2
      repeat (go_quiet (fail); try go_wp2)
      go_roundg k1
      case measure => have := HK1.out; omega
      case rel => exact ⟨(wrap64 (Int.tdiv x1_1 t136)), (wrap64 (Int.tdiv x2_1 t136)), (wrap64 (x7_1 + (wrap64 ((Int.tmod (wrap64 ((Int.tmod x1_1 t136) + (Int.tmod x2_1 t136))) t136) * x8_1)))), (wrap64 (x8_1 * t136)), (by first | rfl | (simp; done) | (simp [*]; done)), (by first | rfl | (simp; done) | (simp [*]; done)), (by first | rfl | (simp; done) | (simp [*]; done)), (by first | rfl | (simp; done) | (simp [*]; done)), H', ⟨by have := HK1.out; omega⟩, ⟨by repeat (first | (with_reducible first | exact HI0.out | apply IsS109.alloc | apply IsS109.drewN | apply IsS109.drew | apply IsS109.set_0 | apply IsS109.set_1 | apply IsS109.set_3) | exact HI0.out)⟩, ⟨by repeat (first | (with_reducible first | exact HK.out | apply KeepBut.set_ | apply keep_drewN | apply keep_drew | apply keep_alloc) | exact HK.out)⟩, ⟨by repeat (first | (with_reducible first | exact HB.out | apply bal | apply pbn | apply bd1 | refine bst ?_ (IsS109.ge HI0.out)) | exact HB.out)⟩⟩
    ·rw [if_neg c13] at H
     have c13b0 : decide (0 < x1_1) = false := dff c13
     clear c13
     by_cases c16 : x2_1 > 0
     ·rw [if_pos c16] at H
      have c16b0 : decide (0 < x2_1) = true := det c16
      clear c16
      by_cases c17 : t136 = 0
      ·rw [if_pos c17] at H
       exact absurd H (by simp)
      ·rw [if_neg c17] at H
       have c17b0 : (t136 == 0) = false := bqm c17
       have c17b1 : (t136 != 0) = true := bne_iff_ne.mpr c17
       have H' := ak H
       clear H
       obtain ⟨ASz18_2, cSz18_2, ASz18_4, cSz18_4, ASz18_5, cSz18_5, HGz18, hgz18, HSz18_2, HSz18_4, HSz18_5⟩ := HI0.out
       have hcz18_0 := cellS109_0 HGz18
       have hcz18_1 := cellS109_1 HGz18
       have hcz18_2 := cellS109_2 HGz18
       have hcz18_3 := cellS109_3 HGz18
       have hcz18_4 := cellS109_4 HGz18
       have hcz18_5 := cellS109_5 HGz18
       have hfz18_0 := kfz HGz18 0
       have hfz18_1 := kfz HGz18 1
       have hfz18_3 := kfz HGz18 3
       clear HGz18 hgz18
       go_wp2
       repeat (go_quiet (fail); try go_wp2)
       go_roundg k1
       case measure => have := HK1.out; omega
       case rel => exact ⟨(wrap64 (Int.tdiv x1_1 t136)), (wrap64 (Int.tdiv x2_1 t136)), (wrap64 (x7_1 + (wrap64 ((Int.tmod (wrap64 ((Int.tmod x1_1 t136) + (Int.tmod x2_1 t136))) t136) * x8_1)))), (wrap64 (x8_1 * t136)), (by first | rfl | (simp; done) | (simp [*]; done)), (by first | rfl | (simp; done) | (simp [*]; done)), (by first | rfl | (simp; done) | (simp [*]; done)), (by first | rfl | (simp; done) | (simp [*]; done)), H', ⟨by have := HK1.out; omega⟩, ⟨by repeat (first | (with_reducible first | exact HI0.out | apply IsS109.alloc | apply IsS109.drewN | apply IsS109.drew | apply IsS109.set_0 | apply IsS109.set_1 | apply IsS109.set_3) | exact HI0.out)⟩, ⟨by repeat (first | (with_reducible first | exact HK.out | apply KeepBut.set_ | apply keep_drewN | apply keep_drew | apply keep_alloc) | exact HK.out)⟩, ⟨by repeat (first | (with_reducible first | exact HB.out | apply bal | apply pbn | apply bd1 | refine bst ?_ (IsS109.ge HI0.out)) | exact HB.out)⟩⟩
     ·rw [if_neg c16] at H
      have c16b0 : decide (0 < x2_1) = false := dff c16
      clear c16
      simp only [Option.some.injEq, Prod.mk.injEq] at H
      obtain ⟨rfl, rfl, rfl, rfl⟩ := H
      go_wp2
      go_ret
      exact ⟨by first | rfl | (simp <;> rfl) | (simp [*] <;> rfl), by repeat (first | (with_reducible first | exact HI0.out | apply IsS109.alloc | apply IsS109.drewN | apply IsS109.drew | apply IsS109.set_0 | apply IsS109.set_1 | apply IsS109.set_3) | exact HI0.out), by repeat (first | (with_reducible first | exact HB.out | apply bal | apply pbn | apply bd1 | refine bst ?_ (IsS109.ge HI0.out)) | exact HB.out), by repeat (first | (with_reducible first | exact HK.out | apply KeepBut.set_ | apply keep_drewN | apply keep_drew | apply keep_alloc) | exact HK.out)⟩
def field_GF_Neg.l0 : Nat → Int → Int → Int → Int → Int → List Int → Int → List Int → List Int → Option (Int × Int × Int × Int)
 | 0, _, _, _, _, _, _, _, _, _ => none
 | k + 1, x1, x5, x6, x1000, x1001, x1002, x1003, x1004, x1005 => if x1 > 0 then (if x1000 = 0 then (none) else (field_GF_Neg.l0 k (wrap64 (Int.tdiv x1 x1000)) (wrap64 (x5 + (wrap64 ((Int.tmod (wrap64 (x1000 - (Int.tmod x1 x1000))) x1000) * x6)))) (wrap64 (x6 * x1000)) x1000 x1001 x1002 x1003 x1004 x1005)) else (some (x5, x1000, x1001, x1003))
def field_GF_Neg.f (k : Nat) (s0_0 : Int) (s0_1 : Int) (s0_2 : List Int) (s0_3 : Int) (s0_4 : List Int) (s0_5 : List Int) (a1 : Int) : Option (Int × Int × Int × Int) := (field_GF_in.f s0_0 s0_1 s0_2 s0_3 s0_4 s0_5 a1).bind fun bt149 => (field_GF_Neg.l0 k bt149.1 0 1 bt149.2.1 bt149.2.2.1 s0_2 bt149.2.2.2 s0_4 s0_5)
theorem field_GF_Neg.calls (k : Nat) (g : Nat) (s0_0 : Int) (s0_1 : Int) (s0_2 : List Int) (s0_3 : Int) (s0_4 : List Int) (s0_5 : List Int) (a1 : Int) (r1 : Int) (r2 : Int) (r3 : Int) (r4 : Int) (w0 w : World) (hI : IsS109 w0 w g s0_0 s0_1 s0_2 s0_3 s0_4 s0_5) (hB : Below w0.heap.size w0 w) (h : field_GF_Neg.f k s0_0 s0_1 s0_2 s0_3 s0_4 s0_5 a1 = some (r1, r2, r3, r4)) :
  Calls Try.prog 69 #[.pointer (some ⟨g, 0, none⟩), .int .i64 a1] w fun e w' => e = .returned (.int .i64 r1) ∧ IsS109 w0 w' g r2 r3 s0_2 r4 s0_4 s0_5 ∧ Below w0.heap.size w0 w' ∧ KeepBut w w' g none := by
 have HI0 := ak hI
 have HK := ak (KeepBut.refl w g none)
 have HL := ak hB.size
 clear hI
 have HW0 := ak hB.size
 have HB := ak hB
 clear hB
 have H : ((field_GF_in.f s0_0 s0_1 s0_2 s0_3 s0_4 s0_5 a1).bind fun bt149 => (field_GF_Neg.l0 k bt149.1 0 1 bt149.2.1 bt149.2.2.1 s0_2 bt149.2.2.2 s0_4 s0_5)) = some (r1, r2, r3, r4) := h
 clear h
 replace H := obm H
 obtain ⟨⟨t149, t150, t151, t152⟩, A30, H⟩ := H
 replace H : (field_GF_Neg.l0 k t149 0 1 t150 t151 s0_2 t152 s0_4 s0_5) = some (r1, r2, r3, r4) := H
 have A3 := ak A30
 clear A30
 have H' := ak H
 clear H
 go_enter Try.func69, Try.ntmps69
 go_wp2_with (first | (go_at_call 93; (with_reducible refine (field_GF_in.calls g s0_0 s0_1 s0_2 s0_3 s0_4 s0_5 a1 t149 t150 t151 t152 w0 _ ?side1 ?side2 A3.out).mono ?_); (case side1 => repeat (first | (with_reducible first | exact HI0.out | apply IsS109.alloc | apply IsS109.drewN | apply IsS109.drew | apply IsS109.set_0 | apply IsS109.set_1 | apply IsS109.set_3) | exact HI0.out)); (case side2 => repeat (first | (with_reducible first | exact HB.out | apply bal | apply pbn | apply bd1 | refine bst ?_ (IsS109.ge HI0.out)) | exact HB.out)); rintro e w4 ⟨rfl, hi, hb, hk⟩; have n0_ := ak (KeepBut.trans (by repeat (first | (with_reducible first | exact HK.out | apply KeepBut.set_ | apply keep_drewN | apply keep_drew | apply keep_alloc) | exact HK.out)) hk (.inl rfl)); have n1_ := ak (hb); have n2_ := ak (hi); clear HK HB HI0; have HK := n0_; have HB := n1_; have HI0 := n2_; clear n0_ n1_ n2_; (try clear hb); (try clear hb2); (try clear hk); (try clear hi)))
 go_loopg [1, 5, 6] k (fun kq v1 v5 v6 w' => ∃ (x1_1 : Int) (x5_1 : Int) (x6_1 : Int), v1 = .int .i64 x1_1 ∧ v5 = .int .i64 x5_1 ∧ v6 = .int .i64 x6_1 ∧ Aside0 (field_GF_Neg.l0 kq x1_1 x5_1 x6_1 t150 t151 s0_2 t152 s0_4 s0_5 = some (r1, r2, r3, r4)) ∧ Aside0 (kq ≤ k) ∧ Aside0 (IsS109 w0 w' g t150 t151 s0_2 t152 s0_4 s0_5) ∧ Aside0 (KeepBut w w' g none) ∧ Aside0 (Below w0.heap.size w0 w'))
 case atStart => exact ⟨(t149), (0), (1), (by first | rfl | (simp; done) | (simp [*]; done)), (by first | rfl | (simp; done) | (simp [*]; done)), (by first | rfl | (simp; done) | (simp [*]; done)), H', ⟨Nat.le_refl _⟩, ⟨by repeat (first | (with_reducible first | exact HI0.out | apply IsS109.alloc | apply IsS109.drewN | apply IsS109.drew | apply IsS109.set_0 | apply IsS109.set_1 | apply IsS109.set_3) | exact HI0.out)⟩, ⟨by repeat (first | (with_reducible first | exact HK.out | apply KeepBut.set_ | apply keep_drewN | apply keep_drew | apply keep_alloc) | exact HK.out)⟩, ⟨by repeat (first | (with_reducible first | exact HB.out | apply bal | apply pbn | apply bd1 | refine bst ?_ (IsS109.ge HI0.out)) | exact HB.out)⟩⟩
 case round =>
  clear H'
  obtain ⟨x1_1, x5_1, x6_1, rfl, rfl, rfl, HA, HK1, HI0, HK, HB⟩ := hrel
  cases gk with
  | zero => exact absurd HA.out (by simp [field_GF_Neg.l0])
  | succ k1 =>
   have H := HA.out
   clear HA
   simp only [field_GF_Neg.l0] at H
   by_cases c5 : x1_1 > 0
   ·rw [if_pos c5] at H
    have c5b0 : decide (0 < x1_1) = true := det c5
    clear c5
    by_cases c6 : t150 = 0
    ·rw [if_pos c6] at H
     exact absurd H (by simp)
    ·rw [if_neg c6] at H
     have c6b0 : (t150 == 0) = false := bqm c6
     have c6b1 : (t150 != 0) = true := bne_iff_ne.mpr c6
     have H' := ak H
     clear H
     obtain ⟨ASz7_2, cSz7_2, ASz7_4, cSz7_4, ASz7_5, cSz7_5, HGz7, hgz7, HSz7_2, HSz7_4, HSz7_5⟩ := HI0.out
     have hcz7_0 := cellS109_0 HGz7
     have hcz7_1 := cellS109_1 HGz7
     have hcz7_2 := cellS109_2 HGz7
     have hcz7_3 := cellS109_3 HGz7
     have hcz7_4 := cellS109_4 HGz7
     have hcz7_5 := cellS109_5 HGz7
     have hfz7_0 := kfz HGz7 0
     have hfz7_1 := kfz HGz7 1
     have hfz7_3 := kfz HGz7 3
     clear HGz7 hgz7
     go_wp2
     repeat (go_quiet (fail); try go_wp2)
     go_roundg k1
     case measure => have := HK1.out; omega
     case rel => exact ⟨(wrap64 (Int.tdiv x1_1 t150)), (wrap64 (x5_1 + (wrap64 ((Int.tmod (wrap64 (t150 - (Int.tmod x1_1 t150))) t150) * x6_1)))), (wrap64 (x6_1 * t150)), (by first | rfl | (simp; done) | (simp [*]; done)), (by first | rfl | (simp; done) | (simp [*]; done)), (by first | rfl | (simp; done) | (simp [*]; done)), H', ⟨by have := HK1.out; omega⟩, ⟨by repeat (first | (with_reducible first | exact HI0.out | apply IsS109.alloc | apply IsS109.drewN | apply IsS109.drew | apply IsS109.set_0 | apply IsS109.set_1 | apply IsS109.set_3) | exact HI0.out)⟩, ⟨by repeat (first | (with_reducible first | exact HK.out | apply KeepBut.set_ | apply keep_drewN | apply keep_drew | apply keep_alloc) | exact HK.out)⟩, ⟨by repeat (first | (with_reducible first | exact HB.out | apply bal | apply pbn | apply bd1 | refine bst ?_ (IsS109.ge HI0.out)) | exact HB.out)⟩⟩
   ·rw [if_neg c5] at H
    have c5b0 : decide (0 < x1_1) = false := dff c5
    clear c5
    simp only [Option.some.injEq, Prod.mk.injEq] at H
    obtain ⟨rfl, rfl, rfl, rfl⟩ := H
    go_wp2
    go_ret
    exact ⟨by first | rfl | (simp <;> rfl) | (simp [*] <;> rfl), by repeat (first | (with_reducible first | exact HI0.out | apply IsS109.alloc | apply IsS109.drewN | apply IsS109.drew | apply IsS109.set_0 | apply IsS109.set_1 | apply IsS109.set_3) | exact HI0.out), by repeat (first | (with_reducible first | exact HB.out | apply bal | apply pbn | apply bd1 | refine bst ?_ (IsS109.ge HI0.out)) | exact HB.out), by repeat (first | (with_reducible first | exact HK.out | apply KeepBut.set_ | apply keep_drewN | apply keep_drew | apply keep_alloc) | exact HK.out)⟩
end Go.Proofs.Ytkifipakikbhcaa.Gf
namespace Go.Proofs.Ytkifipakikbhcaa.Hand
open Ytkifipakikbhcaa.Ref Ytkifipakikbhcaa.Pg
open Go.RowKit YtkifipakikbhcaaW.PrintWords YtkifipakikbhcaaW.PrintLast YtkifipakikbhcaaW.PrintMore
attribute [local go_sem ↓] Go.wp_at_zero Go.wp_at_succ
def logL : List Int → Nat → List Int → List Int
 | [], _, l => l
 | x :: e, n, l => logL e (n + 1) (l.set x.toNat n)
theorem cells3_below {W W' : World} {a b c : Addr} {s t u : Value} (h : W.cell? a = some s ∧ W.cell? b = some t ∧ W.cell? c = some u) (hb : Below W.heap.size W W') :
  W'.cell? a = some s ∧ W'.cell? b = some t ∧ W'.cell? c = some u := ⟨cbl h.1 hb, cbl h.2.1 hb, cbl h.2.2 hb⟩
theorem cells3_grown {W W' : World} {g : Nat} {r : Option Nat} {i j k : Nat} {s t u : Value} (h : W.cell? ⟨g, i, none⟩ = some s ∧ W.cell? ⟨g, j, none⟩ = some t ∧ W.cell? ⟨g, k, none⟩ = some u) (hg : W.grownBy W' r) (hr : some g ≠ r) :
  W'.cell? ⟨g, i, none⟩ = some s ∧ W'.cell? ⟨g, j, none⟩ = some t ∧ W'.cell? ⟨g, k, none⟩ = some u := ⟨cell_grown hg h.1 hr, cell_grown hg h.2.1 hr, cell_grown hg h.2.2 hr⟩
theorem own_ne_new {W : World} {v u : Value} {base e : Nat} {ok : Nat → Prop} {xs : List Int} (hn : ∃ b, v.ownBlock = some b ∧ W.heap.size ≤ b) (h : Kd.R (Kd.int .i64) e W base ok u xs) : ∀ k, v.ownBlock = some k → some k ≠ u.ownBlock := by
 obtain ⟨b, hb, hle⟩ := hn
 intro k hk he
 have e1 := osi (hb.symm.trans hk)
 subst e1
 exact Nat.lt_irrefl _ (Nat.lt_of_lt_of_le (Kd.R_lt h b he.symm) hle)
theorem own_ne_flip {v u : Value} (h : ∀ k, v.ownBlock = some k → some k ≠ u.ownBlock) : ∀ k, u.ownBlock = some k → some k ≠ v.ownBlock := fun k hk he => h k he.symm hk.symm
theorem new_ne_lt {W : World} {v : Value} {g : Nat} (hn : ∃ b, v.ownBlock = some b ∧ W.heap.size ≤ b) (h : g < W.heap.size) : some g ≠ v.ownBlock := by
 obtain ⟨b, hb, hle⟩ := hn
 rw [hb]; intro he; have e1 := osi he; subst e1
 exact Nat.lt_irrefl _ (Nat.lt_of_lt_of_le h hle)
theorem grown_lt {W W' : World} {g : Nat} {r : Option Nat} (hg : W.grownBy W' r) (h : g < W.heap.size) : g < W'.heap.size := Nat.lt_of_lt_of_le h hg.size
def cutW (W : World) (n : Nat) : World := { W with heap := W.heap.extract 0 n }
theorem cutW_size (W : World) (n : Nat) (h : n ≤ W.heap.size) : (cutW W n).heap.size = n := by
 simp [cutW]; omega
theorem cutW_get (W : World) (n k : Nat) (h : k < n) : (cutW W n).heap[k]? = W.heap[k]? := by
 simp [cutW, Array.getElem?_extract]; intro h2; omega
theorem cutW_self (W : World) (n : Nat) : Below (cutW W n).heap.size (cutW W n) W :=
 ⟨rfl, rfl, rfl, by simp [cutW]; omega, fun i hi => (cutW_get W n i (by simp [cutW] at hi; omega)).symm⟩
theorem cutW_below {w W : World} {n : Nat} (h : Below w.heap.size w W) (hn : w.heap.size ≤ n) (hn2 : n ≤ W.heap.size) : Below w.heap.size w (cutW W n) :=
 ⟨h.os, h.tape, h.output, by rw [cutW_size W n hn2]; exact hn, fun i hi => (cutW_get W n i (Nat.lt_of_lt_of_le hi hn)).trans (h.block i hi)⟩
theorem cutW_C {W : World} {n base e c m : Nat} {ok : Nat → Prop} {A : Option Addr} {xs : List Int} (h : Kd.R (Kd.int .i64) e W base ok (.slice A m c) xs) (hl : ∀ k, (Value.slice A m c).ownBlock = some k → k < n) : Kd.C (Kd.int .i64) (cutW W n) A xs.length xs :=
 (Kd.R_reads' (Kd.R_move (Kd.R_tight rfl h) (fun k hk => cutW_get W n k (hl k hk.symm)))).2.2
theorem cutW_C' {W : World} {n base e c m : Nat} {ok : Nat → Prop} {A : Option Addr} {xs : List Int} (h : Kd.R (Kd.int .i64) e W base ok (.slice A m c) xs) (hm : xs.length = m) (hl : ∀ k, (Value.slice A m c).ownBlock = some k → k < n) : Kd.C (Kd.int .i64) (cutW W n) A m xs := by
 have := cutW_C h hl
 rw [hm] at this; exact this
theorem own_ne_hat {W : World} {v v1 u : Value} {base e : Nat} {ok : Nat → Prop} {xs : List Int} (hat : v1.ownBlock = v.ownBlock ∨ ∃ b, v1.ownBlock = some b ∧ W.heap.size ≤ b) (hn : ∀ k, v.ownBlock = some k → some k ≠ u.ownBlock) (h : Kd.R (Kd.int .i64) e W base ok u xs) : ∀ k, u.ownBlock = some k → some k ≠ v1.ownBlock := by
 rcases hat with h1 | h1
 ·rw [h1]; exact own_ne_flip hn
 ·exact own_ne_flip (own_ne_new h1 h)
theorem logL_length : ∀ (e : List Int) (n : Nat) (l : List Int), (logL e n l).length = l.length
 | [], _, _ => rfl
 | x :: e, n, l => by rw [logL, logL_length e, List.length_set]
theorem New_ok (k : Nat) (P M : Int) (A : Option Addr) (c : Nat) (md : List Int) (q : Int) (w : World) (hr : Kd.C (Kd.int .i64) w A md.length md) (hc : md.length ≤ c)
  (hs : field_shape.f k P M md = some true) (ho : field_order.f k P M = some q) (hmd : md.length ≤ 8)
  (hq : 2 ≤ q) (hq2 : q ≤ 256) (pw : Int → List Int) (one : Int → Int) (hpw : ∀ x, 1 ≤ x → x < q → field_powers.f k P M md q x = some (pw x))
  (hone : ∀ x, 1 ≤ x → x < q → ((pw x).length : Int) = q - 1 → field_multiply.f k P M md (rd (pw x) (q - 2)) x = some (one x))
  (ex : List Int) (hg : genL pw one q (q - 1).toNat 1 = ex) (hex : ex ≠ []) (hin : ∀ x ∈ ex, 0 ≤ x ∧ x < q) (hle : ex.length ≤ 256) :
  Calls Try.prog 60 #[.agg #[.int .i64 P, .int .i64 M, .slice A md.length c]] w fun e w' => ∃ (g : Nat), e = .returned (.tuple #[.pointer (some ⟨g, 0, none⟩), .int .i64 0])
   ∧ ∃ w0 : World, Go.Proofs.Ytkifipakikbhcaa.Gf.IsS109 w0 w' g P M md q ex (logL ex 0 (List.replicate q.toNat 0)) ∧ Below w.heap.size w w0 ∧ Below w0.heap.size w0 w' := by
 have hu24 := Try.underlying24
 have hu109 := Try.underlying109
 have HR := ak hr
 have HC := ak hc
 have HQ := ak (And.intro hq hq2)
 have HPW := ak hpw
 have HONE := ak hone
 have HS := ak hs
 have HOR := ak ho
 have HG := ak hg
 have HEX := ak hex
 have HIN := ak hin
 have HLE := ak hle
 have HMD := ak hmd
 have HGEN := fun W hr => ak (generator_calls k P M A c md q W hr hc hq hq2 pw one hpw hone)
 rw [hg] at HGEN
 clear hr hc hq hq2 hpw hone hs ho hg hex hin hmd hle
 have hnil := fun (W : World) (a : Option Addr) (n c : Nat) => Lib.run_eql_slice_nil (P := Try.prog) W 22 3 a n c 0 0 Try.underlying22
 go_enter Try.func60, Try.ntmps60
 go_wp2_with (first | ((with_reducible refine gate_dst (N := 1) rfl ?_); refine box_event ?hg (N := 1) ?hd (cs := #[.int .i64 P, .int .i64 M, .slice A md.length c]) (t := 24) ?hr ?_; (case hd => rfl); (case hg => rfl); (case hr => (go_simp; done)); intro gb hgb w1 hbox hb; have HGB := ak (show w.heap.size ≤ gb by omega); have HBK := ak hbox; have HB := ak hb; clear hgb; have hcz0 : w1.cell? ⟨gb, 0, none⟩ = some (.int .i64 P) := (kce hbox 0).trans rfl; have hcz1 : w1.cell? ⟨gb, 1, none⟩ = some (.int .i64 M) := (kce hbox 1).trans rfl; have hcz2 : w1.cell? ⟨gb, 2, none⟩ = some (.slice A md.length c) := (kce hbox 2).trans rfl; clear hbox hb) | (go_at_call 85; (with_reducible refine (field_shape.calls k P M A c md true w1 ?side1 ?side2 ?side3).mono ?_); (case side1 => exact Kd.C_below HR.out HB.out); (case side2 => exact HC.out); (case side3 => exact HS.out); rintro e w2 ⟨rfl, hB⟩; have HB2 := ak hB; replace hcz0 := cbl hcz0 hB; replace hcz1 := cbl hcz1 hB; replace hcz2 := cbl hcz2 hB; clear hB) | (go_at_call 86; (with_reducible refine (field_order.calls k P M q _ HOR.out).mono ?_); rintro e w3 ⟨rfl, ⟨nd, rfl⟩⟩) | (go_at_call 87; (with_reducible refine ((HGEN (w2.drewN nd) (Kd.C_drewN (Kd.C_below (Kd.C_below HR.out HB.out) HB2.out) nd)).out).mono ?_); rintro e w4 ⟨vg, rfl, hRG, hVG, hB⟩; obtain ⟨ge, ce, rfl, hge, hgl, cl, hgc⟩ := Kd.R_form hRG (List.length_pos_iff.2 HEX.out); clear hgl hgc hge cl; have HRG := ak hRG; have HB4 := ak hB; replace hcz0 := cbl (W := w2.drewN nd) hcz0 hB; replace hcz1 := cbl (W := w2.drewN nd) hcz1 hB; replace hcz2 := cbl (W := w2.drewN nd) hcz2 hB; clear hRG hVG hB))
 obtain ⟨HS3⟩ : Nonempty (Aside0 (w4.cell? ⟨gb, 0, none⟩ = some (.int .i64 P) ∧ w4.cell? ⟨gb, 1, none⟩ = some (.int .i64 M) ∧ w4.cell? ⟨gb, 2, none⟩ = some (.slice A md.length c))) := ⟨⟨hcz0, hcz1, hcz2⟩⟩
 have HBW := ak (show Below w.heap.size w w4.drew from bd1 (bsp HB.out (bsp (w2 := w4) (W := w2.drewN nd) (pbn HB2.out nd) HB4.out)))
 have HRW := ak (Kd.R_lower (Kd.R_drew HRG.out) (show w.heap.size ≤ w2.heap.size from bsz (bsp HB.out HB2.out)))
 have HGL := ak (show gb < w4.drew.heap.size from World.block_lt_of_cell? _ _ hcz0)
 clear HRG
 refine start_ (n := 16) (S := fun w' => w'.cell? ⟨gb, 0, none⟩ = some (.int .i64 P) ∧ w'.cell? ⟨gb, 1, none⟩ = some (.int .i64 M) ∧ w'.cell? ⟨gb, 2, none⟩ = some (.slice A md.length c)) (ds := []) #[false, false, false, false, false, false, false, false, false, false, false, false, false, false, false, false] (by kernel_rfl) rfl rfl ⟨hcz0, hcz1, hcz2⟩ (fun hHeld => ?_)
 refine pure_ (i := 0) (N := some 22) (v := ?_) (a' := ?_) #[true, false, false, false, false, false, false, false, false, false, false, false, false, false, false, false] rfl rfl (by kernel_rfl) (fun _ _ _ h => h) (Or.inl ⟨by rfl, ?_⟩) ?_ ?_
 rotate_left
 ·intro w'
  go_simp
  with_reducible rfl
 rotate_left
 ·simp only [Act.put, sia, scz, scs, i64_w, i32_w]
  rfl
 refine pure_ (i := 2) (N := some 24) (v := ?_) (a' := ?_) #[true, false, true, false, false, false, false, false, false, false, false, false, false, false, false, false] rfl rfl (by kernel_rfl) (fun _ _ _ h => h) (Or.inl ⟨by rfl, ?_⟩) ?_ ?_
 rotate_left
 ·intro w'
  go_simp
  with_reducible rfl
 rotate_left
 ·simp only [Act.put, sia, scz, scs, i64_w, i32_w]
  rfl
 refine pure_ (i := 5) (N := some 27) (v := ?_) (a' := ?_) #[true, false, true, false, false, true, false, false, false, false, false, false, false, false, false, false] rfl rfl (by kernel_rfl) (fun _ _ _ h => h) (Or.inl ⟨by rfl, ?_⟩) ?_ ?_
 rotate_left
 ·intro w'
  go_simp
  with_reducible rfl
 rotate_left
 ·simp only [Act.put, sia, scz, scs, i64_w, i32_w]
  rfl
 refine pure_ (i := 9) (N := some 31) (v := ?_) (a' := ?_) #[true, false, true, false, false, true, false, false, false, true, false, false, false, false, false, false] rfl rfl (by kernel_rfl) (fun _ _ _ h => h) (Or.inl ⟨by rfl, ?_⟩) ?_ ?_
 rotate_left
 ·intro w'
  go_simp
  with_reducible rfl
 rotate_left
 ·simp only [Act.put, sia, scz, scs, i64_w, i32_w]
  rfl
 refine pure_ (i := 10) (N := some 32) (v := ?_) (a' := ?_) #[true, false, true, false, false, true, false, false, false, true, true, false, false, false, false, false] rfl rfl (by kernel_rfl) (fun _ _ _ h => h) (Or.inl ⟨by rfl, ?_⟩) ?_ ?_
 rotate_left
 ·intro w'
  go_simp
  with_reducible rfl
 rotate_left
 ·simp only [Act.put, sia, scz, scs, i64_w, i32_w]
  rfl
 refine pure_ (i := 11) (N := some 33) (v := ?_) (a' := ?_) #[true, false, true, false, false, true, false, false, false, true, true, true, false, false, false, false] rfl rfl (by kernel_rfl) (fun _ _ _ h => h) (Or.inl ⟨by rfl, ?_⟩) ?_ ?_
 rotate_left
 ·intro w'
  go_simp
  with_reducible rfl
 rotate_left
 ·simp only [Act.put, sia, scz, scs, i64_w, i32_w]
  rfl
 refine take_ (i := 1) (N := some 23) (v := ?_) (a' := ?_) #[true, true, true, false, false, true, false, false, false, true, true, true, false, false, false, false] rfl rfl (by kernel_rfl) (fun _ _ _ h => h) (Or.inl ⟨by rfl, ?_⟩) hHeld ?_ ?_
 rotate_left
 ·rintro w' ⟨s0, s1, s2⟩
  go_simp
  with_reducible rfl
 rotate_left
 ·simp only [Act.put, sia, scz, scs, i64_w, i32_w]
  rfl
 refine take_ (i := 3) (N := some 25) (v := ?_) (a' := ?_) #[true, true, true, true, false, true, false, false, false, true, true, true, false, false, false, false] rfl rfl (by kernel_rfl) (fun _ _ _ h => h) (Or.inl ⟨by rfl, ?_⟩) hHeld ?_ ?_
 rotate_left
 ·rintro w' ⟨s0, s1, s2⟩
  go_simp
  with_reducible rfl
 rotate_left
 ·simp only [Act.put, sia, scz, scs, i64_w, i32_w]
  rfl
 refine take_ (i := 6) (N := some 28) (v := ?_) (a' := ?_) #[true, true, true, true, false, true, true, false, false, true, true, true, false, false, false, false] rfl rfl (by kernel_rfl) (fun _ _ _ h => h) (Or.inl ⟨by rfl, ?_⟩) hHeld ?_ ?_
 rotate_left
 ·rintro w' ⟨s0, s1, s2⟩
  go_simp
  with_reducible rfl
 rotate_left
 ·simp only [Act.put, sia, scz, scs, i64_w, i32_w]
  rfl
 refine join_ (σ := Value × (Option Addr × Nat) × (Option Addr × Nat)) 3 #[true, true, true, true, true, true, true, true, true, true, true, true, true, false, false, false] (fun s => [(26, s.1), (29, .slice s.2.1.1 md.length s.2.1.2), (30, .agg #[.int .i64 P, .int .i64 M, .slice s.2.1.1 md.length s.2.1.2]), (34, .slice s.2.2.1 q.toNat s.2.2.2)]) (fun s w5 => Kd.R (Kd.int .i64) 3 w5 w.heap.size (fun _ => True) (.slice s.2.1.1 md.length s.2.1.2) md ∧ Kd.R (Kd.int .i64) 3 w5 w.heap.size (fun _ => True) (.slice s.2.2.1 q.toNat s.2.2.2) (List.replicate q.toNat 0) ∧ Kd.R (Kd.int .i64) 3 w5 w.heap.size (fun _ => True) (.slice (some ⟨ge, 0, none⟩) ex.length ce) ex ∧ Below w.heap.size w w5 ∧ (∀ k, (Value.slice s.2.2.1 q.toNat s.2.2.2).ownBlock = some k → some k ≠ (Value.slice (some ⟨ge, 0, none⟩) ex.length ce).ownBlock) ∧ (∀ k, (Value.slice s.2.2.1 q.toNat s.2.2.2).ownBlock = some k → some k ≠ (Value.slice s.2.1.1 md.length s.2.1.2).ownBlock) ∧ (w5.cell? ⟨gb, 0, none⟩ = some (.int .i64 P) ∧ w5.cell? ⟨gb, 1, none⟩ = some (.int .i64 M) ∧ w5.cell? ⟨gb, 2, none⟩ = some (.slice A md.length c))) ?_ ?_
 rotate_left
 ·intro hCont
  refine two_ (i := 4) (j := 12) (Ni := some 26) (Nj := some 34) #[true, true, true, true, true, true, true, false, false, true, true, true, false, false, false, false] #[true, true, true, true, false, true, true, false, false, true, true, true, true, false, false, false] rfl rfl rfl rfl (by kernel_rfl) (by decide) (by decide) (fun K hK => ?_) (fun K hK => ?_)
  ·skip
   refine Kd.R_lit_step (Kd.int .i64) (w0 := w) w.heap.size 3 ?hw (N := 26) ?hd (xs := ([] : List Int)) (inner := []) (ok := fun _ => True) (okp := fun _ => True) ?hr ?hp (fun _ hk => hk) trivial HBW.out (bsz HBW.out) (by simp) ?_
   (case hd => rfl)
   (case hw => rfl)
   (case hr => (go_simp; done))
   (case hp => exact Reps.none _ _)
   intro v26 wl hL hbW hg hn
   have HSv := cells3_grown hHeld hg (by simp)
   have HNE := ak (own_ne_new hn HRW.out)
   have HNG := ak (new_ne_lt hn HGL.out)
   (try (have n_ := ak (Kd.R_grown2 HRW.out rfl hg (by (intro k hk; cases hk))); clear HRW; have HRW := n_; clear n_))
   have HL := ak hL
   have HGL' := ak (grown_lt hg HGL.out)
   clear HGL
   have HGL := HGL'
   clear HGL'
   clear HBW
   have HBW := ak hbW
   clear hL hbW hg hn
   refine hK.out _ _ ⟨HSv.1, HSv.2.1, HSv.2.2⟩ (fun hHeld => ?_)
   clear hK K
   refine norm_ (a' := ?_) ?_ ?_
   rotate_left
   ·show Act.put _ (some 26) _ = _
    simp only [Act.put, sia, scz, scs, i64_w, i32_w]
    rfl
   refine two_ (i := 7) (j := 12) (Ni := some 29) (Nj := some 34) #[true, true, true, true, true, true, true, true, false, true, true, true, false, false, false, false] #[true, true, true, true, true, true, true, false, false, true, true, true, true, false, false, false] rfl rfl rfl rfl (by kernel_rfl) (by decide) (by decide) (fun K hK => ?_) (fun K hK => ?_)
   ·skip
    refine Kd.R_append_rows_step (Kd.int .i64) (w0 := w) w.heap.size (by rfl) (.tmp 26) (.tmp 28) 22 3 (.int .i64 0) 8 rfl Try.underlying22 Go.Proofs.Ytkifipakikbhcaa.Ref.info3 rfl (by decide) (by omega) v26 [] md _ _ _ (fun _ => True) (fun _ => False) rfl rfl ?aO ?aR (fun _ _ h => h) (fun _ h => h.elim) ?aF ?aB ?aS ?aL ?_
    (case aR => exact Kd.C_below HR.out HBW.out)
    (case aB => exact HBW.out)
    (case aF => exact (fun _ _ => trivial))
    (case aO => exact HL.out)
    (case aS => exact bsz HBW.out)
    (case aL => have := HMD.out; simp only [List.length_nil]; omega)
    intro v29 wa hA hbW hg hat
    rw [List.nil_append] at hA
    obtain ⟨A29, c29, e29⟩ := Kd.R_slice hA
    subst e29
    have HSv := cells3_grown hHeld hg HNG.out
    (try (have n_ := ak (Kd.R_grown2 HRW.out rfl hg (by exact HNE.out)); clear HRW; have HRW := n_; clear n_))
    have HA := ak hA
    have HGL' := ak (grown_lt hg HGL.out)
    clear HGL
    have HGL := HGL'
    clear HGL'
    clear HBW
    have HBW := ak hbW
    clear hA hbW hg hat HL
    refine hK.out _ _ ⟨HSv.1, HSv.2.1, HSv.2.2⟩ (fun hHeld => ?_)
    clear hK K
    refine norm_ (a' := ?_) ?_ ?_
    rotate_left
    ·show Act.put _ (some 29) _ = _
     simp only [Act.put, sia, scz, scs, i64_w, i32_w]
     rfl
    refine pure_ (i := 8) (N := some 30) (v := ?_) (a' := ?_) #[true, true, true, true, true, true, true, true, true, true, true, true, false, false, false, false] rfl rfl (by kernel_rfl) (fun _ _ _ h => h) (Or.inl ⟨by rfl, ?_⟩) ?_ ?_
    rotate_left
    ·intro w'
     go_simp
     with_reducible rfl
    rotate_left
    ·simp only [Act.put, sia, scz, scs, i64_w, i32_w]
     rfl
    refine one_ (i := 12) (N := some 34) #[true, true, true, true, true, true, true, true, true, true, true, true, true, false, false, false] rfl rfl (by kernel_rfl) (by decide) (fun K hK => ?_)
    refine Kd.R_make_step (Kd.int .i64) (w0 := w) w.heap.size 3 (by rfl) (N := 34) rfl 22 _ _ rfl q rfl rfl Try.underlying22 (.int .i64 0) 8 Go.Proofs.Ytkifipakikbhcaa.Ref.info3 rfl (by decide) (by omega) 0 (ok := fun _ => True) (okp := fun _ => True) rfl (fun _ hk => hk) trivial (by have := HQ.out; omega) (by have := HQ.out; omega) HBW.out (bsz HBW.out) ?_
    intro v34 wm hM hbW hg hn
    obtain ⟨A34, c34, e34⟩ := Kd.R_slice hM
    rw [List.length_replicate] at e34
    subst e34
    have HSv := cells3_grown hHeld hg (by simp)
    have HX1 := ak (own_ne_new hn HRW.out)
    have HA0 := HA
    (try (have n_ := ak (Kd.R_grown2 HRW.out rfl hg (by (intro k hk; cases hk))); clear HRW; have HRW := n_; clear n_))
    (try (have n_ := ak (Kd.R_grown2 HA.out rfl hg (by (intro k hk; cases hk))); clear HA; have HA := n_; clear n_))
    have HX2 := ak (own_ne_new hn HA0.out)
    clear HA0
    have HM := ak hM
    have HGL' := ak (grown_lt hg HGL.out)
    clear HGL
    have HGL := HGL'
    clear HGL'
    clear HBW
    have HBW := ak hbW
    clear hM hbW hg hn
    refine hK.out _ _ ⟨HSv.1, HSv.2.1, HSv.2.2⟩ (fun hHeld => ?_)
    clear hK K
    refine norm_ (a' := ?_) ?_ ?_
    rotate_left
    ·show Act.put _ (some 34) _ = _
     simp only [Act.put, sia, scz, scs, i64_w, i32_w]
     rfl
    exact norm_ (by simp only [putAll, Act.put, sia, scz, scs]) (hCont (v26, (A29, c29), (A34, c34)) _ ⟨HA.out, HM.out, HRW.out, HBW.out, HX1.out, HX2.out, hHeld⟩)
   ·skip
    refine Kd.R_make_step (Kd.int .i64) (w0 := w) w.heap.size 3 (by rfl) (N := 34) rfl 22 _ _ rfl q rfl rfl Try.underlying22 (.int .i64 0) 8 Go.Proofs.Ytkifipakikbhcaa.Ref.info3 rfl (by decide) (by omega) 0 (ok := fun _ => True) (okp := fun _ => True) rfl (fun _ hk => hk) trivial (by have := HQ.out; omega) (by have := HQ.out; omega) HBW.out (bsz HBW.out) ?_
    intro v34 wm hM hbW hg hn
    obtain ⟨A34, c34, e34⟩ := Kd.R_slice hM
    rw [List.length_replicate] at e34
    subst e34
    have HSv := cells3_grown hHeld hg (by simp)
    have HX1 := ak (own_ne_new hn HRW.out)
    have HNM := ak (own_ne_flip (own_ne_new hn HL.out))
    (try (have n_ := ak (Kd.R_grown2 HRW.out rfl hg (by (intro k hk; cases hk))); clear HRW; have HRW := n_; clear n_))
    (try (have n_ := ak (Kd.R_grown2 HL.out rfl hg (by (intro k hk; cases hk))); clear HL; have HL := n_; clear n_))
    have HM := ak hM
    have HGL' := ak (grown_lt hg HGL.out)
    clear HGL
    have HGL := HGL'
    clear HGL'
    clear HBW
    have HBW := ak hbW
    clear hM hbW hg hn
    refine hK.out _ _ ⟨HSv.1, HSv.2.1, HSv.2.2⟩ (fun hHeld => ?_)
    clear hK K
    refine norm_ (a' := ?_) ?_ ?_
    rotate_left
    ·show Act.put _ (some 34) _ = _
     simp only [Act.put, sia, scz, scs, i64_w, i32_w]
     rfl
    refine one_ (i := 7) (N := some 29) #[true, true, true, true, true, true, true, true, false, true, true, true, true, false, false, false] rfl rfl (by kernel_rfl) (by decide) (fun K hK => ?_)
    refine Kd.R_append_rows_step (Kd.int .i64) (w0 := w) w.heap.size (by rfl) (.tmp 26) (.tmp 28) 22 3 (.int .i64 0) 8 rfl Try.underlying22 Go.Proofs.Ytkifipakikbhcaa.Ref.info3 rfl (by decide) (by omega) v26 [] md _ _ _ (fun _ => True) (fun _ => False) rfl rfl ?aO ?aR (fun _ _ h => h) (fun _ h => h.elim) ?aF ?aB ?aS ?aL ?_
    (case aR => exact Kd.C_below HR.out HBW.out)
    (case aB => exact HBW.out)
    (case aF => exact (fun _ _ => trivial))
    (case aO => exact HL.out)
    (case aS => exact bsz HBW.out)
    (case aL => have := HMD.out; simp only [List.length_nil]; omega)
    intro v29 wa hA hbW hg hat
    rw [List.nil_append] at hA
    obtain ⟨A29, c29, e29⟩ := Kd.R_slice hA
    subst e29
    have HM0 := HM
    have HSv := cells3_grown hHeld hg HNG.out
    (try (have n_ := ak (Kd.R_grown2 HRW.out rfl hg (by exact HNE.out)); clear HRW; have HRW := n_; clear n_))
    (try (have n_ := ak (Kd.R_grown2 HM.out rfl hg (by exact HNM.out)); clear HM; have HM := n_; clear n_))
    have HA := ak hA
    have HX2 := ak (own_ne_hat hat HNM.out HM0.out)
    clear HM0
    have HGL' := ak (grown_lt hg HGL.out)
    clear HGL
    have HGL := HGL'
    clear HGL'
    clear HBW
    have HBW := ak hbW
    clear hA hbW hg hat HL
    refine hK.out _ _ ⟨HSv.1, HSv.2.1, HSv.2.2⟩ (fun hHeld => ?_)
    clear hK K
    refine norm_ (a' := ?_) ?_ ?_
    rotate_left
    ·show Act.put _ (some 29) _ = _
     simp only [Act.put, sia, scz, scs, i64_w, i32_w]
     rfl
    refine pure_ (i := 8) (N := some 30) (v := ?_) (a' := ?_) #[true, true, true, true, true, true, true, true, true, true, true, true, true, false, false, false] rfl rfl (by kernel_rfl) (fun _ _ _ h => h) (Or.inl ⟨by rfl, ?_⟩) ?_ ?_
    rotate_left
    ·intro w'
     go_simp
     with_reducible rfl
    rotate_left
    ·simp only [Act.put, sia, scz, scs, i64_w, i32_w]
     rfl
    exact norm_ (by simp only [putAll, Act.put, sia, scz, scs]) (hCont (v26, (A29, c29), (A34, c34)) _ ⟨HA.out, HM.out, HRW.out, HBW.out, HX1.out, HX2.out, hHeld⟩)
  ·skip
   refine Kd.R_make_step (Kd.int .i64) (w0 := w) w.heap.size 3 (by rfl) (N := 34) rfl 22 _ _ rfl q rfl rfl Try.underlying22 (.int .i64 0) 8 Go.Proofs.Ytkifipakikbhcaa.Ref.info3 rfl (by decide) (by omega) 0 (ok := fun _ => True) (okp := fun _ => True) rfl (fun _ hk => hk) trivial (by have := HQ.out; omega) (by have := HQ.out; omega) HBW.out (bsz HBW.out) ?_
   intro v34 wm hM hbW hg hn
   obtain ⟨A34, c34, e34⟩ := Kd.R_slice hM
   rw [List.length_replicate] at e34
   subst e34
   have HSv := cells3_grown hHeld hg (by simp)
   have HX1 := ak (own_ne_new hn HRW.out)
   (try (have n_ := ak (Kd.R_grown2 HRW.out rfl hg (by (intro k hk; cases hk))); clear HRW; have HRW := n_; clear n_))
   have HM := ak hM
   have HGL' := ak (grown_lt hg HGL.out)
   clear HGL
   have HGL := HGL'
   clear HGL'
   clear HBW
   have HBW := ak hbW
   clear hM hbW hg hn
   refine hK.out _ _ ⟨HSv.1, HSv.2.1, HSv.2.2⟩ (fun hHeld => ?_)
   clear hK K
   refine norm_ (a' := ?_) ?_ ?_
   rotate_left
   ·show Act.put _ (some 34) _ = _
    simp only [Act.put, sia, scz, scs, i64_w, i32_w]
    rfl
   refine one_ (i := 4) (N := some 26) #[true, true, true, true, true, true, true, false, false, true, true, true, true, false, false, false] rfl rfl (by kernel_rfl) (by decide) (fun K hK => ?_)
   refine Kd.R_lit_step (Kd.int .i64) (w0 := w) w.heap.size 3 ?hw (N := 26) ?hd (xs := ([] : List Int)) (inner := []) (ok := fun _ => True) (okp := fun _ => True) ?hr ?hp (fun _ hk => hk) trivial HBW.out (bsz HBW.out) (by simp) ?_
   (case hd => rfl)
   (case hw => rfl)
   (case hr => (go_simp; done))
   (case hp => exact Reps.none _ _)
   intro v26 wl hL hbW hg hn
   have HSv := cells3_grown hHeld hg (by simp)
   have HNE := ak (own_ne_new hn HRW.out)
   have HNM := ak (own_ne_new hn HM.out)
   have HNG := ak (new_ne_lt hn HGL.out)
   (try (have n_ := ak (Kd.R_grown2 HRW.out rfl hg (by (intro k hk; cases hk))); clear HRW; have HRW := n_; clear n_))
   (try (have n_ := ak (Kd.R_grown2 HM.out rfl hg (by (intro k hk; cases hk))); clear HM; have HM := n_; clear n_))
   have HL := ak hL
   have HGL' := ak (grown_lt hg HGL.out)
   clear HGL
   have HGL := HGL'
   clear HGL'
   clear HBW
   have HBW := ak hbW
   clear hL hbW hg hn
   refine hK.out _ _ ⟨HSv.1, HSv.2.1, HSv.2.2⟩ (fun hHeld => ?_)
   clear hK K
   refine norm_ (a' := ?_) ?_ ?_
   rotate_left
   ·show Act.put _ (some 26) _ = _
    simp only [Act.put, sia, scz, scs, i64_w, i32_w]
    rfl
   refine one_ (i := 7) (N := some 29) #[true, true, true, true, true, true, true, true, false, true, true, true, true, false, false, false] rfl rfl (by kernel_rfl) (by decide) (fun K hK => ?_)
   refine Kd.R_append_rows_step (Kd.int .i64) (w0 := w) w.heap.size (by rfl) (.tmp 26) (.tmp 28) 22 3 (.int .i64 0) 8 rfl Try.underlying22 Go.Proofs.Ytkifipakikbhcaa.Ref.info3 rfl (by decide) (by omega) v26 [] md _ _ _ (fun _ => True) (fun _ => False) rfl rfl ?aO ?aR (fun _ _ h => h) (fun _ h => h.elim) ?aF ?aB ?aS ?aL ?_
   (case aR => exact Kd.C_below HR.out HBW.out)
   (case aB => exact HBW.out)
   (case aF => exact (fun _ _ => trivial))
   (case aO => exact HL.out)
   (case aS => exact bsz HBW.out)
   (case aL => have := HMD.out; simp only [List.length_nil]; omega)
   intro v29 wa hA hbW hg hat
   rw [List.nil_append] at hA
   obtain ⟨A29, c29, e29⟩ := Kd.R_slice hA
   subst e29
   have HM0 := HM
   have HSv := cells3_grown hHeld hg HNG.out
   (try (have n_ := ak (Kd.R_grown2 HRW.out rfl hg (by exact HNE.out)); clear HRW; have HRW := n_; clear n_))
   (try (have n_ := ak (Kd.R_grown2 HM.out rfl hg (by exact HNM.out)); clear HM; have HM := n_; clear n_))
   have HA := ak hA
   have HX2 := ak (own_ne_hat hat HNM.out HM0.out)
   clear HM0
   have HGL' := ak (grown_lt hg HGL.out)
   clear HGL
   have HGL := HGL'
   clear HGL'
   clear HBW
   have HBW := ak hbW
   clear hA hbW hg hat HL
   refine hK.out _ _ ⟨HSv.1, HSv.2.1, HSv.2.2⟩ (fun hHeld => ?_)
   clear hK K
   refine norm_ (a' := ?_) ?_ ?_
   rotate_left
   ·show Act.put _ (some 29) _ = _
    simp only [Act.put, sia, scz, scs, i64_w, i32_w]
    rfl
   refine pure_ (i := 8) (N := some 30) (v := ?_) (a' := ?_) #[true, true, true, true, true, true, true, true, true, true, true, true, true, false, false, false] rfl rfl (by kernel_rfl) (fun _ _ _ h => h) (Or.inl ⟨by rfl, ?_⟩) ?_ ?_
   rotate_left
   ·intro w'
    go_simp
    with_reducible rfl
   rotate_left
   ·simp only [Act.put, sia, scz, scs, i64_w, i32_w]
    rfl
   exact norm_ (by simp only [putAll, Act.put, sia, scz, scs]) (hCont (v26, (A29, c29), (A34, c34)) _ ⟨HA.out, HM.out, HRW.out, HBW.out, HX1.out, HX2.out, hHeld⟩)
 rintro ⟨v26, ⟨A29, c29⟩, ⟨A34, c34⟩⟩ w5 ⟨hA, hM, hRW, hBW, hX1, hX2, hHeld⟩
 have HA := ak hA
 have HM := ak hM
 clear HRW HBW HGL
 have HRW := ak hRW
 have HBW := ak hBW
 have HX1 := ak hX1
 have HX2 := ak hX2
 clear hA hM hRW hBW hX1 hX2
 refine norm_ (a' := ?_) ?_ ?_
 rotate_left
 ·simp only [putAll, Act.put, sia, scz, scs]
  rfl
 refine pure_ (i := 13) (N := some 35) (v := ?_) (a' := ?_) #[true, true, true, true, true, true, true, true, true, true, true, true, true, true, false, false] rfl rfl (by kernel_rfl) (fun _ _ _ h => h) (Or.inl ⟨by rfl, ?_⟩) ?_ ?_
 rotate_left
 ·intro w'
  go_simp
  with_reducible rfl
 rotate_left
 ·simp only [Act.put, sia, scz, scs, i64_w, i32_w]
  rfl
 refine one_ (i := 14) (N := some 36) #[true, true, true, true, true, true, true, true, true, true, true, true, true, true, true, false] rfl rfl (by kernel_rfl) (by decide) (fun K hK => ?_)
 refine box_step ?hw (N := 36) ?hd (cs := #[.int .i64 P, .int .i64 M, .slice A29 md.length c29, .int .i64 q, .slice (some ⟨ge, 0, none⟩) ex.length ce, .slice A34 q.toNat c34]) (t := 109) ?hr ?_
 (case hw => rfl)
 (case hd => rfl)
 (case hr => (go_simp; done))
 intro gg hgg w6 hbox hb
 have HSv := cells3_below hHeld hb
 have HBX := ak hbox
 have HGE := ak (show w.heap.size ≤ gg by rw [hgg]; exact bsz HBW.out)
 have HLA := ak (fun k (hk : (Value.slice A29 md.length c29).ownBlock = some k) => (by rw [hgg]; exact Kd.R_lt HA.out k hk : k < gg))
 have HLE2 := ak (fun k (hk : (Value.slice (some ⟨ge, 0, none⟩) ex.length ce).ownBlock = some k) => (by rw [hgg]; exact Kd.R_lt HRW.out k hk : k < gg))
 have HLM := ak (fun k (hk : (Value.slice A34 q.toNat c34).ownBlock = some k) => (by rw [hgg]; exact Kd.R_lt HM.out k hk : k < gg))
 have HA6 := ak (Kd.R_below HA.out hb)
 have HM6 := ak (Kd.R_below HM.out hb)
 have HR6 := ak (Kd.R_below HRW.out hb)
 have HB6 := ak (bsp HBW.out hb)
 clear HA HM HRW HBW hbox hb hgg
 refine hK.out _ _ ⟨HSv.1, HSv.2.1, HSv.2.2⟩ (fun hHeld => ?_)
 clear hK K
 refine norm_ (a' := ?_) ?_ ?_
 rotate_left
 ·show Act.put _ (some 36) _ = _
  simp only [Act.put, sia, scz, scs, i64_w, i32_w]
  rfl
 refine pure_ (i := 15) (N := some 6) (v := ?_) (a' := ?_) #[true, true, true, true, true, true, true, true, true, true, true, true, true, true, true, true] rfl rfl (by kernel_rfl) (fun _ _ _ h => h) (Or.inl ⟨by rfl, ?_⟩) ?_ ?_
 rotate_left
 ·intro w'
  go_simp
  with_reducible rfl
 rotate_left
 ·simp only [Act.put, sia, scz, scs, i64_w, i32_w]
  rfl
 refine done_ (by kernel_rfl) ?_
 go_wp2
 obtain ⟨gl, cl, el, hgl1, hgl2, -⟩ := Kd.R_form HM6.out (by have := HQ.out; rw [List.length_replicate]; omega)
 injection el with el1 el2 el3
 subst el1 el3
 have HGG := ak (show gg ≠ gl by
  rintro rfl
  exact Kd.R_ne HM6.out HBX.out (by decide) rfl)
 clear hgl1 hgl2 el2
 obtain ⟨lw, hlw⟩ : ∃ l, l = List.replicate q.toNat (0 : Int) := ⟨_, rfl⟩
 rw [← hlw] at HM6
 have HLW := ak (show lw.length = q.toNat by rw [hlw, List.length_replicate])
 go_loopg [39] ex.length (fun gk v39 w' => ∃ (n : Nat) (lg : List Int), v39 = .int .i64 n ∧ Aside0 (gk = ex.length - n ∧ n ≤ ex.length ∧ lg.length = q.toNat ∧ logL (ex.drop n) n lg = logL ex 0 lw) ∧ Aside0 (Below w.heap.size w w') ∧ Aside0 (w'.heap[gg]? = some (.cells #[.int .i64 P, .int .i64 M, .slice A29 md.length c29, .int .i64 q, .slice (some ⟨ge, 0, none⟩) ex.length ce, .slice (some ⟨gl, 0, none⟩) q.toNat c34] 109 (0, 0))) ∧ Aside0 (Kd.R (Kd.int .i64) 3 w' w.heap.size (fun _ => True) (.slice A29 md.length c29) md) ∧ Aside0 (Kd.R (Kd.int .i64) 3 w' w.heap.size (fun _ => True) (.slice (some ⟨ge, 0, none⟩) ex.length ce) ex) ∧ Aside0 (Kd.R (Kd.int .i64) 3 w' w.heap.size (fun _ => True) (.slice (some ⟨gl, 0, none⟩) q.toNat c34) lg))
 case atStart => exact ⟨0, lw, rfl, ⟨by simp, by simp, HLW.out, by simp⟩, HB6, HBX, HA6, HR6, HM6⟩
 case round =>
  obtain ⟨n, lg, rfl, HN, HBr, HXr, HAr, HEr, HLr⟩ := hrel
  clear HB6 HBX HA6 HR6 HM6
  by_cases c9 : (n : Int) < (ex.length : Int)
  ·have hc9 : decide ((n : Int) < (ex.length : Int)) = true := det c9
   have hc9b := eq_true c9
   have hc9a : (0 ≤ (n : Int)) = True := eq_true (Int.natCast_nonneg n)
   clear c9
   obtain ⟨ae, eae, hxe⟩ := Kd.at_int (Kd.R_reads' HEr.out).2.2 n (of_eq_true hc9a) (of_eq_true hc9b)
   cases eae
   obtain ⟨x, hx⟩ : ∃ x, rd ex (n : Int) = x := ⟨_, rfl⟩
   rw [hx] at hxe
   replace hxe : wr.cell? ⟨ge, n, none⟩ = some (.int .i64 x) := by simpa only [add_plain, Int.toNat_natCast, Nat.zero_add] using hxe
   have HXI := ak (HIN.out x (by rw [← hx]; exact rd_memInt (by omega) (of_eq_true hc9b)))
   have i0 : (0 ≤ x) = True := eq_true HXI.out.1
   have i1 : (x < (q.toNat : Int)) = True := eq_true (by have := HXI.out.2; omega)
   have hz5 : wr.cell? ⟨gg, 5, none⟩ = some (.slice (some ⟨gl, 0, none⟩) q.toNat c34) := (kce HXr.out 5).trans rfl
   have HL2 := ak (show Kd.R (Kd.int .i64) 3 wr w.heap.size (fun _ => True) (.slice (some ⟨gl, 0, none⟩) lg.length c34) lg by rw [HN.out.2.2.1]; exact HLr.out)
   have HPUT := ak (Kd.R_putn HLr.out x (n : Int))
   have HPG := ak (Kd.R_put HL2.out x (n : Int)).2
   obtain ⟨hxl, hfl⟩ := Kd.R_cell 0 HL2.out x (of_eq_true i0) (by rw [HN.out.2.2.1]; exact of_eq_true i1)
   have i2 : (x < max q 0) = True := eq_true (by have := HXI.out.2; omega)
   go_wp2
   have HB7 := ak (show Below w.heap.size w (wr.setCell ⟨gl, x.toNat, none⟩ (.int .i64 (n : Int))) from bst HBr.out (Kd.R_base HLr.out gl rfl))
   have HX7 := ak (show (wr.setCell ⟨gl, x.toNat, none⟩ (.int .i64 (n : Int))).heap[gg]? = some (.cells #[.int .i64 P, .int .i64 M, .slice A29 md.length c29, .int .i64 q, .slice (some ⟨ge, 0, none⟩) ex.length ce, .slice (some ⟨gl, 0, none⟩) q.toNat c34] 109 (0, 0)) from blk_grown HXr.out HPG.out (fun h => HGG.out (osi h)))
   have HA7 := ak (show Kd.R (Kd.int .i64) 3 (wr.setCell ⟨gl, x.toNat, none⟩ (.int .i64 (n : Int))) w.heap.size (fun _ => True) (.slice A29 md.length c29) md from Kd.R_grown1 HAr.out rfl HPG.out (HX2.out gl rfl))
   have HE7 := ak (show Kd.R (Kd.int .i64) 3 (wr.setCell ⟨gl, x.toNat, none⟩ (.int .i64 (n : Int))) w.heap.size (fun _ => True) (.slice (some ⟨ge, 0, none⟩) ex.length ce) ex from Kd.R_grown1 HEr.out rfl HPG.out (HX1.out gl rfl))
   have HL7 := ak (show Kd.R (Kd.int .i64) 3 (wr.setCell ⟨gl, x.toNat, none⟩ (.int .i64 (n : Int))) w.heap.size (fun _ => True) (.slice (some ⟨gl, 0, none⟩) q.toNat c34) (lg.set x.toNat n) from HPUT.out)
   go_roundg (ex.length - (n + 1))
   case measure => have := HN.out.1; have := of_eq_true hc9b; omega
   case rel =>
    have h := HN.out
    have h2 := of_eq_true hc9b
    refine ⟨n + 1, lg.set x.toNat n, ?_, ⟨rfl, by omega, by rw [List.length_set]; exact h.2.2.1, ?_⟩, HB7, HX7, HA7, HE7, HL7⟩
    ·rw [wrap64_succ' (n := 256) (by omega) (by have := HLE.out; omega) (by omega)]; rfl
    ·have hd := drop_cons (d := (0 : Int)) (i := (n : Int)) (l := ex) (by omega) h2
     rw [Int.toNat_natCast, show ((n : Int) + 1).toNat = n + 1 from by omega, show ex.getD n 0 = x from by rw [← hx]; rfl] at hd
     rw [← h.2.2.2, hd, logL]
  ·have hc9 : decide ((n : Int) < (ex.length : Int)) = false := dff c9
   have HC9 := ak c9
   have hc9b := eq_false c9
   clear c9
   go_wp2
   go_ret2
   have hnl : n = ex.length := by have := HN.out.2.1; have := HC9.out; omega
   have hlog : lg = logL ex 0 (List.replicate q.toNat 0) := by
    have h := HN.out.2.2.2
    rw [hnl, List.drop_length, logL, hlw] at h
    exact h
   have hgg := klt HXr.out
   have hsz : (cutW wr gg).heap.size = gg := cutW_size wr gg (Nat.le_of_lt hgg)
   refine ⟨gg, rfl, cutW wr gg, ⟨A29, c29, some ⟨ge, 0, none⟩, ce, some ⟨gl, 0, none⟩, c34, ?_, by rw [hsz]; exact Nat.le_refl _, ?_, ?_, ?_⟩, cutW_below HBr.out HGE.out (Nat.le_of_lt hgg), cutW_self wr gg⟩
   ·rw [logL_length, List.length_replicate]; exact HXr.out
   ·exact cutW_C HAr.out HLA.out
   ·exact cutW_C HEr.out HLE2.out
   ·rw [← hlog]; rw [HN.out.2.2.1]; have h := HN.out.2.2.1; exact cutW_C' HLr.out h HLM.out
theorem New_shape (k : Nat) (P M : Int) (A : Option Addr) (c : Nat) (md : List Int) (w : World) (hr : Kd.C (Kd.int .i64) w A md.length md) (hc : md.length ≤ c)
  (hs : field_shape.f k P M md = some false) :
  Calls Try.prog 60 #[.agg #[.int .i64 P, .int .i64 M, .slice A md.length c]] w fun e w' => e = .returned (.tuple #[.pointer none, .int .i64 1]) ∧ Below w.heap.size w w' := by
 have hu24 := Try.underlying24
 have hu109 := Try.underlying109
 have HR := ak hr
 have HC := ak hc
 have HS := ak hs
 clear hr hc hs
 go_enter Try.func60, Try.ntmps60
 go_wp2_with (first | ((with_reducible refine gate_dst (N := 1) rfl ?_); refine box_event ?hg (N := 1) ?hd (cs := #[.int .i64 P, .int .i64 M, .slice A md.length c]) (t := 24) ?hr ?_; (case hd => rfl); (case hg => rfl); (case hr => (go_simp; done)); intro gb hgb w1 hbox hb; have HGB := ak (show w.heap.size ≤ gb by omega); have HBK := ak hbox; have HB := ak hb; clear hgb; have hcz0 : w1.cell? ⟨gb, 0, none⟩ = some (.int .i64 P) := (kce hbox 0).trans rfl; have hcz1 : w1.cell? ⟨gb, 1, none⟩ = some (.int .i64 M) := (kce hbox 1).trans rfl; have hcz2 : w1.cell? ⟨gb, 2, none⟩ = some (.slice A md.length c) := (kce hbox 2).trans rfl; clear hbox hb) | (go_at_call 85; (with_reducible refine (field_shape.calls k P M A c md false w1 ?side1 ?side2 ?side3).mono ?_); (case side1 => exact Kd.C_below HR.out HB.out); (case side2 => exact HC.out); (case side3 => exact HS.out); rintro e w2 ⟨rfl, hB⟩; have HB2 := ak hB; replace hcz0 := cbl hcz0 hB; replace hcz1 := cbl hcz1 hB; replace hcz2 := cbl hcz2 hB; clear hB))
 go_ret2
 exact ⟨rfl, bsp HB.out HB2.out⟩
theorem New_nil (k : Nat) (P M : Int) (A : Option Addr) (c : Nat) (md : List Int) (q : Int) (w : World) (hr : Kd.C (Kd.int .i64) w A md.length md) (hc : md.length ≤ c)
  (hs : field_shape.f k P M md = some true) (ho : field_order.f k P M = some q)
  (hq : 2 ≤ q) (hq2 : q ≤ 256) (pw : Int → List Int) (one : Int → Int) (hpw : ∀ x, 1 ≤ x → x < q → field_powers.f k P M md q x = some (pw x))
  (hone : ∀ x, 1 ≤ x → x < q → ((pw x).length : Int) = q - 1 → field_multiply.f k P M md (rd (pw x) (q - 2)) x = some (one x))
  (hg : genL pw one q (q - 1).toNat 1 = []) :
  Calls Try.prog 60 #[.agg #[.int .i64 P, .int .i64 M, .slice A md.length c]] w fun e w' => e = .returned (.tuple #[.pointer none, .int .i64 1]) ∧ Below w.heap.size w w' := by
 have hu24 := Try.underlying24
 have hu109 := Try.underlying109
 have HR := ak hr
 have HC := ak hc
 have HQ := ak (And.intro hq hq2)
 have HPW := ak hpw
 have HONE := ak hone
 have HS := ak hs
 have HOR := ak ho
 have HG := ak hg
 have HGEN := fun W hr => ak (generator_calls k P M A c md q W hr hc hq hq2 pw one hpw hone)
 rw [hg] at HGEN
 clear hr hc hq hq2 hpw hone hs ho hg
 have hnil := fun (W : World) (a : Option Addr) (n c : Nat) => Lib.run_eql_slice_nil (P := Try.prog) W 22 3 a n c 0 0 Try.underlying22
 go_enter Try.func60, Try.ntmps60
 go_wp2_with (first | ((with_reducible refine gate_dst (N := 1) rfl ?_); refine box_event ?hg (N := 1) ?hd (cs := #[.int .i64 P, .int .i64 M, .slice A md.length c]) (t := 24) ?hr ?_; (case hd => rfl); (case hg => rfl); (case hr => (go_simp; done)); intro gb hgb w1 hbox hb; have HGB := ak (show w.heap.size ≤ gb by omega); have HBK := ak hbox; have HB := ak hb; clear hgb; have hcz0 : w1.cell? ⟨gb, 0, none⟩ = some (.int .i64 P) := (kce hbox 0).trans rfl; have hcz1 : w1.cell? ⟨gb, 1, none⟩ = some (.int .i64 M) := (kce hbox 1).trans rfl; have hcz2 : w1.cell? ⟨gb, 2, none⟩ = some (.slice A md.length c) := (kce hbox 2).trans rfl; clear hbox hb) | (go_at_call 85; (with_reducible refine (field_shape.calls k P M A c md true w1 ?side1 ?side2 ?side3).mono ?_); (case side1 => exact Kd.C_below HR.out HB.out); (case side2 => exact HC.out); (case side3 => exact HS.out); rintro e w2 ⟨rfl, hB⟩; have HB2 := ak hB; replace hcz0 := cbl hcz0 hB; replace hcz1 := cbl hcz1 hB; replace hcz2 := cbl hcz2 hB; clear hB) | (go_at_call 86; (with_reducible refine (field_order.calls k P M q _ HOR.out).mono ?_); rintro e w3 ⟨rfl, ⟨nd, rfl⟩⟩) | (go_at_call 87; (with_reducible refine ((HGEN (w2.drewN nd) (Kd.C_drewN (Kd.C_below (Kd.C_below HR.out HB.out) HB2.out) nd)).out).mono ?_); rintro e w4 ⟨vg, rfl, hRG, hVG, hB⟩; have hv := hVG (by trivial); subst hv; have HB4 := ak hB; clear hRG hVG hB))
 go_ret2
 exact ⟨rfl, bsp HB.out (bsp (w2 := w4) (W := w2.drewN nd) (pbn HB2.out nd) HB4.out)⟩
end Go.Proofs.Ytkifipakikbhcaa.Hand
namespace Go.Proofs.Ytkifipakikbhcaa.Hand
open Ytkifipakikbhcaa.Ref Ytkifipakikbhcaa.Pg
open Ytkifipakikbhcaa.Gf (IsS109 field_GF_Is.f matrix_entries.f matrix_entries.l0 matrix_entries.calls)
open Go.RowKit YtkifipakikbhcaaW.PrintWords YtkifipakikbhcaaW.PrintLast YtkifipakikbhcaaW.PrintMore
attribute [local go_sem ↓] Go.wp_at_zero Go.wp_at_succ
def pwN (P M : Int) (md : List Int) (q x : Int) : List Int := (field_powers.f 4096 P M md q x).getD []
def oneN (P M : Int) (md : List Int) (q x : Int) : Int := (field_multiply.f 4096 P M md (rd (pwN P M md q x) (q - 2)) x).getD 0
def exN (P M : Int) (md : List Int) (q : Int) : List Int := genL (pwN P M md q) (oneN P M md q) q (q - 1).toNat 1
def newAll (P M : Int) (md : List Int) (q : Int) : Bool := (List.range q.toNat).all fun i => decide (i = 0) || ((field_powers.f 4096 P M md q i).isSome && (!decide (((pwN P M md q i).length : Int) = q - 1) || (field_multiply.f 4096 P M md (rd (pwN P M md q i) (q - 2)) i).isSome))
def newO (P M : Int) (md : List Int) : Option (Option (Int × List Int × List Int)) :=
 (field_shape.f 4096 P M md).bind fun s => if s = true then (field_order.f 4096 P M).bind fun q =>
  if 2 ≤ q ∧ q ≤ 256 ∧ md.length ≤ 8 then
   if newAll P M md q = true then
    if exN P M md q = [] then some none
    else if (exN P M md q).all (fun x => decide (0 ≤ x ∧ x < q)) = true ∧ (exN P M md q).length ≤ 256 then some (some (q, exN P M md q, logL (exN P M md q) 0 (List.replicate q.toNat 0))) else none
   else none
  else none
 else some none
theorem newAll_pw {P M : Int} {md : List Int} {q : Int} (h : newAll P M md q = true) (x : Int) (h1 : 1 ≤ x) (h2 : x < q) : field_powers.f 4096 P M md q x = some (pwN P M md q x) ∧ (((pwN P M md q x).length : Int) = q - 1 → field_multiply.f 4096 P M md (rd (pwN P M md q x) (q - 2)) x = some (oneN P M md q x)) := by
 obtain ⟨i, rfl⟩ := Int.eq_ofNat_of_zero_le (show 0 ≤ x by omega)
 have h3 := List.all_eq_true.1 h i (List.mem_range.2 (by omega))
 simp only [Bool.or_eq_true, Bool.and_eq_true, decide_eq_true_eq, Bool.not_eq_true', decide_eq_false_iff_not] at h3
 rcases h3 with h3 | ⟨h3, h4⟩
 ·omega
 ·refine ⟨?_, ?_⟩
  ·unfold pwN
   obtain ⟨y, hy⟩ := Option.isSome_iff_exists.1 h3
   rw [hy]; rfl
  ·intro hl
   rcases h4 with h4 | h4
   ·exact absurd hl h4
   ·unfold oneN
    obtain ⟨y, hy⟩ := Option.isSome_iff_exists.1 h4
    rw [hy]; rfl
theorem New_some (P M : Int) (A : Option Addr) (c : Nat) (md : List Int) (q : Int) (ex lg : List Int) (w : World) (hr : Kd.C (Kd.int .i64) w A md.length md) (hc : md.length ≤ c) (h : newO P M md = some (some (q, ex, lg))) :
  Calls Try.prog 60 #[.agg #[.int .i64 P, .int .i64 M, .slice A md.length c]] w fun e w' => ∃ (g : Nat), e = .returned (.tuple #[.pointer (some ⟨g, 0, none⟩), .int .i64 0])
   ∧ ∃ w0 : World, IsS109 w0 w' g P M md q ex lg ∧ Below w.heap.size w w0 ∧ Below w0.heap.size w0 w' := by
 unfold newO at h
 obtain ⟨s, hs, h⟩ := Option.bind_eq_some_iff.1 h
 split at h
 ·rename_i hst
  subst hst
  obtain ⟨q', ho, h⟩ := Option.bind_eq_some_iff.1 h
  split at h
  ·rename_i hq
   split at h
   ·rename_i ha
    split at h
    ·exact absurd h (by simp)
    ·rename_i hne
     split at h
     ·rename_i hin
      simp only [Option.some.injEq, Prod.mk.injEq] at h
      obtain ⟨rfl, rfl, rfl⟩ := h
      exact New_ok 4096 P M A c md q' w hr hc hs ho hq.2.2 hq.1 hq.2.1 _ _ (fun x h1 h2 => (newAll_pw ha x h1 h2).1) (fun x h1 h2 => (newAll_pw ha x h1 h2).2) _ rfl hne (fun x hx => odt (List.all_eq_true.1 hin.1 x hx)) hin.2
     ·exact absurd h (by simp)
   ·exact absurd h (by simp)
  ·exact absurd h (by simp)
 ·exact absurd h (by simp)
theorem New_none (P M : Int) (A : Option Addr) (c : Nat) (md : List Int) (w : World) (hr : Kd.C (Kd.int .i64) w A md.length md) (hc : md.length ≤ c) (h : newO P M md = some none) :
  Calls Try.prog 60 #[.agg #[.int .i64 P, .int .i64 M, .slice A md.length c]] w fun e w' => e = .returned (.tuple #[.pointer none, .int .i64 1]) ∧ Below w.heap.size w w' := by
 unfold newO at h
 obtain ⟨s, hs, h⟩ := Option.bind_eq_some_iff.1 h
 split at h
 ·rename_i hst
  subst hst
  obtain ⟨q', ho, h⟩ := Option.bind_eq_some_iff.1 h
  split at h
  ·rename_i hq
   split at h
   ·rename_i ha
    split at h
    ·rename_i he
     exact New_nil 4096 P M A c md q' w hr hc hs ho hq.1 hq.2.1 _ _ (fun x h1 h2 => (newAll_pw ha x h1 h2).1) (fun x h1 h2 => (newAll_pw ha x h1 h2).2) he
    ·split at h <;> exact absurd h (by simp)
   ·exact absurd h (by simp)
  ·exact absurd h (by simp)
 ·rename_i hst
  have : s = false := by cases s <;> simp_all
  subst this
  exact New_shape 4096 P M A c md w hr hc hs
def entR (q : Int) : List Int → Int
 | [] => 0
 | x :: l => if 0 ≤ x ∧ x < q then entR q l else 2
theorem entries_l0 (P M : Int) (md : List Int) (q : Int) (ex lg l : List Int) (hl : l.length ≤ 4611686018427387904) : ∀ (m k i : Nat), m = l.length - i → i ≤ l.length → m < k →
  matrix_entries.l0 k l (l.length : Int) (i : Int) P M md q ex lg = some (entR q (l.drop i), P, M, q) := by
 intro m
 induction m with
 | zero =>
  intro k i hm hi hk
  obtain ⟨k, rfl⟩ : ∃ k', k = k' + 1 := ⟨k - 1, by omega⟩
  have h : i = l.length := by omega
  rw [matrix_entries.l0, if_neg (by omega), h, List.drop_length, entR]
 | succ m ih =>
  intro k i hm hi hk
  obtain ⟨k, rfl⟩ : ∃ k', k = k' + 1 := ⟨k - 1, by omega⟩
  have h : i < l.length := by omega
  have hn := ih k (i + 1) (by omega) (by omega) (by omega)
  have hw : wrap64 ((i : Int) + 1) = ((i + 1 : Nat) : Int) := by unfold wrap64; omega
  have hd : l.drop i = rd l (i : Int) :: l.drop (i + 1) := by
   have := drop_cons (d := (0 : Int)) (i := (i : Int)) (l := l) (by omega) (by omega)
   rw [Int.toNat_natCast, show ((i : Int) + 1).toNat = i + 1 from by omega] at this
   exact this
  rw [matrix_entries.l0, if_pos (by omega), if_pos (by omega), if_pos (by omega), hd, entR, hw]
  unfold Gf.field_GF_Is.f
  by_cases h1 : 0 ≤ rd l (i : Int)
  ·rw [if_pos (by omega)]
   simp only [Option.bind_some]
   by_cases h2 : rd l (i : Int) < q
   ·rw [if_pos (det h2), if_pos ⟨h1, h2⟩, hn]
   ·rw [if_neg (by simp [h2]), if_neg (by omega)]
  ·rw [if_neg (by omega)]
   simp only [Option.bind_some]
   rw [if_neg (by simp), if_neg (by omega)]
theorem entries_f (P M : Int) (md : List Int) (q : Int) (ex lg l : List Int) (hl : l.length ≤ 4611686018427387904) : matrix_entries.f (l.length + 1) P M md q ex lg l = some (entR q l, P, M, q) :=
 entries_l0 P M md q ex lg l hl l.length (l.length + 1) 0 (by omega) (by omega) (by omega)
theorem rows_drop {l : List (List Int)} {i : Nat} (h : i < l.length) : l.drop i = rd_L1 l (i : Int) :: l.drop (i + 1) := by
 have := drop_cons (d := ([] : List Int)) (i := (i : Int)) (l := l) (by omega) (by omega)
 rw [Int.toNat_natCast, show ((i : Int) + 1).toNat = i + 1 from by omega] at this
 exact this
def lenR (cols : Int) : List (List Int) → Bool
 | [] => true
 | l :: ls => if (l.length : Int) = cols then lenR cols ls else false
theorem lenR_mem {cols : Int} : ∀ {rows : List (List Int)}, lenR cols rows = true → ∀ {l}, l ∈ rows → (l.length : Int) = cols
 | [], _, _, h => by simp at h
 | r :: rs, h, l, hl => by
  rw [lenR] at h
  split at h
  ·rename_i h1
   rcases List.mem_cons.1 hl with rfl | h2
   ·exact h1
   ·exact lenR_mem h h2
  ·simp at h
theorem C_ne {w0 : World} {A : Option Addr} {l : List Int} {g : Nat} (h : Kd.C (Kd.int .i64) w0 A l.length l) (hg : w0.heap.size ≤ g) : ∀ ad, A = some ad → 0 < l.length → ad.block ≠ g := by
 intro ad e h0
 obtain ⟨ad', e', hx⟩ := Kd.at_int h 0 (by omega) (by omega)
 rw [e] at e'
 cases e'
 have hb := World.block_lt_of_cell? _ _ hx
 rw [add_block] at hb
 omega
def entM (q : Int) : List (List Int) → Int
 | [] => 0
 | l :: ls => if entR q l = 0 then entM q ls else entR q l
def checkM (q cols : Int) (rows : List (List Int)) : Int :=
 if cols < 0 ∨ cols > 256 ∨ (rows.length : Int) > 256 then 3 else if lenR cols rows = true then entM q rows else 3
theorem check98_calls (g : Nat) (P M : Int) (md : List Int) (q : Int) (ex lg : List Int) (cols : Int) (A : Option Addr) (c : Nat) (rows : List (List Int)) (w0 w : World) (hI : IsS109 w0 w g P M md q ex lg) (hB : Below w0.heap.size w0 w)
  (hr : Kd.C (Kd.slice 3 (Kd.int .i64)) w0 A rows.length rows) (hc : rows.length ≤ c) :
  Calls Try.prog 98 #[.pointer (some ⟨g, 0, none⟩), .agg #[.int .i64 cols, .slice A rows.length c]] w fun e w' => e = .returned (.int .i64 (checkM q cols rows)) ∧ IsS109 w0 w' g P M md q ex lg ∧ Below w0.heap.size w0 w' := by
 have hu27 := Try.underlying27
 have HI := ak hI
 have HB0 := ak hB
 have HR := ak hr
 have HC := ak hc
 clear hI hB hr hc
 go_enter Try.func98, Try.ntmps98
 by_cases hbad : cols < 0 ∨ cols > 256 ∨ (rows.length : Int) > 256
 ·go_wp2_with ((with_reducible refine gate_dst (N := 3) rfl ?_); refine box_event ?hg (N := 3) ?hd (cs := #[.int .i64 cols, .slice A rows.length c]) (t := 27) ?hr ?_; (case hd => rfl); (case hg => rfl); (case hr => (go_simp; done)); intro gb hgb w1 hbox hb; have HGB := ak (show w.heap.size ≤ gb by omega); have HBK := ak hbox; have HB := ak hb; clear hgb; have hcz0 : w1.cell? ⟨gb, 0, none⟩ = some (.int .i64 cols) := (kce hbox 0).trans rfl; have hcz1 : w1.cell? ⟨gb, 1, none⟩ = some (.slice A rows.length c) := (kce hbox 1).trans rfl; clear hbox hb)
  all_goals (go_ret; refine ⟨by rw [checkM, if_pos hbad]; rfl, HI.out.below HB.out, bsp HB0.out HB.out⟩)
 ·have e1 := eq_false (show ¬ cols < 0 by omega)
  have e2 := eq_false (show ¬ 256 < cols by omega)
  have e3 := eq_false (show ¬ 256 < (rows.length : Int) by omega)
  have d1 : decide (cols < 0) = false := dff (by omega)
  have d2 : decide (256 < cols) = false := dff (by omega)
  have d3 : decide (256 < (rows.length : Int)) = false := dff (by omega)
  have HBAD := ak hbad
  have HLN := ak (show rows.length ≤ 256 by omega)
  clear hbad
  go_wp2_with ((with_reducible refine gate_dst (N := 3) rfl ?_); refine box_event ?hg (N := 3) ?hd (cs := #[.int .i64 cols, .slice A rows.length c]) (t := 27) ?hr ?_; (case hd => rfl); (case hg => rfl); (case hr => (go_simp; done)); intro gb hgb w1 hbox hb; have HGB := ak (show w.heap.size ≤ gb by omega); have HBK := ak hbox; have HB := ak hb; clear hgb; have hcz0 : w1.cell? ⟨gb, 0, none⟩ = some (.int .i64 cols) := (kce hbox 0).trans rfl; have hcz1 : w1.cell? ⟨gb, 1, none⟩ = some (.slice A rows.length c) := (kce hbox 1).trans rfl; clear hbox hb)
  clear e1 e2 e3 d1 d2 d3
  have HI1 := ak (HI.out.below HB.out)
  have HB1 := ak (bsp HB0.out HB.out)
  have HR1 := ak (Kd.C_below HR.out HB1.out)
  clear HI HB0
  go_loopg [27] rows.length (fun gk v27 w' => w' = w1 ∧ ∃ n : Nat, v27 = .int .i64 n ∧ Aside0 (n ≤ rows.length ∧ gk = rows.length - n ∧ lenR cols (rows.drop n) = lenR cols rows))
  case atStart => exact ⟨rfl, 0, rfl, ⟨by simp, by simp, by simp⟩⟩
  case round =>
   obtain ⟨rfl, n, rfl, HN⟩ := hrel
   by_cases hlt : (n : Int) < (rows.length : Int)
   ·have c1 := eq_true hlt
    have c2 : (0 ≤ (n : Int)) = True := eq_true (Int.natCast_nonneg n)
    obtain ⟨ad, A0, c0, eA, hx, hc0, hr0⟩ := at_L1 HR1.out n (of_eq_true c2) hlt
    subst eA
    obtain ⟨row, hrow⟩ : ∃ x, rd_L1 rows (n : Int) = x := ⟨_, rfl⟩
    rw [hrow] at hx hc0 hr0
    rw [Int.toNat_natCast] at hx
    have HLT := ak hlt
    have HROW := ak hrow
    clear hlt hrow hc0 hr0
    by_cases hl : (row.length : Int) = cols
    ·have b1 : ((row.length : Int) != cols) = false := by simp [hl]
     have HL := ak hl
     clear hl
     go_wp2
     go_roundg (rows.length - (n + 1))
     case measure => have := HN.out.2.1; have := HLT.out; omega
     case rel =>
      have h := HN.out; have h2 := HLT.out
      refine ⟨rfl, n + 1, by rw [wrap64_succ' (n := 9223372036854775807) (by omega) (by have := HLN.out; omega) (by omega)]; rfl, ⟨by omega, rfl, ?_⟩⟩
      ·rw [← h.2.2, rows_drop (by omega : n < rows.length), lenR, HROW.out, if_pos HL.out]
    ·have b1 : ((row.length : Int) != cols) = true := by simp [hl]
     have HL := ak hl
     clear hl
     go_wp2
     go_ret
     have h := HN.out; have h2 := HLT.out
     refine ⟨?_, HI1.out, HB1.out⟩
     rw [checkM, if_neg HBAD.out, ← h.2.2, rows_drop (by omega : n < rows.length), lenR, HROW.out, if_neg HL.out, if_neg (by simp)]; rfl
   ·have c1 := eq_false hlt
    have HLT := ak hlt
    clear hlt
    have HLR := ak (show lenR cols rows = true by
     have h := HN.out; have h2 := HLT.out
     rw [← h.2.2, show n = rows.length by omega, List.drop_length, lenR])
    go_wp2
    clear HN HLT hcz0 c1
    go_loopg [40] rows.length (fun gk v40 w' => ∃ n : Nat, v40 = .int .i64 n ∧ Aside0 (n ≤ rows.length ∧ gk = rows.length - n ∧ entM q (rows.drop n) = entM q rows) ∧ Aside0 (IsS109 w0 w' g P M md q ex lg) ∧ Aside0 (Below w0.heap.size w0 w'))
    case atStart => exact ⟨0, rfl, ⟨by simp, by simp, by simp⟩, HI1, HB1⟩
    case round =>
     obtain ⟨n, rfl, HN, HIr, HBr⟩ := hrel
     by_cases hlt : (n : Int) < (rows.length : Int)
     ·have c1 := eq_true hlt
      have c2 : (0 ≤ (n : Int)) = True := eq_true (Int.natCast_nonneg n)
      obtain ⟨ad, A0, c0, eA, hx, hc0, hr0⟩ := at_L1 (Kd.C_below HR.out HBr.out) n (of_eq_true c2) hlt
      obtain ⟨ad', A0', c0', eA', hx', hc0', hr0'⟩ := at_L1 HR.out n (of_eq_true c2) hlt
      subst eA
      cases eA'
      rw [pcb HBr.out hx'] at hx
      injection hx with hx
      injection hx with e1 e2 e3
      subst e1 e3
      clear e2 hr0 hc0
      have hx := pcb HBr.out hx'
      obtain ⟨row, hrow⟩ : ∃ x, rd_L1 rows (n : Int) = x := ⟨_, rfl⟩
      rw [hrow] at hx hr0' hc0'
      rw [Int.toNat_natCast] at hx
      have HLT := ak hlt
      have HROW := ak hrow
      have HR0 := ak hr0'
      have HC0 := ak hc0'
      have HLL := ak (lenR_mem HLR.out (show row ∈ rows by rw [← hrow]; exact rd_memRow (by omega) hlt))
      clear hlt hrow hr0' hx' hc0'
      obtain ⟨er, her⟩ : ∃ e, entR q row = e := ⟨_, rfl⟩
      have HER := ak her
      clear her
      go_wp2_with (go_at_call 82; (with_reducible refine (matrix_entries.calls _ g P M md q ex lg A0' c0' row _ _ _ _ w0 _ HIr.out HBr.out ?s1 ?s2 ?s3 (entries_f P M md q ex lg row ?s4)).mono ?_); (case s1 => exact Kd.C_below HR0.out HBr.out); (case s2 => exact HC0.out); (case s3 => exact C_ne HR0.out HIr.out.ge); (case s4 => have := HLL.out; have := HBAD.out; omega); rintro e w2 ⟨rfl, hI, hB, hk⟩; rw [HER.out]; have HI2 := ak hI; have HB2 := ak hB; clear hI hB hk)
      ·rename_i hne
       go_ret
       have h := HN.out; have h2 := HLT.out
       refine ⟨?_, HI2.out, HB2.out⟩
       rw [checkM, if_neg HBAD.out, if_pos HLR.out, ← h.2.2, rows_drop (by omega : n < rows.length), entM, HROW.out, HER.out, if_neg (by simpa using hne)]; rfl
      ·rename_i hne
       go_roundg (rows.length - (n + 1))
       case measure => have := HN.out.2.1; have := HLT.out; omega
       case rel =>
        have h := HN.out; have h2 := HLT.out
        refine ⟨n + 1, by rw [wrap64_succ' (n := 9223372036854775807) (by omega) (by have := HLN.out; omega) (by omega)]; rfl, ⟨by omega, rfl, ?_⟩, HI2, HB2⟩
        rw [← h.2.2, rows_drop (by omega : n < rows.length), entM, HROW.out, HER.out, if_pos (by simpa using hne)]
     ·have c1 := eq_false hlt
      have HLT := ak hlt
      clear hlt
      go_wp2
      go_ret
      have h := HN.out; have h2 := HLT.out
      refine ⟨?_, HIr.out, HBr.out⟩
      rw [checkM, if_neg HBAD.out, if_pos HLR.out, ← h.2.2, show n = rows.length by omega, List.drop_length, entM]; rfl
end Go.Proofs.Ytkifipakikbhcaa.Hand
namespace Go.Proofs.Ytkifipakikbhcaa.Hand
open Ytkifipakikbhcaa.Ref Ytkifipakikbhcaa.Pg
open Ytkifipakikbhcaa.Gf (IsS109)
open Go.RowKit YtkifipakikbhcaaW.PrintWords YtkifipakikbhcaaW.PrintLast YtkifipakikbhcaaW.PrintMore
attribute [local go_sem ↓] Go.wp_at_zero Go.wp_at_succ
theorem open_none (P M : Int) (A : Option Addr) (c : Nat) (md : List Int) (vs : Value) (w : World) (hr : Kd.C (Kd.int .i64) w A md.length md) (hc : md.length ≤ c) (h : newO P M md = some none) :
  Calls Try.prog 80 #[.agg #[.int .i64 P, .int .i64 M, .slice A md.length c], vs] w fun e w' => e = .returned (.tuple #[.pointer none, .int .i64 1]) ∧ Below w.heap.size w w' := by
 have hu24 := Try.underlying24
 have HR := ak hr
 have HC := ak hc
 have HN := ak h
 clear hr hc h
 go_enter Try.func80, Try.ntmps80
 go_wp2_with (first | ((with_reducible refine gate_dst (N := 2) rfl ?_); refine box_event ?hg (N := 2) ?hd (cs := #[.int .i64 P, .int .i64 M, .slice A md.length c]) (t := 24) ?hr ?_; (case hd => rfl); (case hg => rfl); (case hr => (go_simp; done)); intro gb hgb w1 hbox hb; have HGB := ak (show w.heap.size ≤ gb by omega); have HBK := ak hbox; have HB := ak hb; clear hgb; have hcz0 : w1.cell? ⟨gb, 0, none⟩ = some (.int .i64 P) := (kce hbox 0).trans rfl; have hcz1 : w1.cell? ⟨gb, 1, none⟩ = some (.int .i64 M) := (kce hbox 1).trans rfl; have hcz2 : w1.cell? ⟨gb, 2, none⟩ = some (.slice A md.length c) := (kce hbox 2).trans rfl; clear hbox hb) | (go_at_call 60; (with_reducible refine (New_none P M A c md w1 (Kd.C_below HR.out HB.out) HC.out HN.out).mono ?_); rintro e w2 ⟨rfl, hB⟩; have HB2 := ak hB; clear hB))
 go_ret2
 exact ⟨rfl, bsp HB.out HB2.out⟩
theorem open_some (P M : Int) (A : Option Addr) (c : Nat) (md : List Int) (q : Int) (ex lg : List Int) (gm cm : Nat) (cols : Int) (AR : Option Addr) (cR : Nat) (rows : List (List Int)) (w : World) (hr : Kd.C (Kd.int .i64) w A md.length md) (hc : md.length ≤ c) (h : newO P M md = some (some (q, ex, lg)))
  (hm : w.heap[gm]? = some (.cells #[.int .i64 cols, .slice AR rows.length cR] 27 (0, 0))) (hrr : Kd.C (Kd.slice 3 (Kd.int .i64)) w AR rows.length rows) (hcr : rows.length ≤ cR) :
  Calls Try.prog 80 #[.agg #[.int .i64 P, .int .i64 M, .slice A md.length c], .slice (some ⟨gm, 0, none⟩) 1 cm] w fun e w' => ∃ v : Value, e = .returned (.tuple #[v, .int .i64 (checkM q cols rows)]) ∧ Below w.heap.size w w'
   ∧ (checkM q cols rows = 0 → ∃ g : Nat, v = .pointer (some ⟨g, 0, none⟩) ∧ ∃ w0 : World, IsS109 w0 w' g P M md q ex lg ∧ Below w.heap.size w w0 ∧ Below w0.heap.size w0 w') := by
 have hu24 := Try.underlying24
 have hu27 := Try.underlying27
 have HR := ak hr
 have HC := ak hc
 have HN := ak h
 have HM := ak hm
 have HRR := ak hrr
 have HCR := ak hcr
 obtain ⟨ck, hck⟩ : ∃ e, checkM q cols rows = e := ⟨_, rfl⟩
 rw [hck]
 have HCK := ak hck
 clear hr hc h hm hrr hcr hck
 go_enter Try.func80, Try.ntmps80
 go_wp2_with (first | ((with_reducible refine gate_dst (N := 2) rfl ?_); refine box_event ?hg (N := 2) ?hd (cs := #[.int .i64 P, .int .i64 M, .slice A md.length c]) (t := 24) ?hr ?_; (case hd => rfl); (case hg => rfl); (case hr => (go_simp; done)); intro gb hgb w1 hbox hb; have HGB := ak (show w.heap.size ≤ gb by omega); have HBK := ak hbox; have HB := ak hb; clear hgb; have hcz0 : w1.cell? ⟨gb, 0, none⟩ = some (.int .i64 P) := (kce hbox 0).trans rfl; have hcz1 : w1.cell? ⟨gb, 1, none⟩ = some (.int .i64 M) := (kce hbox 1).trans rfl; have hcz2 : w1.cell? ⟨gb, 2, none⟩ = some (.slice A md.length c) := (kce hbox 2).trans rfl; clear hbox hb) | (go_at_call 60; (with_reducible refine (New_some P M A c md q ex lg w1 (Kd.C_below HR.out HB.out) HC.out HN.out).mono ?_); rintro e w2 ⟨g, rfl, w0, hI, hB1, hB2⟩; have HI := ak hI; have HB1 := ak (bsp HB.out hB1); have HB2 := ak hB2; clear hI hB1 hB2))
 have HMB := ak (show Below w.heap.size w w2 from bsp HB1.out HB2.out)
 clear hcz0 hcz1 hcz2
 go_loopg [20] 1 (fun gk v20 w' => (v20 = .int .i64 0 ∧ gk = 1 ∧ w' = w2) ∨ (v20 = .int .i64 1 ∧ gk = 0 ∧ ck = 0 ∧ Aside0 (IsS109 w0 w' g P M md q ex lg) ∧ Aside0 (Below w0.heap.size w0 w')))
 case atStart => exact Or.inl ⟨rfl, rfl, rfl⟩
 case round =>
  rcases hrel with ⟨rfl, rfl, rfl⟩ | ⟨rfl, rfl, h0, HIr, HBr⟩
  ·have hm0 : wr.cell? ⟨gm, 0, none⟩ = some (.int .i64 cols) := cbl ((kce HM.out 0).trans rfl) HMB.out
   have hm1 : wr.cell? ⟨gm, 1, none⟩ = some (.slice AR rows.length cR) := cbl ((kce HM.out 1).trans rfl) HMB.out
   go_wp2_with (go_at_call 98; (with_reducible refine (check98_calls g P M md q ex lg cols AR cR rows w0 _ (HI.out.alloc _) (bal HB2.out _) (Kd.C_below HRR.out HB1.out) HCR.out).mono ?_); rintro e w3 ⟨rfl, hI, hB⟩; rw [HCK.out]; have HI3 := ak hI; have HB3 := ak hB; clear hI hB)
   ·rename_i hne
    go_ret2
    exact ⟨_, rfl, bsp HB1.out HB3.out, fun h0 => absurd h0 (by simpa using hne)⟩
   ·rename_i hne
    go_roundg 0
    case measure => exact Nat.zero_lt_one
    case rel => exact Or.inr ⟨rfl, rfl, by simpa using hne, HI3, HB3⟩
  ·subst h0
   go_wp2
   go_ret2
   exact ⟨_, rfl, bsp HB1.out HBr.out, g, rfl, w0, HIr.out, HB1.out, HBr.out⟩
def matrix_Check.f (a0_0 : Int) (a0_1 : Int) (l0_2 : List Int) (a1_0 : Int) (l1_1 : List (List Int)) : Option Int :=
 (newO a0_0 a0_1 l0_2).map fun o => match o with
  | none => 1
  | some x => checkM x.1 a1_0 l1_1
theorem matrix_Check.calls (a0_0 : Int) (a0_1 : Int) (A0_2 : Option Addr) (c0_2 : Nat) (l0_2 : List Int) (a1_0 : Int) (A1_1 : Option Addr) (c1_1 : Nat) (l1_1 : List (List Int)) (r : Int) (w : World) (hr0_2 : Kd.C (Kd.int .i64) w A0_2 l0_2.length l0_2) (hc0_2 : l0_2.length ≤ c0_2) (hr1_1 : Kd.C (Kd.slice 3 (Kd.int .i64)) w A1_1 l1_1.length l1_1) (hc1_1 : l1_1.length ≤ c1_1) (h : matrix_Check.f a0_0 a0_1 l0_2 a1_0 l1_1 = some r) :
  Calls Try.prog 42 #[.agg #[.int .i64 a0_0, .int .i64 a0_1, .slice A0_2 l0_2.length c0_2], .agg #[.int .i64 a1_0, .slice A1_1 l1_1.length c1_1]] w fun e w' => e = .returned (.int .i64 r) ∧ Below w.heap.size w w' := by
 have hu24 := Try.underlying24
 have hu27 := Try.underlying27
 have HR := ak hr0_2
 have HC := ak hc0_2
 have HRR := ak hr1_1
 have HCR := ak hc1_1
 have HH := ak h
 clear hr0_2 hc0_2 hr1_1 hc1_1 h
 go_enter Try.func42, Try.ntmps42
 go_upto_region 1 with (first | ((with_reducible refine gate_dst (N := 2) rfl ?_); refine box_event ?hg (N := 2) ?hd (cs := #[.int .i64 a0_0, .int .i64 a0_1, .slice A0_2 l0_2.length c0_2]) (t := 24) ?hr ?_; (case hd => rfl); (case hg => rfl); (case hr => (go_simp; done)); intro gb hgb w1 hbox hb; have HGB := ak (show w.heap.size ≤ gb by omega); have HBK := ak hbox; have HB := ak hb; clear hgb hbox hb) | ((with_reducible refine gate_dst (N := 3) rfl ?_); refine box_event ?hg (N := 3) ?hd (cs := #[.int .i64 a1_0, .slice A1_1 l1_1.length c1_1]) (t := 27) ?hr ?_; (case hd => rfl); (case hg => rfl); (case hr => (go_simp; done)); intro gm hgm w2 hbox hb; have HBM := ak hbox; have HBK2 := ak (blk_grown HBK.out (grown_of_below hb none) (by simp)); have HB2 := ak (bsp HB.out hb); clear hgm hbox hb))
 have hcz0 : w2.cell? ⟨gb, 0, none⟩ = some (.int .i64 a0_0) := (kce HBK2.out 0).trans rfl
 have hcz1 : w2.cell? ⟨gb, 1, none⟩ = some (.int .i64 a0_1) := (kce HBK2.out 1).trans rfl
 have hcz2 : w2.cell? ⟨gb, 2, none⟩ = some (.slice A0_2 l0_2.length c0_2) := (kce HBK2.out 2).trans rfl
 have hcm0 : w2.cell? ⟨gm, 0, none⟩ = some (.int .i64 a1_0) := (kce HBM.out 0).trans rfl
 have hcm1 : w2.cell? ⟨gm, 1, none⟩ = some (.slice A1_1 l1_1.length c1_1) := (kce HBM.out 1).trans rfl
 have HBB := ak (bsp HB2.out (bal (Below.refl w2.heap.size w2) (Obj.cells #[.int .i64 a1_0, .slice A1_1 l1_1.length c1_1] 27)))
 cases hno : newO a0_0 a0_1 l0_2 with
 | none => rw [matrix_Check.f, hno] at HH; exact absurd HH.out (by simp)
 | some o =>
  cases o with
  | none =>
   rw [matrix_Check.f, hno] at HH
   have HNO := ak hno
   clear hno
   have hr1 : (1 : Int) = r := osi HH.out
   subst hr1
   go_wp2_with (go_at_call 80; (with_reducible refine (open_none a0_0 a0_1 A0_2 c0_2 l0_2 _ _ (Kd.C_below HR.out HBB.out) HC.out HNO.out).mono ?_); rintro e w3 ⟨rfl, hB⟩; have HB3 := ak hB; clear hB)
   go_ret
   exact ⟨rfl, bsp HBB.out HB3.out⟩
  | some x =>
   obtain ⟨q, ex, lg⟩ := x
   rw [matrix_Check.f, hno] at HH
   have HNO := ak hno
   clear hno
   have hr1 : checkM q a1_0 l1_1 = r := osi HH.out
   have HR1 := ak hr1
   clear hr1 HH
   go_wp2_with (go_at_call 80; (with_reducible refine (open_some a0_0 a0_1 A0_2 c0_2 l0_2 q ex lg w2.heap.size 1 a1_0 A1_1 c1_1 l1_1 _ (Kd.C_below HR.out HBB.out) HC.out HNO.out (heap_alloc_new _ _) (Kd.C_below HRR.out HBB.out) HCR.out).mono ?_); rintro e w3 ⟨v, rfl, hB, -⟩; rw [HR1.out]; have HB3 := ak hB; clear hB)
   go_ret
   exact ⟨rfl, bsp HBB.out HB3.out⟩
end Go.Proofs.Ytkifipakikbhcaa.Hand
namespace Go.Proofs.Ytkifipakikbhcaa.Pm
open Ytkifipakikbhcaa.Ref Ytkifipakikbhcaa.Pg Ytkifipakikbhcaa.Hand
open Go.RowKit YtkifipakikbhcaaW.PrintWords YtkifipakikbhcaaW.PrintLast YtkifipakikbhcaaW.PrintMore
theorem info3 : (Try.prog.info? 3).map (fun i => (i.zero, i.size, i.bytes)) = some (some (.int .i64 0), 1, 8) := by kernel_rfl
theorem info22 : (Try.prog.info? 22).map (fun i => (i.zero, i.size, i.bytes)) = some (some (.slice none 0 0), 1, 24) := by kernel_rfl
def rd_L1 (xs : List (List Int)) (i : Int) : (List Int) := xs.getD i.toNat ([] : List Int)
theorem at_L1 {w : World} {A : Option Addr} {n : Nat} {xs : List (List Int)} (h : Kd.C (Kd.slice 3 (Kd.int .i64)) w A n xs) (i : Int) (h0 : 0 ≤ i) (h1 : i < n) : ∃ ad A0 c0, A = some ad ∧ w.cell? (ad.add i.toNat) = some (.slice A0 (rd_L1 xs i).length c0) ∧ (rd_L1 xs i).length ≤ c0 ∧ (Kd.int .i64).C w A0 (rd_L1 xs i).length (rd_L1 xs i) := by
 obtain ⟨ad, c, e, _, hK, hc0⟩ := Kd.C_get h ([] : List Int) i h0 h1
 have hc : ∀ j u, c[j]? = some u → w.cell? (ad.add (i.toNat * 1 + j)) = some u := hc0
 obtain ⟨A0, c0, rfl, l0, g0⟩ := hK
 exact ⟨ad, A0, c0, e, by have hq := hc 0 _ rfl; rwa [Nat.mul_one, Nat.add_zero] at hq, l0, g0⟩
mutual
def peel_Graph.j0 : Nat → Bool → Int → List (List Int) → Option (Int × (List (List Int)) × Int)
 | 0, _, _, _ => none
 | k + 1, x27, x103000, x103001 => if x27 = true then (some (0, ([] : List (List Int)), 4)) else (peel_Graph.l0 k x103001 (x103001.length : Int) 0 x103000 ([] : List (List Int)))
def peel_Graph.l0 : Nat → List (List Int) → Int → Int → Int → List (List Int) → Option (Int × (List (List Int)) × Int)
 | 0, _, _, _, _, _ => none
 | k + 1, x33, x34, x35, x106000, x106001 => if x35 < x34 then (if 0 ≤ x35 then (if x35 < (x33.length : Int) then (peel_Graph.l1 k ([] : List Int) x33 x34 x35 (rd_L1 x33 x35) ((rd_L1 x33 x35).length : Int) 0 x106000 x106001) else (none)) else (none)) else (some (x106000, x106001, 0))
def peel_Graph.l1 : Nat → List Int → List (List Int) → Int → Int → List Int → Int → Int → Int → List (List Int) → Option (Int × (List (List Int)) × Int)
 | 0, _, _, _, _, _, _, _, _, _ => none
 | k + 1, x10, x33, x34, x35, x39, x40, x41, x106000, x106001 => if x41 < x40 then (if 0 ≤ x41 then (if x41 < (x39.length : Int) then (if (rd x39 x41) = 0 then (peel_Graph.l1 k x10 x33 x34 x35 x39 x40 (wrap64 (x41 + 1)) x106000 x106001) else (if x10.length < 17592186044416 then (peel_Graph.l1 k (x10 ++ [x41]) x33 x34 x35 x39 x40 (wrap64 (x41 + 1)) x106000 x106001) else (none))) else (none)) else (none)) else (if x106001.length < 5864062014805 then (peel_Graph.l0 k x33 x34 (wrap64 (x35 + 1)) x106000 (x106001 ++ [x10])) else (none))
end
def peel_Graph.f (k : Nat) (a0_0 : Int) (a0_1 : Int) (l0_2 : List Int) (a1_0 : Int) (l1_1 : List (List Int)) : Option (Int × (List (List Int)) × Int) := (matrix_Check.f a0_0 a0_1 l0_2 a1_0 l1_1).bind fun t104 => (if t104 = 0 then (if a1_0 < 1 then (peel_Graph.j0 k true a1_0 l1_1) else (peel_Graph.j0 k (decide (a1_0 > 64)) a1_0 l1_1)) else (some (0, ([] : List (List Int)), t104)))
theorem peel_Graph.calls (k : Nat) (a0_0 : Int) (a0_1 : Int) (A0_2 : Option Addr) (c0_2 : Nat) (l0_2 : List Int) (a1_0 : Int) (A1_1 : Option Addr) (c1_1 : Nat) (l1_1 : List (List Int)) (r1 : Int) (r2 : List (List Int)) (r3 : Int) (w : World) (hr0_2 : Kd.C (Kd.int .i64) w A0_2 l0_2.length l0_2) (hc0_2 : l0_2.length ≤ c0_2) (hr1_1 : Kd.C (Kd.slice 3 (Kd.int .i64)) w A1_1 l1_1.length l1_1) (hc1_1 : l1_1.length ≤ c1_1) (h : peel_Graph.f k a0_0 a0_1 l0_2 a1_0 l1_1 = some (r1, r2, r3)) :
  Calls Try.prog 14 #[.agg #[.int .i64 a0_0, .int .i64 a0_1, .slice A0_2 l0_2.length c0_2], .agg #[.int .i64 a1_0, .slice A1_1 l1_1.length c1_1]] w fun e w' => ∃ v1_ : Value, e = .returned (.tuple #[.agg #[.int .i64 r1, v1_], .int .i64 r3]) ∧ Kd.S (Kd.slice 3 (Kd.int .i64)) 22 w' w.heap.size (fun _ => True) v1_ r2 ∧ Below w.heap.size w w' := by
 have hu24 := Try.underlying24
 have hu27 := Try.underlying27
 have hu31 := Try.underlying31
 have HR0_2 := ak hr0_2
 have HC0_2 := ak hc0_2
 clear hr0_2 hc0_2
 have HR1_1 := ak hr1_1
 have HC1_1 := ak hc1_1
 clear hr1_1 hc1_1
 have HB := ak (Below.refl w.heap.size w)
 have H : ((matrix_Check.f a0_0 a0_1 l0_2 a1_0 l1_1).bind fun t104 => (if t104 = 0 then (if a1_0 < 1 then (peel_Graph.j0 k true a1_0 l1_1) else (peel_Graph.j0 k (decide (a1_0 > 64)) a1_0 l1_1)) else (some (0, ([] : List (List Int)), t104)))) = some (r1, r2, r3) := h
 clear h
 replace H := obm H
 obtain ⟨t104, A30, H⟩ := H
 replace H : (if t104 = 0 then (if a1_0 < 1 then (peel_Graph.j0 k true a1_0 l1_1) else (peel_Graph.j0 k (decide (a1_0 > 64)) a1_0 l1_1)) else (some (0, ([] : List (List Int)), t104))) = some (r1, r2, r3) := H
 have A3 := ak A30
 clear A30
 by_cases c4 : t104 = 0
 ·rw [if_pos c4] at H
  have c4b0 : (t104 == 0) = true := beq_iff_eq.mpr c4
  have c4b1 : (t104 != 0) = false := bnm c4
  clear c4
  have HC5 := ak H
  clear H
  go_enter Try.func14, Try.ntmps14
  go_upto_region 4 with (first | ((with_reducible refine gate_dst (N := 2) rfl ?_); refine box_event ?hg (N := 2) ?hd (cs := #[.int .i64 a0_0, .int .i64 a0_1, .slice A0_2 l0_2.length c0_2]) (t := 24) ?hr ?_; (case hd => rfl); (case hg => rfl); (case hr => first | (go_simp; done) | (go_simp; rfl)); intro gb101 hg w6 hbox hb; have n0_ := ak (bsp HB.out hb); have n1_ := ak (hbox); have n2_ := ak ((by rw [hg]; exact (bsz HB.out) : w.heap.size ≤ gb101)); have n3_ := ak ((by rw [hg]; exact (bsz HB.out) : w.heap.size ≤ gb101)); clear HB; have HB := n0_; have BK101 := n1_; have GW101 := n2_; have GE101 := n3_; clear n0_ n1_ n2_ n3_; clear hb hbox hg) | ((with_reducible refine gate_dst (N := 3) rfl ?_); refine box_event ?hg (N := 3) ?hd (cs := #[.int .i64 a1_0, .slice A1_1 l1_1.length c1_1]) (t := 27) ?hr ?_; (case hd => rfl); (case hg => rfl); (case hr => first | (go_simp; done) | (go_simp; rfl)); intro gb102 hg w7 hbox hb; have n0_ := ak (kbe BK101.out hb); have n1_ := ak (bsp HB.out hb); have n2_ := ak (hbox); have n3_ := ak ((by rw [hg]; exact (bsz HB.out) : w.heap.size ≤ gb102)); have n4_ := ak ((by rw [hg]; exact (bsz HB.out) : w.heap.size ≤ gb102)); have n5_ := ak ((by rw [hg]; exact Nat.ne_of_lt (klt BK101.out) : gb101 ≠ gb102)); have n6_ := ak ((by rw [hg]; exact Nat.ne_of_gt (klt BK101.out) : gb102 ≠ gb101)); clear BK101 HB; have BK101 := n0_; have HB := n1_; have BK102 := n2_; have GW102 := n3_; have GE102 := n4_; have NB101_102 := n5_; have NB102_101 := n6_; clear n0_ n1_ n2_ n3_ n4_ n5_ n6_; clear hb hbox hg) | ((with_reducible refine gate_dst (N := 4) rfl ?_); refine box_event ?hg (N := 4) ?hd (cs := #[.int .i64 0, .slice none 0 0]) (t := 31) ?hr ?_; (case hd => rfl); (case hg => rfl); (case hr => first | (go_simp; done) | (go_simp; rfl)); intro gb103 hg w8 hbox hb; have n0_ := ak (kbe BK101.out hb); have n1_ := ak (kbe BK102.out hb); have n2_ := ak (bsp HB.out hb); have n3_ := ak (hbox); have n4_ := ak ((by rw [hg]; exact (bsz HB.out) : w.heap.size ≤ gb103)); have n5_ := ak ((by rw [hg]; exact (bsz HB.out) : w.heap.size ≤ gb103)); have n6_ := ak ((by rw [hg]; exact Nat.ne_of_lt (klt BK101.out) : gb101 ≠ gb103)); have n7_ := ak ((by rw [hg]; exact Nat.ne_of_gt (klt BK101.out) : gb103 ≠ gb101)); have n8_ := ak ((by rw [hg]; exact Nat.ne_of_lt (klt BK102.out) : gb102 ≠ gb103)); have n9_ := ak ((by rw [hg]; exact Nat.ne_of_gt (klt BK102.out) : gb103 ≠ gb102)); clear BK101 BK102 HB; have BK101 := n0_; have BK102 := n1_; have HB := n2_; have BK103 := n3_; have GW103 := n4_; have GE103 := n5_; have NB101_103 := n6_; have NB103_101 := n7_; have NB102_103 := n8_; have NB103_102 := n9_; clear n0_ n1_ n2_ n3_ n4_ n5_ n6_ n7_ n8_ n9_; clear hb hbox hg; have hnb9 := NB101_102.out; have hnc9 := NB102_101.out; have hnb10 := NB101_103.out; have hnc10 := NB103_101.out; have hcz11_0 : w8.cell? ⟨gb101, 0, none⟩ = some (.int .i64 a0_0) := (kce BK101.out 0).trans rfl; have hcz11_1 : w8.cell? ⟨gb101, 1, none⟩ = some (.int .i64 a0_1) := (kce BK101.out 1).trans rfl; have hcz11_2 : w8.cell? ⟨gb101, 2, none⟩ = some (.slice A0_2 l0_2.length c0_2) := (kce BK101.out 2).trans rfl; have hnb12 := NB102_103.out; have hnc12 := NB103_102.out; have hcz13_0 : w8.cell? ⟨gb102, 0, none⟩ = some (.int .i64 a1_0) := (kce BK102.out 0).trans rfl; have hcz13_1 : w8.cell? ⟨gb102, 1, none⟩ = some (.slice A1_1 l1_1.length c1_1) := (kce BK102.out 1).trans rfl) | ((with_reducible refine gate_callee (f := 42) rfl ?_); refine goesL_ (some 15) rfl rfl Try.func42 (by kernel_rfl) rfl #[.agg #[.int .i64 a0_0, .int .i64 a0_1, .slice A0_2 l0_2.length c0_2], .agg #[.int .i64 a1_0, .slice A1_1 l1_1.length c1_1]] rfl (by (try simp only [List.map_toArray, List.map_cons, List.map_nil]); first | done | rfl) ?_; (with_reducible refine (matrix_Check.calls a0_0 a0_1 _ _ l0_2 a1_0 _ _ l1_1 t104 _ ?side1 ?side2 ?side3 ?side4 A3.out).mono ?_); (case side1 => repeat (first | exact (Kd.C_below HR0_2.out HB.out) | (with_reducible refine Kd.C_alloc ?_ _) | (with_reducible refine Kd.C_drewN ?_ _) | (with_reducible refine Kd.C_drew ?_))); (case side2 => exact HC0_2.out); (case side3 => repeat (first | exact (Kd.C_below HR1_1.out HB.out) | (with_reducible refine Kd.C_alloc ?_ _) | (with_reducible refine Kd.C_drewN ?_ _) | (with_reducible refine Kd.C_drew ?_))); (case side4 => exact HC1_1.out); rintro e w14 ⟨rfl, hb⟩; refine ⟨_, rfl, ?_⟩; have n0_ := ak (kbe BK101.out hb); have n1_ := ak (kbe BK102.out hb); have n2_ := ak (kbe BK103.out hb); have n3_ := ak (bsp HB.out hb); clear BK101 BK102 BK103 HB; have BK101 := n0_; have BK102 := n1_; have BK103 := n2_; have HB := n3_; clear n0_ n1_ n2_ n3_; (try clear hb); (try clear hb2); (try clear hk); (try clear hi)))
  go_cut [27] (fun v27 wc => ∃ (kq : Nat) (x27_4 : Bool), v27 = .bool x27_4 ∧ Aside0 (peel_Graph.j0 kq x27_4 a1_0 l1_1 = some (r1, r2, r3)) ∧ Aside0 (kq ≤ k) ∧ Aside0 (wc.heap[gb101]? = some (.cells #[.int .i64 a0_0, .int .i64 a0_1, (.slice A0_2 l0_2.length c0_2)] 24 (0, 0))) ∧ Aside0 (wc.heap[gb102]? = some (.cells #[.int .i64 a1_0, (.slice A1_1 l1_1.length c1_1)] 27 (0, 0))) ∧ Aside0 (wc.heap[gb103]? = some (.cells #[.int .i64 0, (.slice none 0 0)] 31 (0, 0))) ∧ Aside0 (Below w.heap.size w wc))
  case first =>
   have H := HC5.out
   clear HC5
   by_cases c15 : a1_0 < 1
   ·rw [if_pos c15] at H
    have c15b0 : decide (a1_0 < 1) = true := det c15
    clear c15
    (skip)
    have H' := ak H
    clear H
    have hnb16 := NB102_101.out
    have hnc16 := NB101_102.out
    have hnb17 := NB102_103.out
    have hnc17 := NB103_102.out
    have hcz18_0 : w14.cell? ⟨gb102, 0, none⟩ = some (.int .i64 a1_0) := (kce BK102.out 0).trans rfl
    have hcz18_1 : w14.cell? ⟨gb102, 1, none⟩ = some (.slice A1_1 l1_1.length c1_1) := (kce BK102.out 1).trans rfl
    have hfz18_0 := kfz BK102.out 0
    have hfz18_1 := kfz BK102.out 1
    go_wp2
    go_meet
    case rel => exact ⟨_, (true), (by first | rfl | (simp; done) | (simp [*]; done)), H', ⟨by first | omega | exact Nat.le_refl _⟩, ⟨by (with_reducible repeat (first | refine kdn ?_ _ | refine kdr ?_ | refine kal ?_ _)); exact BK101.out⟩, ⟨by (with_reducible repeat (first | refine kdn ?_ _ | refine kdr ?_ | refine kal ?_ _)); exact BK102.out⟩, ⟨by (with_reducible repeat (first | refine kdn ?_ _ | refine kdr ?_ | refine kal ?_ _)); exact BK103.out⟩, ⟨by repeat (first | (with_reducible first | exact HB.out | apply bal | apply pbn | apply bd1 | refine bst ?_ GE101.out | refine bst ?_ GE102.out | refine bst ?_ GE103.out) | exact HB.out)⟩⟩
   ·rw [if_neg c15] at H
    have c15b0 : decide (a1_0 < 1) = false := dff c15
    clear c15
    (skip)
    have H' := ak H
    clear H
    have hnb19 := NB102_101.out
    have hnc19 := NB101_102.out
    have hnb20 := NB102_103.out
    have hnc20 := NB103_102.out
    have hcz21_0 : w14.cell? ⟨gb102, 0, none⟩ = some (.int .i64 a1_0) := (kce BK102.out 0).trans rfl
    have hcz21_1 : w14.cell? ⟨gb102, 1, none⟩ = some (.slice A1_1 l1_1.length c1_1) := (kce BK102.out 1).trans rfl
    have hfz21_0 := kfz BK102.out 0
    have hfz21_1 := kfz BK102.out 1
    go_wp2
    go_meet
    case rel => exact ⟨_, (decide (a1_0 > 64)), (by first | rfl | (simp; done) | (simp [*]; done)), H', ⟨by first | omega | exact Nat.le_refl _⟩, ⟨by (with_reducible repeat (first | refine kdn ?_ _ | refine kdr ?_ | refine kal ?_ _)); exact BK101.out⟩, ⟨by (with_reducible repeat (first | refine kdn ?_ _ | refine kdr ?_ | refine kal ?_ _)); exact BK102.out⟩, ⟨by (with_reducible repeat (first | refine kdn ?_ _ | refine kdr ?_ | refine kal ?_ _)); exact BK103.out⟩, ⟨by repeat (first | (with_reducible first | exact HB.out | apply bal | apply pbn | apply bd1 | refine bst ?_ GE101.out | refine bst ?_ GE102.out | refine bst ?_ GE103.out) | exact HB.out)⟩⟩
  case rest =>
   clear HC5
   try (clear c4b0)
   try (clear c4b1)
   try (clear hcz11_0)
   try (clear hcz11_1)
   try (clear hcz11_2)
   try (clear hcz13_0)
   try (clear hcz13_1)
   obtain ⟨kq, x27_4, rfl, HA, HJ4, BK101, BK102, BK103, HB⟩ := hcut
   cases kq with
   | zero => exact absurd HA.out (by simp [peel_Graph.j0])
   | succ kj4 =>
    have H := HA.out
    clear HA
    simp only [peel_Graph.j0] at H
    by_cases c22 : x27_4 = true
    ·subst c22
     have H1 : (some (0, ([] : List (List Int)), 4)) = some (r1, r2, r3) := by rw [if_pos rfl] at H; exact H
     clear H
     have H := H1
     clear H1
     simp only [Option.some.injEq, Prod.mk.injEq] at H
     obtain ⟨rfl, rfl, rfl⟩ := H
     have hnb23 := NB103_101.out
     have hnc23 := NB101_103.out
     have hnb24 := NB103_102.out
     have hnc24 := NB102_103.out
     have hcz25_0 : wc.cell? ⟨gb103, 0, none⟩ = some (.int .i64 0) := (kce BK103.out 0).trans rfl
     have hcz25_1 : wc.cell? ⟨gb103, 1, none⟩ = some (.slice none 0 0) := (kce BK103.out 1).trans rfl
     have hfz25_0 := kfz BK103.out 0
     have hfz25_1 := kfz BK103.out 1
     go_wp2
     refine bodyPost_ret (results_ct rfl _ _ gb103 31 #[.int .i64 0, .slice none 0 0] (0, 0) _ rfl (by (with_reducible repeat (first | refine kdn ?_ _ | refine kdr ?_ | refine kal ?_ _)); refine blk_put (cs := #[.int .i64 0, .slice none 0 0]) ?_ 1 _ rfl; (with_reducible repeat (first | refine kdn ?_ _ | refine kdr ?_ | refine kal ?_ _)); refine blk_put (cs := #[.int .i64 0, .slice none 0 0]) ?_ 0 _ rfl; (with_reducible repeat (first | refine kdn ?_ _ | refine kdr ?_ | refine kal ?_ _)); exact BK103.out) Try.underlying31 rfl (by kernel_rfl)) rfl ?_
     exact ⟨_, by first | rfl | (simp <;> rfl) | (simp [*] <;> rfl), by first | exact Kd.S_nil _ _ _ _ _ | exact Kd.N_nil _ _ _ _ _ | exact Kd.V_nil _ _ _ _ _ | exact Kd.Q_nil _ _ _ _ _ | exact Kd.R_nil _ _ _ _ _, by repeat (first | (with_reducible first | exact HB.out | apply bal | apply pbn | apply bd1 | refine bst ?_ GE101.out | refine bst ?_ GE102.out | refine bst ?_ GE103.out) | exact HB.out)⟩
    ·replace c22 := Bool.eq_false_iff.mpr c22
     subst c22
     have H1 : (peel_Graph.l0 kj4 l1_1 (l1_1.length : Int) 0 a1_0 ([] : List (List Int))) = some (r1, r2, r3) := by rw [if_neg (show ¬ (false = true) by decide)] at H; exact H
     clear H
     have H := H1
     clear H1
     have H' := ak H
     clear H
     have hnb26 := NB102_101.out
     have hnc26 := NB101_102.out
     have hnb27 := NB102_103.out
     have hnc27 := NB103_102.out
     have hcz28_0 : wc.cell? ⟨gb102, 0, none⟩ = some (.int .i64 a1_0) := (kce BK102.out 0).trans rfl
     have hcz28_1 : wc.cell? ⟨gb102, 1, none⟩ = some (.slice A1_1 l1_1.length c1_1) := (kce BK102.out 1).trans rfl
     have hfz28_0 := kfz BK102.out 0
     have hfz28_1 := kfz BK102.out 1
     go_wp2_with (first | ((with_reducible refine gate_dst (N := 7) rfl ?_); refine box_event ?hg (N := 7) ?hd (cs := #[.int .i64 0, .slice none 0 0]) (t := 31) ?hr ?_; (case hd => rfl); (case hg => rfl); (case hr => first | (go_simp; done) | (go_simp; rfl)); intro gb105 hg w29 hbox hb; have n0_ := ak (kbe (g := gb101) (o := .cells #[.int .i64 a0_0, .int .i64 a0_1, .slice A0_2 l0_2.length c0_2] 24 (0, 0)) (by (with_reducible repeat (first | refine kdn ?_ _ | refine kdr ?_ | refine kal ?_ _)); exact BK101.out) hb); have n1_ := ak (kbe (g := gb102) (o := .cells #[.int .i64 a1_0, .slice A1_1 l1_1.length c1_1] 27 (0, 0)) (by (with_reducible repeat (first | refine kdn ?_ _ | refine kdr ?_ | refine kal ?_ _)); exact BK102.out) hb); have n2_ := ak (kbe (g := gb103) (o := .cells #[.int .i64 0, .slice none 0 0] 31 (0, 0)) (by (with_reducible repeat (first | refine kdn ?_ _ | refine kdr ?_ | refine kal ?_ _)); exact BK103.out) hb); have n3_ := ak (bsp (by repeat (first | (with_reducible first | exact HB.out | apply bal | apply pbn | apply bd1 | refine bst ?_ GE101.out | refine bst ?_ GE102.out | refine bst ?_ GE103.out) | exact HB.out)) hb); have n4_ := ak (hbox); have n5_ := ak ((by rw [hg]; exact (bsz (by repeat (first | (with_reducible first | exact HB.out | apply bal | apply pbn | apply bd1 | refine bst ?_ GE101.out | refine bst ?_ GE102.out | refine bst ?_ GE103.out) | exact HB.out))) : w.heap.size ≤ gb105)); have n6_ := ak ((by rw [hg]; exact (bsz (by repeat (first | (with_reducible first | exact HB.out | apply bal | apply pbn | apply bd1 | refine bst ?_ GE101.out | refine bst ?_ GE102.out | refine bst ?_ GE103.out) | exact HB.out))) : w.heap.size ≤ gb105)); have n7_ := ak ((by rw [hg]; exact Nat.ne_of_lt (klt (g := gb101) (o := .cells #[.int .i64 a0_0, .int .i64 a0_1, .slice A0_2 l0_2.length c0_2] 24 (0, 0)) (by (with_reducible repeat (first | refine kdn ?_ _ | refine kdr ?_ | refine kal ?_ _)); exact BK101.out)) : gb101 ≠ gb105)); have n8_ := ak ((by rw [hg]; exact Nat.ne_of_gt (klt (g := gb101) (o := .cells #[.int .i64 a0_0, .int .i64 a0_1, .slice A0_2 l0_2.length c0_2] 24 (0, 0)) (by (with_reducible repeat (first | refine kdn ?_ _ | refine kdr ?_ | refine kal ?_ _)); exact BK101.out)) : gb105 ≠ gb101)); have n9_ := ak ((by rw [hg]; exact Nat.ne_of_lt (klt (g := gb102) (o := .cells #[.int .i64 a1_0, .slice A1_1 l1_1.length c1_1] 27 (0, 0)) (by (with_reducible repeat (first | refine kdn ?_ _ | refine kdr ?_ | refine kal ?_ _)); exact BK102.out)) : gb102 ≠ gb105)); have n10_ := ak ((by rw [hg]; exact Nat.ne_of_gt (klt (g := gb102) (o := .cells #[.int .i64 a1_0, .slice A1_1 l1_1.length c1_1] 27 (0, 0)) (by (with_reducible repeat (first | refine kdn ?_ _ | refine kdr ?_ | refine kal ?_ _)); exact BK102.out)) : gb105 ≠ gb102)); have n11_ := ak ((by rw [hg]; exact Nat.ne_of_lt (klt (g := gb103) (o := .cells #[.int .i64 0, .slice none 0 0] 31 (0, 0)) (by (with_reducible repeat (first | refine kdn ?_ _ | refine kdr ?_ | refine kal ?_ _)); exact BK103.out)) : gb103 ≠ gb105)); have n12_ := ak ((by rw [hg]; exact Nat.ne_of_gt (klt (g := gb103) (o := .cells #[.int .i64 0, .slice none 0 0] 31 (0, 0)) (by (with_reducible repeat (first | refine kdn ?_ _ | refine kdr ?_ | refine kal ?_ _)); exact BK103.out)) : gb105 ≠ gb103)); clear BK101 BK102 BK103 HB; have BK101 := n0_; have BK102 := n1_; have BK103 := n2_; have HB := n3_; have BK105 := n4_; have GW105 := n5_; have GE105 := n6_; have NB101_105 := n7_; have NB105_101 := n8_; have NB102_105 := n9_; have NB105_102 := n10_; have NB103_105 := n11_; have NB105_103 := n12_; clear n0_ n1_ n2_ n3_ n4_ n5_ n6_ n7_ n8_ n9_ n10_ n11_ n12_; clear hb hbox hg; have hnb30 := NB105_101.out; have hnc30 := NB101_105.out; have hnb31 := NB105_102.out; have hnc31 := NB102_105.out; have hnb32 := NB105_103.out; have hnc32 := NB103_105.out; have hcz33_0 : w29.cell? ⟨gb105, 0, none⟩ = some (.int .i64 0) := (kce BK105.out 0).trans rfl; have hcz33_1 : w29.cell? ⟨gb105, 1, none⟩ = some (.slice none 0 0) := (kce BK105.out 1).trans rfl; have hfz33_0 := kfz BK105.out 0; have hfz33_1 := kfz BK105.out 1; have hcz34_0 : w29.cell? ⟨gb102, 0, none⟩ = some (.int .i64 a1_0) := (kce BK102.out 0).trans rfl; have hcz34_1 : w29.cell? ⟨gb102, 1, none⟩ = some (.slice A1_1 l1_1.length c1_1) := (kce BK102.out 1).trans rfl; have hfz34_0 := kfz BK102.out 0; have hfz34_1 := kfz BK102.out 1))
     go_loopg [35] kj4 (fun kq v35 w' => ∃ (x35_2 : Int) (x106001_2 : List (List Int)) (u106001 : Value), v35 = .int .i64 x35_2 ∧ Aside0 (peel_Graph.l0 kq l1_1 (l1_1.length : Int) x35_2 a1_0 x106001_2 = some (r1, r2, r3)) ∧ Aside0 (kq ≤ kj4) ∧ Aside0 (Kd.S (Kd.slice 3 (Kd.int .i64)) 22 w' w.heap.size (fun _ => True) u106001 x106001_2) ∧ Aside0 (w'.heap[gb101]? = some (.cells #[.int .i64 a0_0, .int .i64 a0_1, (.slice A0_2 l0_2.length c0_2)] 24 (0, 0))) ∧ Aside0 (w'.heap[gb102]? = some (.cells #[.int .i64 a1_0, (.slice A1_1 l1_1.length c1_1)] 27 (0, 0))) ∧ Aside0 (w'.heap[gb103]? = some (.cells #[.int .i64 0, (.slice none 0 0)] 31 (0, 0))) ∧ Aside0 (w'.heap[gb105]? = some (.cells #[.int .i64 a1_0, u106001] 31 (0, 0))) ∧ Aside0 (Below w.heap.size w w'))
     case atStart => exact ⟨(0), (([] : List (List Int))), (.slice none 0 0), (by first | rfl | (simp; done) | (simp [*]; done)), H', ⟨Nat.le_refl _⟩, ⟨by first | exact Kd.S_nil _ _ _ _ _ | exact Kd.N_nil _ _ _ _ _ | exact Kd.V_nil _ _ _ _ _ | exact Kd.Q_nil _ _ _ _ _ | exact Kd.R_nil _ _ _ _ _⟩, ⟨by (with_reducible repeat (first | refine kdn ?_ _ | refine kdr ?_ | refine kal ?_ _)); refine blk_far ?_ NB101_105.out _; (with_reducible repeat (first | refine kdn ?_ _ | refine kdr ?_ | refine kal ?_ _)); refine blk_far ?_ NB101_105.out _; (with_reducible repeat (first | refine kdn ?_ _ | refine kdr ?_ | refine kal ?_ _)); exact BK101.out⟩, ⟨by (with_reducible repeat (first | refine kdn ?_ _ | refine kdr ?_ | refine kal ?_ _)); refine blk_far ?_ NB102_105.out _; (with_reducible repeat (first | refine kdn ?_ _ | refine kdr ?_ | refine kal ?_ _)); refine blk_far ?_ NB102_105.out _; (with_reducible repeat (first | refine kdn ?_ _ | refine kdr ?_ | refine kal ?_ _)); exact BK102.out⟩, ⟨by (with_reducible repeat (first | refine kdn ?_ _ | refine kdr ?_ | refine kal ?_ _)); refine blk_far ?_ NB103_105.out _; (with_reducible repeat (first | refine kdn ?_ _ | refine kdr ?_ | refine kal ?_ _)); refine blk_far ?_ NB103_105.out _; (with_reducible repeat (first | refine kdn ?_ _ | refine kdr ?_ | refine kal ?_ _)); exact BK103.out⟩, ⟨by (with_reducible repeat (first | refine kdn ?_ _ | refine kdr ?_ | refine kal ?_ _)); refine blk_put (cs := #[.int .i64 a1_0, .slice none 0 0]) ?_ 1 _ rfl; (with_reducible repeat (first | refine kdn ?_ _ | refine kdr ?_ | refine kal ?_ _)); refine blk_put (cs := #[.int .i64 0, .slice none 0 0]) ?_ 0 _ rfl; (with_reducible repeat (first | refine kdn ?_ _ | refine kdr ?_ | refine kal ?_ _)); exact BK105.out⟩, ⟨by repeat (first | (with_reducible first | exact HB.out | apply bal | apply pbn | apply bd1 | refine bst ?_ GE101.out | refine bst ?_ GE102.out | refine bst ?_ GE103.out | refine bst ?_ GE105.out) | exact HB.out)⟩⟩
     case round =>
      clear H'
      try (clear hcz28_0)
      try (clear hcz28_1)
      try (clear hcz33_0)
      try (clear hcz33_1)
      try (clear hcz34_0)
      try (clear hcz34_1)
      try (clear hfz28_0)
      try (clear hfz28_1)
      try (clear hfz33_0)
      try (clear hfz33_1)
      try (clear hfz34_0)
      try (clear hfz34_1)
      obtain ⟨x35_2, x106001_2, u106001, rfl, HA, HK2, HO_106001, BK101, BK102, BK103, BK105, HB⟩ := hrel
      cases gk with
      | zero => exact absurd HA.out (by simp [peel_Graph.l0])
      | succ k2 =>
       have H := HA.out
       clear HA
       simp only [peel_Graph.l0] at H
       by_cases c35 : x35_2 < (l1_1.length : Int)
       ·rw [if_pos c35] at H
        have c35b0 : decide (x35_2 < (l1_1.length : Int)) = true := det c35
        clear c35
        by_cases c36 : 0 ≤ x35_2
        ·rw [if_pos c36] at H
         have c36b0 : decide (0 ≤ x35_2) = true := det c36
         clear c36
         by_cases c37 : x35_2 < (l1_1.length : Int)
         ·rw [if_pos c37] at H
          have c37b0 : decide (x35_2 < (l1_1.length : Int)) = true := det c37
          clear c37
          have H' := ak H
          clear H
          have p106 : 0 ≤ (x35_2 : Int) := odt (by with_reducible assumption)
          have q106 : x35_2 < (l1_1.length : Int) := odt (by with_reducible assumption)
          obtain ⟨ad106, A106_0, c106_0, e106, hx106_0, hl106_0, hi106_0⟩ := at_L1 HR1_1.out x35_2 p106 q106
          cases e106
          replace hx106_0 := (HB.out.cell (World.block_lt_of_cell? w _ hx106_0)).trans hx106_0
          have HR106_0 := ak hi106_0
          have HC106_0 := ak hl106_0
          clear hi106_0 hl106_0
          replace p106 := eq_true p106
          replace q106 := eq_true q106
          go_wp2
          go_loopg [10, 41] k2 (fun kq v10 v41 w' => ∃ (x10_3 : List Int) (x41_3 : Int), v41 = .int .i64 x41_3 ∧ Aside0 (peel_Graph.l1 kq x10_3 l1_1 (l1_1.length : Int) x35_2 (rd_L1 l1_1 x35_2) ((rd_L1 l1_1 x35_2).length : Int) x41_3 a1_0 x106001_2 = some (r1, r2, r3)) ∧ Aside0 (kq ≤ k2) ∧ Aside0 (Kd.R (Kd.int .i64) 3 w' w.heap.size (fun _ => True) v10 x10_3) ∧ Aside0 (Kd.S (Kd.slice 3 (Kd.int .i64)) 22 w' w.heap.size (fun k_ => some k_ ≠ (v10 : Value).ownBlock) u106001 x106001_2) ∧ Aside0 (w'.heap[gb101]? = some (.cells #[.int .i64 a0_0, .int .i64 a0_1, (.slice A0_2 l0_2.length c0_2)] 24 (0, 0))) ∧ Aside0 (w'.heap[gb102]? = some (.cells #[.int .i64 a1_0, (.slice (some ad106) l1_1.length c1_1)] 27 (0, 0))) ∧ Aside0 (w'.heap[gb103]? = some (.cells #[.int .i64 0, (.slice none 0 0)] 31 (0, 0))) ∧ Aside0 (w'.heap[gb105]? = some (.cells #[.int .i64 a1_0, u106001] 31 (0, 0))) ∧ Aside0 (Below w.heap.size w w'))
          case atStart => exact ⟨(([] : List Int)), (0), (by first | rfl | (simp; done) | (simp [*]; done)), H', ⟨Nat.le_refl _⟩, ⟨by first | exact Kd.R_nil _ _ _ _ _ | exact Kd.N_nil _ _ _ _ _ | exact Kd.V_nil _ _ _ _ _ | exact Kd.Q_nil _ _ _ _ _ | exact Kd.S_nil _ _ _ _ _⟩, ⟨by (with_reducible repeat (first | apply Kd.S_alloc | apply Kd.S_drewN | apply Kd.S_drew)); exact Kd.S_mono HO_106001.out (fun _ hk => (by simp [Value.ownBlock]))⟩, ⟨by (with_reducible repeat (first | refine kdn ?_ _ | refine kdr ?_ | refine kal ?_ _)); exact BK101.out⟩, ⟨by (with_reducible repeat (first | refine kdn ?_ _ | refine kdr ?_ | refine kal ?_ _)); exact BK102.out⟩, ⟨by (with_reducible repeat (first | refine kdn ?_ _ | refine kdr ?_ | refine kal ?_ _)); exact BK103.out⟩, ⟨by (with_reducible repeat (first | refine kdn ?_ _ | refine kdr ?_ | refine kal ?_ _)); exact BK105.out⟩, ⟨by repeat (first | (with_reducible first | exact HB.out | apply bal | apply pbn | apply bd1 | refine bst ?_ GE101.out | refine bst ?_ GE102.out | refine bst ?_ GE103.out | refine bst ?_ GE105.out) | exact HB.out)⟩⟩
          case round =>
           clear H'
           try (clear c35b0)
           try (clear c36b0)
           try (clear c37b0)
           try (clear hx106_0)
           try (clear p106)
           try (clear q106)
           obtain ⟨x10_3, x41_3, rfl, HA, HK3, HO_10, HO_106001, BK101, BK102, BK103, BK105, HB⟩ := hrel
           cases gk with
           | zero => exact absurd HA.out (by simp [peel_Graph.l1])
           | succ k3 =>
            have H := HA.out
            clear HA
            simp only [peel_Graph.l1] at H
            by_cases c38 : x41_3 < ((rd_L1 l1_1 x35_2).length : Int)
            ·rw [if_pos c38] at H
             have c38b0 : decide (x41_3 < ((rd_L1 l1_1 x35_2).length : Int)) = true := det c38
             clear c38
             by_cases c39 : 0 ≤ x41_3
             ·rw [if_pos c39] at H
              have c39b0 : decide (0 ≤ x41_3) = true := det c39
              clear c39
              by_cases c40 : x41_3 < ((rd_L1 l1_1 x35_2).length : Int)
              ·rw [if_pos c40] at H
               have c40b0 : decide (x41_3 < ((rd_L1 l1_1 x35_2).length : Int)) = true := det c40
               clear c40
               by_cases c41 : (rd (rd_L1 l1_1 x35_2) x41_3) = 0
               ·rw [if_pos c41] at H
                have c41b0 : ((rd (rd_L1 l1_1 x35_2) x41_3) == 0) = true := beq_iff_eq.mpr c41
                have c41b1 : ((rd (rd_L1 l1_1 x35_2) x41_3) != 0) = false := bnm c41
                clear c41
                have H' := ak H
                clear H
                have p107 : 0 ≤ (x41_3 : Int) := odt (by with_reducible assumption)
                have q107 : x41_3 < ((rd_L1 l1_1 x35_2).length : Int) := odt (by with_reducible assumption)
                obtain ⟨ad107, e107, hx107_0⟩ := Kd.at_int HR106_0.out x41_3 p107 q107
                cases e107
                replace hx107_0 := (HB.out.cell (World.block_lt_of_cell? w _ hx107_0)).trans hx107_0
                replace p107 := eq_true p107
                replace q107 := eq_true q107
                go_wp2
                go_roundg k3
                case measure => have := HJ4.out; have := HK2.out; have := HK3.out; omega
                case rel => exact ⟨(x10_3), (wrap64 (x41_3 + 1)), (by first | rfl | (simp; done) | (simp [*]; done)), H', ⟨by have := HJ4.out; have := HK2.out; have := HK3.out; omega⟩, ⟨by (with_reducible repeat (first | apply Kd.R_alloc | apply Kd.R_drewN | apply Kd.R_drew)); exact HO_10.out⟩, ⟨by (with_reducible repeat (first | apply Kd.S_alloc | apply Kd.S_drewN | apply Kd.S_drew)); exact HO_106001.out⟩, ⟨by (with_reducible repeat (first | refine kdn ?_ _ | refine kdr ?_ | refine kal ?_ _)); exact BK101.out⟩, ⟨by (with_reducible repeat (first | refine kdn ?_ _ | refine kdr ?_ | refine kal ?_ _)); exact BK102.out⟩, ⟨by (with_reducible repeat (first | refine kdn ?_ _ | refine kdr ?_ | refine kal ?_ _)); exact BK103.out⟩, ⟨by (with_reducible repeat (first | refine kdn ?_ _ | refine kdr ?_ | refine kal ?_ _)); exact BK105.out⟩, ⟨by repeat (first | (with_reducible first | exact HB.out | apply bal | apply pbn | apply bd1 | refine bst ?_ GE101.out | refine bst ?_ GE102.out | refine bst ?_ GE103.out | refine bst ?_ GE105.out) | exact HB.out)⟩⟩
               ·rw [if_neg c41] at H
                have c41b0 : ((rd (rd_L1 l1_1 x35_2) x41_3) == 0) = false := bqm c41
                have c41b1 : ((rd (rd_L1 l1_1 x35_2) x41_3) != 0) = true := bne_iff_ne.mpr c41
                by_cases c42 : x10_3.length < 17592186044416
                ·rw [if_pos c42] at H
                 have LMc42 := ak c42
                 clear c42
                 obtain ⟨y108, hy108⟩ : ∃ y_ : List Int, y_ = (x10_3 ++ [x41_3]) := ⟨_, rfl⟩
                 replace H : (peel_Graph.l1 k3 y108 l1_1 (l1_1.length : Int) x35_2 (rd_L1 l1_1 x35_2) ((rd_L1 l1_1 x35_2).length : Int) (wrap64 (x41_3 + 1)) a1_0 x106001_2) = some (r1, r2, r3) := by (rw [hy108]; with_reducible exact H)
                 have Ny108 := ak hy108
                 clear hy108
                 have H' := ak H
                 clear H
                 have p107 : 0 ≤ (x41_3 : Int) := odt (by with_reducible assumption)
                 have q107 : x41_3 < ((rd_L1 l1_1 x35_2).length : Int) := odt (by with_reducible assumption)
                 obtain ⟨ad107, e107, hx107_0⟩ := Kd.at_int HR106_0.out x41_3 p107 q107
                 cases e107
                 replace hx107_0 := (HB.out.cell (World.block_lt_of_cell? w _ hx107_0)).trans hx107_0
                 replace p107 := eq_true p107
                 replace q107 := eq_true q107
                 go_wp2_with (first | ((with_reducible refine gate_builtin (b := .append) (xs := #[.tmp 48, .tmp 50]) rfl ?_); at_builtin; refine Kd.R_append (Kd.int .i64) (w0 := w) w.heap.size rfl (.tmp 48) (.tmp 50) 22 3 (.int .i64 0) 8 rfl Try.underlying22 info3 rfl (by decide) (by omega) u10 x10_3 x41_3 [.int .i64 x41_3] (fun _ => True) (fun _ => False) rfl rfl ?aP (fun _ hk => hk.elim) ?aF ?aO ?aB ?aS ?aL ?_; (case aP => exact rfl); (case aB => exact HB.out); (case aF => exact (fun _ _ => trivial)); (case aO => exact HO_10.out); (case aS => exact (bsz HB.out)); (case aL => have := LMc42.out; omega); intro v109 w43 ho hb hg hat; rw [← Ny108.out] at ho; have n0_ := ak (Kd.S_after (ok := (fun _ => True)) (by (with_reducible repeat (first | apply Kd.S_alloc | apply Kd.S_drewN | apply Kd.S_drew)); exact Kd.S_mono HO_106001.out (fun _ hk => ⟨trivial, hk⟩)) hg hat); have n1_ := ak (blk_grown (g := gb101) (o := .cells #[.int .i64 a0_0, .int .i64 a0_1, .slice A0_2 l0_2.length c0_2] 24 (0, 0)) BK101.out hg (Kd.R_ne HO_10.out BK101.out (by decide))); have n2_ := ak (blk_grown (g := gb102) (o := .cells #[.int .i64 a1_0, .slice (some ad106) l1_1.length c1_1] 27 (0, 0)) BK102.out hg (Kd.R_ne HO_10.out BK102.out (by decide))); have n3_ := ak (blk_grown (g := gb103) (o := .cells #[.int .i64 0, .slice none 0 0] 31 (0, 0)) BK103.out hg (Kd.R_ne HO_10.out BK103.out (by decide))); have n4_ := ak (blk_grown (g := gb105) (o := .cells #[.int .i64 a1_0, u106001] 31 (0, 0)) BK105.out hg (Kd.R_ne HO_10.out BK105.out (by decide))); have n5_ := ak (hb); have n6_ := ak (ho); clear HO_106001 BK101 BK102 BK103 BK105 HB HO_10; have HO_106001 := n0_; have BK101 := n1_; have BK102 := n2_; have BK103 := n3_; have BK105 := n4_; have HB := n5_; have HO110 := n6_; clear n0_ n1_ n2_ n3_ n4_ n5_ n6_; clear ho hb hg hat))
                 go_roundg k3
                 case measure => have := HJ4.out; have := HK2.out; have := HK3.out; omega
                 case rel => exact ⟨(y108), (wrap64 (x41_3 + 1)), (by first | rfl | (simp; done) | (simp [*]; done)), H', ⟨by have := HJ4.out; have := HK2.out; have := HK3.out; omega⟩, ⟨by (with_reducible repeat (first | apply Kd.R_alloc | apply Kd.R_drewN | apply Kd.R_drew)); exact HO110.out⟩, ⟨by (with_reducible repeat (first | apply Kd.S_alloc | apply Kd.S_drewN | apply Kd.S_drew)); exact Kd.S_mono HO_106001.out (fun _ hk => hk.2)⟩, ⟨by (with_reducible repeat (first | refine kdn ?_ _ | refine kdr ?_ | refine kal ?_ _)); exact BK101.out⟩, ⟨by (with_reducible repeat (first | refine kdn ?_ _ | refine kdr ?_ | refine kal ?_ _)); exact BK102.out⟩, ⟨by (with_reducible repeat (first | refine kdn ?_ _ | refine kdr ?_ | refine kal ?_ _)); exact BK103.out⟩, ⟨by (with_reducible repeat (first | refine kdn ?_ _ | refine kdr ?_ | refine kal ?_ _)); exact BK105.out⟩, ⟨by repeat (first | (with_reducible first | exact HB.out | apply bal | apply pbn | apply bd1 | refine bst ?_ GE101.out | refine bst ?_ GE102.out | refine bst ?_ GE103.out | refine bst ?_ GE105.out) | exact HB.out)⟩⟩
                ·rw [if_neg c42] at H
                 exact absurd H (by simp)
              ·rw [if_neg c40] at H
               exact absurd H (by simp)
             ·rw [if_neg c39] at H
              exact absurd H (by simp)
            ·rw [if_neg c38] at H
             have c38b0 : decide (x41_3 < ((rd_L1 l1_1 x35_2).length : Int)) = false := dff c38
             clear c38
             by_cases c44 : x106001_2.length < 5864062014805
             ·rw [if_pos c44] at H
              have LMc44 := ak c44
              clear c44
              obtain ⟨y111, hy111⟩ : ∃ y_ : List (List Int), y_ = (x106001_2 ++ [x10_3]) := ⟨_, rfl⟩
              replace H : (peel_Graph.l0 k3 l1_1 (l1_1.length : Int) (wrap64 (x35_2 + 1)) a1_0 y111) = some (r1, r2, r3) := by (rw [hy111]; with_reducible exact H)
              have Ny111 := ak hy111
              clear hy111
              have H' := ak H
              clear H
              have hnb45 := NB105_101.out
              have hnc45 := NB101_105.out
              have hnb46 := NB105_102.out
              have hnc46 := NB102_105.out
              have hnb47 := NB105_103.out
              have hnc47 := NB103_105.out
              have hcz48_0 : wr.cell? ⟨gb105, 0, none⟩ = some (.int .i64 a1_0) := (kce BK105.out 0).trans rfl
              have hcz48_1 : wr.cell? ⟨gb105, 1, none⟩ = some (u106001) := (kce BK105.out 1).trans rfl
              have hfz48_0 := kfz BK105.out 0
              have hfz48_1 := kfz BK105.out 1
              obtain ⟨Ao50, co50, eo50⟩ := Kd.R_slice HO_10.out
              subst eo50
              go_wp2_with (first | ((with_reducible refine gate_builtin (b := .append) (xs := #[.tmp 54, .tmp 56]) rfl ?_); at_builtin; refine Kd.S_append (Kd.slice 3 (Kd.int .i64)) (w0 := w) w.heap.size rfl (.tmp 54) (.tmp 56) 25 22 (.slice none 0 0) 24 rfl Try.underlying25 info22 rfl (by decide) (by omega) u106001 x106001_2 x10_3 [.slice Ao50 x10_3.length co50] (fun _ => True) (fun k_ => some k_ = (.slice Ao50 x10_3.length co50 : Value).ownBlock) rfl rfl ?aP (fun k_ hk_ => ((Kd.R_mono (ok' := fun k_ => ((fun _ => True)) k_ ∧ some k_ ≠ (u106001 : Value).ownBlock) (Kd.R_apart' (HO_10.out) (Kd.S_typed HO_106001.out) (by decide)) (fun k_ hk => ⟨trivial, hk.2⟩))).1 k_ hk_.symm) ?aF ?aO ?aB ?aS ?aL ?_; (case aP => exact Kd.M_row (Kd.R_mono (Kd.R_tight rfl (Kd.R_mono (ok' := fun k_ => ((fun _ => True)) k_ ∧ some k_ ≠ (u106001 : Value).ownBlock) (Kd.R_apart' (HO_10.out) (Kd.S_typed HO_106001.out) (by decide)) (fun k_ hk => ⟨trivial, hk.2⟩))) (fun _ h_ => h_))); (case aB => exact (by repeat (first | (with_reducible first | exact HB.out | apply bal | apply pbn | apply bd1 | refine bst ?_ GE101.out | refine bst ?_ GE102.out | refine bst ?_ GE103.out | refine bst ?_ GE105.out) | exact HB.out))); (case aF => exact (fun _ _ => trivial)); (case aO => exact (by (with_reducible repeat (first | apply Kd.S_alloc | apply Kd.S_drewN | apply Kd.S_drew)); exact Kd.S_mono HO_106001.out (fun k_ hk => ⟨trivial, fun e_ => hk e_⟩))); (case aS => exact (bsz (by repeat (first | (with_reducible first | exact HB.out | apply bal | apply pbn | apply bd1 | refine bst ?_ GE101.out | refine bst ?_ GE102.out | refine bst ?_ GE103.out | refine bst ?_ GE105.out) | exact HB.out)))); (case aL => have := LMc44.out; omega); intro v112 w49 ho hb hg hat; rw [← Ny111.out] at ho; have n0_ := ak (blk_grown (g := gb101) (o := .cells #[.int .i64 a0_0, .int .i64 a0_1, .slice A0_2 l0_2.length c0_2] 24 (0, 0)) (by (with_reducible repeat (first | refine kdn ?_ _ | refine kdr ?_ | refine kal ?_ _)); exact BK101.out) hg (Kd.S_ne HO_106001.out BK101.out (by decide))); have n1_ := ak (blk_grown (g := gb102) (o := .cells #[.int .i64 a1_0, .slice (some ad106) l1_1.length c1_1] 27 (0, 0)) (by (with_reducible repeat (first | refine kdn ?_ _ | refine kdr ?_ | refine kal ?_ _)); exact BK102.out) hg (Kd.S_ne HO_106001.out BK102.out (by decide))); have n2_ := ak (blk_grown (g := gb103) (o := .cells #[.int .i64 0, .slice none 0 0] 31 (0, 0)) (by (with_reducible repeat (first | refine kdn ?_ _ | refine kdr ?_ | refine kal ?_ _)); exact BK103.out) hg (Kd.S_ne HO_106001.out BK103.out (by decide))); have n3_ := ak (blk_grown (g := gb105) (o := .cells #[.int .i64 a1_0, u106001] 31 (0, 0)) (by (with_reducible repeat (first | refine kdn ?_ _ | refine kdr ?_ | refine kal ?_ _)); exact BK105.out) hg (Kd.S_ne HO_106001.out BK105.out (by decide))); have n4_ := ak (hb); have n5_ := ak (ho); clear BK101 BK102 BK103 BK105 HB HO_106001 HO_10; have BK101 := n0_; have BK102 := n1_; have BK103 := n2_; have BK105 := n3_; have HB := n4_; have HO113 := n5_; clear n0_ n1_ n2_ n3_ n4_ n5_; clear ho hb hg hat; obtain ⟨Ao51, co51, eo51⟩ := Kd.S_slice HO113.out; subst eo51; have hcz52_0 : w49.cell? ⟨gb105, 0, none⟩ = some (.int .i64 a1_0) := (kce BK105.out 0).trans rfl; have hcz52_1 : w49.cell? ⟨gb105, 1, none⟩ = some (u106001) := (kce BK105.out 1).trans rfl; have hfz52_0 := kfz BK105.out 0; have hfz52_1 := kfz BK105.out 1))
              go_roundg k3
              case measure => have := HJ4.out; have := HK2.out; have := HK3.out; omega
              case rel => exact ⟨(wrap64 (x35_2 + 1)), (y111), (.slice Ao51 y111.length co51), (by first | rfl | (simp; done) | (simp [*]; done)), H', ⟨by have := HJ4.out; have := HK2.out; have := HK3.out; omega⟩, ⟨by (with_reducible repeat (first | apply Kd.S_alloc | apply Kd.S_drewN | apply Kd.S_drew)); exact Kd.S_mono (Kd.S_far (p := ⟨gb105, 1, none⟩) (Kd.S_types HO113.out BK105.out (by decide)) (fun _ hk => hk.2) (.slice Ao51 y111.length co51)) (fun _ hk => trivial)⟩, ⟨by (with_reducible repeat (first | refine kdn ?_ _ | refine kdr ?_ | refine kal ?_ _)); refine blk_far ?_ NB101_105.out _; (with_reducible repeat (first | refine kdn ?_ _ | refine kdr ?_ | refine kal ?_ _)); exact BK101.out⟩, ⟨by (with_reducible repeat (first | refine kdn ?_ _ | refine kdr ?_ | refine kal ?_ _)); refine blk_far ?_ NB102_105.out _; (with_reducible repeat (first | refine kdn ?_ _ | refine kdr ?_ | refine kal ?_ _)); exact BK102.out⟩, ⟨by (with_reducible repeat (first | refine kdn ?_ _ | refine kdr ?_ | refine kal ?_ _)); refine blk_far ?_ NB103_105.out _; (with_reducible repeat (first | refine kdn ?_ _ | refine kdr ?_ | refine kal ?_ _)); exact BK103.out⟩, ⟨by (with_reducible repeat (first | refine kdn ?_ _ | refine kdr ?_ | refine kal ?_ _)); refine blk_put (cs := #[.int .i64 a1_0, u106001]) ?_ 1 _ rfl; (with_reducible repeat (first | refine kdn ?_ _ | refine kdr ?_ | refine kal ?_ _)); exact BK105.out⟩, ⟨by repeat (first | (with_reducible first | exact HB.out | apply bal | apply pbn | apply bd1 | refine bst ?_ GE101.out | refine bst ?_ GE102.out | refine bst ?_ GE103.out | refine bst ?_ GE105.out) | exact HB.out)⟩⟩
             ·rw [if_neg c44] at H
              exact absurd H (by simp)
         ·rw [if_neg c37] at H
          exact absurd H (by simp)
        ·rw [if_neg c36] at H
         exact absurd H (by simp)
       ·rw [if_neg c35] at H
        have c35b0 : decide (x35_2 < (l1_1.length : Int)) = false := dff c35
        clear c35
        simp only [Option.some.injEq, Prod.mk.injEq] at H
        obtain ⟨rfl, rfl, rfl⟩ := H
        have hnb53 := NB105_101.out
        have hnc53 := NB101_105.out
        have hnb54 := NB105_102.out
        have hnc54 := NB102_105.out
        have hnb55 := NB105_103.out
        have hnc55 := NB103_105.out
        have hcz56_0 : wr.cell? ⟨gb105, 0, none⟩ = some (.int .i64 a1_0) := (kce BK105.out 0).trans rfl
        have hcz56_1 : wr.cell? ⟨gb105, 1, none⟩ = some (u106001) := (kce BK105.out 1).trans rfl
        have hfz56_0 := kfz BK105.out 0
        have hfz56_1 := kfz BK105.out 1
        have hnb57 := NB103_101.out
        have hnc57 := NB101_103.out
        have hnb58 := NB103_102.out
        have hnc58 := NB102_103.out
        have hcz59_0 : wr.cell? ⟨gb103, 0, none⟩ = some (.int .i64 0) := (kce BK103.out 0).trans rfl
        have hcz59_1 : wr.cell? ⟨gb103, 1, none⟩ = some (.slice none 0 0) := (kce BK103.out 1).trans rfl
        have hfz59_0 := kfz BK103.out 0
        have hfz59_1 := kfz BK103.out 1
        obtain ⟨Ao60, co60, eo60⟩ := Kd.S_slice HO_106001.out
        subst eo60
        go_wp2
        refine bodyPost_ret (results_ct rfl _ _ gb103 31 #[.int .i64 a1_0, .slice Ao60 x106001_2.length co60] (0, 0) _ rfl (by (with_reducible repeat (first | refine kdn ?_ _ | refine kdr ?_ | refine kal ?_ _)); refine blk_put (cs := #[.int .i64 a1_0, .slice none 0 0]) ?_ 1 _ rfl; (with_reducible repeat (first | refine kdn ?_ _ | refine kdr ?_ | refine kal ?_ _)); refine blk_put (cs := #[.int .i64 0, .slice none 0 0]) ?_ 0 _ rfl; (with_reducible repeat (first | refine kdn ?_ _ | refine kdr ?_ | refine kal ?_ _)); exact BK103.out) Try.underlying31 rfl (by kernel_rfl)) rfl ?_
        exact ⟨_, by first | rfl | (simp <;> rfl) | (simp [*] <;> rfl), by (with_reducible repeat (first | apply Kd.S_alloc | apply Kd.S_drewN | apply Kd.S_drew)); exact Kd.S_mono (Kd.S_far (p := ⟨gb103, 1, none⟩) (Kd.S_far (p := ⟨gb103, 0, none⟩) (Kd.S_types HO_106001.out BK103.out (by decide)) (fun _ hk => hk.2) (.int .i64 a1_0)) (fun _ hk => hk.2) (.slice Ao60 x106001_2.length co60)) (fun _ hk => trivial), by repeat (first | (with_reducible first | exact HB.out | apply bal | apply pbn | apply bd1 | refine bst ?_ GE101.out | refine bst ?_ GE102.out | refine bst ?_ GE103.out | refine bst ?_ GE105.out) | exact HB.out)⟩
 ·rw [if_neg c4] at H
  have c4b0 : (t104 == 0) = false := bqm c4
  have c4b1 : (t104 != 0) = true := bne_iff_ne.mpr c4
  simp only [Option.some.injEq, Prod.mk.injEq] at H
  obtain ⟨rfl, rfl, rfl⟩ := H
  go_enter Try.func14, Try.ntmps14
  go_wp2_with (first | ((with_reducible refine gate_dst (N := 2) rfl ?_); refine box_event ?hg (N := 2) ?hd (cs := #[.int .i64 a0_0, .int .i64 a0_1, .slice A0_2 l0_2.length c0_2]) (t := 24) ?hr ?_; (case hd => rfl); (case hg => rfl); (case hr => first | (go_simp; done) | (go_simp; rfl)); intro gb101 hg w61 hbox hb; have n0_ := ak (bsp (by repeat (first | (with_reducible first | exact HB.out | apply bal | apply pbn | apply bd1) | exact HB.out)) hb); have n1_ := ak (hbox); have n2_ := ak ((by rw [hg]; exact (bsz (by repeat (first | (with_reducible first | exact HB.out | apply bal | apply pbn | apply bd1) | exact HB.out))) : w.heap.size ≤ gb101)); have n3_ := ak ((by rw [hg]; exact (bsz (by repeat (first | (with_reducible first | exact HB.out | apply bal | apply pbn | apply bd1) | exact HB.out))) : w.heap.size ≤ gb101)); clear HB; have HB := n0_; have BK101 := n1_; have GW101 := n2_; have GE101 := n3_; clear n0_ n1_ n2_ n3_; clear hb hbox hg) | ((with_reducible refine gate_dst (N := 3) rfl ?_); refine box_event ?hg (N := 3) ?hd (cs := #[.int .i64 a1_0, .slice A1_1 l1_1.length c1_1]) (t := 27) ?hr ?_; (case hd => rfl); (case hg => rfl); (case hr => first | (go_simp; done) | (go_simp; rfl)); intro gb102 hg w62 hbox hb; have n0_ := ak (kbe (g := gb101) (o := .cells #[.int .i64 a0_0, .int .i64 a0_1, .slice A0_2 l0_2.length c0_2] 24 (0, 0)) (by (with_reducible repeat (first | refine kdn ?_ _ | refine kdr ?_ | refine kal ?_ _)); exact BK101.out) hb); have n1_ := ak (bsp (by repeat (first | (with_reducible first | exact HB.out | apply bal | apply pbn | apply bd1 | refine bst ?_ GE101.out) | exact HB.out)) hb); have n2_ := ak (hbox); have n3_ := ak ((by rw [hg]; exact (bsz (by repeat (first | (with_reducible first | exact HB.out | apply bal | apply pbn | apply bd1 | refine bst ?_ GE101.out) | exact HB.out))) : w.heap.size ≤ gb102)); have n4_ := ak ((by rw [hg]; exact (bsz (by repeat (first | (with_reducible first | exact HB.out | apply bal | apply pbn | apply bd1 | refine bst ?_ GE101.out) | exact HB.out))) : w.heap.size ≤ gb102)); have n5_ := ak ((by rw [hg]; exact Nat.ne_of_lt (klt (g := gb101) (o := .cells #[.int .i64 a0_0, .int .i64 a0_1, .slice A0_2 l0_2.length c0_2] 24 (0, 0)) (by (with_reducible repeat (first | refine kdn ?_ _ | refine kdr ?_ | refine kal ?_ _)); exact BK101.out)) : gb101 ≠ gb102)); have n6_ := ak ((by rw [hg]; exact Nat.ne_of_gt (klt (g := gb101) (o := .cells #[.int .i64 a0_0, .int .i64 a0_1, .slice A0_2 l0_2.length c0_2] 24 (0, 0)) (by (with_reducible repeat (first | refine kdn ?_ _ | refine kdr ?_ | refine kal ?_ _)); exact BK101.out)) : gb102 ≠ gb101)); clear BK101 HB; have BK101 := n0_; have HB := n1_; have BK102 := n2_; have GW102 := n3_; have GE102 := n4_; have NB101_102 := n5_; have NB102_101 := n6_; clear n0_ n1_ n2_ n3_ n4_ n5_ n6_; clear hb hbox hg) | ((with_reducible refine gate_dst (N := 4) rfl ?_); refine box_event ?hg (N := 4) ?hd (cs := #[.int .i64 0, .slice none 0 0]) (t := 31) ?hr ?_; (case hd => rfl); (case hg => rfl); (case hr => first | (go_simp; done) | (go_simp; rfl)); intro gb103 hg w63 hbox hb; have n0_ := ak (kbe (g := gb101) (o := .cells #[.int .i64 a0_0, .int .i64 a0_1, .slice A0_2 l0_2.length c0_2] 24 (0, 0)) (by (with_reducible repeat (first | refine kdn ?_ _ | refine kdr ?_ | refine kal ?_ _)); exact BK101.out) hb); have n1_ := ak (kbe (g := gb102) (o := .cells #[.int .i64 a1_0, .slice A1_1 l1_1.length c1_1] 27 (0, 0)) (by (with_reducible repeat (first | refine kdn ?_ _ | refine kdr ?_ | refine kal ?_ _)); exact BK102.out) hb); have n2_ := ak (bsp (by repeat (first | (with_reducible first | exact HB.out | apply bal | apply pbn | apply bd1 | refine bst ?_ GE101.out | refine bst ?_ GE102.out) | exact HB.out)) hb); have n3_ := ak (hbox); have n4_ := ak ((by rw [hg]; exact (bsz (by repeat (first | (with_reducible first | exact HB.out | apply bal | apply pbn | apply bd1 | refine bst ?_ GE101.out | refine bst ?_ GE102.out) | exact HB.out))) : w.heap.size ≤ gb103)); have n5_ := ak ((by rw [hg]; exact (bsz (by repeat (first | (with_reducible first | exact HB.out | apply bal | apply pbn | apply bd1 | refine bst ?_ GE101.out | refine bst ?_ GE102.out) | exact HB.out))) : w.heap.size ≤ gb103)); have n6_ := ak ((by rw [hg]; exact Nat.ne_of_lt (klt (g := gb101) (o := .cells #[.int .i64 a0_0, .int .i64 a0_1, .slice A0_2 l0_2.length c0_2] 24 (0, 0)) (by (with_reducible repeat (first | refine kdn ?_ _ | refine kdr ?_ | refine kal ?_ _)); exact BK101.out)) : gb101 ≠ gb103)); have n7_ := ak ((by rw [hg]; exact Nat.ne_of_gt (klt (g := gb101) (o := .cells #[.int .i64 a0_0, .int .i64 a0_1, .slice A0_2 l0_2.length c0_2] 24 (0, 0)) (by (with_reducible repeat (first | refine kdn ?_ _ | refine kdr ?_ | refine kal ?_ _)); exact BK101.out)) : gb103 ≠ gb101)); have n8_ := ak ((by rw [hg]; exact Nat.ne_of_lt (klt (g := gb102) (o := .cells #[.int .i64 a1_0, .slice A1_1 l1_1.length c1_1] 27 (0, 0)) (by (with_reducible repeat (first | refine kdn ?_ _ | refine kdr ?_ | refine kal ?_ _)); exact BK102.out)) : gb102 ≠ gb103)); have n9_ := ak ((by rw [hg]; exact Nat.ne_of_gt (klt (g := gb102) (o := .cells #[.int .i64 a1_0, .slice A1_1 l1_1.length c1_1] 27 (0, 0)) (by (with_reducible repeat (first | refine kdn ?_ _ | refine kdr ?_ | refine kal ?_ _)); exact BK102.out)) : gb103 ≠ gb102)); clear BK101 BK102 HB; have BK101 := n0_; have BK102 := n1_; have HB := n2_; have BK103 := n3_; have GW103 := n4_; have GE103 := n5_; have NB101_103 := n6_; have NB103_101 := n7_; have NB102_103 := n8_; have NB103_102 := n9_; clear n0_ n1_ n2_ n3_ n4_ n5_ n6_ n7_ n8_ n9_; clear hb hbox hg; have hnb64 := NB101_102.out; have hnc64 := NB102_101.out; have hnb65 := NB101_103.out; have hnc65 := NB103_101.out; have hcz66_0 : w63.cell? ⟨gb101, 0, none⟩ = some (.int .i64 a0_0) := (kce BK101.out 0).trans rfl; have hcz66_1 : w63.cell? ⟨gb101, 1, none⟩ = some (.int .i64 a0_1) := (kce BK101.out 1).trans rfl; have hcz66_2 : w63.cell? ⟨gb101, 2, none⟩ = some (.slice A0_2 l0_2.length c0_2) := (kce BK101.out 2).trans rfl; have hfz66_0 := kfz BK101.out 0; have hfz66_1 := kfz BK101.out 1; have hfz66_2 := kfz BK101.out 2; have hnb67 := NB102_103.out; have hnc67 := NB103_102.out; have hcz68_0 : w63.cell? ⟨gb102, 0, none⟩ = some (.int .i64 a1_0) := (kce BK102.out 0).trans rfl; have hcz68_1 : w63.cell? ⟨gb102, 1, none⟩ = some (.slice A1_1 l1_1.length c1_1) := (kce BK102.out 1).trans rfl; have hfz68_0 := kfz BK102.out 0; have hfz68_1 := kfz BK102.out 1) | ((with_reducible refine gate_callee (f := 42) rfl ?_); refine goesL_ (some 15) rfl rfl Try.func42 (by kernel_rfl) rfl #[.agg #[.int .i64 a0_0, .int .i64 a0_1, .slice A0_2 l0_2.length c0_2], .agg #[.int .i64 a1_0, .slice A1_1 l1_1.length c1_1]] rfl (by (try simp only [List.map_toArray, List.map_cons, List.map_nil]); first | done | rfl | (simp only [List.length_drop, List.length_take]; rfl)) ?_; (with_reducible refine (matrix_Check.calls a0_0 a0_1 _ _ l0_2 a1_0 _ _ l1_1 t104 _ ?side1 ?side2 ?side3 ?side4 A3.out).mono ?_); (case side1 => repeat (first | exact (Kd.C_below HR0_2.out HB.out) | (with_reducible refine Kd.C_alloc ?_ _) | (with_reducible refine Kd.C_drewN ?_ _) | (with_reducible refine Kd.C_drew ?_))); (case side2 => exact HC0_2.out); (case side3 => repeat (first | exact (Kd.C_below HR1_1.out HB.out) | (with_reducible refine Kd.C_alloc ?_ _) | (with_reducible refine Kd.C_drewN ?_ _) | (with_reducible refine Kd.C_drew ?_))); (case side4 => exact HC1_1.out); rintro e w69 ⟨rfl, hb⟩; refine ⟨_, rfl, ?_⟩; have n0_ := ak (kbe (g := gb101) (o := .cells #[.int .i64 a0_0, .int .i64 a0_1, .slice A0_2 l0_2.length c0_2] 24 (0, 0)) (by (with_reducible repeat (first | refine kdn ?_ _ | refine kdr ?_ | refine kal ?_ _)); exact BK101.out) hb); have n1_ := ak (kbe (g := gb102) (o := .cells #[.int .i64 a1_0, .slice A1_1 l1_1.length c1_1] 27 (0, 0)) (by (with_reducible repeat (first | refine kdn ?_ _ | refine kdr ?_ | refine kal ?_ _)); exact BK102.out) hb); have n2_ := ak (kbe (g := gb103) (o := .cells #[.int .i64 0, .slice none 0 0] 31 (0, 0)) (by (with_reducible repeat (first | refine kdn ?_ _ | refine kdr ?_ | refine kal ?_ _)); exact BK103.out) hb); have n3_ := ak (bsp (by repeat (first | (with_reducible first | exact HB.out | apply bal | apply pbn | apply bd1 | refine bst ?_ GE101.out | refine bst ?_ GE102.out | refine bst ?_ GE103.out) | exact HB.out)) hb); clear BK101 BK102 BK103 HB; have BK101 := n0_; have BK102 := n1_; have BK103 := n2_; have HB := n3_; clear n0_ n1_ n2_ n3_; (try clear hb); (try clear hb2); (try clear hk); (try clear hi); have hcz70_0 : w69.cell? ⟨gb103, 0, none⟩ = some (.int .i64 0) := (kce BK103.out 0).trans rfl; have hcz70_1 : w69.cell? ⟨gb103, 1, none⟩ = some (.slice none 0 0) := (kce BK103.out 1).trans rfl; have hfz70_0 := kfz BK103.out 0; have hfz70_1 := kfz BK103.out 1))
  refine bodyPost_ret (results_ct rfl _ _ gb103 31 #[.int .i64 0, .slice none 0 0] (0, 0) _ rfl (by (with_reducible repeat (first | refine kdn ?_ _ | refine kdr ?_ | refine kal ?_ _)); refine blk_put (cs := #[.int .i64 0, .slice none 0 0]) ?_ 1 _ rfl; (with_reducible repeat (first | refine kdn ?_ _ | refine kdr ?_ | refine kal ?_ _)); refine blk_put (cs := #[.int .i64 0, .slice none 0 0]) ?_ 0 _ rfl; (with_reducible repeat (first | refine kdn ?_ _ | refine kdr ?_ | refine kal ?_ _)); exact BK103.out) Try.underlying31 rfl (by kernel_rfl)) rfl ?_
  exact ⟨_, by first | rfl | (simp <;> rfl) | (simp [*] <;> rfl), by first | exact Kd.S_nil _ _ _ _ _ | exact Kd.N_nil _ _ _ _ _ | exact Kd.V_nil _ _ _ _ _ | exact Kd.Q_nil _ _ _ _ _ | exact Kd.R_nil _ _ _ _ _, by repeat (first | (with_reducible first | exact HB.out | apply bal | apply pbn | apply bd1 | refine bst ?_ GE101.out | refine bst ?_ GE102.out | refine bst ?_ GE103.out) | exact HB.out)⟩
end Go.Proofs.Ytkifipakikbhcaa.Pm
namespace Go.Proofs.Ytkifipakikbhcaa.La
open Ytkifipakikbhcaa.Ref Ytkifipakikbhcaa.Pg Ytkifipakikbhcaa.Pk Ytkifipakikbhcaa.Pm Ytkifipakikbhcaa.Hand
open Go.RowKit YtkifipakikbhcaaW.PrintWords YtkifipakikbhcaaW.PrintLast YtkifipakikbhcaaW.PrintMore
theorem info3 : (Try.prog.info? 3).map (fun i => (i.zero, i.size, i.bytes)) = some (some (.int .i64 0), 1, 8) := by kernel_rfl
def rd_L1 (xs : List (List Int)) (i : Int) : (List Int) := xs.getD i.toNat ([] : List Int)
end Go.Proofs.Ytkifipakikbhcaa.La
namespace Go.Proofs.Ytkifipakikbhcaa.Hand
open Ytkifipakikbhcaa.Ref Ytkifipakikbhcaa.Pg
open Ytkifipakikbhcaa.Gf (IsS109 field_GF_Is.f field_GF_Is.calls)
open Go.RowKit YtkifipakikbhcaaW.PrintWords YtkifipakikbhcaaW.PrintLast YtkifipakikbhcaaW.PrintMore
attribute [local go_sem ↓] Go.wp_at_zero Go.wp_at_succ
theorem eg62 : ∀ args w, (callFunc 62 args).run Try.prog w = .ok (.enter 62 args) w := enters_of Try.func62 (by kernel_rfl) rfl
theorem eg66 : ∀ args w, (callFunc 66 args).run Try.prog w = .ok (.enter 66 args) w := enters_of Try.func66 (by kernel_rfl) rfl
theorem eg70 : ∀ args w, (callFunc 70 args).run Try.prog w = .ok (.enter 70 args) w := enters_of Try.func70 (by kernel_rfl) rfl
def isB (q x : Int) : Bool := decide (0 ≤ x) && decide (x < q)
theorem is_f (P M : Int) (md : List Int) (q : Int) (ex lg : List Int) (x : Int) : field_GF_Is.f P M md q ex lg x = some (isB q x, P, M, q) := by
 unfold Gf.field_GF_Is.f isB
 by_cases h : x ≥ 0
 ·rw [if_pos h]; simp [show 0 ≤ x from h]
 ·rw [if_neg h]; simp [show ¬ 0 ≤ x from h]
theorem closure62 (x : Int) (g b13 : Nat) (P M : Int) (md : List Int) (q : Int) (ex lg : List Int) (w0 W : World) (hne : b13 ≠ g) (hI : IsS109 w0 W g P M md q ex lg) (hB : Below w0.heap.size w0 W) (hc : W.cell? ⟨b13, 0, none⟩ = some (.pointer (some ⟨g, 0, none⟩))) :
  Calls Try.prog 62 #[.int .i64 x, .pointer (some ⟨b13, 0, none⟩)] W fun e W' => e = .returned (.bool (!isB q x)) ∧ IsS109 w0 W' g P M md q ex lg ∧ Below w0.heap.size w0 W' ∧ W'.cell? ⟨b13, 0, none⟩ = some (.pointer (some ⟨g, 0, none⟩)) := by
 have HI := ak hI
 have HB := ak hB
 have HNE := ak hne
 have HIS := ak (is_f P M md q ex lg x)
 obtain ⟨b, hb⟩ : ∃ b, isB q x = b := ⟨_, rfl⟩
 rw [hb] at HIS ⊢
 clear hI hB hne hb
 go_enter Try.func62, Try.ntmps62
 go_wp2_with (go_at_call 63; (with_reducible refine (field_GF_Is.calls g P M md q ex lg x _ _ _ _ w0 W HI.out HB.out HIS.out).mono ?_); rintro e w2 ⟨rfl, hI, hB, hk⟩; have HI2 := ak hI; have HB2 := ak hB; have HC2 := ak (keep_cell hk hc (fun h => HNE.out h)); clear hI hB hk)
 go_ret
 exact ⟨rfl, HI2.out, HB2.out, HC2.out⟩
theorem closure70 (x : Int) (b15 : Nat) (A : Option Addr) (c : Nat) (inn : List Bool) (W : World) (hc : W.cell? ⟨b15, 0, none⟩ = some (.slice A inn.length c)) (hr : Kd.C Kd.bool W A inn.length inn) (h0 : 0 ≤ x) (h1 : x < inn.length) :
  Calls Try.prog 70 #[.int .i64 x, .pointer (some ⟨b15, 0, none⟩)] W fun e W' => e = .returned (.bool (inAt inn x)) ∧ W = W' := by
 have r0 := eq_true h0
 have r1 := eq_true h1
 obtain ⟨ad, e, hx⟩ := Kd.at_bool hr x h0 h1
 subst e
 clear h0 h1
 go_enter Try.func70, Try.ntmps70
 go_wp2
 go_ret
 exact ⟨rfl, rfl⟩
theorem closure66 (x i : Int) (b18 b15 : Nat) (A : Option Addr) (c : Nat) (inn : List Bool) (W : World) (hi : W.cell? ⟨b18, 0, none⟩ = some (.int .i64 i)) (hc : W.cell? ⟨b15, 0, none⟩ = some (.slice A inn.length c)) (hr : Kd.C Kd.bool W A inn.length inn) (h0 : 0 ≤ x) (h1 : x < inn.length) :
  Calls Try.prog 66 #[.int .i64 x, .pointer (some ⟨b18, 0, none⟩), .pointer (some ⟨b15, 0, none⟩)] W fun e W' => e = .returned (.bool (!decide (x = i) && inAt inn x)) ∧ W = W' := by
 have r0 := eq_true h0
 have r1 := eq_true h1
 obtain ⟨ad, e, hx⟩ := Kd.at_bool hr x h0 h1
 subst e
 clear h0 h1
 by_cases h : x = i
 ·have t1 : (x != i) = false := by simp [h]
  have t2 : decide (x = i) = true := det h
  rw [t2]
  clear h t2
  go_enter Try.func66, Try.ntmps66
  go_wp2
  go_ret
  exact ⟨rfl, rfl⟩
 ·have t1 : (x != i) = true := by simp [h]
  have t2 : decide (x = i) = false := dff h
  rw [t2]
  clear h t2
  go_enter Try.func66, Try.ntmps66
  go_wp2
  go_ret
  exact ⟨rfl, rfl⟩
end Go.Proofs.Ytkifipakikbhcaa.Hand
namespace Go.Proofs.Ytkifipakikbhcaa.Hand
open Ytkifipakikbhcaa.Ref
open Go.RowKit YtkifipakikbhcaaW.PrintWords YtkifipakikbhcaaW.PrintLast YtkifipakikbhcaaW.PrintMore
attribute [local go_sem ↓] Go.wp_at_zero Go.wp_at_succ
theorem Clone_calls (A : Option Addr) (c : Nat) (l : List Int) (w : World) (hr : Kd.C (Kd.int .i64) w A l.length l) (hc : l.length ≤ c) (hl : l.length ≤ 1000000) :
  Calls Try.prog 64 #[.slice A l.length c] w fun e w' => ∃ v0_ : Value, e = .returned v0_ ∧ Kd.R (Kd.int .i64) 3 w' w.heap.size (fun _ => True) v0_ l ∧ Below w.heap.size w w' := by
 have HR := ak hr
 have HL := ak hl
 have hnil := fun (W : World) (a : Option Addr) (n c : Nat) => Lib.run_eql_slice_nil (P := Try.prog) W 22 3 a n c 0 0 Try.underlying22
 clear hc hl
 cases A with
 | none =>
  have hl0 : l = [] := by
   cases l with
   | nil => rfl
   | cons x l =>
    obtain ⟨ad, e, -⟩ := Kd.at_int hr 0 (by omega) (by simp)
    exact absurd e (by simp)
  subst hl0
  clear hr
  go_enter Try.func64, Try.ntmps64
  go_wp2
  go_ret
  exact ⟨_, rfl, Kd.R_nil _ _ _ _ _, Below.refl _ _⟩
 | some ad =>
  clear hr
  go_enter Try.func64, Try.ntmps64
  go_wp2_with (first | ((with_reducible refine gate_dst (N := 5) rfl ?_); refine Kd.R_lit (Kd.int .i64) _ 3 ?hg (N := 5) ?hd (xs := ([] : List Int)) (inner := []) (ok := fun _ => True) (okp := fun _ => True) ?hr ?hp (fun _ hk => hk) trivial (Below.refl _ _) (Nat.le_refl _) (by simp) ?_; (case hd => rfl); (case hg => rfl); (case hr => (go_simp; done)); (case hp => exact (Reps.none _ _)); intro v5 w1 ho hb hg_ hnew_; have HO := ak ho; have HB := ak hb; clear ho hb hg_ hnew_) | ((with_reducible refine gate_builtin (b := .append) (xs := #[.tmp 5, .tmp 6]) rfl ?_); at_builtin; refine Kd.R_append_rows (Kd.int .i64) (w0 := w) w.heap.size rfl (.tmp 5) (.tmp 6) 22 3 (.int .i64 0) 8 rfl Try.underlying22 Go.Proofs.Ytkifipakikbhcaa.Ref.info3 rfl (by decide) (by omega) v5 [] l _ _ _ (fun _ => True) (fun _ => False) rfl rfl ?aO ?aR (fun _ _ h => h) (fun _ h => h.elim) ?aF ?aB ?aS ?aL ?_; (case aR => exact Kd.C_below HR.out HB.out); (case aB => exact HB.out); (case aF => exact (fun _ _ => trivial)); (case aO => exact HO.out); (case aS => exact bsz HB.out); (case aL => have := HL.out; simp only [List.length_nil]; omega); intro v7 w2 ho hb hg hat; rw [List.nil_append] at ho; have HO2 := ak ho; have HB2 := ak hb; clear ho hb hg hat))
  go_ret
  exact ⟨_, rfl, HO2.out, HB2.out⟩
end Go.Proofs.Ytkifipakikbhcaa.Hand
namespace Go.Proofs.Ytkifipakikbhcaa.Pc
open Ytkifipakikbhcaa.Ref
open Go.RowKit YtkifipakikbhcaaW.PrintWords YtkifipakikbhcaaW.PrintLast YtkifipakikbhcaaW.PrintMore
def slices_Index_int_int.l0 : Nat → List Int → Int → Int → Int → Option (Int)
 | 0, _, _, _, _ => none
 | k + 1, x0, x1, x7, x8 => if x8 < x7 then (if 0 ≤ x8 then (if x8 < (x0.length : Int) then (if x1 = (rd x0 x8) then (some x8) else (slices_Index_int_int.l0 k x0 x1 x7 (wrap64 (x8 + 1)))) else (none)) else (none)) else (some (-1))
def slices_Index_int_int.f (k : Nat) (l0 : List Int) (a1 : Int) : Option (Int) := slices_Index_int_int.l0 k l0 a1 (l0.length : Int) 0
theorem slices_Index_int_int.calls (k : Nat) (A0 : Option Addr) (c0 : Nat) (l0 : List Int) (a1 : Int) (r : Int) (w : World) (hr0 : Kd.C (Kd.int .i64) w A0 l0.length l0) (hc0 : l0.length ≤ c0) (h : slices_Index_int_int.f k l0 a1 = some r) :
  Calls Try.prog 89 #[.slice A0 l0.length c0, .int .i64 a1] w fun e w' => e = .returned (.int .i64 r) ∧ Drawn0 w w' := by
 have HR0 := ak hr0
 have HC0 := ak hc0
 clear hr0 hc0
 have H : (slices_Index_int_int.l0 k l0 a1 (l0.length : Int) 0) = some r := h
 clear h
 have H' := ak H
 clear H
 go_enter Try.func89, Try.ntmps89
 go_wp2
 go_loopg [8] k (fun kq v8 w' => ∃ (x8_1 : Int), v8 = .int .i64 x8_1 ∧ Aside0 (slices_Index_int_int.l0 kq l0 a1 (l0.length : Int) x8_1 = some r) ∧ Aside0 (kq ≤ k) ∧ Drawn0 w w')
 case atStart => exact ⟨(0), (by first | rfl | (simp; done) | (simp [*]; done)), H', ⟨Nat.le_refl _⟩, by repeat (first | exact Drawn0.refl _ | apply Drawn0.step)⟩
 case round =>
  clear H'
  obtain ⟨x8_1, rfl, HA, HK1, ⟨m1, rfl⟩⟩ := hrel
  cases gk with
  | zero => exact absurd HA.out (by simp [slices_Index_int_int.l0])
  | succ k1 =>
   have H := HA.out
   clear HA
   simp only [slices_Index_int_int.l0] at H
   by_cases c3 : x8_1 < (l0.length : Int)
   ·rw [if_pos c3] at H
    have c3b0 : decide (x8_1 < (l0.length : Int)) = true := det c3
    clear c3
    by_cases c4 : 0 ≤ x8_1
    ·rw [if_pos c4] at H
     have c4b0 : decide (0 ≤ x8_1) = true := det c4
     clear c4
     by_cases c5 : x8_1 < (l0.length : Int)
     ·rw [if_pos c5] at H
      have c5b0 : decide (x8_1 < (l0.length : Int)) = true := det c5
      clear c5
      by_cases c6 : a1 = (rd l0 x8_1)
      ·rw [if_pos c6] at H
       have c6b0 : (a1 == (rd l0 x8_1)) = true := beq_iff_eq.mpr c6
       have c6b1 : (a1 != (rd l0 x8_1)) = false := bnm c6
       clear c6
       obtain rfl := osi H
       have p101 : 0 ≤ (x8_1 : Int) := odt (by with_reducible assumption)
       have q101 : x8_1 < (l0.length : Int) := odt (by with_reducible assumption)
       obtain ⟨ad101, e101, hx101_0⟩ := Kd.at_int HR0.out x8_1 p101 q101
       cases e101
       replace p101 := eq_true p101
       replace q101 := eq_true q101
       go_wp2
       go_ret
       exact ⟨by rfl, by repeat (first | exact Drawn0.refl _ | apply Drawn0.step)⟩
      ·rw [if_neg c6] at H
       have c6b0 : (a1 == (rd l0 x8_1)) = false := bqm c6
       have c6b1 : (a1 != (rd l0 x8_1)) = true := bne_iff_ne.mpr c6
       have H' := ak H
       clear H
       have p101 : 0 ≤ (x8_1 : Int) := odt (by with_reducible assumption)
       have q101 : x8_1 < (l0.length : Int) := odt (by with_reducible assumption)
       obtain ⟨ad101, e101, hx101_0⟩ := Kd.at_int HR0.out x8_1 p101 q101
       cases e101
       replace p101 := eq_true p101
       replace q101 := eq_true q101
       go_wp2
       go_roundg k1
       case measure => have := HK1.out; omega
       case rel => exact ⟨(wrap64 (x8_1 + 1)), (by rfl), H', ⟨by have := HK1.out; omega⟩, by repeat (first | exact Drawn0.refl _ | apply Drawn0.step)⟩
     ·rw [if_neg c5] at H
      exact absurd H (by simp)
    ·rw [if_neg c4] at H
     exact absurd H (by simp)
   ·rw [if_neg c3] at H
    have c3b0 : decide (x8_1 < (l0.length : Int)) = false := dff c3
    clear c3
    obtain rfl := osi H
    go_wp2
    go_ret
    exact ⟨by rfl, by repeat (first | exact Drawn0.refl _ | apply Drawn0.step)⟩
def slices_Contains_int_int.f (k : Nat) (l0 : List Int) (a1 : Int) : Option (Bool) := (slices_Index_int_int.f k l0 a1).bind fun t102 => (some (decide (t102 ≥ 0)))
theorem slices_Contains_int_int.calls (k : Nat) (A0 : Option Addr) (c0 : Nat) (l0 : List Int) (a1 : Int) (r : Bool) (w : World) (hr0 : Kd.C (Kd.int .i64) w A0 l0.length l0) (hc0 : l0.length ≤ c0) (h : slices_Contains_int_int.f k l0 a1 = some r) :
  Calls Try.prog 65 #[.slice A0 l0.length c0, .int .i64 a1] w fun e w' => e = .returned (.bool r) ∧ Drawn0 w w' := by
 have HR0 := ak hr0
 have HC0 := ak hc0
 clear hr0 hc0
 have H : ((slices_Index_int_int.f k l0 a1).bind fun t102 => (some (decide (t102 ≥ 0)))) = some r := h
 clear h
 replace H := obm H
 obtain ⟨t102, A30, H⟩ := H
 replace H : (some (decide (t102 ≥ 0))) = some r := H
 have A3 := ak A30
 clear A30
 obtain rfl := osi H
 go_enter Try.func65, Try.ntmps65
 go_wp2_with (first | ((with_reducible refine gate_callee (f := 89) rfl ?_); refine goesL_ (some 7) rfl rfl Try.func89 (by kernel_rfl) rfl #[.slice A0 l0.length c0, .int .i64 a1] rfl (by (try simp only [List.map_toArray, List.map_cons, List.map_nil]); first | done | rfl | (simp only [List.length_drop, List.length_take]; rfl)) ?_; (with_reducible refine (slices_Index_int_int.calls k _ _ l0 a1 t102 _ ?side1 ?side2 A3.out).mono ?_); (case side1 => repeat (first | exact HR0.out | (with_reducible refine Kd.C_alloc ?_ _) | (with_reducible refine Kd.C_drewN ?_ _) | (with_reducible refine Kd.C_drew ?_))); (case side2 => exact HC0.out); rintro e w' ⟨rfl, ⟨nd, rfl⟩⟩; refine ⟨_, rfl, ?_⟩))
 go_ret
 exact ⟨by first | rfl | (simp; done) | (simp [*]; done), by repeat (first | exact Drawn0.refl _ | apply Drawn0.step)⟩
end Go.Proofs.Ytkifipakikbhcaa.Pc
namespace Go.Proofs.Ytkifipakikbhcaa.Gf
open Ytkifipakikbhcaa.Ref
open Go.RowKit YtkifipakikbhcaaW.PrintWords YtkifipakikbhcaaW.PrintLast YtkifipakikbhcaaW.PrintMore
attribute [local go_sem] max2_int min2_int max_two min_two max_three min_three max_four min_four
def field_GF_Dot.l0 : Nat → List Int → List Int → Int → Int → Int → Int → Int → List Int → Int → List Int → List Int → Option (Int × Int × Int × Int)
 | 0, _, _, _, _, _, _, _, _, _, _, _ => none
 | k + 1, x1, x2, x7, x13, x14, x1000, x1001, x1002, x1003, x1004, x1005 => if x14 < x13 then (if 0 ≤ x14 then (if x14 < (x1.length : Int) then (if x14 < (x2.length : Int) then ((field_GF_Mul.f x1000 x1001 x1002 x1003 x1004 x1005 (rd x1 x14) (rd x2 x14)).bind fun bt141 => ((field_GF_Add.f k bt141.2.1 bt141.2.2.1 x1002 bt141.2.2.2 x1004 x1005 x7 bt141.1).bind fun bt145 => (field_GF_Dot.l0 k x1 x2 bt145.1 x13 (wrap64 (x14 + 1)) bt145.2.1 bt145.2.2.1 x1002 bt145.2.2.2 x1004 x1005))) else (none)) else (none)) else (none)) else (some (x7, x1000, x1001, x1003))
def field_GF_Dot.f (k : Nat) (s0_0 : Int) (s0_1 : Int) (s0_2 : List Int) (s0_3 : Int) (s0_4 : List Int) (s0_5 : List Int) (l1 : List Int) (l2 : List Int) : Option (Int × Int × Int × Int) := field_GF_Dot.l0 k l1 l2 0 (mn (l1.length : Int) (l2.length : Int)) 0 s0_0 s0_1 s0_2 s0_3 s0_4 s0_5
def field_GF_Dot.T5 : Bool × List (List Nat × List Nat) := (true, [([], []), ([], []), ([], []), ([], []), ([], []), ([3, 4], [3, 4]), ([5], [5]), ([], []), ([], []), ([7, 8], [7, 8]), ([9], [9]), ([2, 6, 10], [2, 6, 10]), ([0, 1, 11, 11], [0, 1, 11]), ([12, 12, 0, 1, 2, 3, 4, 5, 6, 7, 8, 9, 10, 11, 12], [1, 12])])
def field_GF_Dot.B5 : List Nat := [0, 0, 0, 0, 0, 24, 56, 0, 0, 384, 896, 2044, 4095, 8191]
theorem field_GF_Dot.tab5 : rtab .any (opsOf Try.f68 5) = field_GF_Dot.T5 := by kernel_rfl
theorem field_GF_Dot.bits5 : waitsOk field_GF_Dot.T5.2 field_GF_Dot.B5 = true := by kernel_rfl
theorem field_GF_Dot.calls_lt (k : Nat) (g : Nat) (s0_0 : Int) (s0_1 : Int) (s0_2 : List Int) (s0_3 : Int) (s0_4 : List Int) (s0_5 : List Int) (A1 : Option Addr) (c1 : Nat) (l1 : List Int) (A2 : Option Addr) (c2 : Nat) (l2 : List Int) (r1 : Int) (r2 : Int) (r3 : Int) (r4 : Int) (w0 w : World) (hI : IsS109 w0 w g s0_0 s0_1 s0_2 s0_3 s0_4 s0_5) (hB : Below w0.heap.size w0 w) (hr1 : Kd.C (Kd.int .i64) w A1 l1.length l1) (hc1 : l1.length ≤ c1) (hf1 : ∀ ad, A1 = some ad → 0 < l1.length → ad.block ≠ g) (hr2 : Kd.C (Kd.int .i64) w A2 l2.length l2) (hc2 : l2.length ≤ c2) (hf2 : ∀ ad, A2 = some ad → 0 < l2.length → ad.block ≠ g) (hlt : (l2.length : Int) < (l1.length : Int)) (h : field_GF_Dot.f k s0_0 s0_1 s0_2 s0_3 s0_4 s0_5 l1 l2 = some (r1, r2, r3, r4)) :
  Calls Try.prog 68 #[.pointer (some ⟨g, 0, none⟩), .slice A1 l1.length c1, .slice A2 l2.length c2] w fun e w' => e = .returned (.int .i64 r1) ∧ IsS109 w0 w' g r2 r3 s0_2 r4 s0_4 s0_5 ∧ Below w0.heap.size w0 w' ∧ KeepBut w w' g none := by
 have HR1 := ak hr1
 have HC1 := ak hc1
 clear hr1 hc1
 have HR2 := ak hr2
 have HC2 := ak hc2
 clear hr2 hc2
 have HI0 := ak hI
 have HK := ak (KeepBut.refl w g none)
 have HL := ak hB.size
 clear hI
 have HW0 := ak hB.size
 have HB := ak hB
 clear hB
 have H : (field_GF_Dot.l0 k l1 l2 0 (mn (l1.length : Int) (l2.length : Int)) 0 s0_0 s0_1 s0_2 s0_3 s0_4 s0_5) = some (r1, r2, r3, r4) := h
 clear h
 obtain ⟨ji4, hji4⟩ : ∃ j_ : Int, (mn (l1.length : Int) (l2.length : Int)) = j_ := ⟨_, rfl⟩
 replace H : (field_GF_Dot.l0 k l1 l2 0 ji4 0 s0_0 s0_1 s0_2 s0_3 s0_4 s0_5) = some (r1, r2, r3, r4) := by (rw [hji4] at H; exact H)
 (try (have hji4l : 0 ≤ ji4 := by (rw [← hji4]; unfold mn; (repeat' split) <;> omega)))
 (try (have hji4m : 0 ≤ ji4 := by omega))
 have hji4_ : (if (l2.length : Int) < (l1.length : Int) then (l2.length : Int) else (l1.length : Int)) = ji4 := hji4
 have H' := ak H
 clear H
 have hdec := eq_true hlt
 have HLEN := ak (show (l2.length : Int) = ji4 by rw [← hji4_]; split <;> omega)
 go_enter Try.func68, Try.ntmps68
 go_wp2
 simp only [HLEN.out]
 go_loopg [7, 14] k (fun kq v7 v14 w' => ∃ (x7_1 : Int) (x14_1 : Int) (x1000_1 : Int) (x1001_1 : Int) (x1003_1 : Int), v7 = .int .i64 x7_1 ∧ v14 = .int .i64 x14_1 ∧ Aside0 (field_GF_Dot.l0 kq l1 l2 x7_1 ji4 x14_1 x1000_1 x1001_1 s0_2 x1003_1 s0_4 s0_5 = some (r1, r2, r3, r4)) ∧ Aside0 (kq ≤ k) ∧ Aside0 (IsS109 w0 w' g x1000_1 x1001_1 s0_2 x1003_1 s0_4 s0_5) ∧ Aside0 (KeepBut w w' g none) ∧ Aside0 (Below w0.heap.size w0 w'))
 case atStart => exact ⟨(0), (0), (s0_0), (s0_1), (s0_3), (by first | rfl | (simp; done) | (simp [*]; done)), (by first | rfl | (simp; done) | (simp [*]; done)), H', ⟨Nat.le_refl _⟩, ⟨by repeat (first | (with_reducible first | exact HI0.out | apply IsS109.alloc | apply IsS109.drewN | apply IsS109.drew | apply IsS109.set_0 | apply IsS109.set_1 | apply IsS109.set_3) | exact HI0.out)⟩, ⟨by repeat (first | (with_reducible first | exact HK.out | apply KeepBut.set_ | apply keep_drewN | apply keep_drew | apply keep_alloc) | exact HK.out)⟩, ⟨by repeat (first | (with_reducible first | exact HB.out | apply bal | apply pbn | apply bd1 | refine bst ?_ (IsS109.ge HI0.out)) | exact HB.out)⟩⟩
 case round =>
  clear H'
  obtain ⟨x7_1, x14_1, x1000_1, x1001_1, x1003_1, rfl, rfl, HA, HK1, HI0, HK, HB⟩ := hrel
  cases gk with
  | zero => exact absurd HA.out (by simp [field_GF_Dot.l0])
  | succ k1 =>
   have H := HA.out
   clear HA
   simp only [field_GF_Dot.l0] at H
   by_cases c5 : x14_1 < ji4
   ·rw [if_pos c5] at H
    have c5b0 : decide (x14_1 < ji4) = true := det c5
    clear c5
    by_cases c6 : 0 ≤ x14_1
    ·rw [if_pos c6] at H
     have c6b0 : decide (0 ≤ x14_1) = true := det c6
     clear c6
     by_cases c7 : x14_1 < (l1.length : Int)
     ·rw [if_pos c7] at H
      have c7b0 : decide (x14_1 < (l1.length : Int)) = true := det c7
      clear c7
      by_cases c8 : x14_1 < (l2.length : Int)
      ·rw [if_pos c8] at H
       have c8b0 : decide (x14_1 < (l2.length : Int)) = true := det c8
       clear c8
       replace H := obm H
       obtain ⟨⟨t141, t142, t143, t144⟩, A90, H⟩ := H
       replace H : ((field_GF_Add.f k1 t142 t143 s0_2 t144 s0_4 s0_5 x7_1 t141).bind fun bt145 => (field_GF_Dot.l0 k1 l1 l2 bt145.1 ji4 (wrap64 (x14_1 + 1)) bt145.2.1 bt145.2.2.1 s0_2 bt145.2.2.2 s0_4 s0_5)) = some (r1, r2, r3, r4) := H
       have A9 := ak A90
       clear A90
       replace H := obm H
       obtain ⟨⟨t145, t146, t147, t148⟩, A100, H⟩ := H
       replace H : (field_GF_Dot.l0 k1 l1 l2 t145 ji4 (wrap64 (x14_1 + 1)) t146 t147 s0_2 t148 s0_4 s0_5) = some (r1, r2, r3, r4) := H
       have A10 := ak A100
       clear A100
       have H' := ak H
       clear H
       try (go_wp2)
       have n0_ := ak (IsS109.drew HI0.out)
       have n1_ := ak (keep_drew HK.out)
       have n2_ := ak (bd1 HB.out)
       clear HI0
       clear HK
       clear HB
       have HI0 := n0_
       have HK := n1_
       have HB := n2_
       clear n0_ n1_ n2_
       have p139 : 0 ≤ (x14_1 : Int) := odt (by with_reducible assumption)
       have q139 : x14_1 < (l1.length : Int) := odt (by with_reducible assumption)
       obtain ⟨ad139, e139, hx139_0⟩ := Kd.at_int HR1.out x14_1 p139 q139
       have hw139_0 := hx139_0
       cases e139
       have hne139_0 := (show ((ad139.add (x14_1).toNat) : Addr).block ≠ g from by (rw [add_block]; exact hf1 ad139 rfl (by omega)))
       replace hx139_0 := keep_cell HK.out hx139_0 (by (rw [add_block]; exact hf1 _ rfl (by omega)))
       replace p139 := eq_true p139
       replace q139 := eq_true q139
       have p140 : 0 ≤ (x14_1 : Int) := odt (by with_reducible assumption)
       have q140 : x14_1 < (l2.length : Int) := odt (by with_reducible assumption)
       obtain ⟨ad140, e140, hx140_0⟩ := Kd.at_int HR2.out x14_1 p140 q140
       have hw140_0 := hx140_0
       cases e140
       have hne140_0 := (show ((ad140.add (x14_1).toNat) : Addr).block ≠ g from by (rw [add_block]; exact hf2 ad140 rfl (by omega)))
       replace hx140_0 := keep_cell HK.out hx140_0 (by (rw [add_block]; exact hf2 _ rfl (by omega)))
       replace p140 := eq_true p140
       replace q140 := eq_true q140
       refine start_ (n := 14) (S := fun w' => w'.cell? (ad139.add (x14_1).toNat) = some (.int .i64 (rd l1 x14_1)) ∧ w'.cell? (ad140.add (x14_1).toNat) = some (.int .i64 (rd l2 x14_1))) (ds := []) #[false, false, false, false, false, false, false, false, false, false, false, false, false, false] (by kernel_rfl) rfl rfl ⟨(keep_cell HK.out hw139_0 hne139_0), (keep_cell HK.out hw140_0 hne140_0)⟩ (fun hHeld => ?_); refine with_tabW field_GF_Dot.tab5 field_GF_Dot.bits5 (fun HT_ HW_ => ?_)
       generalize wr.drew = w11 at HI0 HK HB hx139_0 hx140_0 hHeld ⊢
       refine pure_ (i := 0) (N := some 17) (v := ?_) (a' := ?_) #[true, false, false, false, false, false, false, false, false, false, false, false, false, false] rfl rfl (any_of HT_.out (by kernel_rfl)) (fun _ _ _ h => h) (Or.inl ⟨by rfl, ?_⟩) ?_ ?_
       rotate_left
       ·intro w'
        go_simp
        with_reducible rfl
       rotate_left
       ·simp only [Act.put, sia, scz, scs, i64_w, i32_w]
        rfl
       refine pure_ (i := 1) (N := some 18) (v := ?_) (a' := ?_) #[true, true, false, false, false, false, false, false, false, false, false, false, false, false] rfl rfl (any_of HT_.out (by kernel_rfl)) (fun _ _ _ h => h) (Or.inl ⟨by rfl, ?_⟩) ?_ ?_
       rotate_left
       ·intro w'
        go_simp
        with_reducible rfl
       rotate_left
       ·simp only [Act.put, sia, scz, scs, i64_w, i32_w]
        rfl
       refine pure_ (i := 2) (N := some 19) (v := ?_) (a' := ?_) #[true, true, true, false, false, false, false, false, false, false, false, false, false, false] rfl rfl (any_of HT_.out (by kernel_rfl)) (fun _ _ _ h => h) (Or.inl ⟨by rfl, ?_⟩) ?_ ?_
       rotate_left
       ·intro w'
        go_simp
        with_reducible rfl
       rotate_left
       ·simp only [Act.put, sia, scz, scs, i64_w, i32_w]
        rfl
       refine pure_ (i := 3) (N := some 20) (v := ?_) (a' := ?_) #[true, true, true, true, false, false, false, false, false, false, false, false, false, false] rfl rfl (any_of HT_.out (by kernel_rfl)) (fun _ _ _ h => h) (Or.inl ⟨by rfl, ?_⟩) ?_ ?_
       rotate_left
       ·intro w'
        go_simp
        with_reducible rfl
       rotate_left
       ·simp only [Act.put, sia, scz, scs, i64_w, i32_w]
        rfl
       refine pure_ (i := 4) (N := some 21) (v := ?_) (a' := ?_) #[true, true, true, true, true, false, false, false, false, false, false, false, false, false] rfl rfl (any_of HT_.out (by kernel_rfl)) (fun _ _ _ h => h) (Or.inl ⟨by rfl, ?_⟩) ?_ ?_
       rotate_left
       ·intro w'
        go_simp
        with_reducible rfl
       rotate_left
       ·simp only [Act.put, sia, scz, scs, i64_w, i32_w]
        rfl
       refine pure_ (i := 5) (N := some 22) (v := ?_) (a' := ?_) #[true, true, true, true, true, true, false, false, false, false, false, false, false, false] rfl rfl (any_of HT_.out (by kernel_rfl)) (fun _ _ _ h => h) (Or.inl ⟨by rfl, ?_⟩) ?_ ?_
       rotate_left
       ·intro w'
        go_simp
        with_reducible rfl
       rotate_left
       ·simp only [Act.put, sia, scz, scs, i64_w, i32_w]
        rfl
       refine pure_ (i := 7) (N := some 24) (v := ?_) (a' := ?_) #[true, true, true, true, true, true, false, true, false, false, false, false, false, false] rfl rfl (any_of HT_.out (by kernel_rfl)) (fun _ _ _ h => h) (Or.inl ⟨by rfl, ?_⟩) ?_ ?_
       rotate_left
       ·intro w'
        go_simp
        with_reducible rfl
       rotate_left
       ·simp only [Act.put, sia, scz, scs, i64_w, i32_w]
        rfl
       refine pure_ (i := 8) (N := some 25) (v := ?_) (a' := ?_) #[true, true, true, true, true, true, false, true, true, false, false, false, false, false] rfl rfl (any_of HT_.out (by kernel_rfl)) (fun _ _ _ h => h) (Or.inl ⟨by rfl, ?_⟩) ?_ ?_
       rotate_left
       ·intro w'
        go_simp
        with_reducible rfl
       rotate_left
       ·simp only [Act.put, sia, scz, scs, i64_w, i32_w]
        rfl
       refine pure_ (i := 9) (N := some 26) (v := ?_) (a' := ?_) #[true, true, true, true, true, true, false, true, true, true, false, false, false, false] rfl rfl (any_of HT_.out (by kernel_rfl)) (fun _ _ _ h => h) (Or.inl ⟨by rfl, ?_⟩) ?_ ?_
       rotate_left
       ·intro w'
        go_simp
        with_reducible rfl
       rotate_left
       ·simp only [Act.put, sia, scz, scs, i64_w, i32_w]
        rfl
       refine take_ (i := 6) (N := some 23) (v := ?_) (a' := ?_) #[true, true, true, true, true, true, true, true, true, true, false, false, false, false] rfl rfl (take_ofW HT_.out HW_.out (by kernel_rfl)) (fun _ _ _ h => h) (Or.inl ⟨by rfl, ?_⟩) hHeld ?_ ?_
       rotate_left
       ·rintro w' ⟨s0, s1⟩
        go_simp
        with_reducible rfl
       rotate_left
       ·simp only [Act.put, sia, scz, scs, i64_w, i32_w]
        rfl
       refine take_ (i := 10) (N := some 27) (v := ?_) (a' := ?_) #[true, true, true, true, true, true, true, true, true, true, true, false, false, false] rfl rfl (take_ofW HT_.out HW_.out (by kernel_rfl)) (fun _ _ _ h => h) (Or.inl ⟨by rfl, ?_⟩) hHeld ?_ ?_
       rotate_left
       ·rintro w' ⟨s0, s1⟩
        go_simp
        with_reducible rfl
       rotate_left
       ·simp only [Act.put, sia, scz, scs, i64_w, i32_w]
        rfl
       refine one_ (i := 11) (N := some 28) #[true, true, true, true, true, true, true, true, true, true, true, true, false, false] rfl rfl (one_of HT_.out (by kernel_rfl)) (by decide) (fun K hK => ?_)
       refine goes_ Try.func91 (by kernel_rfl) rfl #[.pointer (some ⟨g, 0, none⟩), .int .i64 (rd l1 x14_1), .int .i64 (rd l2 x14_1)] (by rfl) rfl rfl (by (try (simp only [List.map_toArray, List.map_cons, List.map_nil])); rfl) ?_
       with_reducible refine (field_GF_Mul.calls g x1000_1 x1001_1 s0_2 x1003_1 s0_4 s0_5 (rd l1 x14_1) (rd l2 x14_1) t141 t142 t143 t144 w0 _ ?side1 ?side2 A9.out).mono ?_
       (case side1 => repeat (first | (with_reducible first | exact HI0.out | apply IsS109.alloc | apply IsS109.drewN | apply IsS109.drew | apply IsS109.set_0 | apply IsS109.set_1 | apply IsS109.set_3) | exact HI0.out))
       (case side2 => repeat (first | (with_reducible first | exact HB.out | apply bal | apply pbn | apply bd1 | refine bst ?_ (IsS109.ge HI0.out)) | exact HB.out))
       rintro e w12 ⟨rfl, hi, hb, hk⟩
       refine ⟨_, rfl, ?_⟩
       have n0_ := ak (KeepBut.trans (by repeat (first | (with_reducible first | exact HK.out | apply KeepBut.set_ | apply keep_drewN | apply keep_drew | apply keep_alloc) | exact HK.out)) hk (.inl rfl))
       have n1_ := ak (hb)
       have n2_ := ak (hi)
       clear HK
       clear HB
       clear HI0
       have HK := n0_
       have HB := n1_
       have HI0 := n2_
       clear n0_ n1_ n2_
       (try (clear hb))
       (try (clear hk))
       (try (clear hi))
       refine hK.out _ _ ⟨(keep_cell HK.out hw139_0 hne139_0), (keep_cell HK.out hw140_0 hne140_0)⟩ (fun hHeld => ?_)
       clear hK K
       refine norm_ (a' := ?_) ?_ ?_
       rotate_left
       ·show Act.put _ (some 28) _ = _
        simp only [Act.put, sia, scz, scs, i64_w, i32_w]
        rfl
       refine one_ (i := 12) (N := some 29) #[true, true, true, true, true, true, true, true, true, true, true, true, true, false] rfl rfl (one_of HT_.out (by kernel_rfl)) (by decide) (fun K hK => ?_)
       refine goes_ Try.func92 (by kernel_rfl) rfl #[.pointer (some ⟨g, 0, none⟩), .int .i64 x7_1, .int .i64 t141] (by rfl) rfl rfl (by (try (simp only [List.map_toArray, List.map_cons, List.map_nil])); rfl) ?_
       with_reducible refine (field_GF_Add.calls k1 g t142 t143 s0_2 t144 s0_4 s0_5 x7_1 t141 t145 t146 t147 t148 w0 _ ?side1 ?side2 A10.out).mono ?_
       (case side1 => repeat (first | (with_reducible first | exact HI0.out | apply IsS109.alloc | apply IsS109.drewN | apply IsS109.drew | apply IsS109.set_0 | apply IsS109.set_1 | apply IsS109.set_3) | exact HI0.out))
       (case side2 => repeat (first | (with_reducible first | exact HB.out | apply bal | apply pbn | apply bd1 | refine bst ?_ (IsS109.ge HI0.out)) | exact HB.out))
       rintro e w13 ⟨rfl, hi, hb, hk⟩
       refine ⟨_, rfl, ?_⟩
       have n0_ := ak (KeepBut.trans (by repeat (first | (with_reducible first | exact HK.out | apply KeepBut.set_ | apply keep_drewN | apply keep_drew | apply keep_alloc) | exact HK.out)) hk (.inl rfl))
       have n1_ := ak (hb)
       have n2_ := ak (hi)
       clear HK
       clear HB
       clear HI0
       have HK := n0_
       have HB := n1_
       have HI0 := n2_
       clear n0_ n1_ n2_
       (try (clear hb))
       (try (clear hk))
       (try (clear hi))
       refine hK.out _ _ ⟨(keep_cell HK.out hw139_0 hne139_0), (keep_cell HK.out hw140_0 hne140_0)⟩ (fun hHeld => ?_)
       clear hK K
       refine norm_ (a' := ?_) ?_ ?_
       rotate_left
       ·show Act.put _ (some 29) _ = _
        simp only [Act.put, sia, scz, scs, i64_w, i32_w]
        rfl
       refine pure_ (i := 13) (N := some 7) (v := ?_) (a' := ?_) #[true, true, true, true, true, true, true, true, true, true, true, true, true, true] rfl rfl (any_of HT_.out (by kernel_rfl)) (fun _ _ _ h => h) (Or.inl ⟨by rfl, ?_⟩) ?_ ?_
       rotate_left
       ·intro w'
        go_simp
        with_reducible rfl
       rotate_left
       ·simp only [Act.put, sia, scz, scs, i64_w, i32_w]
        rfl
       refine done_ (done_of HT_.out (by kernel_rfl)) ?_
       try (go_wp2)
       go_roundg k1
       case measure => have := HK1.out; omega
       case rel => exact ⟨(t145), (wrap64 (x14_1 + 1)), (t146), (t147), (t148), (by first | rfl | (simp; done) | (simp [*]; done)), (by first | rfl | (simp; done) | (simp [*]; done)), H', ⟨by have := HK1.out; omega⟩, ⟨by repeat (first | (with_reducible first | exact HI0.out | apply IsS109.alloc | apply IsS109.drewN | apply IsS109.drew | apply IsS109.set_0 | apply IsS109.set_1 | apply IsS109.set_3) | exact HI0.out)⟩, ⟨by repeat (first | (with_reducible first | exact HK.out | apply KeepBut.set_ | apply keep_drewN | apply keep_drew | apply keep_alloc) | exact HK.out)⟩, ⟨by repeat (first | (with_reducible first | exact HB.out | apply bal | apply pbn | apply bd1 | refine bst ?_ (IsS109.ge HI0.out)) | exact HB.out)⟩⟩
      ·rw [if_neg c8] at H
       exact absurd H (by simp)
     ·rw [if_neg c7] at H
      exact absurd H (by simp)
    ·rw [if_neg c6] at H
     exact absurd H (by simp)
   ·rw [if_neg c5] at H
    have c5b0 : decide (x14_1 < ji4) = false := dff c5
    clear c5
    simp only [Option.some.injEq, Prod.mk.injEq] at H
    obtain ⟨rfl, rfl, rfl, rfl⟩ := H
    go_wp2
    go_ret
    exact ⟨by first | rfl | (simp <;> rfl) | (simp only [← hji4]; first | rfl | (simp <;> rfl)) | (simp [*] <;> rfl), by repeat (first | (with_reducible first | exact HI0.out | apply IsS109.alloc | apply IsS109.drewN | apply IsS109.drew | apply IsS109.set_0 | apply IsS109.set_1 | apply IsS109.set_3) | exact HI0.out), by repeat (first | (with_reducible first | exact HB.out | apply bal | apply pbn | apply bd1 | refine bst ?_ (IsS109.ge HI0.out)) | exact HB.out), by repeat (first | (with_reducible first | exact HK.out | apply KeepBut.set_ | apply keep_drewN | apply keep_drew | apply keep_alloc) | exact HK.out)⟩
theorem field_GF_Dot.calls_ge (k : Nat) (g : Nat) (s0_0 : Int) (s0_1 : Int) (s0_2 : List Int) (s0_3 : Int) (s0_4 : List Int) (s0_5 : List Int) (A1 : Option Addr) (c1 : Nat) (l1 : List Int) (A2 : Option Addr) (c2 : Nat) (l2 : List Int) (r1 : Int) (r2 : Int) (r3 : Int) (r4 : Int) (w0 w : World) (hI : IsS109 w0 w g s0_0 s0_1 s0_2 s0_3 s0_4 s0_5) (hB : Below w0.heap.size w0 w) (hr1 : Kd.C (Kd.int .i64) w A1 l1.length l1) (hc1 : l1.length ≤ c1) (hf1 : ∀ ad, A1 = some ad → 0 < l1.length → ad.block ≠ g) (hr2 : Kd.C (Kd.int .i64) w A2 l2.length l2) (hc2 : l2.length ≤ c2) (hf2 : ∀ ad, A2 = some ad → 0 < l2.length → ad.block ≠ g) (hlt : ¬ (l2.length : Int) < (l1.length : Int)) (h : field_GF_Dot.f k s0_0 s0_1 s0_2 s0_3 s0_4 s0_5 l1 l2 = some (r1, r2, r3, r4)) :
  Calls Try.prog 68 #[.pointer (some ⟨g, 0, none⟩), .slice A1 l1.length c1, .slice A2 l2.length c2] w fun e w' => e = .returned (.int .i64 r1) ∧ IsS109 w0 w' g r2 r3 s0_2 r4 s0_4 s0_5 ∧ Below w0.heap.size w0 w' ∧ KeepBut w w' g none := by
 have HR1 := ak hr1
 have HC1 := ak hc1
 clear hr1 hc1
 have HR2 := ak hr2
 have HC2 := ak hc2
 clear hr2 hc2
 have HI0 := ak hI
 have HK := ak (KeepBut.refl w g none)
 have HL := ak hB.size
 clear hI
 have HW0 := ak hB.size
 have HB := ak hB
 clear hB
 have H : (field_GF_Dot.l0 k l1 l2 0 (mn (l1.length : Int) (l2.length : Int)) 0 s0_0 s0_1 s0_2 s0_3 s0_4 s0_5) = some (r1, r2, r3, r4) := h
 clear h
 obtain ⟨ji4, hji4⟩ : ∃ j_ : Int, (mn (l1.length : Int) (l2.length : Int)) = j_ := ⟨_, rfl⟩
 replace H : (field_GF_Dot.l0 k l1 l2 0 ji4 0 s0_0 s0_1 s0_2 s0_3 s0_4 s0_5) = some (r1, r2, r3, r4) := by (rw [hji4] at H; exact H)
 (try (have hji4l : 0 ≤ ji4 := by (rw [← hji4]; unfold mn; (repeat' split) <;> omega)))
 (try (have hji4m : 0 ≤ ji4 := by omega))
 have hji4_ : (if (l2.length : Int) < (l1.length : Int) then (l2.length : Int) else (l1.length : Int)) = ji4 := hji4
 have H' := ak H
 clear H
 have hdec := eq_false hlt
 have HLEN := ak (show (l1.length : Int) = ji4 by rw [← hji4_]; split <;> omega)
 go_enter Try.func68, Try.ntmps68
 go_wp2
 simp only [HLEN.out]
 go_loopg [7, 14] k (fun kq v7 v14 w' => ∃ (x7_1 : Int) (x14_1 : Int) (x1000_1 : Int) (x1001_1 : Int) (x1003_1 : Int), v7 = .int .i64 x7_1 ∧ v14 = .int .i64 x14_1 ∧ Aside0 (field_GF_Dot.l0 kq l1 l2 x7_1 ji4 x14_1 x1000_1 x1001_1 s0_2 x1003_1 s0_4 s0_5 = some (r1, r2, r3, r4)) ∧ Aside0 (kq ≤ k) ∧ Aside0 (IsS109 w0 w' g x1000_1 x1001_1 s0_2 x1003_1 s0_4 s0_5) ∧ Aside0 (KeepBut w w' g none) ∧ Aside0 (Below w0.heap.size w0 w'))
 case atStart => exact ⟨(0), (0), (s0_0), (s0_1), (s0_3), (by first | rfl | (simp; done) | (simp [*]; done)), (by first | rfl | (simp; done) | (simp [*]; done)), H', ⟨Nat.le_refl _⟩, ⟨by repeat (first | (with_reducible first | exact HI0.out | apply IsS109.alloc | apply IsS109.drewN | apply IsS109.drew | apply IsS109.set_0 | apply IsS109.set_1 | apply IsS109.set_3) | exact HI0.out)⟩, ⟨by repeat (first | (with_reducible first | exact HK.out | apply KeepBut.set_ | apply keep_drewN | apply keep_drew | apply keep_alloc) | exact HK.out)⟩, ⟨by repeat (first | (with_reducible first | exact HB.out | apply bal | apply pbn | apply bd1 | refine bst ?_ (IsS109.ge HI0.out)) | exact HB.out)⟩⟩
 case round =>
  clear H'
  obtain ⟨x7_1, x14_1, x1000_1, x1001_1, x1003_1, rfl, rfl, HA, HK1, HI0, HK, HB⟩ := hrel
  cases gk with
  | zero => exact absurd HA.out (by simp [field_GF_Dot.l0])
  | succ k1 =>
   have H := HA.out
   clear HA
   simp only [field_GF_Dot.l0] at H
   by_cases c5 : x14_1 < ji4
   ·rw [if_pos c5] at H
    have c5b0 : decide (x14_1 < ji4) = true := det c5
    clear c5
    by_cases c6 : 0 ≤ x14_1
    ·rw [if_pos c6] at H
     have c6b0 : decide (0 ≤ x14_1) = true := det c6
     clear c6
     by_cases c7 : x14_1 < (l1.length : Int)
     ·rw [if_pos c7] at H
      have c7b0 : decide (x14_1 < (l1.length : Int)) = true := det c7
      clear c7
      by_cases c8 : x14_1 < (l2.length : Int)
      ·rw [if_pos c8] at H
       have c8b0 : decide (x14_1 < (l2.length : Int)) = true := det c8
       clear c8
       replace H := obm H
       obtain ⟨⟨t141, t142, t143, t144⟩, A90, H⟩ := H
       replace H : ((field_GF_Add.f k1 t142 t143 s0_2 t144 s0_4 s0_5 x7_1 t141).bind fun bt145 => (field_GF_Dot.l0 k1 l1 l2 bt145.1 ji4 (wrap64 (x14_1 + 1)) bt145.2.1 bt145.2.2.1 s0_2 bt145.2.2.2 s0_4 s0_5)) = some (r1, r2, r3, r4) := H
       have A9 := ak A90
       clear A90
       replace H := obm H
       obtain ⟨⟨t145, t146, t147, t148⟩, A100, H⟩ := H
       replace H : (field_GF_Dot.l0 k1 l1 l2 t145 ji4 (wrap64 (x14_1 + 1)) t146 t147 s0_2 t148 s0_4 s0_5) = some (r1, r2, r3, r4) := H
       have A10 := ak A100
       clear A100
       have H' := ak H
       clear H
       try (go_wp2)
       have n0_ := ak (IsS109.drew HI0.out)
       have n1_ := ak (keep_drew HK.out)
       have n2_ := ak (bd1 HB.out)
       clear HI0
       clear HK
       clear HB
       have HI0 := n0_
       have HK := n1_
       have HB := n2_
       clear n0_ n1_ n2_
       have p139 : 0 ≤ (x14_1 : Int) := odt (by with_reducible assumption)
       have q139 : x14_1 < (l1.length : Int) := odt (by with_reducible assumption)
       obtain ⟨ad139, e139, hx139_0⟩ := Kd.at_int HR1.out x14_1 p139 q139
       have hw139_0 := hx139_0
       cases e139
       have hne139_0 := (show ((ad139.add (x14_1).toNat) : Addr).block ≠ g from by (rw [add_block]; exact hf1 ad139 rfl (by omega)))
       replace hx139_0 := keep_cell HK.out hx139_0 (by (rw [add_block]; exact hf1 _ rfl (by omega)))
       replace p139 := eq_true p139
       replace q139 := eq_true q139
       have p140 : 0 ≤ (x14_1 : Int) := odt (by with_reducible assumption)
       have q140 : x14_1 < (l2.length : Int) := odt (by with_reducible assumption)
       obtain ⟨ad140, e140, hx140_0⟩ := Kd.at_int HR2.out x14_1 p140 q140
       have hw140_0 := hx140_0
       cases e140
       have hne140_0 := (show ((ad140.add (x14_1).toNat) : Addr).block ≠ g from by (rw [add_block]; exact hf2 ad140 rfl (by omega)))
       replace hx140_0 := keep_cell HK.out hx140_0 (by (rw [add_block]; exact hf2 _ rfl (by omega)))
       replace p140 := eq_true p140
       replace q140 := eq_true q140
       refine start_ (n := 14) (S := fun w' => w'.cell? (ad139.add (x14_1).toNat) = some (.int .i64 (rd l1 x14_1)) ∧ w'.cell? (ad140.add (x14_1).toNat) = some (.int .i64 (rd l2 x14_1))) (ds := []) #[false, false, false, false, false, false, false, false, false, false, false, false, false, false] (by kernel_rfl) rfl rfl ⟨(keep_cell HK.out hw139_0 hne139_0), (keep_cell HK.out hw140_0 hne140_0)⟩ (fun hHeld => ?_); refine with_tabW field_GF_Dot.tab5 field_GF_Dot.bits5 (fun HT_ HW_ => ?_)
       generalize wr.drew = w11 at HI0 HK HB hx139_0 hx140_0 hHeld ⊢
       refine pure_ (i := 0) (N := some 17) (v := ?_) (a' := ?_) #[true, false, false, false, false, false, false, false, false, false, false, false, false, false] rfl rfl (any_of HT_.out (by kernel_rfl)) (fun _ _ _ h => h) (Or.inl ⟨by rfl, ?_⟩) ?_ ?_
       rotate_left
       ·intro w'
        go_simp
        with_reducible rfl
       rotate_left
       ·simp only [Act.put, sia, scz, scs, i64_w, i32_w]
        rfl
       refine pure_ (i := 1) (N := some 18) (v := ?_) (a' := ?_) #[true, true, false, false, false, false, false, false, false, false, false, false, false, false] rfl rfl (any_of HT_.out (by kernel_rfl)) (fun _ _ _ h => h) (Or.inl ⟨by rfl, ?_⟩) ?_ ?_
       rotate_left
       ·intro w'
        go_simp
        with_reducible rfl
       rotate_left
       ·simp only [Act.put, sia, scz, scs, i64_w, i32_w]
        rfl
       refine pure_ (i := 2) (N := some 19) (v := ?_) (a' := ?_) #[true, true, true, false, false, false, false, false, false, false, false, false, false, false] rfl rfl (any_of HT_.out (by kernel_rfl)) (fun _ _ _ h => h) (Or.inl ⟨by rfl, ?_⟩) ?_ ?_
       rotate_left
       ·intro w'
        go_simp
        with_reducible rfl
       rotate_left
       ·simp only [Act.put, sia, scz, scs, i64_w, i32_w]
        rfl
       refine pure_ (i := 3) (N := some 20) (v := ?_) (a' := ?_) #[true, true, true, true, false, false, false, false, false, false, false, false, false, false] rfl rfl (any_of HT_.out (by kernel_rfl)) (fun _ _ _ h => h) (Or.inl ⟨by rfl, ?_⟩) ?_ ?_
       rotate_left
       ·intro w'
        go_simp
        with_reducible rfl
       rotate_left
       ·simp only [Act.put, sia, scz, scs, i64_w, i32_w]
        rfl
       refine pure_ (i := 4) (N := some 21) (v := ?_) (a' := ?_) #[true, true, true, true, true, false, false, false, false, false, false, false, false, false] rfl rfl (any_of HT_.out (by kernel_rfl)) (fun _ _ _ h => h) (Or.inl ⟨by rfl, ?_⟩) ?_ ?_
       rotate_left
       ·intro w'
        go_simp
        with_reducible rfl
       rotate_left
       ·simp only [Act.put, sia, scz, scs, i64_w, i32_w]
        rfl
       refine pure_ (i := 5) (N := some 22) (v := ?_) (a' := ?_) #[true, true, true, true, true, true, false, false, false, false, false, false, false, false] rfl rfl (any_of HT_.out (by kernel_rfl)) (fun _ _ _ h => h) (Or.inl ⟨by rfl, ?_⟩) ?_ ?_
       rotate_left
       ·intro w'
        go_simp
        with_reducible rfl
       rotate_left
       ·simp only [Act.put, sia, scz, scs, i64_w, i32_w]
        rfl
       refine pure_ (i := 7) (N := some 24) (v := ?_) (a' := ?_) #[true, true, true, true, true, true, false, true, false, false, false, false, false, false] rfl rfl (any_of HT_.out (by kernel_rfl)) (fun _ _ _ h => h) (Or.inl ⟨by rfl, ?_⟩) ?_ ?_
       rotate_left
       ·intro w'
        go_simp
        with_reducible rfl
       rotate_left
       ·simp only [Act.put, sia, scz, scs, i64_w, i32_w]
        rfl
       refine pure_ (i := 8) (N := some 25) (v := ?_) (a' := ?_) #[true, true, true, true, true, true, false, true, true, false, false, false, false, false] rfl rfl (any_of HT_.out (by kernel_rfl)) (fun _ _ _ h => h) (Or.inl ⟨by rfl, ?_⟩) ?_ ?_
       rotate_left
       ·intro w'
        go_simp
        with_reducible rfl
       rotate_left
       ·simp only [Act.put, sia, scz, scs, i64_w, i32_w]
        rfl
       refine pure_ (i := 9) (N := some 26) (v := ?_) (a' := ?_) #[true, true, true, true, true, true, false, true, true, true, false, false, false, false] rfl rfl (any_of HT_.out (by kernel_rfl)) (fun _ _ _ h => h) (Or.inl ⟨by rfl, ?_⟩) ?_ ?_
       rotate_left
       ·intro w'
        go_simp
        with_reducible rfl
       rotate_left
       ·simp only [Act.put, sia, scz, scs, i64_w, i32_w]
        rfl
       refine take_ (i := 6) (N := some 23) (v := ?_) (a' := ?_) #[true, true, true, true, true, true, true, true, true, true, false, false, false, false] rfl rfl (take_ofW HT_.out HW_.out (by kernel_rfl)) (fun _ _ _ h => h) (Or.inl ⟨by rfl, ?_⟩) hHeld ?_ ?_
       rotate_left
       ·rintro w' ⟨s0, s1⟩
        go_simp
        with_reducible rfl
       rotate_left
       ·simp only [Act.put, sia, scz, scs, i64_w, i32_w]
        rfl
       refine take_ (i := 10) (N := some 27) (v := ?_) (a' := ?_) #[true, true, true, true, true, true, true, true, true, true, true, false, false, false] rfl rfl (take_ofW HT_.out HW_.out (by kernel_rfl)) (fun _ _ _ h => h) (Or.inl ⟨by rfl, ?_⟩) hHeld ?_ ?_
       rotate_left
       ·rintro w' ⟨s0, s1⟩
        go_simp
        with_reducible rfl
       rotate_left
       ·simp only [Act.put, sia, scz, scs, i64_w, i32_w]
        rfl
       refine one_ (i := 11) (N := some 28) #[true, true, true, true, true, true, true, true, true, true, true, true, false, false] rfl rfl (one_of HT_.out (by kernel_rfl)) (by decide) (fun K hK => ?_)
       refine goes_ Try.func91 (by kernel_rfl) rfl #[.pointer (some ⟨g, 0, none⟩), .int .i64 (rd l1 x14_1), .int .i64 (rd l2 x14_1)] (by rfl) rfl rfl (by (try (simp only [List.map_toArray, List.map_cons, List.map_nil])); rfl) ?_
       with_reducible refine (field_GF_Mul.calls g x1000_1 x1001_1 s0_2 x1003_1 s0_4 s0_5 (rd l1 x14_1) (rd l2 x14_1) t141 t142 t143 t144 w0 _ ?side1 ?side2 A9.out).mono ?_
       (case side1 => repeat (first | (with_reducible first | exact HI0.out | apply IsS109.alloc | apply IsS109.drewN | apply IsS109.drew | apply IsS109.set_0 | apply IsS109.set_1 | apply IsS109.set_3) | exact HI0.out))
       (case side2 => repeat (first | (with_reducible first | exact HB.out | apply bal | apply pbn | apply bd1 | refine bst ?_ (IsS109.ge HI0.out)) | exact HB.out))
       rintro e w12 ⟨rfl, hi, hb, hk⟩
       refine ⟨_, rfl, ?_⟩
       have n0_ := ak (KeepBut.trans (by repeat (first | (with_reducible first | exact HK.out | apply KeepBut.set_ | apply keep_drewN | apply keep_drew | apply keep_alloc) | exact HK.out)) hk (.inl rfl))
       have n1_ := ak (hb)
       have n2_ := ak (hi)
       clear HK
       clear HB
       clear HI0
       have HK := n0_
       have HB := n1_
       have HI0 := n2_
       clear n0_ n1_ n2_
       (try (clear hb))
       (try (clear hk))
       (try (clear hi))
       refine hK.out _ _ ⟨(keep_cell HK.out hw139_0 hne139_0), (keep_cell HK.out hw140_0 hne140_0)⟩ (fun hHeld => ?_)
       clear hK K
       refine norm_ (a' := ?_) ?_ ?_
       rotate_left
       ·show Act.put _ (some 28) _ = _
        simp only [Act.put, sia, scz, scs, i64_w, i32_w]
        rfl
       refine one_ (i := 12) (N := some 29) #[true, true, true, true, true, true, true, true, true, true, true, true, true, false] rfl rfl (one_of HT_.out (by kernel_rfl)) (by decide) (fun K hK => ?_)
       refine goes_ Try.func92 (by kernel_rfl) rfl #[.pointer (some ⟨g, 0, none⟩), .int .i64 x7_1, .int .i64 t141] (by rfl) rfl rfl (by (try (simp only [List.map_toArray, List.map_cons, List.map_nil])); rfl) ?_
       with_reducible refine (field_GF_Add.calls k1 g t142 t143 s0_2 t144 s0_4 s0_5 x7_1 t141 t145 t146 t147 t148 w0 _ ?side1 ?side2 A10.out).mono ?_
       (case side1 => repeat (first | (with_reducible first | exact HI0.out | apply IsS109.alloc | apply IsS109.drewN | apply IsS109.drew | apply IsS109.set_0 | apply IsS109.set_1 | apply IsS109.set_3) | exact HI0.out))
       (case side2 => repeat (first | (with_reducible first | exact HB.out | apply bal | apply pbn | apply bd1 | refine bst ?_ (IsS109.ge HI0.out)) | exact HB.out))
       rintro e w13 ⟨rfl, hi, hb, hk⟩
       refine ⟨_, rfl, ?_⟩
       have n0_ := ak (KeepBut.trans (by repeat (first | (with_reducible first | exact HK.out | apply KeepBut.set_ | apply keep_drewN | apply keep_drew | apply keep_alloc) | exact HK.out)) hk (.inl rfl))
       have n1_ := ak (hb)
       have n2_ := ak (hi)
       clear HK
       clear HB
       clear HI0
       have HK := n0_
       have HB := n1_
       have HI0 := n2_
       clear n0_ n1_ n2_
       (try (clear hb))
       (try (clear hk))
       (try (clear hi))
       refine hK.out _ _ ⟨(keep_cell HK.out hw139_0 hne139_0), (keep_cell HK.out hw140_0 hne140_0)⟩ (fun hHeld => ?_)
       clear hK K
       refine norm_ (a' := ?_) ?_ ?_
       rotate_left
       ·show Act.put _ (some 29) _ = _
        simp only [Act.put, sia, scz, scs, i64_w, i32_w]
        rfl
       refine pure_ (i := 13) (N := some 7) (v := ?_) (a' := ?_) #[true, true, true, true, true, true, true, true, true, true, true, true, true, true] rfl rfl (any_of HT_.out (by kernel_rfl)) (fun _ _ _ h => h) (Or.inl ⟨by rfl, ?_⟩) ?_ ?_
       rotate_left
       ·intro w'
        go_simp
        with_reducible rfl
       rotate_left
       ·simp only [Act.put, sia, scz, scs, i64_w, i32_w]
        rfl
       refine done_ (done_of HT_.out (by kernel_rfl)) ?_
       try (go_wp2)
       go_roundg k1
       case measure => have := HK1.out; omega
       case rel => exact ⟨(t145), (wrap64 (x14_1 + 1)), (t146), (t147), (t148), (by first | rfl | (simp; done) | (simp [*]; done)), (by first | rfl | (simp; done) | (simp [*]; done)), H', ⟨by have := HK1.out; omega⟩, ⟨by repeat (first | (with_reducible first | exact HI0.out | apply IsS109.alloc | apply IsS109.drewN | apply IsS109.drew | apply IsS109.set_0 | apply IsS109.set_1 | apply IsS109.set_3) | exact HI0.out)⟩, ⟨by repeat (first | (with_reducible first | exact HK.out | apply KeepBut.set_ | apply keep_drewN | apply keep_drew | apply keep_alloc) | exact HK.out)⟩, ⟨by repeat (first | (with_reducible first | exact HB.out | apply bal | apply pbn | apply bd1 | refine bst ?_ (IsS109.ge HI0.out)) | exact HB.out)⟩⟩
      ·rw [if_neg c8] at H
       exact absurd H (by simp)
     ·rw [if_neg c7] at H
      exact absurd H (by simp)
    ·rw [if_neg c6] at H
     exact absurd H (by simp)
   ·rw [if_neg c5] at H
    have c5b0 : decide (x14_1 < ji4) = false := dff c5
    clear c5
    simp only [Option.some.injEq, Prod.mk.injEq] at H
    obtain ⟨rfl, rfl, rfl, rfl⟩ := H
    go_wp2
    go_ret
    exact ⟨by first | rfl | (simp <;> rfl) | (simp only [← hji4]; first | rfl | (simp <;> rfl)) | (simp [*] <;> rfl), by repeat (first | (with_reducible first | exact HI0.out | apply IsS109.alloc | apply IsS109.drewN | apply IsS109.drew | apply IsS109.set_0 | apply IsS109.set_1 | apply IsS109.set_3) | exact HI0.out), by repeat (first | (with_reducible first | exact HB.out | apply bal | apply pbn | apply bd1 | refine bst ?_ (IsS109.ge HI0.out)) | exact HB.out), by repeat (first | (with_reducible first | exact HK.out | apply KeepBut.set_ | apply keep_drewN | apply keep_drew | apply keep_alloc) | exact HK.out)⟩
theorem field_GF_Dot.calls (k : Nat) (g : Nat) (s0_0 : Int) (s0_1 : Int) (s0_2 : List Int) (s0_3 : Int) (s0_4 : List Int) (s0_5 : List Int) (A1 : Option Addr) (c1 : Nat) (l1 : List Int) (A2 : Option Addr) (c2 : Nat) (l2 : List Int) (r1 : Int) (r2 : Int) (r3 : Int) (r4 : Int) (w0 w : World) (hI : IsS109 w0 w g s0_0 s0_1 s0_2 s0_3 s0_4 s0_5) (hB : Below w0.heap.size w0 w) (hr1 : Kd.C (Kd.int .i64) w A1 l1.length l1) (hc1 : l1.length ≤ c1) (hf1 : ∀ ad, A1 = some ad → 0 < l1.length → ad.block ≠ g) (hr2 : Kd.C (Kd.int .i64) w A2 l2.length l2) (hc2 : l2.length ≤ c2) (hf2 : ∀ ad, A2 = some ad → 0 < l2.length → ad.block ≠ g) (h : field_GF_Dot.f k s0_0 s0_1 s0_2 s0_3 s0_4 s0_5 l1 l2 = some (r1, r2, r3, r4)) :
  Calls Try.prog 68 #[.pointer (some ⟨g, 0, none⟩), .slice A1 l1.length c1, .slice A2 l2.length c2] w fun e w' => e = .returned (.int .i64 r1) ∧ IsS109 w0 w' g r2 r3 s0_2 r4 s0_4 s0_5 ∧ Below w0.heap.size w0 w' ∧ KeepBut w w' g none := by
 by_cases hlt : (l2.length : Int) < (l1.length : Int)
 ·exact field_GF_Dot.calls_lt k g s0_0 s0_1 s0_2 s0_3 s0_4 s0_5 A1 c1 l1 A2 c2 l2 r1 r2 r3 r4 w0 w hI hB hr1 hc1 hf1 hr2 hc2 hf2 hlt h
 ·exact field_GF_Dot.calls_ge k g s0_0 s0_1 s0_2 s0_3 s0_4 s0_5 A1 c1 l1 A2 c2 l2 r1 r2 r3 r4 w0 w hI hB hr1 hc1 hf1 hr2 hc2 hf2 hlt h
end Go.Proofs.Ytkifipakikbhcaa.Gf
namespace Go.Proofs.Ytkifipakikbhcaa.Hand
open Ytkifipakikbhcaa.Ref
open Ytkifipakikbhcaa.Pg (peel_set.f peel_set.calls peel_mask.f peel_mask.calls peel_left.f peel_left.calls)
open Ytkifipakikbhcaa.Pm (peel_Graph.f peel_Graph.calls)
open Ytkifipakikbhcaa.Pc (slices_Contains_int_int.f slices_Contains_int_int.calls)
open Ytkifipakikbhcaa.Gf (IsS109 field_GF_Dot.f field_GF_Dot.calls field_GF_Div.f field_GF_Div.calls field_GF_Neg.f field_GF_Neg.calls)
open Go.RowKit YtkifipakikbhcaaW.PrintWords YtkifipakikbhcaaW.PrintLast YtkifipakikbhcaaW.PrintMore
attribute [local go_sem ↓] Go.wp_at_zero Go.wp_at_succ
theorem index_l0 (l : List Int) (a : Int) (hl : l.length ≤ 4611686018427387904) : ∀ (m k i : Nat), m = l.length - i → i ≤ l.length → m < k →
  ∃ r, Pc.slices_Index_int_int.l0 k l a (l.length : Int) (i : Int) = some r ∧ (0 ≤ r ↔ a ∈ l.drop i) := by
 intro m
 induction m with
 | zero =>
  intro k i hm hi hk
  obtain ⟨k, rfl⟩ : ∃ k', k = k' + 1 := ⟨k - 1, by omega⟩
  have h : i = l.length := by omega
  refine ⟨-1, by rw [Pc.slices_Index_int_int.l0, if_neg (by omega)], ?_⟩
  rw [h, List.drop_length]; simp
 | succ m ih =>
  intro k i hm hi hk
  obtain ⟨k, rfl⟩ : ∃ k', k = k' + 1 := ⟨k - 1, by omega⟩
  have h : i < l.length := by omega
  obtain ⟨r, hr, hmem⟩ := ih k (i + 1) (by omega) (by omega) (by omega)
  have hw : wrap64 ((i : Int) + 1) = ((i + 1 : Nat) : Int) := by unfold wrap64; omega
  have hd : l.drop i = rd l (i : Int) :: l.drop (i + 1) := by
   have := drop_cons (d := (0 : Int)) (i := (i : Int)) (l := l) (by omega) (by omega)
   rw [Int.toNat_natCast, show ((i : Int) + 1).toNat = i + 1 from by omega] at this
   exact this
  by_cases he : a = rd l (i : Int)
  ·refine ⟨i, by rw [Pc.slices_Index_int_int.l0, if_pos (by omega), if_pos (by omega), if_pos (by omega), if_pos he], ?_⟩
   rw [hd, ← he]; simp
  ·refine ⟨r, by rw [Pc.slices_Index_int_int.l0, if_pos (by omega), if_pos (by omega), if_pos (by omega), if_neg he, hw, hr], ?_⟩
   rw [hmem, hd]; simp [he]
theorem contains_f (l : List Int) (a : Int) (hl : l.length ≤ 4611686018427387904) : slices_Contains_int_int.f (l.length + 1) l a = some (decide (a ∈ l)) := by
 obtain ⟨r, hr, hm⟩ := index_l0 l a hl l.length (l.length + 1) 0 (by omega) (by omega) (by omega)
 unfold Pc.slices_Contains_int_int.f Pc.slices_Index_int_int.f
 have hr' : Pc.slices_Index_int_int.l0 (l.length + 1) l a (l.length : Int) 0 = some r := hr
 rw [hr', Option.bind_some]
 congr 1
 rw [List.drop_zero] at hm
 exact decide_eq_decide.2 hm
structure Fd where
 P : Int
 M : Int
 md : List Int
 q : Int
 ex : List Int
 lg : List Int
def gDot (F : Fd) (a b : List Int) : Option Int := (field_GF_Dot.f 4096 F.P F.M F.md F.q F.ex F.lg a b).bind fun r => if r.2 = (F.P, F.M, F.q) then some r.1 else none
def gDiv (F : Fd) (a b : Int) : Option Int := (field_GF_Div.f F.P F.M F.md F.q F.ex F.lg a b).bind fun r => if r.2.2 = (F.P, F.M, F.q) then some r.1 else none
def gNeg (F : Fd) (a : Int) : Option Int := (field_GF_Neg.f 4096 F.P F.M F.md F.q F.ex F.lg a).bind fun r => if r.2 = (F.P, F.M, F.q) then some r.1 else none
def lone (inn : List Bool) (i : Int) (l : List Int) : Bool := decide (i ∈ l) && !(l.any fun k => !decide (k = i) && inAt inn k)
def fillIn (F : Fd) (inn : List Bool) (i : Int) (out : List Int) : List (List Int) → List (List Int) → Option (List Int)
 | [], _ => some out
 | l :: ls, r :: rs => if lone inn i l = true then (if i < r.length then (gDot F r out).bind fun d => (gDiv F d (rd r i)).bind fun x => (gNeg F x).bind fun y => some (out.set i.toNat y) else none) else fillIn F inn i out ls rs
 | _ :: _, [] => none
def peelGo (F : Fd) (ch rows : List (List Int)) : Nat → List Int → List Bool → Option (List Int × List Bool)
 | 0, _, _ => none
 | n + 1, out, inn => if alone inn ch < 0 then some (out, inn) else (fillIn F inn (alone inn ch) out ch rows).bind fun o => peelGo F ch rows n o (inn.set (alone inn ch).toNat false)
def failsAt (F : Fd) (inn : List Bool) (out : List Int) : List (List Int) → List (List Int) → Option Bool
 | [], _ => some false
 | l :: ls, r :: rs => if (l.any fun k => inAt inn k) = true then failsAt F inn out ls rs else (gDot F r out).bind fun d => if d = 0 then failsAt F inn out ls rs else some true
 | _ :: _, [] => none
def clearAt : List Int → List Int → List Int
 | [], out => out
 | i :: l, out => clearAt l (out.set i.toNat 0)
def peelMain (F : Fd) (V : Int) (ch rows : List (List Int)) (wd er : List Int) : Option (List Int × List Int × Int) :=
 (peel_mask.f 4096 V ch er).bind fun inn =>
  if (er.all fun i => decide (0 ≤ i ∧ i < wd.length)) = true ∧ inn.length = wd.length ∧ (ch.all fun l => l.all fun i => decide (0 ≤ i ∧ i < wd.length)) = true ∧ ch.length ≤ 256 ∧ wd.length ≤ 256 ∧ er.length ≤ 256 ∧ 0 < wd.length ∧ (ch.all fun l => decide (l.length ≤ 256)) = true then
   (peelGo F ch rows (wd.length + 1) (clearAt er wd) inn).bind fun r => (failsAt F r.2 r.1 ch rows).bind fun b => if b = true then some ([], [], 12) else (peel_left.f 4096 r.2).map fun l => (r.1, l, 0)
  else none
structure PJ (F : Fd) (w0 : World) (g b13 b15 go co gi ci n : Nat) (W : World) (out : List Int) (inn : List Bool) : Prop where
 I : IsS109 w0 W g F.P F.M F.md F.q F.ex F.lg
 B : Below w0.heap.size w0 W
 c13 : W.cell? ⟨b13, 0, none⟩ = some (.pointer (some ⟨g, 0, none⟩))
 c15 : W.cell? ⟨b15, 0, none⟩ = some (.slice (some ⟨gi, 0, none⟩) n ci)
 o1 : Kd.R (Kd.int .i64) 3 W w0.heap.size (fun _ => True) (.slice (some ⟨go, 0, none⟩) n co) out
 o2 : Kd.R Kd.bool 4 W w0.heap.size (fun _ => True) (.slice (some ⟨gi, 0, none⟩) n ci) inn
 l1 : out.length = n
 l2 : inn.length = n
 n1 : g ≠ go
 n2 : g ≠ gi
 n3 : g ≠ b13
 n4 : g ≠ b15
 n5 : go ≠ gi
 n6 : go ≠ b13
 n7 : go ≠ b15
 n8 : gi ≠ b13
 n9 : gi ≠ b15
theorem PJ.step {F : Fd} {w0 : World} {g b13 b15 go co gi ci n : Nat} {W W' : World} {out : List Int} {inn : List Bool} (h : PJ F w0 g b13 b15 go co gi ci n W out inn) (hb : Below W.heap.size W W') : PJ F w0 g b13 b15 go co gi ci n W' out inn :=
 ⟨h.I.below hb, bsp h.B hb, cbl h.c13 hb, cbl h.c15 hb, Kd.R_below h.o1 hb, Kd.R_below h.o2 hb, h.l1, h.l2, h.n1, h.n2, h.n3, h.n4, h.n5, h.n6, h.n7, h.n8, h.n9⟩
theorem PJ.keep {F : Fd} {w0 : World} {g b13 b15 go co gi ci n : Nat} {W W' : World} {out : List Int} {inn : List Bool} (h : PJ F w0 g b13 b15 go co gi ci n W out inn) (hi : IsS109 w0 W' g F.P F.M F.md F.q F.ex F.lg) (hb : Below w0.heap.size w0 W') (hk : KeepBut W W' g none) : PJ F w0 g b13 b15 go co gi ci n W' out inn :=
 ⟨hi, hb, keep_cell hk h.c13 (fun e => h.n3 e.symm), keep_cell hk h.c15 (fun e => h.n4 e.symm), Kd.R_mono (Kd.R_keep (Kd.R_tight rfl h.o1) hk (fun k hk e => h.n1 (by rw [e] at hk; exact osi hk))) (fun _ _ => trivial), Kd.R_mono (Kd.R_keep (Kd.R_tight rfl h.o2) hk (fun k hk e => h.n2 (by rw [e] at hk; exact osi hk))) (fun _ _ => trivial), h.l1, h.l2, h.n1, h.n2, h.n3, h.n4, h.n5, h.n6, h.n7, h.n8, h.n9⟩
theorem PJ.putOut {F : Fd} {w0 : World} {g b13 b15 go co gi ci n : Nat} {W : World} {out : List Int} {inn : List Bool} (h : PJ F w0 g b13 b15 go co gi ci n W out inn) (i : Int) (x : Int) : PJ F w0 g b13 b15 go co gi ci n (W.setCell ⟨go, i.toNat, none⟩ (.int .i64 x)) (out.set i.toNat x) inn := by
 have hp := Kd.R_put (show Kd.R (Kd.int .i64) 3 W w0.heap.size (fun _ => True) (.slice (some ⟨go, 0, none⟩) out.length co) out by rw [h.l1]; exact h.o1) i x
 refine ⟨h.I.grown hp.2 ?_, bst h.B (Kd.R_base h.o1 go rfl), cell_grown hp.2 h.c13 ?_, cell_grown hp.2 h.c15 ?_, by rw [← h.l1]; exact hp.1, Kd.R_grown1 h.o2 rfl hp.2 ?_, by rw [List.length_set]; exact h.l1, h.l2, h.n1, h.n2, h.n3, h.n4, h.n5, h.n6, h.n7, h.n8, h.n9⟩
 ·exact fun e => h.n1 (osi e)
 ·exact fun e => h.n6 (osi e).symm
 ·exact fun e => h.n7 (osi e).symm
 ·exact fun e => h.n5 (osi e)
theorem PJ.putIn {F : Fd} {w0 : World} {g b13 b15 go co gi ci n : Nat} {W : World} {out : List Int} {inn : List Bool} (h : PJ F w0 g b13 b15 go co gi ci n W out inn) (i : Int) (x : Bool) : PJ F w0 g b13 b15 go co gi ci n (W.setCell ⟨gi, i.toNat, none⟩ (.bool x)) out (inn.set i.toNat x) := by
 have hp := Kd.R_put (show Kd.R Kd.bool 4 W w0.heap.size (fun _ => True) (.slice (some ⟨gi, 0, none⟩) inn.length ci) inn by rw [h.l2]; exact h.o2) i x
 refine ⟨h.I.grown hp.2 ?_, bst h.B (Kd.R_base h.o2 gi rfl), cell_grown hp.2 h.c13 ?_, cell_grown hp.2 h.c15 ?_, Kd.R_grown1 h.o1 rfl hp.2 ?_, by rw [← h.l2]; exact hp.1, h.l1, by rw [List.length_set]; exact h.l2, h.n1, h.n2, h.n3, h.n4, h.n5, h.n6, h.n7, h.n8, h.n9⟩
 ·exact fun e => h.n2 (osi e)
 ·exact fun e => h.n8 (osi e).symm
 ·exact fun e => h.n9 (osi e).symm
 ·exact fun e => h.n5 (osi e).symm
theorem PJ.dot {F : Fd} {w0 : World} {g b13 b15 go co gi ci n : Nat} {W : World} {out : List Int} {inn : List Bool} (h : PJ F w0 g b13 b15 go co gi ci n W out inn) {A : Option Addr} {c : Nat} {r : List Int} (hr : Kd.C (Kd.int .i64) w0 A r.length r) (hc : r.length ≤ c) {d : Int} (hd : gDot F r out = some d) :
  Calls Try.prog 68 #[.pointer (some ⟨g, 0, none⟩), .slice A r.length c, .slice (some ⟨go, 0, none⟩) n co] W fun e w' => e = .returned (.int .i64 d) ∧ IsS109 w0 w' g F.P F.M F.md F.q F.ex F.lg ∧ Below w0.heap.size w0 w' ∧ KeepBut W w' g none := by
 obtain ⟨⟨x, y1, y2, y3⟩, hx, hy⟩ := Option.bind_eq_some_iff.1 hd
 split at hy
 ·rename_i he
  have hy := osi hy
  injection he with e1 e2
  injection e2 with e2 e3
  subst e1 e2 e3 hy
  have ho : Kd.R (Kd.int .i64) 3 W w0.heap.size (fun _ => True) (.slice (some ⟨go, 0, none⟩) out.length co) out := by rw [h.l1]; exact h.o1
  have hc2 := field_GF_Dot.calls 4096 g F.P F.M F.md F.q F.ex F.lg A c r (some ⟨go, 0, none⟩) co out _ _ _ _ w0 W h.I h.B (Kd.C_below hr h.B) hc (C_ne hr h.I.ge) (Kd.R_reads' ho).2.2 (Kd.R_reads' ho).2.1 (fun ad e _ => by injection e with e; subst e; exact fun e => h.n1 e.symm) hx
  rw [h.l1] at hc2
  exact hc2
 ·exact absurd hy (by simp)
theorem PJ.div {F : Fd} {w0 : World} {g b13 b15 go co gi ci n : Nat} {W : World} {out : List Int} {inn : List Bool} (h : PJ F w0 g b13 b15 go co gi ci n W out inn) {a b d : Int} (hd : gDiv F a b = some d) :
  Calls Try.prog 67 #[.pointer (some ⟨g, 0, none⟩), .int .i64 a, .int .i64 b] W fun e w' => ∃ x : Int, e = .returned (.tuple #[.int .i64 d, .int .i64 x]) ∧ IsS109 w0 w' g F.P F.M F.md F.q F.ex F.lg ∧ Below w0.heap.size w0 w' ∧ KeepBut W w' g none := by
 obtain ⟨⟨x, z, y1, y2, y3⟩, hx, hy⟩ := Option.bind_eq_some_iff.1 hd
 split at hy
 ·rename_i he
  have hy := osi hy
  injection he with e1 e2
  injection e2 with e2 e3
  subst e1 e2 e3 hy
  exact (field_GF_Div.calls g F.P F.M F.md F.q F.ex F.lg a b _ _ _ _ _ w0 W h.I h.B hx).mono (fun e w' hh => ⟨_, hh⟩)
 ·exact absurd hy (by simp)
theorem PJ.neg {F : Fd} {w0 : World} {g b13 b15 go co gi ci n : Nat} {W : World} {out : List Int} {inn : List Bool} (h : PJ F w0 g b13 b15 go co gi ci n W out inn) {a d : Int} (hd : gNeg F a = some d) :
  Calls Try.prog 69 #[.pointer (some ⟨g, 0, none⟩), .int .i64 a] W fun e w' => e = .returned (.int .i64 d) ∧ IsS109 w0 w' g F.P F.M F.md F.q F.ex F.lg ∧ Below w0.heap.size w0 w' ∧ KeepBut W w' g none := by
 obtain ⟨⟨x, y1, y2, y3⟩, hx, hy⟩ := Option.bind_eq_some_iff.1 hd
 split at hy
 ·rename_i he
  have hy := osi hy
  injection he with e1 e2
  injection e2 with e2 e3
  subst e1 e2 e3 hy
  exact field_GF_Neg.calls 4096 g F.P F.M F.md F.q F.ex F.lg a _ _ _ _ w0 W h.I h.B hx
 ·exact absurd hy (by simp)
theorem fill_take {F : Fd} {inn : List Bool} {i : Int} {out : List Int} {l : List Int} {ls rows : List (List Int)} {j : Nat} {o : List Int} (h : fillIn F inn i out (l :: ls) (rows.drop j) = some o) (hl : lone inn i l = true) :
  j < rows.length ∧ i < (rd_L1 rows (j : Int)).length ∧ ∃ d x y, gDot F (rd_L1 rows (j : Int)) out = some d ∧ gDiv F d (rd (rd_L1 rows (j : Int)) i) = some x ∧ gNeg F x = some y ∧ o = out.set i.toNat y := by
 by_cases hj : j < rows.length
 ·rw [rows_drop hj, fillIn, if_pos hl] at h
  split at h
  ·rename_i hi
   obtain ⟨d, hd, h⟩ := Option.bind_eq_some_iff.1 h
   obtain ⟨x, hx, h⟩ := Option.bind_eq_some_iff.1 h
   obtain ⟨y, hy, h⟩ := Option.bind_eq_some_iff.1 h
   exact ⟨hj, hi, d, x, y, hd, hx, hy, (osi h).symm⟩
  ·exact absurd h (by simp)
 ·rw [List.drop_eq_nil_of_le (by omega)] at h
  simp [fillIn] at h
end Go.Proofs.Ytkifipakikbhcaa.Hand
