/- Part 3 of the claim: what the law reaches, walked (merged by slim.py out of the texts in wip). -/
import Derived.Test.YtkifipakikbhcaaUn2
import Derived.Deep.CutBlock
import Derived.Deep.CutRange
import Derived.Deep.DrawnRows
set_option maxHeartbeats 8000000
set_option maxRecDepth 100000
set_option linter.unusedSimpArgs false
set_option linter.unusedVariables false
namespace Go.Proofs.Ytkifipakikbhcaa.Gf
open Go.Proofs.Ytkifipakikbhcaa.Ref
open Go.RowKit Go.Proofs.YtkifipakikbhcaaW.PrintWords Go.Proofs.YtkifipakikbhcaaW.PrintLast Go.Proofs.YtkifipakikbhcaaW.PrintMore
attribute [local go_sem] max2_int min2_int max_two min_two max_three min_three max_four min_four
def field_GF_Mul.f (s0_0 : Int) (s0_1 : Int) (s0_2 : List Int) (s0_3 : Int) (s0_4 : List Int) (s0_5 : List Int) (a1 : Int) (a2 : Int) : Option (Int × Int × Int × Int) := (field_GF_in.f s0_0 s0_1 s0_2 s0_3 s0_4 s0_5 a1).bind fun bt111 => ((field_GF_in.f bt111.2.1 bt111.2.2.1 s0_2 bt111.2.2.2 s0_4 s0_5 a2).bind fun bt115 => (if bt111.1 = 0 then (some (0, bt115.2.1, bt115.2.2.1, bt115.2.2.2)) else (if bt115.1 = 0 then (some (0, bt115.2.1, bt115.2.2.1, bt115.2.2.2)) else (if 0 ≤ bt111.1 then (if bt111.1 < (s0_5.length : Int) then (if 0 ≤ bt115.1 then (if bt115.1 < (s0_5.length : Int) then (if (wrap64 (bt115.2.2.2 - 1)) = 0 then (none) else (if 0 ≤ (Int.tmod (wrap64 ((rd s0_5 bt111.1) + (rd s0_5 bt115.1))) (wrap64 (bt115.2.2.2 - 1))) then (if (Int.tmod (wrap64 ((rd s0_5 bt111.1) + (rd s0_5 bt115.1))) (wrap64 (bt115.2.2.2 - 1))) < (s0_4.length : Int) then (some (rd s0_4 (Int.tmod (wrap64 ((rd s0_5 bt111.1) + (rd s0_5 bt115.1))) (wrap64 (bt115.2.2.2 - 1))), bt115.2.1, bt115.2.2.1, bt115.2.2.2)) else (none)) else (none))) else (none)) else (none)) else (none)) else (none)))))
theorem field_GF_Mul.calls (g : Nat) (s0_0 : Int) (s0_1 : Int) (s0_2 : List Int) (s0_3 : Int) (s0_4 : List Int) (s0_5 : List Int) (a1 : Int) (a2 : Int) (r1 : Int) (r2 : Int) (r3 : Int) (r4 : Int) (w0 w : World) (hI : IsS109 w0 w g s0_0 s0_1 s0_2 s0_3 s0_4 s0_5) (hB : Below w0.heap.size w0 w) (h : field_GF_Mul.f s0_0 s0_1 s0_2 s0_3 s0_4 s0_5 a1 a2 = some (r1, r2, r3, r4)) :
  Calls Try.prog 91 #[.pointer (some ⟨g, 0, none⟩), .int .i64 a1, .int .i64 a2] w fun e w' => e = .returned (.int .i64 r1) ∧ IsS109 w0 w' g r2 r3 s0_2 r4 s0_4 s0_5 ∧ Below w0.heap.size w0 w' ∧ KeepBut w w' g none := by
 have HI0 := Aside0.mk hI
 have HK := Aside0.mk (KeepBut.refl w g none)
 have HL := Aside0.mk hB.size
 clear hI
 have HW0 := Aside0.mk hB.size
 have HB := Aside0.mk hB
 clear hB
 have H : ((field_GF_in.f s0_0 s0_1 s0_2 s0_3 s0_4 s0_5 a1).bind fun bt111 => ((field_GF_in.f bt111.2.1 bt111.2.2.1 s0_2 bt111.2.2.2 s0_4 s0_5 a2).bind fun bt115 => (if bt111.1 = 0 then (some (0, bt115.2.1, bt115.2.2.1, bt115.2.2.2)) else (if bt115.1 = 0 then (some (0, bt115.2.1, bt115.2.2.1, bt115.2.2.2)) else (if 0 ≤ bt111.1 then (if bt111.1 < (s0_5.length : Int) then (if 0 ≤ bt115.1 then (if bt115.1 < (s0_5.length : Int) then (if (wrap64 (bt115.2.2.2 - 1)) = 0 then (none) else (if 0 ≤ (Int.tmod (wrap64 ((rd s0_5 bt111.1) + (rd s0_5 bt115.1))) (wrap64 (bt115.2.2.2 - 1))) then (if (Int.tmod (wrap64 ((rd s0_5 bt111.1) + (rd s0_5 bt115.1))) (wrap64 (bt115.2.2.2 - 1))) < (s0_4.length : Int) then (some (rd s0_4 (Int.tmod (wrap64 ((rd s0_5 bt111.1) + (rd s0_5 bt115.1))) (wrap64 (bt115.2.2.2 - 1))), bt115.2.1, bt115.2.2.1, bt115.2.2.2)) else (none)) else (none))) else (none)) else (none)) else (none)) else (none)))))) = some (r1, r2, r3, r4) := h
 clear h
 replace H := Option.bind_eq_some_iff.mp H
 obtain ⟨⟨t111, t112, t113, t114⟩, A40, H⟩ := H
 replace H : ((field_GF_in.f t112 t113 s0_2 t114 s0_4 s0_5 a2).bind fun bt115 => (if t111 = 0 then (some (0, bt115.2.1, bt115.2.2.1, bt115.2.2.2)) else (if bt115.1 = 0 then (some (0, bt115.2.1, bt115.2.2.1, bt115.2.2.2)) else (if 0 ≤ t111 then (if t111 < (s0_5.length : Int) then (if 0 ≤ bt115.1 then (if bt115.1 < (s0_5.length : Int) then (if (wrap64 (bt115.2.2.2 - 1)) = 0 then (none) else (if 0 ≤ (Int.tmod (wrap64 ((rd s0_5 t111) + (rd s0_5 bt115.1))) (wrap64 (bt115.2.2.2 - 1))) then (if (Int.tmod (wrap64 ((rd s0_5 t111) + (rd s0_5 bt115.1))) (wrap64 (bt115.2.2.2 - 1))) < (s0_4.length : Int) then (some (rd s0_4 (Int.tmod (wrap64 ((rd s0_5 t111) + (rd s0_5 bt115.1))) (wrap64 (bt115.2.2.2 - 1))), bt115.2.1, bt115.2.2.1, bt115.2.2.2)) else (none)) else (none))) else (none)) else (none)) else (none)) else (none))))) = some (r1, r2, r3, r4) := H
 have A4 := Aside0.mk A40
 clear A40
 replace H := Option.bind_eq_some_iff.mp H
 obtain ⟨⟨t115, t116, t117, t118⟩, A50, H⟩ := H
 replace H : (if t111 = 0 then (some (0, t116, t117, t118)) else (if t115 = 0 then (some (0, t116, t117, t118)) else (if 0 ≤ t111 then (if t111 < (s0_5.length : Int) then (if 0 ≤ t115 then (if t115 < (s0_5.length : Int) then (if (wrap64 (t118 - 1)) = 0 then (none) else (if 0 ≤ (Int.tmod (wrap64 ((rd s0_5 t111) + (rd s0_5 t115))) (wrap64 (t118 - 1))) then (if (Int.tmod (wrap64 ((rd s0_5 t111) + (rd s0_5 t115))) (wrap64 (t118 - 1))) < (s0_4.length : Int) then (some (rd s0_4 (Int.tmod (wrap64 ((rd s0_5 t111) + (rd s0_5 t115))) (wrap64 (t118 - 1))), t116, t117, t118)) else (none)) else (none))) else (none)) else (none)) else (none)) else (none)))) = some (r1, r2, r3, r4) := H
 have A5 := Aside0.mk A50
 clear A50
 by_cases c6 : t111 = 0
 ·rw [if_pos c6] at H
  have c6b0 : (t111 == 0) = true := beq_iff_eq.mpr c6
  have c6b1 : (t111 != 0) = false := bne_eq_false_iff_eq.mpr c6
  clear c6
  simp only [Option.some.injEq, Prod.mk.injEq] at H
  obtain ⟨rfl, rfl, rfl, rfl⟩ := H
  go_enter Try.func91, Try.ntmps91
  go_wp2_with (first | (go_at_call 93; (with_reducible refine (field_GF_in.calls g s0_0 s0_1 s0_2 s0_3 s0_4 s0_5 a1 t111 t112 t113 t114 w0 _ ?side1 ?side2 A4.out).mono ?_); (case side1 => repeat (first | (with_reducible first | exact HI0.out | apply IsS109.alloc | apply IsS109.drewN | apply IsS109.drew | apply IsS109.set_0 | apply IsS109.set_1 | apply IsS109.set_3) | exact HI0.out)); (case side2 => repeat (first | (with_reducible first | exact HB.out | apply below_alloc | apply pw_below_drewN | apply below_drew1 | refine below_set ?_ (IsS109.ge HI0.out)) | exact HB.out)); rintro e w7 ⟨rfl, hi, hb, hk⟩; have n0_ := Aside0.mk (KeepBut.trans (by repeat (first | (with_reducible first | exact HK.out | apply KeepBut.set_ | apply keep_drewN | apply keep_drew | apply keep_alloc) | exact HK.out)) hk (.inl rfl)); have n1_ := Aside0.mk (hb); have n2_ := Aside0.mk (hi); clear HK; clear HB; clear HI0; have HK := n0_; have HB := n1_; have HI0 := n2_; clear n0_ n1_ n2_; (try clear hb); (try clear hb2); (try clear hk); (try clear hi)) | (go_at_call 93; (with_reducible refine (field_GF_in.calls g t112 t113 s0_2 t114 s0_4 s0_5 a2 t115 t116 t117 t118 w0 _ ?side1 ?side2 A5.out).mono ?_); (case side1 => repeat (first | (with_reducible first | exact HI0.out | apply IsS109.alloc | apply IsS109.drewN | apply IsS109.drew | apply IsS109.set_0 | apply IsS109.set_1 | apply IsS109.set_3) | exact HI0.out)); (case side2 => repeat (first | (with_reducible first | exact HB.out | apply below_alloc | apply pw_below_drewN | apply below_drew1 | refine below_set ?_ (IsS109.ge HI0.out)) | exact HB.out)); rintro e w8 ⟨rfl, hi, hb, hk⟩; have n0_ := Aside0.mk (KeepBut.trans (by repeat (first | (with_reducible first | exact HK.out | apply KeepBut.set_ | apply keep_drewN | apply keep_drew | apply keep_alloc) | exact HK.out)) hk (.inl rfl)); have n1_ := Aside0.mk (hb); have n2_ := Aside0.mk (hi); clear HK; clear HB; clear HI0; have HK := n0_; have HB := n1_; have HI0 := n2_; clear n0_ n1_ n2_; (try clear hb); (try clear hb2); (try clear hk); (try clear hi)))
  repeat (go_quiet (first | (go_at_call 93; (with_reducible refine (field_GF_in.calls g s0_0 s0_1 s0_2 s0_3 s0_4 s0_5 a1 t111 t112 t113 t114 w0 _ ?side1 ?side2 A4.out).mono ?_); (case side1 => repeat (first | (with_reducible first | exact HI0.out | apply IsS109.alloc | apply IsS109.drewN | apply IsS109.drew | apply IsS109.set_0 | apply IsS109.set_1 | apply IsS109.set_3) | exact HI0.out)); (case side2 => repeat (first | (with_reducible first | exact HB.out | apply below_alloc | apply pw_below_drewN | apply below_drew1 | refine below_set ?_ (IsS109.ge HI0.out)) | exact HB.out)); rintro e w7 ⟨rfl, hi, hb, hk⟩; have n0_ := Aside0.mk (KeepBut.trans (by repeat (first | (with_reducible first | exact HK.out | apply KeepBut.set_ | apply keep_drewN | apply keep_drew | apply keep_alloc) | exact HK.out)) hk (.inl rfl)); have n1_ := Aside0.mk (hb); have n2_ := Aside0.mk (hi); clear HK; clear HB; clear HI0; have HK := n0_; have HB := n1_; have HI0 := n2_; clear n0_ n1_ n2_; (try clear hb); (try clear hb2); (try clear hk); (try clear hi)) | (go_at_call 93; (with_reducible refine (field_GF_in.calls g t112 t113 s0_2 t114 s0_4 s0_5 a2 t115 t116 t117 t118 w0 _ ?side1 ?side2 A5.out).mono ?_); (case side1 => repeat (first | (with_reducible first | exact HI0.out | apply IsS109.alloc | apply IsS109.drewN | apply IsS109.drew | apply IsS109.set_0 | apply IsS109.set_1 | apply IsS109.set_3) | exact HI0.out)); (case side2 => repeat (first | (with_reducible first | exact HB.out | apply below_alloc | apply pw_below_drewN | apply below_drew1 | refine below_set ?_ (IsS109.ge HI0.out)) | exact HB.out)); rintro e w8 ⟨rfl, hi, hb, hk⟩; have n0_ := Aside0.mk (KeepBut.trans (by repeat (first | (with_reducible first | exact HK.out | apply KeepBut.set_ | apply keep_drewN | apply keep_drew | apply keep_alloc) | exact HK.out)) hk (.inl rfl)); have n1_ := Aside0.mk (hb); have n2_ := Aside0.mk (hi); clear HK; clear HB; clear HI0; have HK := n0_; have HB := n1_; have HI0 := n2_; clear n0_ n1_ n2_; (try clear hb); (try clear hb2); (try clear hk); (try clear hi))); try go_wp2_with (first | (go_at_call 93; (with_reducible refine (field_GF_in.calls g s0_0 s0_1 s0_2 s0_3 s0_4 s0_5 a1 t111 t112 t113 t114 w0 _ ?side1 ?side2 A4.out).mono ?_); (case side1 => repeat (first | (with_reducible first | exact HI0.out | apply IsS109.alloc | apply IsS109.drewN | apply IsS109.drew | apply IsS109.set_0 | apply IsS109.set_1 | apply IsS109.set_3) | exact HI0.out)); (case side2 => repeat (first | (with_reducible first | exact HB.out | apply below_alloc | apply pw_below_drewN | apply below_drew1 | refine below_set ?_ (IsS109.ge HI0.out)) | exact HB.out)); rintro e w7 ⟨rfl, hi, hb, hk⟩; have n0_ := Aside0.mk (KeepBut.trans (by repeat (first | (with_reducible first | exact HK.out | apply KeepBut.set_ | apply keep_drewN | apply keep_drew | apply keep_alloc) | exact HK.out)) hk (.inl rfl)); have n1_ := Aside0.mk (hb); have n2_ := Aside0.mk (hi); clear HK; clear HB; clear HI0; have HK := n0_; have HB := n1_; have HI0 := n2_; clear n0_ n1_ n2_; (try clear hb); (try clear hb2); (try clear hk); (try clear hi)) | (go_at_call 93; (with_reducible refine (field_GF_in.calls g t112 t113 s0_2 t114 s0_4 s0_5 a2 t115 t116 t117 t118 w0 _ ?side1 ?side2 A5.out).mono ?_); (case side1 => repeat (first | (with_reducible first | exact HI0.out | apply IsS109.alloc | apply IsS109.drewN | apply IsS109.drew | apply IsS109.set_0 | apply IsS109.set_1 | apply IsS109.set_3) | exact HI0.out)); (case side2 => repeat (first | (with_reducible first | exact HB.out | apply below_alloc | apply pw_below_drewN | apply below_drew1 | refine below_set ?_ (IsS109.ge HI0.out)) | exact HB.out)); rintro e w8 ⟨rfl, hi, hb, hk⟩; have n0_ := Aside0.mk (KeepBut.trans (by repeat (first | (with_reducible first | exact HK.out | apply KeepBut.set_ | apply keep_drewN | apply keep_drew | apply keep_alloc) | exact HK.out)) hk (.inl rfl)); have n1_ := Aside0.mk (hb); have n2_ := Aside0.mk (hi); clear HK; clear HB; clear HI0; have HK := n0_; have HB := n1_; have HI0 := n2_; clear n0_ n1_ n2_; (try clear hb); (try clear hb2); (try clear hk); (try clear hi))))
  go_ret
  exact ⟨by first | rfl | (simp [errW_none, errW_some] <;> rfl) | (simp [*, errW_none, errW_some] <;> rfl), by repeat (first | (with_reducible first | exact HI0.out | apply IsS109.alloc | apply IsS109.drewN | apply IsS109.drew | apply IsS109.set_0 | apply IsS109.set_1 | apply IsS109.set_3) | exact HI0.out), by repeat (first | (with_reducible first | exact HB.out | apply below_alloc | apply pw_below_drewN | apply below_drew1 | refine below_set ?_ (IsS109.ge HI0.out)) | exact HB.out), by repeat (first | (with_reducible first | exact HK.out | apply KeepBut.set_ | apply keep_drewN | apply keep_drew | apply keep_alloc) | exact HK.out)⟩
 ·rw [if_neg c6] at H
  have c6b0 : (t111 == 0) = false := beq_eq_false_iff_ne.mpr c6
  have c6b1 : (t111 != 0) = true := bne_iff_ne.mpr c6
  by_cases c9 : t115 = 0
  ·rw [if_pos c9] at H
   have c9b0 : (t115 == 0) = true := beq_iff_eq.mpr c9
   have c9b1 : (t115 != 0) = false := bne_eq_false_iff_eq.mpr c9
   clear c9
   simp only [Option.some.injEq, Prod.mk.injEq] at H
   obtain ⟨rfl, rfl, rfl, rfl⟩ := H
   go_enter Try.func91, Try.ntmps91
   go_wp2_with (first | (go_at_call 93; (with_reducible refine (field_GF_in.calls g s0_0 s0_1 s0_2 s0_3 s0_4 s0_5 a1 t111 t112 t113 t114 w0 _ ?side1 ?side2 A4.out).mono ?_); (case side1 => repeat (first | (with_reducible first | exact HI0.out | apply IsS109.alloc | apply IsS109.drewN | apply IsS109.drew | apply IsS109.set_0 | apply IsS109.set_1 | apply IsS109.set_3) | exact HI0.out)); (case side2 => repeat (first | (with_reducible first | exact HB.out | apply below_alloc | apply pw_below_drewN | apply below_drew1 | refine below_set ?_ (IsS109.ge HI0.out)) | exact HB.out)); rintro e w10 ⟨rfl, hi, hb, hk⟩; have n0_ := Aside0.mk (KeepBut.trans (by repeat (first | (with_reducible first | exact HK.out | apply KeepBut.set_ | apply keep_drewN | apply keep_drew | apply keep_alloc) | exact HK.out)) hk (.inl rfl)); have n1_ := Aside0.mk (hb); have n2_ := Aside0.mk (hi); clear HK; clear HB; clear HI0; have HK := n0_; have HB := n1_; have HI0 := n2_; clear n0_ n1_ n2_; (try clear hb); (try clear hb2); (try clear hk); (try clear hi)) | (go_at_call 93; (with_reducible refine (field_GF_in.calls g t112 t113 s0_2 t114 s0_4 s0_5 a2 t115 t116 t117 t118 w0 _ ?side1 ?side2 A5.out).mono ?_); (case side1 => repeat (first | (with_reducible first | exact HI0.out | apply IsS109.alloc | apply IsS109.drewN | apply IsS109.drew | apply IsS109.set_0 | apply IsS109.set_1 | apply IsS109.set_3) | exact HI0.out)); (case side2 => repeat (first | (with_reducible first | exact HB.out | apply below_alloc | apply pw_below_drewN | apply below_drew1 | refine below_set ?_ (IsS109.ge HI0.out)) | exact HB.out)); rintro e w11 ⟨rfl, hi, hb, hk⟩; have n0_ := Aside0.mk (KeepBut.trans (by repeat (first | (with_reducible first | exact HK.out | apply KeepBut.set_ | apply keep_drewN | apply keep_drew | apply keep_alloc) | exact HK.out)) hk (.inl rfl)); have n1_ := Aside0.mk (hb); have n2_ := Aside0.mk (hi); clear HK; clear HB; clear HI0; have HK := n0_; have HB := n1_; have HI0 := n2_; clear n0_ n1_ n2_; (try clear hb); (try clear hb2); (try clear hk); (try clear hi)))
   repeat (go_quiet (first | (go_at_call 93; (with_reducible refine (field_GF_in.calls g s0_0 s0_1 s0_2 s0_3 s0_4 s0_5 a1 t111 t112 t113 t114 w0 _ ?side1 ?side2 A4.out).mono ?_); (case side1 => repeat (first | (with_reducible first | exact HI0.out | apply IsS109.alloc | apply IsS109.drewN | apply IsS109.drew | apply IsS109.set_0 | apply IsS109.set_1 | apply IsS109.set_3) | exact HI0.out)); (case side2 => repeat (first | (with_reducible first | exact HB.out | apply below_alloc | apply pw_below_drewN | apply below_drew1 | refine below_set ?_ (IsS109.ge HI0.out)) | exact HB.out)); rintro e w10 ⟨rfl, hi, hb, hk⟩; have n0_ := Aside0.mk (KeepBut.trans (by repeat (first | (with_reducible first | exact HK.out | apply KeepBut.set_ | apply keep_drewN | apply keep_drew | apply keep_alloc) | exact HK.out)) hk (.inl rfl)); have n1_ := Aside0.mk (hb); have n2_ := Aside0.mk (hi); clear HK; clear HB; clear HI0; have HK := n0_; have HB := n1_; have HI0 := n2_; clear n0_ n1_ n2_; (try clear hb); (try clear hb2); (try clear hk); (try clear hi)) | (go_at_call 93; (with_reducible refine (field_GF_in.calls g t112 t113 s0_2 t114 s0_4 s0_5 a2 t115 t116 t117 t118 w0 _ ?side1 ?side2 A5.out).mono ?_); (case side1 => repeat (first | (with_reducible first | exact HI0.out | apply IsS109.alloc | apply IsS109.drewN | apply IsS109.drew | apply IsS109.set_0 | apply IsS109.set_1 | apply IsS109.set_3) | exact HI0.out)); (case side2 => repeat (first | (with_reducible first | exact HB.out | apply below_alloc | apply pw_below_drewN | apply below_drew1 | refine below_set ?_ (IsS109.ge HI0.out)) | exact HB.out)); rintro e w11 ⟨rfl, hi, hb, hk⟩; have n0_ := Aside0.mk (KeepBut.trans (by repeat (first | (with_reducible first | exact HK.out | apply KeepBut.set_ | apply keep_drewN | apply keep_drew | apply keep_alloc) | exact HK.out)) hk (.inl rfl)); have n1_ := Aside0.mk (hb); have n2_ := Aside0.mk (hi); clear HK; clear HB; clear HI0; have HK := n0_; have HB := n1_; have HI0 := n2_; clear n0_ n1_ n2_; (try clear hb); (try clear hb2); (try clear hk); (try clear hi))); try go_wp2_with (first | (go_at_call 93; (with_reducible refine (field_GF_in.calls g s0_0 s0_1 s0_2 s0_3 s0_4 s0_5 a1 t111 t112 t113 t114 w0 _ ?side1 ?side2 A4.out).mono ?_); (case side1 => repeat (first | (with_reducible first | exact HI0.out | apply IsS109.alloc | apply IsS109.drewN | apply IsS109.drew | apply IsS109.set_0 | apply IsS109.set_1 | apply IsS109.set_3) | exact HI0.out)); (case side2 => repeat (first | (with_reducible first | exact HB.out | apply below_alloc | apply pw_below_drewN | apply below_drew1 | refine below_set ?_ (IsS109.ge HI0.out)) | exact HB.out)); rintro e w10 ⟨rfl, hi, hb, hk⟩; have n0_ := Aside0.mk (KeepBut.trans (by repeat (first | (with_reducible first | exact HK.out | apply KeepBut.set_ | apply keep_drewN | apply keep_drew | apply keep_alloc) | exact HK.out)) hk (.inl rfl)); have n1_ := Aside0.mk (hb); have n2_ := Aside0.mk (hi); clear HK; clear HB; clear HI0; have HK := n0_; have HB := n1_; have HI0 := n2_; clear n0_ n1_ n2_; (try clear hb); (try clear hb2); (try clear hk); (try clear hi)) | (go_at_call 93; (with_reducible refine (field_GF_in.calls g t112 t113 s0_2 t114 s0_4 s0_5 a2 t115 t116 t117 t118 w0 _ ?side1 ?side2 A5.out).mono ?_); (case side1 => repeat (first | (with_reducible first | exact HI0.out | apply IsS109.alloc | apply IsS109.drewN | apply IsS109.drew | apply IsS109.set_0 | apply IsS109.set_1 | apply IsS109.set_3) | exact HI0.out)); (case side2 => repeat (first | (with_reducible first | exact HB.out | apply below_alloc | apply pw_below_drewN | apply below_drew1 | refine below_set ?_ (IsS109.ge HI0.out)) | exact HB.out)); rintro e w11 ⟨rfl, hi, hb, hk⟩; have n0_ := Aside0.mk (KeepBut.trans (by repeat (first | (with_reducible first | exact HK.out | apply KeepBut.set_ | apply keep_drewN | apply keep_drew | apply keep_alloc) | exact HK.out)) hk (.inl rfl)); have n1_ := Aside0.mk (hb); have n2_ := Aside0.mk (hi); clear HK; clear HB; clear HI0; have HK := n0_; have HB := n1_; have HI0 := n2_; clear n0_ n1_ n2_; (try clear hb); (try clear hb2); (try clear hk); (try clear hi))))
   go_ret
   exact ⟨by first | rfl | (simp [errW_none, errW_some] <;> rfl) | (simp [*, errW_none, errW_some] <;> rfl), by repeat (first | (with_reducible first | exact HI0.out | apply IsS109.alloc | apply IsS109.drewN | apply IsS109.drew | apply IsS109.set_0 | apply IsS109.set_1 | apply IsS109.set_3) | exact HI0.out), by repeat (first | (with_reducible first | exact HB.out | apply below_alloc | apply pw_below_drewN | apply below_drew1 | refine below_set ?_ (IsS109.ge HI0.out)) | exact HB.out), by repeat (first | (with_reducible first | exact HK.out | apply KeepBut.set_ | apply keep_drewN | apply keep_drew | apply keep_alloc) | exact HK.out)⟩
  ·rw [if_neg c9] at H
   have c9b0 : (t115 == 0) = false := beq_eq_false_iff_ne.mpr c9
   have c9b1 : (t115 != 0) = true := bne_iff_ne.mpr c9
   by_cases c12 : 0 ≤ t111
   ·rw [if_pos c12] at H
    have c12b0 : decide (0 ≤ t111) = true := decide_eq_true c12
    clear c12
    by_cases c13 : t111 < (s0_5.length : Int)
    ·rw [if_pos c13] at H
     have c13b0 : decide (t111 < (s0_5.length : Int)) = true := decide_eq_true c13
     clear c13
     by_cases c14 : 0 ≤ t115
     ·rw [if_pos c14] at H
      have c14b0 : decide (0 ≤ t115) = true := decide_eq_true c14
      clear c14
      by_cases c15 : t115 < (s0_5.length : Int)
      ·rw [if_pos c15] at H
       have c15b0 : decide (t115 < (s0_5.length : Int)) = true := decide_eq_true c15
       clear c15
       by_cases c16 : (wrap64 (t118 - 1)) = 0
       ·rw [if_pos c16] at H
        exact absurd H (by simp)
       ·rw [if_neg c16] at H
        have c16b0 : ((wrap64 (t118 - 1)) == 0) = false := beq_eq_false_iff_ne.mpr c16
        have c16b1 : ((wrap64 (t118 - 1)) != 0) = true := bne_iff_ne.mpr c16
        obtain ⟨ji17, hji17⟩ : ∃ j_ : Int, (Int.tmod (wrap64 ((rd s0_5 t111) + (rd s0_5 t115))) (wrap64 (t118 - 1))) = j_ := ⟨_, rfl⟩
        replace H : (if 0 ≤ (ji17) then (if (ji17) < (s0_4.length : Int) then (some (rd s0_4 (ji17), t116, t117, t118)) else (none)) else (none)) = some (r1, r2, r3, r4) := by first | (rw [hji17] at H; exact H) | (simp only [hji17] at H ⊢; exact H)
        (try rw [hji17] at A4)
        (try rw [hji17] at A5)
        by_cases c18 : 0 ≤ (ji17)
        ·rw [if_pos c18] at H
         have c18b0 : decide (0 ≤ (ji17)) = true := decide_eq_true c18
         clear c18
         by_cases c19 : (ji17) < (s0_4.length : Int)
         ·rw [if_pos c19] at H
          have c19b0 : decide ((ji17) < (s0_4.length : Int)) = true := decide_eq_true c19
          clear c19
          simp only [Option.some.injEq, Prod.mk.injEq] at H
          obtain ⟨rfl, rfl, rfl, rfl⟩ := H
          go_enter Try.func91, Try.ntmps91
          go_wp2_with (first | (go_at_call 93; (with_reducible refine (field_GF_in.calls g s0_0 s0_1 s0_2 s0_3 s0_4 s0_5 a1 t111 t112 t113 t114 w0 _ ?side1 ?side2 A4.out).mono ?_); (case side1 => repeat (first | (with_reducible first | exact HI0.out | apply IsS109.alloc | apply IsS109.drewN | apply IsS109.drew | apply IsS109.set_0 | apply IsS109.set_1 | apply IsS109.set_3) | exact HI0.out)); (case side2 => repeat (first | (with_reducible first | exact HB.out | apply below_alloc | apply pw_below_drewN | apply below_drew1 | refine below_set ?_ (IsS109.ge HI0.out)) | exact HB.out)); rintro e w20 ⟨rfl, hi, hb, hk⟩; have n0_ := Aside0.mk (KeepBut.trans (by repeat (first | (with_reducible first | exact HK.out | apply KeepBut.set_ | apply keep_drewN | apply keep_drew | apply keep_alloc) | exact HK.out)) hk (.inl rfl)); have n1_ := Aside0.mk (hb); have n2_ := Aside0.mk (hi); clear HK; clear HB; clear HI0; have HK := n0_; have HB := n1_; have HI0 := n2_; clear n0_ n1_ n2_; (try clear hb); (try clear hb2); (try clear hk); (try clear hi)) | (go_at_call 93; (with_reducible refine (field_GF_in.calls g t112 t113 s0_2 t114 s0_4 s0_5 a2 t115 t116 t117 t118 w0 _ ?side1 ?side2 A5.out).mono ?_); (case side1 => repeat (first | (with_reducible first | exact HI0.out | apply IsS109.alloc | apply IsS109.drewN | apply IsS109.drew | apply IsS109.set_0 | apply IsS109.set_1 | apply IsS109.set_3) | exact HI0.out)); (case side2 => repeat (first | (with_reducible first | exact HB.out | apply below_alloc | apply pw_below_drewN | apply below_drew1 | refine below_set ?_ (IsS109.ge HI0.out)) | exact HB.out)); rintro e w21 ⟨rfl, hi, hb, hk⟩; have n0_ := Aside0.mk (KeepBut.trans (by repeat (first | (with_reducible first | exact HK.out | apply KeepBut.set_ | apply keep_drewN | apply keep_drew | apply keep_alloc) | exact HK.out)) hk (.inl rfl)); have n1_ := Aside0.mk (hb); have n2_ := Aside0.mk (hi); clear HK; clear HB; clear HI0; have HK := n0_; have HB := n1_; have HI0 := n2_; clear n0_ n1_ n2_; (try clear hb); (try clear hb2); (try clear hk); (try clear hi); obtain ⟨ASz22_2, cSz22_2, ASz22_4, cSz22_4, ASz22_5, cSz22_5, HGz22, hgz22, HSz22_2, HSz22_4, HSz22_5⟩ := HI0.out; have hcz22_0 := cellS109_0 HGz22; have hcz22_1 := cellS109_1 HGz22; have hcz22_2 := cellS109_2 HGz22; have hcz22_3 := cellS109_3 HGz22; have hcz22_4 := cellS109_4 HGz22; have hcz22_5 := cellS109_5 HGz22; have hfz22_0 := blk_frozen HGz22 0; have hfz22_1 := blk_frozen HGz22 1; have hfz22_3 := blk_frozen HGz22 3; clear HGz22 hgz22; have p119 : 0 ≤ (t111 : Int) := of_decide_eq_true (by first | (with_reducible assumption) | assumption); have q119 : t111 < (s0_5.length : Int) := of_decide_eq_true (by first | (with_reducible assumption) | assumption); obtain ⟨ad119, e119, hx119_0⟩ := Kd.at_int HSz22_5 t111 p119 q119; cases e119; replace hx119_0 := pw_cell_below HB.out hx119_0; replace p119 := eq_true p119; replace q119 := eq_true q119; have p120 : 0 ≤ (t115 : Int) := of_decide_eq_true (by first | (with_reducible assumption) | assumption); have q120 : t115 < (s0_5.length : Int) := of_decide_eq_true (by first | (with_reducible assumption) | assumption); obtain ⟨ad120, e120, hx120_0⟩ := Kd.at_int HSz22_5 t115 p120 q120; obtain rfl : ad119 = ad120 := (by injection e120); replace hx120_0 := pw_cell_below HB.out hx120_0; replace p120 := eq_true p120; replace q120 := eq_true q120; have p121 : 0 ≤ ((ji17) : Int) := of_decide_eq_true (by first | (with_reducible assumption) | assumption); have q121 : (ji17) < (s0_4.length : Int) := of_decide_eq_true (by first | (with_reducible assumption) | assumption); obtain ⟨ad121, e121, hx121_0⟩ := Kd.at_int HSz22_4 (ji17) p121 q121; cases e121; replace hx121_0 := pw_cell_below HB.out hx121_0; replace p121 := eq_true p121; replace q121 := eq_true q121))
          repeat (go_quiet (first | (go_at_call 93; (with_reducible refine (field_GF_in.calls g s0_0 s0_1 s0_2 s0_3 s0_4 s0_5 a1 t111 t112 t113 t114 w0 _ ?side1 ?side2 A4.out).mono ?_); (case side1 => repeat (first | (with_reducible first | exact HI0.out | apply IsS109.alloc | apply IsS109.drewN | apply IsS109.drew | apply IsS109.set_0 | apply IsS109.set_1 | apply IsS109.set_3) | exact HI0.out)); (case side2 => repeat (first | (with_reducible first | exact HB.out | apply below_alloc | apply pw_below_drewN | apply below_drew1 | refine below_set ?_ (IsS109.ge HI0.out)) | exact HB.out)); rintro e w20 ⟨rfl, hi, hb, hk⟩; have n0_ := Aside0.mk (KeepBut.trans (by repeat (first | (with_reducible first | exact HK.out | apply KeepBut.set_ | apply keep_drewN | apply keep_drew | apply keep_alloc) | exact HK.out)) hk (.inl rfl)); have n1_ := Aside0.mk (hb); have n2_ := Aside0.mk (hi); clear HK; clear HB; clear HI0; have HK := n0_; have HB := n1_; have HI0 := n2_; clear n0_ n1_ n2_; (try clear hb); (try clear hb2); (try clear hk); (try clear hi)) | (go_at_call 93; (with_reducible refine (field_GF_in.calls g t112 t113 s0_2 t114 s0_4 s0_5 a2 t115 t116 t117 t118 w0 _ ?side1 ?side2 A5.out).mono ?_); (case side1 => repeat (first | (with_reducible first | exact HI0.out | apply IsS109.alloc | apply IsS109.drewN | apply IsS109.drew | apply IsS109.set_0 | apply IsS109.set_1 | apply IsS109.set_3) | exact HI0.out)); (case side2 => repeat (first | (with_reducible first | exact HB.out | apply below_alloc | apply pw_below_drewN | apply below_drew1 | refine below_set ?_ (IsS109.ge HI0.out)) | exact HB.out)); rintro e w21 ⟨rfl, hi, hb, hk⟩; have n0_ := Aside0.mk (KeepBut.trans (by repeat (first | (with_reducible first | exact HK.out | apply KeepBut.set_ | apply keep_drewN | apply keep_drew | apply keep_alloc) | exact HK.out)) hk (.inl rfl)); have n1_ := Aside0.mk (hb); have n2_ := Aside0.mk (hi); clear HK; clear HB; clear HI0; have HK := n0_; have HB := n1_; have HI0 := n2_; clear n0_ n1_ n2_; (try clear hb); (try clear hb2); (try clear hk); (try clear hi); obtain ⟨ASz22_2, cSz22_2, ASz22_4, cSz22_4, ASz22_5, cSz22_5, HGz22, hgz22, HSz22_2, HSz22_4, HSz22_5⟩ := HI0.out; have hcz22_0 := cellS109_0 HGz22; have hcz22_1 := cellS109_1 HGz22; have hcz22_2 := cellS109_2 HGz22; have hcz22_3 := cellS109_3 HGz22; have hcz22_4 := cellS109_4 HGz22; have hcz22_5 := cellS109_5 HGz22; have hfz22_0 := blk_frozen HGz22 0; have hfz22_1 := blk_frozen HGz22 1; have hfz22_3 := blk_frozen HGz22 3; clear HGz22 hgz22; have p119 : 0 ≤ (t111 : Int) := of_decide_eq_true (by first | (with_reducible assumption) | assumption); have q119 : t111 < (s0_5.length : Int) := of_decide_eq_true (by first | (with_reducible assumption) | assumption); obtain ⟨ad119, e119, hx119_0⟩ := Kd.at_int HSz22_5 t111 p119 q119; cases e119; replace hx119_0 := pw_cell_below HB.out hx119_0; replace p119 := eq_true p119; replace q119 := eq_true q119; have p120 : 0 ≤ (t115 : Int) := of_decide_eq_true (by first | (with_reducible assumption) | assumption); have q120 : t115 < (s0_5.length : Int) := of_decide_eq_true (by first | (with_reducible assumption) | assumption); obtain ⟨ad120, e120, hx120_0⟩ := Kd.at_int HSz22_5 t115 p120 q120; obtain rfl : ad119 = ad120 := (by injection e120); replace hx120_0 := pw_cell_below HB.out hx120_0; replace p120 := eq_true p120; replace q120 := eq_true q120; have p121 : 0 ≤ ((ji17) : Int) := of_decide_eq_true (by first | (with_reducible assumption) | assumption); have q121 : (ji17) < (s0_4.length : Int) := of_decide_eq_true (by first | (with_reducible assumption) | assumption); obtain ⟨ad121, e121, hx121_0⟩ := Kd.at_int HSz22_4 (ji17) p121 q121; cases e121; replace hx121_0 := pw_cell_below HB.out hx121_0; replace p121 := eq_true p121; replace q121 := eq_true q121)); try go_wp2_with (first | (go_at_call 93; (with_reducible refine (field_GF_in.calls g s0_0 s0_1 s0_2 s0_3 s0_4 s0_5 a1 t111 t112 t113 t114 w0 _ ?side1 ?side2 A4.out).mono ?_); (case side1 => repeat (first | (with_reducible first | exact HI0.out | apply IsS109.alloc | apply IsS109.drewN | apply IsS109.drew | apply IsS109.set_0 | apply IsS109.set_1 | apply IsS109.set_3) | exact HI0.out)); (case side2 => repeat (first | (with_reducible first | exact HB.out | apply below_alloc | apply pw_below_drewN | apply below_drew1 | refine below_set ?_ (IsS109.ge HI0.out)) | exact HB.out)); rintro e w20 ⟨rfl, hi, hb, hk⟩; have n0_ := Aside0.mk (KeepBut.trans (by repeat (first | (with_reducible first | exact HK.out | apply KeepBut.set_ | apply keep_drewN | apply keep_drew | apply keep_alloc) | exact HK.out)) hk (.inl rfl)); have n1_ := Aside0.mk (hb); have n2_ := Aside0.mk (hi); clear HK; clear HB; clear HI0; have HK := n0_; have HB := n1_; have HI0 := n2_; clear n0_ n1_ n2_; (try clear hb); (try clear hb2); (try clear hk); (try clear hi)) | (go_at_call 93; (with_reducible refine (field_GF_in.calls g t112 t113 s0_2 t114 s0_4 s0_5 a2 t115 t116 t117 t118 w0 _ ?side1 ?side2 A5.out).mono ?_); (case side1 => repeat (first | (with_reducible first | exact HI0.out | apply IsS109.alloc | apply IsS109.drewN | apply IsS109.drew | apply IsS109.set_0 | apply IsS109.set_1 | apply IsS109.set_3) | exact HI0.out)); (case side2 => repeat (first | (with_reducible first | exact HB.out | apply below_alloc | apply pw_below_drewN | apply below_drew1 | refine below_set ?_ (IsS109.ge HI0.out)) | exact HB.out)); rintro e w21 ⟨rfl, hi, hb, hk⟩; have n0_ := Aside0.mk (KeepBut.trans (by repeat (first | (with_reducible first | exact HK.out | apply KeepBut.set_ | apply keep_drewN | apply keep_drew | apply keep_alloc) | exact HK.out)) hk (.inl rfl)); have n1_ := Aside0.mk (hb); have n2_ := Aside0.mk (hi); clear HK; clear HB; clear HI0; have HK := n0_; have HB := n1_; have HI0 := n2_; clear n0_ n1_ n2_; (try clear hb); (try clear hb2); (try clear hk); (try clear hi); obtain ⟨ASz22_2, cSz22_2, ASz22_4, cSz22_4, ASz22_5, cSz22_5, HGz22, hgz22, HSz22_2, HSz22_4, HSz22_5⟩ := HI0.out; have hcz22_0 := cellS109_0 HGz22; have hcz22_1 := cellS109_1 HGz22; have hcz22_2 := cellS109_2 HGz22; have hcz22_3 := cellS109_3 HGz22; have hcz22_4 := cellS109_4 HGz22; have hcz22_5 := cellS109_5 HGz22; have hfz22_0 := blk_frozen HGz22 0; have hfz22_1 := blk_frozen HGz22 1; have hfz22_3 := blk_frozen HGz22 3; clear HGz22 hgz22; have p119 : 0 ≤ (t111 : Int) := of_decide_eq_true (by first | (with_reducible assumption) | assumption); have q119 : t111 < (s0_5.length : Int) := of_decide_eq_true (by first | (with_reducible assumption) | assumption); obtain ⟨ad119, e119, hx119_0⟩ := Kd.at_int HSz22_5 t111 p119 q119; cases e119; replace hx119_0 := pw_cell_below HB.out hx119_0; replace p119 := eq_true p119; replace q119 := eq_true q119; have p120 : 0 ≤ (t115 : Int) := of_decide_eq_true (by first | (with_reducible assumption) | assumption); have q120 : t115 < (s0_5.length : Int) := of_decide_eq_true (by first | (with_reducible assumption) | assumption); obtain ⟨ad120, e120, hx120_0⟩ := Kd.at_int HSz22_5 t115 p120 q120; obtain rfl : ad119 = ad120 := (by injection e120); replace hx120_0 := pw_cell_below HB.out hx120_0; replace p120 := eq_true p120; replace q120 := eq_true q120; have p121 : 0 ≤ ((ji17) : Int) := of_decide_eq_true (by first | (with_reducible assumption) | assumption); have q121 : (ji17) < (s0_4.length : Int) := of_decide_eq_true (by first | (with_reducible assumption) | assumption); obtain ⟨ad121, e121, hx121_0⟩ := Kd.at_int HSz22_4 (ji17) p121 q121; cases e121; replace hx121_0 := pw_cell_below HB.out hx121_0; replace p121 := eq_true p121; replace q121 := eq_true q121)))
          go_ret
          exact ⟨by first | rfl | (simp [errW_none, errW_some] <;> rfl) | (simp only [← hji17]; first | rfl | (simp [errW_none, errW_some] <;> rfl)) | (simp [*, errW_none, errW_some] <;> rfl), by repeat (first | (with_reducible first | exact HI0.out | apply IsS109.alloc | apply IsS109.drewN | apply IsS109.drew | apply IsS109.set_0 | apply IsS109.set_1 | apply IsS109.set_3) | exact HI0.out), by repeat (first | (with_reducible first | exact HB.out | apply below_alloc | apply pw_below_drewN | apply below_drew1 | refine below_set ?_ (IsS109.ge HI0.out)) | exact HB.out), by repeat (first | (with_reducible first | exact HK.out | apply KeepBut.set_ | apply keep_drewN | apply keep_drew | apply keep_alloc) | exact HK.out)⟩
         ·rw [if_neg c19] at H
          exact absurd H (by simp)
        ·rw [if_neg c18] at H
         exact absurd H (by simp)
      ·rw [if_neg c15] at H
       exact absurd H (by simp)
     ·rw [if_neg c14] at H
      exact absurd H (by simp)
    ·rw [if_neg c13] at H
     exact absurd H (by simp)
   ·rw [if_neg c12] at H
    exact absurd H (by simp)
end Go.Proofs.Ytkifipakikbhcaa.Gf
namespace Go.Proofs.Ytkifipakikbhcaa.Gf
open Go.Proofs.Ytkifipakikbhcaa.Ref
open Go.RowKit Go.Proofs.YtkifipakikbhcaaW.PrintWords Go.Proofs.YtkifipakikbhcaaW.PrintLast Go.Proofs.YtkifipakikbhcaaW.PrintMore
attribute [local go_sem] max2_int min2_int max_two min_two max_three min_three max_four min_four
def field_GF_Div.f (s0_0 : Int) (s0_1 : Int) (s0_2 : List Int) (s0_3 : Int) (s0_4 : List Int) (s0_5 : List Int) (a1 : Int) (a2 : Int) : Option (Int × Int × Int × Int × Int) := (field_GF_Inv.f s0_0 s0_1 s0_2 s0_3 s0_4 s0_5 a2).bind fun bt122 => (if bt122.2.1 = 0 then ((field_GF_Mul.f bt122.2.2.1 bt122.2.2.2.1 s0_2 bt122.2.2.2.2 s0_4 s0_5 a1 bt122.1).bind fun bt127 => (some (bt127.1, 0, bt127.2.1, bt127.2.2.1, bt127.2.2.2))) else (some (0, bt122.2.1, bt122.2.2.1, bt122.2.2.2.1, bt122.2.2.2.2)))
theorem field_GF_Div.calls (g : Nat) (s0_0 : Int) (s0_1 : Int) (s0_2 : List Int) (s0_3 : Int) (s0_4 : List Int) (s0_5 : List Int) (a1 : Int) (a2 : Int) (r1 : Int) (r2 : Int) (r3 : Int) (r4 : Int) (r5 : Int) (w0 w : World) (hI : IsS109 w0 w g s0_0 s0_1 s0_2 s0_3 s0_4 s0_5) (hB : Below w0.heap.size w0 w) (h : field_GF_Div.f s0_0 s0_1 s0_2 s0_3 s0_4 s0_5 a1 a2 = some (r1, r2, r3, r4, r5)) :
  Calls Try.prog 67 #[.pointer (some ⟨g, 0, none⟩), .int .i64 a1, .int .i64 a2] w fun e w' => e = .returned (.tuple #[.int .i64 r1, .int .i64 r2]) ∧ IsS109 w0 w' g r3 r4 s0_2 r5 s0_4 s0_5 ∧ Below w0.heap.size w0 w' ∧ KeepBut w w' g none := by
 have HI0 := Aside0.mk hI
 have HK := Aside0.mk (KeepBut.refl w g none)
 have HL := Aside0.mk hB.size
 clear hI
 have HW0 := Aside0.mk hB.size
 have HB := Aside0.mk hB
 clear hB
 have H : ((field_GF_Inv.f s0_0 s0_1 s0_2 s0_3 s0_4 s0_5 a2).bind fun bt122 => (if bt122.2.1 = 0 then ((field_GF_Mul.f bt122.2.2.1 bt122.2.2.2.1 s0_2 bt122.2.2.2.2 s0_4 s0_5 a1 bt122.1).bind fun bt127 => (some (bt127.1, 0, bt127.2.1, bt127.2.2.1, bt127.2.2.2))) else (some (0, bt122.2.1, bt122.2.2.1, bt122.2.2.2.1, bt122.2.2.2.2)))) = some (r1, r2, r3, r4, r5) := h
 clear h
 replace H := Option.bind_eq_some_iff.mp H
 obtain ⟨⟨t122, t123, t124, t125, t126⟩, A40, H⟩ := H
 replace H : (if t123 = 0 then ((field_GF_Mul.f t124 t125 s0_2 t126 s0_4 s0_5 a1 t122).bind fun bt127 => (some (bt127.1, 0, bt127.2.1, bt127.2.2.1, bt127.2.2.2))) else (some (0, t123, t124, t125, t126))) = some (r1, r2, r3, r4, r5) := H
 have A4 := Aside0.mk A40
 clear A40
 by_cases c5 : t123 = 0
 ·rw [if_pos c5] at H
  have c5b0 : (t123 == 0) = true := beq_iff_eq.mpr c5
  have c5b1 : (t123 != 0) = false := bne_eq_false_iff_eq.mpr c5
  clear c5
  replace H := Option.bind_eq_some_iff.mp H
  obtain ⟨⟨t127, t128, t129, t130⟩, A60, H⟩ := H
  replace H : (some (t127, 0, t128, t129, t130)) = some (r1, r2, r3, r4, r5) := H
  have A6 := Aside0.mk A60
  clear A60
  simp only [Option.some.injEq, Prod.mk.injEq] at H
  obtain ⟨rfl, rfl, rfl, rfl, rfl⟩ := H
  go_enter Try.func67, Try.ntmps67
  go_wp2_with (first | ((with_reducible refine gate_callee (f := 90) rfl ?_); refine goesL_ (some 13) rfl rfl Try.func90 (by kernel_rfl) rfl #[.pointer (some ⟨g, 0, none⟩), .int .i64 a2] rfl (by (try simp only [List.map_toArray, List.map_cons, List.map_nil]); first | done | rfl | (simp only [List.length_drop, List.length_take]; rfl)) ?_; (with_reducible refine (field_GF_Inv.calls g s0_0 s0_1 s0_2 s0_3 s0_4 s0_5 a2 t122 t123 t124 t125 t126 w0 _ ?side1 ?side2 A4.out).mono ?_); (case side1 => repeat (first | (with_reducible first | exact HI0.out | apply IsS109.alloc | apply IsS109.drewN | apply IsS109.drew | apply IsS109.set_0 | apply IsS109.set_1 | apply IsS109.set_3) | exact HI0.out)); (case side2 => repeat (first | (with_reducible first | exact HB.out | apply below_alloc | apply pw_below_drewN | apply below_drew1 | refine below_set ?_ (IsS109.ge HI0.out)) | exact HB.out)); rintro e w7 ⟨rfl, hi, hb, hk⟩; refine ⟨_, rfl, ?_⟩; have n0_ := Aside0.mk (KeepBut.trans (by repeat (first | (with_reducible first | exact HK.out | apply KeepBut.set_ | apply keep_drewN | apply keep_drew | apply keep_alloc) | exact HK.out)) hk (.inl rfl)); have n1_ := Aside0.mk (hb); have n2_ := Aside0.mk (hi); clear HK; clear HB; clear HI0; have HK := n0_; have HB := n1_; have HI0 := n2_; clear n0_ n1_ n2_; (try clear hb); (try clear hb2); (try clear hk); (try clear hi)) | ((with_reducible refine gate_callee (f := 91) rfl ?_); refine goesL_ (some 22) rfl rfl Try.func91 (by kernel_rfl) rfl #[.pointer (some ⟨g, 0, none⟩), .int .i64 a1, .int .i64 t122] rfl (by (try simp only [List.map_toArray, List.map_cons, List.map_nil]); first | done | rfl | (simp only [List.length_drop, List.length_take]; rfl)) ?_; (with_reducible refine (field_GF_Mul.calls g t124 t125 s0_2 t126 s0_4 s0_5 a1 t122 t127 t128 t129 t130 w0 _ ?side1 ?side2 A6.out).mono ?_); (case side1 => repeat (first | (with_reducible first | exact HI0.out | apply IsS109.alloc | apply IsS109.drewN | apply IsS109.drew | apply IsS109.set_0 | apply IsS109.set_1 | apply IsS109.set_3) | exact HI0.out)); (case side2 => repeat (first | (with_reducible first | exact HB.out | apply below_alloc | apply pw_below_drewN | apply below_drew1 | refine below_set ?_ (IsS109.ge HI0.out)) | exact HB.out)); rintro e w8 ⟨rfl, hi, hb, hk⟩; refine ⟨_, rfl, ?_⟩; have n0_ := Aside0.mk (KeepBut.trans (by repeat (first | (with_reducible first | exact HK.out | apply KeepBut.set_ | apply keep_drewN | apply keep_drew | apply keep_alloc) | exact HK.out)) hk (.inl rfl)); have n1_ := Aside0.mk (hb); have n2_ := Aside0.mk (hi); clear HK; clear HB; clear HI0; have HK := n0_; have HB := n1_; have HI0 := n2_; clear n0_ n1_ n2_; (try clear hb); (try clear hb2); (try clear hk); (try clear hi)))
  go_ret2
  exact ⟨by first | rfl | (simp [errW_none, errW_some] <;> rfl) | (simp [*, errW_none, errW_some] <;> rfl), by repeat (first | (with_reducible first | exact HI0.out | apply IsS109.alloc | apply IsS109.drewN | apply IsS109.drew | apply IsS109.set_0 | apply IsS109.set_1 | apply IsS109.set_3) | exact HI0.out), by repeat (first | (with_reducible first | exact HB.out | apply below_alloc | apply pw_below_drewN | apply below_drew1 | refine below_set ?_ (IsS109.ge HI0.out)) | exact HB.out), by repeat (first | (with_reducible first | exact HK.out | apply KeepBut.set_ | apply keep_drewN | apply keep_drew | apply keep_alloc) | exact HK.out)⟩
 ·rw [if_neg c5] at H
  have c5b0 : (t123 == 0) = false := beq_eq_false_iff_ne.mpr c5
  have c5b1 : (t123 != 0) = true := bne_iff_ne.mpr c5
  simp only [Option.some.injEq, Prod.mk.injEq] at H
  obtain ⟨rfl, rfl, rfl, rfl, rfl⟩ := H
  go_enter Try.func67, Try.ntmps67
  go_wp2_with (first | ((with_reducible refine gate_callee (f := 90) rfl ?_); refine goesL_ (some 13) rfl rfl Try.func90 (by kernel_rfl) rfl #[.pointer (some ⟨g, 0, none⟩), .int .i64 a2] rfl (by (try simp only [List.map_toArray, List.map_cons, List.map_nil]); first | done | rfl | (simp only [List.length_drop, List.length_take]; rfl)) ?_; (with_reducible refine (field_GF_Inv.calls g s0_0 s0_1 s0_2 s0_3 s0_4 s0_5 a2 t122 t123 t124 t125 t126 w0 _ ?side1 ?side2 A4.out).mono ?_); (case side1 => repeat (first | (with_reducible first | exact HI0.out | apply IsS109.alloc | apply IsS109.drewN | apply IsS109.drew | apply IsS109.set_0 | apply IsS109.set_1 | apply IsS109.set_3) | exact HI0.out)); (case side2 => repeat (first | (with_reducible first | exact HB.out | apply below_alloc | apply pw_below_drewN | apply below_drew1 | refine below_set ?_ (IsS109.ge HI0.out)) | exact HB.out)); rintro e w9 ⟨rfl, hi, hb, hk⟩; refine ⟨_, rfl, ?_⟩; have n0_ := Aside0.mk (KeepBut.trans (by repeat (first | (with_reducible first | exact HK.out | apply KeepBut.set_ | apply keep_drewN | apply keep_drew | apply keep_alloc) | exact HK.out)) hk (.inl rfl)); have n1_ := Aside0.mk (hb); have n2_ := Aside0.mk (hi); clear HK; clear HB; clear HI0; have HK := n0_; have HB := n1_; have HI0 := n2_; clear n0_ n1_ n2_; (try clear hb); (try clear hb2); (try clear hk); (try clear hi)))
  go_ret2
  exact ⟨by first | rfl | (simp [errW_none, errW_some] <;> rfl) | (simp [*, errW_none, errW_some] <;> rfl), by repeat (first | (with_reducible first | exact HI0.out | apply IsS109.alloc | apply IsS109.drewN | apply IsS109.drew | apply IsS109.set_0 | apply IsS109.set_1 | apply IsS109.set_3) | exact HI0.out), by repeat (first | (with_reducible first | exact HB.out | apply below_alloc | apply pw_below_drewN | apply below_drew1 | refine below_set ?_ (IsS109.ge HI0.out)) | exact HB.out), by repeat (first | (with_reducible first | exact HK.out | apply KeepBut.set_ | apply keep_drewN | apply keep_drew | apply keep_alloc) | exact HK.out)⟩
end Go.Proofs.Ytkifipakikbhcaa.Gf
namespace Go.Proofs.Ytkifipakikbhcaa.Gf
open Go.Proofs.Ytkifipakikbhcaa.Ref
open Go.RowKit Go.Proofs.YtkifipakikbhcaaW.PrintWords Go.Proofs.YtkifipakikbhcaaW.PrintLast Go.Proofs.YtkifipakikbhcaaW.PrintMore
attribute [local go_sem] max2_int min2_int max_two min_two max_three min_three max_four min_four
def field_GF_Add.l0 : Nat → Int → Int → Int → Int → Int → Int → List Int → Int → List Int → List Int → Option (Int × Int × Int × Int)
 | 0, _, _, _, _, _, _, _, _, _, _ => none
 | k + 1, x1, x2, x7, x8, x1000, x1001, x1002, x1003, x1004, x1005 => if x1 > 0 then (if x1000 = 0 then (none) else (field_GF_Add.l0 k (wrap64 (Int.tdiv x1 x1000)) (wrap64 (Int.tdiv x2 x1000)) (wrap64 (x7 + (wrap64 ((Int.tmod (wrap64 ((Int.tmod x1 x1000) + (Int.tmod x2 x1000))) x1000) * x8)))) (wrap64 (x8 * x1000)) x1000 x1001 x1002 x1003 x1004 x1005)) else (if x2 > 0 then (if x1000 = 0 then (none) else (field_GF_Add.l0 k (wrap64 (Int.tdiv x1 x1000)) (wrap64 (Int.tdiv x2 x1000)) (wrap64 (x7 + (wrap64 ((Int.tmod (wrap64 ((Int.tmod x1 x1000) + (Int.tmod x2 x1000))) x1000) * x8)))) (wrap64 (x8 * x1000)) x1000 x1001 x1002 x1003 x1004 x1005)) else (some (x7, x1000, x1001, x1003)))
def field_GF_Add.f (k : Nat) (s0_0 : Int) (s0_1 : Int) (s0_2 : List Int) (s0_3 : Int) (s0_4 : List Int) (s0_5 : List Int) (a1 : Int) (a2 : Int) : Option (Int × Int × Int × Int) := (field_GF_in.f s0_0 s0_1 s0_2 s0_3 s0_4 s0_5 a1).bind fun bt131 => ((field_GF_in.f bt131.2.1 bt131.2.2.1 s0_2 bt131.2.2.2 s0_4 s0_5 a2).bind fun bt135 => (if bt135.2.1 = 2 then (some (Go.bits .xor .i64 bt131.1 bt135.1, bt135.2.1, bt135.2.2.1, bt135.2.2.2)) else (field_GF_Add.l0 k bt131.1 bt135.1 0 1 bt135.2.1 bt135.2.2.1 s0_2 bt135.2.2.2 s0_4 s0_5)))
theorem field_GF_Add.calls (k : Nat) (g : Nat) (s0_0 : Int) (s0_1 : Int) (s0_2 : List Int) (s0_3 : Int) (s0_4 : List Int) (s0_5 : List Int) (a1 : Int) (a2 : Int) (r1 : Int) (r2 : Int) (r3 : Int) (r4 : Int) (w0 w : World) (hI : IsS109 w0 w g s0_0 s0_1 s0_2 s0_3 s0_4 s0_5) (hB : Below w0.heap.size w0 w) (h : field_GF_Add.f k s0_0 s0_1 s0_2 s0_3 s0_4 s0_5 a1 a2 = some (r1, r2, r3, r4)) :
  Calls Try.prog 92 #[.pointer (some ⟨g, 0, none⟩), .int .i64 a1, .int .i64 a2] w fun e w' => e = .returned (.int .i64 r1) ∧ IsS109 w0 w' g r2 r3 s0_2 r4 s0_4 s0_5 ∧ Below w0.heap.size w0 w' ∧ KeepBut w w' g none := by
 have HI0 := Aside0.mk hI
 have HK := Aside0.mk (KeepBut.refl w g none)
 have HL := Aside0.mk hB.size
 clear hI
 have HW0 := Aside0.mk hB.size
 have HB := Aside0.mk hB
 clear hB
 have H : ((field_GF_in.f s0_0 s0_1 s0_2 s0_3 s0_4 s0_5 a1).bind fun bt131 => ((field_GF_in.f bt131.2.1 bt131.2.2.1 s0_2 bt131.2.2.2 s0_4 s0_5 a2).bind fun bt135 => (if bt135.2.1 = 2 then (some (Go.bits .xor .i64 bt131.1 bt135.1, bt135.2.1, bt135.2.2.1, bt135.2.2.2)) else (field_GF_Add.l0 k bt131.1 bt135.1 0 1 bt135.2.1 bt135.2.2.1 s0_2 bt135.2.2.2 s0_4 s0_5)))) = some (r1, r2, r3, r4) := h
 clear h
 replace H := Option.bind_eq_some_iff.mp H
 obtain ⟨⟨t131, t132, t133, t134⟩, A40, H⟩ := H
 replace H : ((field_GF_in.f t132 t133 s0_2 t134 s0_4 s0_5 a2).bind fun bt135 => (if bt135.2.1 = 2 then (some (Go.bits .xor .i64 t131 bt135.1, bt135.2.1, bt135.2.2.1, bt135.2.2.2)) else (field_GF_Add.l0 k t131 bt135.1 0 1 bt135.2.1 bt135.2.2.1 s0_2 bt135.2.2.2 s0_4 s0_5))) = some (r1, r2, r3, r4) := H
 have A4 := Aside0.mk A40
 clear A40
 replace H := Option.bind_eq_some_iff.mp H
 obtain ⟨⟨t135, t136, t137, t138⟩, A50, H⟩ := H
 replace H : (if t136 = 2 then (some (Go.bits .xor .i64 t131 t135, t136, t137, t138)) else (field_GF_Add.l0 k t131 t135 0 1 t136 t137 s0_2 t138 s0_4 s0_5)) = some (r1, r2, r3, r4) := H
 have A5 := Aside0.mk A50
 clear A50
 by_cases c6 : t136 = 2
 ·rw [if_pos c6] at H
  have c6b0 : (t136 == 2) = true := beq_iff_eq.mpr c6
  have c6b1 : (t136 != 2) = false := bne_eq_false_iff_eq.mpr c6
  clear c6
  simp only [Option.some.injEq, Prod.mk.injEq] at H
  obtain ⟨rfl, rfl, rfl, rfl⟩ := H
  go_enter Try.func92, Try.ntmps92
  go_wp2_with (first | (go_at_call 93; (with_reducible refine (field_GF_in.calls g s0_0 s0_1 s0_2 s0_3 s0_4 s0_5 a1 t131 t132 t133 t134 w0 _ ?side1 ?side2 A4.out).mono ?_); (case side1 => repeat (first | (with_reducible first | exact HI0.out | apply IsS109.alloc | apply IsS109.drewN | apply IsS109.drew | apply IsS109.set_0 | apply IsS109.set_1 | apply IsS109.set_3) | exact HI0.out)); (case side2 => repeat (first | (with_reducible first | exact HB.out | apply below_alloc | apply pw_below_drewN | apply below_drew1 | refine below_set ?_ (IsS109.ge HI0.out)) | exact HB.out)); rintro e w7 ⟨rfl, hi, hb, hk⟩; have n0_ := Aside0.mk (KeepBut.trans (by repeat (first | (with_reducible first | exact HK.out | apply KeepBut.set_ | apply keep_drewN | apply keep_drew | apply keep_alloc) | exact HK.out)) hk (.inl rfl)); have n1_ := Aside0.mk (hb); have n2_ := Aside0.mk (hi); clear HK; clear HB; clear HI0; have HK := n0_; have HB := n1_; have HI0 := n2_; clear n0_ n1_ n2_; (try clear hb); (try clear hb2); (try clear hk); (try clear hi)) | (go_at_call 93; (with_reducible refine (field_GF_in.calls g t132 t133 s0_2 t134 s0_4 s0_5 a2 t135 t136 t137 t138 w0 _ ?side1 ?side2 A5.out).mono ?_); (case side1 => repeat (first | (with_reducible first | exact HI0.out | apply IsS109.alloc | apply IsS109.drewN | apply IsS109.drew | apply IsS109.set_0 | apply IsS109.set_1 | apply IsS109.set_3) | exact HI0.out)); (case side2 => repeat (first | (with_reducible first | exact HB.out | apply below_alloc | apply pw_below_drewN | apply below_drew1 | refine below_set ?_ (IsS109.ge HI0.out)) | exact HB.out)); rintro e w8 ⟨rfl, hi, hb, hk⟩; have n0_ := Aside0.mk (KeepBut.trans (by repeat (first | (with_reducible first | exact HK.out | apply KeepBut.set_ | apply keep_drewN | apply keep_drew | apply keep_alloc) | exact HK.out)) hk (.inl rfl)); have n1_ := Aside0.mk (hb); have n2_ := Aside0.mk (hi); clear HK; clear HB; clear HI0; have HK := n0_; have HB := n1_; have HI0 := n2_; clear n0_ n1_ n2_; (try clear hb); (try clear hb2); (try clear hk); (try clear hi); obtain ⟨ASz9_2, cSz9_2, ASz9_4, cSz9_4, ASz9_5, cSz9_5, HGz9, hgz9, HSz9_2, HSz9_4, HSz9_5⟩ := HI0.out; have hcz9_0 := cellS109_0 HGz9; have hcz9_1 := cellS109_1 HGz9; have hcz9_2 := cellS109_2 HGz9; have hcz9_3 := cellS109_3 HGz9; have hcz9_4 := cellS109_4 HGz9; have hcz9_5 := cellS109_5 HGz9; have hfz9_0 := blk_frozen HGz9 0; have hfz9_1 := blk_frozen HGz9 1; have hfz9_3 := blk_frozen HGz9 3; clear HGz9 hgz9))
  repeat (go_quiet (first | (go_at_call 93; (with_reducible refine (field_GF_in.calls g s0_0 s0_1 s0_2 s0_3 s0_4 s0_5 a1 t131 t132 t133 t134 w0 _ ?side1 ?side2 A4.out).mono ?_); (case side1 => repeat (first | (with_reducible first | exact HI0.out | apply IsS109.alloc | apply IsS109.drewN | apply IsS109.drew | apply IsS109.set_0 | apply IsS109.set_1 | apply IsS109.set_3) | exact HI0.out)); (case side2 => repeat (first | (with_reducible first | exact HB.out | apply below_alloc | apply pw_below_drewN | apply below_drew1 | refine below_set ?_ (IsS109.ge HI0.out)) | exact HB.out)); rintro e w7 ⟨rfl, hi, hb, hk⟩; have n0_ := Aside0.mk (KeepBut.trans (by repeat (first | (with_reducible first | exact HK.out | apply KeepBut.set_ | apply keep_drewN | apply keep_drew | apply keep_alloc) | exact HK.out)) hk (.inl rfl)); have n1_ := Aside0.mk (hb); have n2_ := Aside0.mk (hi); clear HK; clear HB; clear HI0; have HK := n0_; have HB := n1_; have HI0 := n2_; clear n0_ n1_ n2_; (try clear hb); (try clear hb2); (try clear hk); (try clear hi)) | (go_at_call 93; (with_reducible refine (field_GF_in.calls g t132 t133 s0_2 t134 s0_4 s0_5 a2 t135 t136 t137 t138 w0 _ ?side1 ?side2 A5.out).mono ?_); (case side1 => repeat (first | (with_reducible first | exact HI0.out | apply IsS109.alloc | apply IsS109.drewN | apply IsS109.drew | apply IsS109.set_0 | apply IsS109.set_1 | apply IsS109.set_3) | exact HI0.out)); (case side2 => repeat (first | (with_reducible first | exact HB.out | apply below_alloc | apply pw_below_drewN | apply below_drew1 | refine below_set ?_ (IsS109.ge HI0.out)) | exact HB.out)); rintro e w8 ⟨rfl, hi, hb, hk⟩; have n0_ := Aside0.mk (KeepBut.trans (by repeat (first | (with_reducible first | exact HK.out | apply KeepBut.set_ | apply keep_drewN | apply keep_drew | apply keep_alloc) | exact HK.out)) hk (.inl rfl)); have n1_ := Aside0.mk (hb); have n2_ := Aside0.mk (hi); clear HK; clear HB; clear HI0; have HK := n0_; have HB := n1_; have HI0 := n2_; clear n0_ n1_ n2_; (try clear hb); (try clear hb2); (try clear hk); (try clear hi); obtain ⟨ASz9_2, cSz9_2, ASz9_4, cSz9_4, ASz9_5, cSz9_5, HGz9, hgz9, HSz9_2, HSz9_4, HSz9_5⟩ := HI0.out; have hcz9_0 := cellS109_0 HGz9; have hcz9_1 := cellS109_1 HGz9; have hcz9_2 := cellS109_2 HGz9; have hcz9_3 := cellS109_3 HGz9; have hcz9_4 := cellS109_4 HGz9; have hcz9_5 := cellS109_5 HGz9; have hfz9_0 := blk_frozen HGz9 0; have hfz9_1 := blk_frozen HGz9 1; have hfz9_3 := blk_frozen HGz9 3; clear HGz9 hgz9)); try go_wp2_with (first | (go_at_call 93; (with_reducible refine (field_GF_in.calls g s0_0 s0_1 s0_2 s0_3 s0_4 s0_5 a1 t131 t132 t133 t134 w0 _ ?side1 ?side2 A4.out).mono ?_); (case side1 => repeat (first | (with_reducible first | exact HI0.out | apply IsS109.alloc | apply IsS109.drewN | apply IsS109.drew | apply IsS109.set_0 | apply IsS109.set_1 | apply IsS109.set_3) | exact HI0.out)); (case side2 => repeat (first | (with_reducible first | exact HB.out | apply below_alloc | apply pw_below_drewN | apply below_drew1 | refine below_set ?_ (IsS109.ge HI0.out)) | exact HB.out)); rintro e w7 ⟨rfl, hi, hb, hk⟩; have n0_ := Aside0.mk (KeepBut.trans (by repeat (first | (with_reducible first | exact HK.out | apply KeepBut.set_ | apply keep_drewN | apply keep_drew | apply keep_alloc) | exact HK.out)) hk (.inl rfl)); have n1_ := Aside0.mk (hb); have n2_ := Aside0.mk (hi); clear HK; clear HB; clear HI0; have HK := n0_; have HB := n1_; have HI0 := n2_; clear n0_ n1_ n2_; (try clear hb); (try clear hb2); (try clear hk); (try clear hi)) | (go_at_call 93; (with_reducible refine (field_GF_in.calls g t132 t133 s0_2 t134 s0_4 s0_5 a2 t135 t136 t137 t138 w0 _ ?side1 ?side2 A5.out).mono ?_); (case side1 => repeat (first | (with_reducible first | exact HI0.out | apply IsS109.alloc | apply IsS109.drewN | apply IsS109.drew | apply IsS109.set_0 | apply IsS109.set_1 | apply IsS109.set_3) | exact HI0.out)); (case side2 => repeat (first | (with_reducible first | exact HB.out | apply below_alloc | apply pw_below_drewN | apply below_drew1 | refine below_set ?_ (IsS109.ge HI0.out)) | exact HB.out)); rintro e w8 ⟨rfl, hi, hb, hk⟩; have n0_ := Aside0.mk (KeepBut.trans (by repeat (first | (with_reducible first | exact HK.out | apply KeepBut.set_ | apply keep_drewN | apply keep_drew | apply keep_alloc) | exact HK.out)) hk (.inl rfl)); have n1_ := Aside0.mk (hb); have n2_ := Aside0.mk (hi); clear HK; clear HB; clear HI0; have HK := n0_; have HB := n1_; have HI0 := n2_; clear n0_ n1_ n2_; (try clear hb); (try clear hb2); (try clear hk); (try clear hi); obtain ⟨ASz9_2, cSz9_2, ASz9_4, cSz9_4, ASz9_5, cSz9_5, HGz9, hgz9, HSz9_2, HSz9_4, HSz9_5⟩ := HI0.out; have hcz9_0 := cellS109_0 HGz9; have hcz9_1 := cellS109_1 HGz9; have hcz9_2 := cellS109_2 HGz9; have hcz9_3 := cellS109_3 HGz9; have hcz9_4 := cellS109_4 HGz9; have hcz9_5 := cellS109_5 HGz9; have hfz9_0 := blk_frozen HGz9 0; have hfz9_1 := blk_frozen HGz9 1; have hfz9_3 := blk_frozen HGz9 3; clear HGz9 hgz9)))
  go_ret
  exact ⟨by first | rfl | (simp [errW_none, errW_some] <;> rfl) | (simp [*, errW_none, errW_some] <;> rfl), by repeat (first | (with_reducible first | exact HI0.out | apply IsS109.alloc | apply IsS109.drewN | apply IsS109.drew | apply IsS109.set_0 | apply IsS109.set_1 | apply IsS109.set_3) | exact HI0.out), by repeat (first | (with_reducible first | exact HB.out | apply below_alloc | apply pw_below_drewN | apply below_drew1 | refine below_set ?_ (IsS109.ge HI0.out)) | exact HB.out), by repeat (first | (with_reducible first | exact HK.out | apply KeepBut.set_ | apply keep_drewN | apply keep_drew | apply keep_alloc) | exact HK.out)⟩
 ·rw [if_neg c6] at H
  have c6b0 : (t136 == 2) = false := beq_eq_false_iff_ne.mpr c6
  have c6b1 : (t136 != 2) = true := bne_iff_ne.mpr c6
  have H' := Aside0.mk H
  clear H
  go_enter Try.func92, Try.ntmps92
  go_wp2_with (first | (go_at_call 93; (with_reducible refine (field_GF_in.calls g s0_0 s0_1 s0_2 s0_3 s0_4 s0_5 a1 t131 t132 t133 t134 w0 _ ?side1 ?side2 A4.out).mono ?_); (case side1 => repeat (first | (with_reducible first | exact HI0.out | apply IsS109.alloc | apply IsS109.drewN | apply IsS109.drew | apply IsS109.set_0 | apply IsS109.set_1 | apply IsS109.set_3) | exact HI0.out)); (case side2 => repeat (first | (with_reducible first | exact HB.out | apply below_alloc | apply pw_below_drewN | apply below_drew1 | refine below_set ?_ (IsS109.ge HI0.out)) | exact HB.out)); rintro e w10 ⟨rfl, hi, hb, hk⟩; have n0_ := Aside0.mk (KeepBut.trans (by repeat (first | (with_reducible first | exact HK.out | apply KeepBut.set_ | apply keep_drewN | apply keep_drew | apply keep_alloc) | exact HK.out)) hk (.inl rfl)); have n1_ := Aside0.mk (hb); have n2_ := Aside0.mk (hi); clear HK; clear HB; clear HI0; have HK := n0_; have HB := n1_; have HI0 := n2_; clear n0_ n1_ n2_; (try clear hb); (try clear hb2); (try clear hk); (try clear hi)) | (go_at_call 93; (with_reducible refine (field_GF_in.calls g t132 t133 s0_2 t134 s0_4 s0_5 a2 t135 t136 t137 t138 w0 _ ?side1 ?side2 A5.out).mono ?_); (case side1 => repeat (first | (with_reducible first | exact HI0.out | apply IsS109.alloc | apply IsS109.drewN | apply IsS109.drew | apply IsS109.set_0 | apply IsS109.set_1 | apply IsS109.set_3) | exact HI0.out)); (case side2 => repeat (first | (with_reducible first | exact HB.out | apply below_alloc | apply pw_below_drewN | apply below_drew1 | refine below_set ?_ (IsS109.ge HI0.out)) | exact HB.out)); rintro e w11 ⟨rfl, hi, hb, hk⟩; have n0_ := Aside0.mk (KeepBut.trans (by repeat (first | (with_reducible first | exact HK.out | apply KeepBut.set_ | apply keep_drewN | apply keep_drew | apply keep_alloc) | exact HK.out)) hk (.inl rfl)); have n1_ := Aside0.mk (hb); have n2_ := Aside0.mk (hi); clear HK; clear HB; clear HI0; have HK := n0_; have HB := n1_; have HI0 := n2_; clear n0_ n1_ n2_; (try clear hb); (try clear hb2); (try clear hk); (try clear hi); obtain ⟨ASz12_2, cSz12_2, ASz12_4, cSz12_4, ASz12_5, cSz12_5, HGz12, hgz12, HSz12_2, HSz12_4, HSz12_5⟩ := HI0.out; have hcz12_0 := cellS109_0 HGz12; have hcz12_1 := cellS109_1 HGz12; have hcz12_2 := cellS109_2 HGz12; have hcz12_3 := cellS109_3 HGz12; have hcz12_4 := cellS109_4 HGz12; have hcz12_5 := cellS109_5 HGz12; have hfz12_0 := blk_frozen HGz12 0; have hfz12_1 := blk_frozen HGz12 1; have hfz12_3 := blk_frozen HGz12 3; clear HGz12 hgz12))
  repeat (go_quiet (first | (go_at_call 93; (with_reducible refine (field_GF_in.calls g s0_0 s0_1 s0_2 s0_3 s0_4 s0_5 a1 t131 t132 t133 t134 w0 _ ?side1 ?side2 A4.out).mono ?_); (case side1 => repeat (first | (with_reducible first | exact HI0.out | apply IsS109.alloc | apply IsS109.drewN | apply IsS109.drew | apply IsS109.set_0 | apply IsS109.set_1 | apply IsS109.set_3) | exact HI0.out)); (case side2 => repeat (first | (with_reducible first | exact HB.out | apply below_alloc | apply pw_below_drewN | apply below_drew1 | refine below_set ?_ (IsS109.ge HI0.out)) | exact HB.out)); rintro e w10 ⟨rfl, hi, hb, hk⟩; have n0_ := Aside0.mk (KeepBut.trans (by repeat (first | (with_reducible first | exact HK.out | apply KeepBut.set_ | apply keep_drewN | apply keep_drew | apply keep_alloc) | exact HK.out)) hk (.inl rfl)); have n1_ := Aside0.mk (hb); have n2_ := Aside0.mk (hi); clear HK; clear HB; clear HI0; have HK := n0_; have HB := n1_; have HI0 := n2_; clear n0_ n1_ n2_; (try clear hb); (try clear hb2); (try clear hk); (try clear hi)) | (go_at_call 93; (with_reducible refine (field_GF_in.calls g t132 t133 s0_2 t134 s0_4 s0_5 a2 t135 t136 t137 t138 w0 _ ?side1 ?side2 A5.out).mono ?_); (case side1 => repeat (first | (with_reducible first | exact HI0.out | apply IsS109.alloc | apply IsS109.drewN | apply IsS109.drew | apply IsS109.set_0 | apply IsS109.set_1 | apply IsS109.set_3) | exact HI0.out)); (case side2 => repeat (first | (with_reducible first | exact HB.out | apply below_alloc | apply pw_below_drewN | apply below_drew1 | refine below_set ?_ (IsS109.ge HI0.out)) | exact HB.out)); rintro e w11 ⟨rfl, hi, hb, hk⟩; have n0_ := Aside0.mk (KeepBut.trans (by repeat (first | (with_reducible first | exact HK.out | apply KeepBut.set_ | apply keep_drewN | apply keep_drew | apply keep_alloc) | exact HK.out)) hk (.inl rfl)); have n1_ := Aside0.mk (hb); have n2_ := Aside0.mk (hi); clear HK; clear HB; clear HI0; have HK := n0_; have HB := n1_; have HI0 := n2_; clear n0_ n1_ n2_; (try clear hb); (try clear hb2); (try clear hk); (try clear hi); obtain ⟨ASz12_2, cSz12_2, ASz12_4, cSz12_4, ASz12_5, cSz12_5, HGz12, hgz12, HSz12_2, HSz12_4, HSz12_5⟩ := HI0.out; have hcz12_0 := cellS109_0 HGz12; have hcz12_1 := cellS109_1 HGz12; have hcz12_2 := cellS109_2 HGz12; have hcz12_3 := cellS109_3 HGz12; have hcz12_4 := cellS109_4 HGz12; have hcz12_5 := cellS109_5 HGz12; have hfz12_0 := blk_frozen HGz12 0; have hfz12_1 := blk_frozen HGz12 1; have hfz12_3 := blk_frozen HGz12 3; clear HGz12 hgz12)); try go_wp2_with (first | (go_at_call 93; (with_reducible refine (field_GF_in.calls g s0_0 s0_1 s0_2 s0_3 s0_4 s0_5 a1 t131 t132 t133 t134 w0 _ ?side1 ?side2 A4.out).mono ?_); (case side1 => repeat (first | (with_reducible first | exact HI0.out | apply IsS109.alloc | apply IsS109.drewN | apply IsS109.drew | apply IsS109.set_0 | apply IsS109.set_1 | apply IsS109.set_3) | exact HI0.out)); (case side2 => repeat (first | (with_reducible first | exact HB.out | apply below_alloc | apply pw_below_drewN | apply below_drew1 | refine below_set ?_ (IsS109.ge HI0.out)) | exact HB.out)); rintro e w10 ⟨rfl, hi, hb, hk⟩; have n0_ := Aside0.mk (KeepBut.trans (by repeat (first | (with_reducible first | exact HK.out | apply KeepBut.set_ | apply keep_drewN | apply keep_drew | apply keep_alloc) | exact HK.out)) hk (.inl rfl)); have n1_ := Aside0.mk (hb); have n2_ := Aside0.mk (hi); clear HK; clear HB; clear HI0; have HK := n0_; have HB := n1_; have HI0 := n2_; clear n0_ n1_ n2_; (try clear hb); (try clear hb2); (try clear hk); (try clear hi)) | (go_at_call 93; (with_reducible refine (field_GF_in.calls g t132 t133 s0_2 t134 s0_4 s0_5 a2 t135 t136 t137 t138 w0 _ ?side1 ?side2 A5.out).mono ?_); (case side1 => repeat (first | (with_reducible first | exact HI0.out | apply IsS109.alloc | apply IsS109.drewN | apply IsS109.drew | apply IsS109.set_0 | apply IsS109.set_1 | apply IsS109.set_3) | exact HI0.out)); (case side2 => repeat (first | (with_reducible first | exact HB.out | apply below_alloc | apply pw_below_drewN | apply below_drew1 | refine below_set ?_ (IsS109.ge HI0.out)) | exact HB.out)); rintro e w11 ⟨rfl, hi, hb, hk⟩; have n0_ := Aside0.mk (KeepBut.trans (by repeat (first | (with_reducible first | exact HK.out | apply KeepBut.set_ | apply keep_drewN | apply keep_drew | apply keep_alloc) | exact HK.out)) hk (.inl rfl)); have n1_ := Aside0.mk (hb); have n2_ := Aside0.mk (hi); clear HK; clear HB; clear HI0; have HK := n0_; have HB := n1_; have HI0 := n2_; clear n0_ n1_ n2_; (try clear hb); (try clear hb2); (try clear hk); (try clear hi); obtain ⟨ASz12_2, cSz12_2, ASz12_4, cSz12_4, ASz12_5, cSz12_5, HGz12, hgz12, HSz12_2, HSz12_4, HSz12_5⟩ := HI0.out; have hcz12_0 := cellS109_0 HGz12; have hcz12_1 := cellS109_1 HGz12; have hcz12_2 := cellS109_2 HGz12; have hcz12_3 := cellS109_3 HGz12; have hcz12_4 := cellS109_4 HGz12; have hcz12_5 := cellS109_5 HGz12; have hfz12_0 := blk_frozen HGz12 0; have hfz12_1 := blk_frozen HGz12 1; have hfz12_3 := blk_frozen HGz12 3; clear HGz12 hgz12)))
  go_loopg [1, 2, 7, 8] k (fun kq v1 v2 v7 v8 w' => ∃ (x1_1 : Int) (x2_1 : Int) (x7_1 : Int) (x8_1 : Int), v1 = .int .i64 x1_1 ∧ v2 = .int .i64 x2_1 ∧ v7 = .int .i64 x7_1 ∧ v8 = .int .i64 x8_1 ∧ Aside0 (field_GF_Add.l0 kq x1_1 x2_1 x7_1 x8_1 t136 t137 s0_2 t138 s0_4 s0_5 = some (r1, r2, r3, r4)) ∧ Aside0 (kq ≤ k) ∧ Aside0 (IsS109 w0 w' g t136 t137 s0_2 t138 s0_4 s0_5) ∧ Aside0 (KeepBut w w' g none) ∧ Aside0 (Below w0.heap.size w0 w'))
  case atStart => exact ⟨(t131), (t135), (0), (1), (by first | rfl | (simp; done) | (simp [*]; done)), (by first | rfl | (simp; done) | (simp [*]; done)), (by first | rfl | (simp; done) | (simp [*]; done)), (by first | rfl | (simp; done) | (simp [*]; done)), H', ⟨Nat.le_refl _⟩, ⟨by repeat (first | (with_reducible first | exact HI0.out | apply IsS109.alloc | apply IsS109.drewN | apply IsS109.drew | apply IsS109.set_0 | apply IsS109.set_1 | apply IsS109.set_3) | exact HI0.out)⟩, ⟨by repeat (first | (with_reducible first | exact HK.out | apply KeepBut.set_ | apply keep_drewN | apply keep_drew | apply keep_alloc) | exact HK.out)⟩, ⟨by repeat (first | (with_reducible first | exact HB.out | apply below_alloc | apply pw_below_drewN | apply below_drew1 | refine below_set ?_ (IsS109.ge HI0.out)) | exact HB.out)⟩⟩
  case round =>
   clear H'
   try clear p2
   try clear c6
   try clear c6b0
   try clear c6b1
   try clear c9
   try clear hcz12_0
   try clear hcz12_1
   try clear hcz12_2
   try clear hcz12_3
   try clear hcz12_4
   try clear hcz12_5
   try clear hcz9_0
   try clear hcz9_1
   try clear hcz9_2
   try clear hcz9_3
   try clear hcz9_4
   try clear hcz9_5
   try clear hfz12_0
   try clear hfz12_1
   try clear hfz12_3
   try clear hfz9_0
   try clear hfz9_1
   try clear hfz9_3
   obtain ⟨x1_1, x2_1, x7_1, x8_1, rfl, rfl, rfl, rfl, HA, HK1, HI0, HK, HB⟩ := hrel
   cases gk with
   | zero => exact absurd HA.out (by simp [field_GF_Add.l0])
   | succ k1 =>
    have H := HA.out
    clear HA
    simp only [field_GF_Add.l0] at H
    by_cases c13 : x1_1 > 0
    ·rw [if_pos c13] at H
     have c13b0 : decide (0 < x1_1) = true := decide_eq_true c13
     clear c13
     by_cases c14 : t136 = 0
     ·rw [if_pos c14] at H
      exact absurd H (by simp)
     ·rw [if_neg c14] at H
      have c14b0 : (t136 == 0) = false := beq_eq_false_iff_ne.mpr c14
      have c14b1 : (t136 != 0) = true := bne_iff_ne.mpr c14
      have H' := Aside0.mk H
      clear H
      obtain ⟨ASz15_2, cSz15_2, ASz15_4, cSz15_4, ASz15_5, cSz15_5, HGz15, hgz15, HSz15_2, HSz15_4, HSz15_5⟩ := HI0.out
      have hcz15_0 := cellS109_0 HGz15
      have hcz15_1 := cellS109_1 HGz15
      have hcz15_2 := cellS109_2 HGz15
      have hcz15_3 := cellS109_3 HGz15
      have hcz15_4 := cellS109_4 HGz15
      have hcz15_5 := cellS109_5 HGz15
      have hfz15_0 := blk_frozen HGz15 0
      have hfz15_1 := blk_frozen HGz15 1
      have hfz15_3 := blk_frozen HGz15 3
      clear HGz15 hgz15
      go_wp2
      repeat (go_quiet (fail); try go_wp2)
      go_roundg k1
      case measure => have := HK1.out; omega
      case rel => exact ⟨(wrap64 (Int.tdiv x1_1 t136)), (wrap64 (Int.tdiv x2_1 t136)), (wrap64 (x7_1 + (wrap64 ((Int.tmod (wrap64 ((Int.tmod x1_1 t136) + (Int.tmod x2_1 t136))) t136) * x8_1)))), (wrap64 (x8_1 * t136)), (by first | rfl | (simp; done) | (simp [*]; done)), (by first | rfl | (simp; done) | (simp [*]; done)), (by first | rfl | (simp; done) | (simp [*]; done)), (by first | rfl | (simp; done) | (simp [*]; done)), H', ⟨by have := HK1.out; omega⟩, ⟨by repeat (first | (with_reducible first | exact HI0.out | apply IsS109.alloc | apply IsS109.drewN | apply IsS109.drew | apply IsS109.set_0 | apply IsS109.set_1 | apply IsS109.set_3) | exact HI0.out)⟩, ⟨by repeat (first | (with_reducible first | exact HK.out | apply KeepBut.set_ | apply keep_drewN | apply keep_drew | apply keep_alloc) | exact HK.out)⟩, ⟨by repeat (first | (with_reducible first | exact HB.out | apply below_alloc | apply pw_below_drewN | apply below_drew1 | refine below_set ?_ (IsS109.ge HI0.out)) | exact HB.out)⟩⟩
    ·rw [if_neg c13] at H
     have c13b0 : decide (0 < x1_1) = false := decide_eq_false c13
     clear c13
     by_cases c16 : x2_1 > 0
     ·rw [if_pos c16] at H
      have c16b0 : decide (0 < x2_1) = true := decide_eq_true c16
      clear c16
      by_cases c17 : t136 = 0
      ·rw [if_pos c17] at H
       exact absurd H (by simp)
      ·rw [if_neg c17] at H
       have c17b0 : (t136 == 0) = false := beq_eq_false_iff_ne.mpr c17
       have c17b1 : (t136 != 0) = true := bne_iff_ne.mpr c17
       have H' := Aside0.mk H
       clear H
       obtain ⟨ASz18_2, cSz18_2, ASz18_4, cSz18_4, ASz18_5, cSz18_5, HGz18, hgz18, HSz18_2, HSz18_4, HSz18_5⟩ := HI0.out
       have hcz18_0 := cellS109_0 HGz18
       have hcz18_1 := cellS109_1 HGz18
       have hcz18_2 := cellS109_2 HGz18
       have hcz18_3 := cellS109_3 HGz18
       have hcz18_4 := cellS109_4 HGz18
       have hcz18_5 := cellS109_5 HGz18
       have hfz18_0 := blk_frozen HGz18 0
       have hfz18_1 := blk_frozen HGz18 1
       have hfz18_3 := blk_frozen HGz18 3
       clear HGz18 hgz18
       go_wp2
       repeat (go_quiet (fail); try go_wp2)
       go_roundg k1
       case measure => have := HK1.out; omega
       case rel => exact ⟨(wrap64 (Int.tdiv x1_1 t136)), (wrap64 (Int.tdiv x2_1 t136)), (wrap64 (x7_1 + (wrap64 ((Int.tmod (wrap64 ((Int.tmod x1_1 t136) + (Int.tmod x2_1 t136))) t136) * x8_1)))), (wrap64 (x8_1 * t136)), (by first | rfl | (simp; done) | (simp [*]; done)), (by first | rfl | (simp; done) | (simp [*]; done)), (by first | rfl | (simp; done) | (simp [*]; done)), (by first | rfl | (simp; done) | (simp [*]; done)), H', ⟨by have := HK1.out; omega⟩, ⟨by repeat (first | (with_reducible first | exact HI0.out | apply IsS109.alloc | apply IsS109.drewN | apply IsS109.drew | apply IsS109.set_0 | apply IsS109.set_1 | apply IsS109.set_3) | exact HI0.out)⟩, ⟨by repeat (first | (with_reducible first | exact HK.out | apply KeepBut.set_ | apply keep_drewN | apply keep_drew | apply keep_alloc) | exact HK.out)⟩, ⟨by repeat (first | (with_reducible first | exact HB.out | apply below_alloc | apply pw_below_drewN | apply below_drew1 | refine below_set ?_ (IsS109.ge HI0.out)) | exact HB.out)⟩⟩
     ·rw [if_neg c16] at H
      have c16b0 : decide (0 < x2_1) = false := decide_eq_false c16
      clear c16
      simp only [Option.some.injEq, Prod.mk.injEq] at H
      obtain ⟨rfl, rfl, rfl, rfl⟩ := H
      go_wp2
      repeat (go_quiet (fail); try go_wp2)
      go_ret
      exact ⟨by first | rfl | (simp [errW_none, errW_some] <;> rfl) | (simp [*, errW_none, errW_some] <;> rfl), by repeat (first | (with_reducible first | exact HI0.out | apply IsS109.alloc | apply IsS109.drewN | apply IsS109.drew | apply IsS109.set_0 | apply IsS109.set_1 | apply IsS109.set_3) | exact HI0.out), by repeat (first | (with_reducible first | exact HB.out | apply below_alloc | apply pw_below_drewN | apply below_drew1 | refine below_set ?_ (IsS109.ge HI0.out)) | exact HB.out), by repeat (first | (with_reducible first | exact HK.out | apply KeepBut.set_ | apply keep_drewN | apply keep_drew | apply keep_alloc) | exact HK.out)⟩
end Go.Proofs.Ytkifipakikbhcaa.Gf
namespace Go.Proofs.Ytkifipakikbhcaa.Gf
open Go.Proofs.Ytkifipakikbhcaa.Ref
open Go.RowKit Go.Proofs.YtkifipakikbhcaaW.PrintWords Go.Proofs.YtkifipakikbhcaaW.PrintLast Go.Proofs.YtkifipakikbhcaaW.PrintMore
attribute [local go_sem] max2_int min2_int max_two min_two max_three min_three max_four min_four
def field_GF_Dot.l0 : Nat → List Int → List Int → Int → Int → Int → Int → Int → List Int → Int → List Int → List Int → Option (Int × Int × Int × Int)
 | 0, _, _, _, _, _, _, _, _, _, _, _ => none
 | k + 1, x1, x2, x7, x13, x14, x1000, x1001, x1002, x1003, x1004, x1005 => if x14 < x13 then (if 0 ≤ x14 then (if x14 < (x1.length : Int) then (if x14 < (x2.length : Int) then ((field_GF_Mul.f x1000 x1001 x1002 x1003 x1004 x1005 (rd x1 x14) (rd x2 x14)).bind fun bt141 => ((field_GF_Add.f k bt141.2.1 bt141.2.2.1 x1002 bt141.2.2.2 x1004 x1005 x7 bt141.1).bind fun bt145 => (field_GF_Dot.l0 k x1 x2 bt145.1 x13 (wrap64 (x14 + 1)) bt145.2.1 bt145.2.2.1 x1002 bt145.2.2.2 x1004 x1005))) else (none)) else (none)) else (none)) else (some (x7, x1000, x1001, x1003))
def field_GF_Dot.f (k : Nat) (s0_0 : Int) (s0_1 : Int) (s0_2 : List Int) (s0_3 : Int) (s0_4 : List Int) (s0_5 : List Int) (l1 : List Int) (l2 : List Int) : Option (Int × Int × Int × Int) := field_GF_Dot.l0 k l1 l2 0 (mn (l1.length : Int) (l2.length : Int)) 0 s0_0 s0_1 s0_2 s0_3 s0_4 s0_5
def field_GF_Dot.T5 : Bool × List (List Nat × List Nat) := (true, [([], []), ([], []), ([], []), ([], []), ([], []), ([3, 4], [3, 4]), ([5], [5]), ([], []), ([], []), ([7, 8], [7, 8]), ([9], [9]), ([2, 6, 10], [2, 6, 10]), ([0, 1, 11, 11], [0, 1, 11]), ([12, 12, 0, 1, 2, 3, 4, 5, 6, 7, 8, 9, 10, 11, 12], [1, 12])])
def field_GF_Dot.B5 : List Nat := [0, 0, 0, 0, 0, 24, 56, 0, 0, 384, 896, 2044, 4095, 8191]
theorem field_GF_Dot.tab5 : rtab .any (opsOf Try.f68 5) = field_GF_Dot.T5 := by kernel_rfl
theorem field_GF_Dot.bits5 : waitsOk field_GF_Dot.T5.2 field_GF_Dot.B5 = true := by kernel_rfl
theorem field_GF_Dot.calls_lt (k : Nat) (g : Nat) (s0_0 : Int) (s0_1 : Int) (s0_2 : List Int) (s0_3 : Int) (s0_4 : List Int) (s0_5 : List Int) (A1 : Option Addr) (c1 : Nat) (l1 : List Int) (A2 : Option Addr) (c2 : Nat) (l2 : List Int) (r1 : Int) (r2 : Int) (r3 : Int) (r4 : Int) (w0 w : World) (hI : IsS109 w0 w g s0_0 s0_1 s0_2 s0_3 s0_4 s0_5) (hB : Below w0.heap.size w0 w) (hr1 : Kd.C (Kd.int .i64) w A1 l1.length l1) (hc1 : l1.length ≤ c1) (hf1 : ∀ ad, A1 = some ad → 0 < l1.length → ad.block ≠ g) (hr2 : Kd.C (Kd.int .i64) w A2 l2.length l2) (hc2 : l2.length ≤ c2) (hf2 : ∀ ad, A2 = some ad → 0 < l2.length → ad.block ≠ g) (hlt : (l2.length : Int) < (l1.length : Int)) (h : field_GF_Dot.f k s0_0 s0_1 s0_2 s0_3 s0_4 s0_5 l1 l2 = some (r1, r2, r3, r4)) :
  Calls Try.prog 68 #[.pointer (some ⟨g, 0, none⟩), .slice A1 l1.length c1, .slice A2 l2.length c2] w fun e w' => e = .returned (.int .i64 r1) ∧ IsS109 w0 w' g r2 r3 s0_2 r4 s0_4 s0_5 ∧ Below w0.heap.size w0 w' ∧ KeepBut w w' g none := by
 have HR1 := Aside0.mk hr1
 have HC1 := Aside0.mk hc1
 clear hr1 hc1
 have HR2 := Aside0.mk hr2
 have HC2 := Aside0.mk hc2
 clear hr2 hc2
 have HI0 := Aside0.mk hI
 have HK := Aside0.mk (KeepBut.refl w g none)
 have HL := Aside0.mk hB.size
 clear hI
 have HW0 := Aside0.mk hB.size
 have HB := Aside0.mk hB
 clear hB
 have H : (field_GF_Dot.l0 k l1 l2 0 (mn (l1.length : Int) (l2.length : Int)) 0 s0_0 s0_1 s0_2 s0_3 s0_4 s0_5) = some (r1, r2, r3, r4) := h
 clear h
 obtain ⟨ji4, hji4⟩ : ∃ j_ : Int, (mn (l1.length : Int) (l2.length : Int)) = j_ := ⟨_, rfl⟩
 replace H : (field_GF_Dot.l0 k l1 l2 0 ji4 0 s0_0 s0_1 s0_2 s0_3 s0_4 s0_5) = some (r1, r2, r3, r4) := by first | (rw [hji4] at H; exact H) | (simp only [hji4] at H ⊢; exact H)
 (try (have hji4l : 0 ≤ ji4 := by (rw [← hji4]; unfold mn; (repeat' split) <;> omega)))
 (try (have hji4m : 0 ≤ ji4 := by omega))
 have hji4_ : (if (l2.length : Int) < (l1.length : Int) then (l2.length : Int) else (l1.length : Int)) = ji4 := hji4
 have H' := Aside0.mk H
 clear H
 have hdec := eq_true hlt
 have HLEN := Aside0.mk (show (l2.length : Int) = ji4 by rw [← hji4_]; split <;> omega)
 go_enter Try.func68, Try.ntmps68
 go_wp2
 simp only [HLEN.out]
 go_loopg [7, 14] k (fun kq v7 v14 w' => ∃ (x7_1 : Int) (x14_1 : Int) (x1000_1 : Int) (x1001_1 : Int) (x1003_1 : Int), v7 = .int .i64 x7_1 ∧ v14 = .int .i64 x14_1 ∧ Aside0 (field_GF_Dot.l0 kq l1 l2 x7_1 ji4 x14_1 x1000_1 x1001_1 s0_2 x1003_1 s0_4 s0_5 = some (r1, r2, r3, r4)) ∧ Aside0 (kq ≤ k) ∧ Aside0 (IsS109 w0 w' g x1000_1 x1001_1 s0_2 x1003_1 s0_4 s0_5) ∧ Aside0 (KeepBut w w' g none) ∧ Aside0 (Below w0.heap.size w0 w'))
 case atStart => exact ⟨(0), (0), (s0_0), (s0_1), (s0_3), (by first | rfl | (simp; done) | (simp [*]; done)), (by first | rfl | (simp; done) | (simp [*]; done)), H', ⟨Nat.le_refl _⟩, ⟨by repeat (first | (with_reducible first | exact HI0.out | apply IsS109.alloc | apply IsS109.drewN | apply IsS109.drew | apply IsS109.set_0 | apply IsS109.set_1 | apply IsS109.set_3) | exact HI0.out)⟩, ⟨by repeat (first | (with_reducible first | exact HK.out | apply KeepBut.set_ | apply keep_drewN | apply keep_drew | apply keep_alloc) | exact HK.out)⟩, ⟨by repeat (first | (with_reducible first | exact HB.out | apply below_alloc | apply pw_below_drewN | apply below_drew1 | refine below_set ?_ (IsS109.ge HI0.out)) | exact HB.out)⟩⟩
 case round =>
  clear H'
  try clear c1
  try clear c2
  try clear p2
  obtain ⟨x7_1, x14_1, x1000_1, x1001_1, x1003_1, rfl, rfl, HA, HK1, HI0, HK, HB⟩ := hrel
  cases gk with
  | zero => exact absurd HA.out (by simp [field_GF_Dot.l0])
  | succ k1 =>
   have H := HA.out
   clear HA
   simp only [field_GF_Dot.l0] at H
   by_cases c5 : x14_1 < ji4
   ·rw [if_pos c5] at H
    have c5b0 : decide (x14_1 < ji4) = true := decide_eq_true c5
    clear c5
    by_cases c6 : 0 ≤ x14_1
    ·rw [if_pos c6] at H
     have c6b0 : decide (0 ≤ x14_1) = true := decide_eq_true c6
     clear c6
     by_cases c7 : x14_1 < (l1.length : Int)
     ·rw [if_pos c7] at H
      have c7b0 : decide (x14_1 < (l1.length : Int)) = true := decide_eq_true c7
      clear c7
      by_cases c8 : x14_1 < (l2.length : Int)
      ·rw [if_pos c8] at H
       have c8b0 : decide (x14_1 < (l2.length : Int)) = true := decide_eq_true c8
       clear c8
       replace H := Option.bind_eq_some_iff.mp H
       obtain ⟨⟨t141, t142, t143, t144⟩, A90, H⟩ := H
       replace H : ((field_GF_Add.f k1 t142 t143 s0_2 t144 s0_4 s0_5 x7_1 t141).bind fun bt145 => (field_GF_Dot.l0 k1 l1 l2 bt145.1 ji4 (wrap64 (x14_1 + 1)) bt145.2.1 bt145.2.2.1 s0_2 bt145.2.2.2 s0_4 s0_5)) = some (r1, r2, r3, r4) := H
       have A9 := Aside0.mk A90
       clear A90
       replace H := Option.bind_eq_some_iff.mp H
       obtain ⟨⟨t145, t146, t147, t148⟩, A100, H⟩ := H
       replace H : (field_GF_Dot.l0 k1 l1 l2 t145 ji4 (wrap64 (x14_1 + 1)) t146 t147 s0_2 t148 s0_4 s0_5) = some (r1, r2, r3, r4) := H
       have A10 := Aside0.mk A100
       clear A100
       have H' := Aside0.mk H
       clear H
       try go_wp2
       have n0_ := Aside0.mk (IsS109.drew HI0.out)
       have n1_ := Aside0.mk (keep_drew HK.out)
       have n2_ := Aside0.mk (below_drew1 HB.out)
       clear HI0
       clear HK
       clear HB
       have HI0 := n0_
       have HK := n1_
       have HB := n2_
       clear n0_ n1_ n2_
       have p139 : 0 ≤ (x14_1 : Int) := of_decide_eq_true (by first | (with_reducible assumption) | assumption)
       have q139 : x14_1 < (l1.length : Int) := of_decide_eq_true (by first | (with_reducible assumption) | assumption)
       obtain ⟨ad139, e139, hx139_0⟩ := Kd.at_int HR1.out x14_1 p139 q139
       have hw139_0 := hx139_0
       cases e139
       have hne139_0 := (show ((ad139.add (x14_1).toNat) : Addr).block ≠ g from by first | (rw [add_block]; exact hf1 ad139 rfl (by omega)) | (show (Addr.add _ _).block ≠ _; rw [add_block]; exact hf1 ad139 rfl (by omega)) | exact hf1 ad139 rfl (by omega))
       replace hx139_0 := keep_cell HK.out hx139_0 (by first | (rw [add_block]; exact hf1 _ rfl (by omega)) | exact hf1 _ rfl (by omega) | exact hf1 ad139 rfl (by omega))
       replace p139 := eq_true p139
       replace q139 := eq_true q139
       have p140 : 0 ≤ (x14_1 : Int) := of_decide_eq_true (by first | (with_reducible assumption) | assumption)
       have q140 : x14_1 < (l2.length : Int) := of_decide_eq_true (by first | (with_reducible assumption) | assumption)
       obtain ⟨ad140, e140, hx140_0⟩ := Kd.at_int HR2.out x14_1 p140 q140
       have hw140_0 := hx140_0
       cases e140
       have hne140_0 := (show ((ad140.add (x14_1).toNat) : Addr).block ≠ g from by first | (rw [add_block]; exact hf2 ad140 rfl (by omega)) | (show (Addr.add _ _).block ≠ _; rw [add_block]; exact hf2 ad140 rfl (by omega)) | exact hf2 ad140 rfl (by omega))
       replace hx140_0 := keep_cell HK.out hx140_0 (by first | (rw [add_block]; exact hf2 _ rfl (by omega)) | exact hf2 _ rfl (by omega) | exact hf2 ad140 rfl (by omega))
       replace p140 := eq_true p140
       replace q140 := eq_true q140
       refine start_ (n := 14) (S := fun w' => w'.cell? (ad139.add (x14_1).toNat) = some (.int .i64 (rd l1 x14_1)) ∧ w'.cell? (ad140.add (x14_1).toNat) = some (.int .i64 (rd l2 x14_1))) (ds := []) #[false, false, false, false, false, false, false, false, false, false, false, false, false, false] (by kernel_rfl) rfl rfl ⟨(keep_cell HK.out hw139_0 hne139_0), (keep_cell HK.out hw140_0 hne140_0)⟩ (fun hHeld => ?_); refine with_tabW field_GF_Dot.tab5 field_GF_Dot.bits5 (fun HT_ HW_ => ?_)
       generalize wr.drew = w11 at HI0 HK HB hx139_0 hx140_0 hHeld ⊢
       refine pure_ (i := 0) (N := some 17) (v := ?_) (a' := ?_) #[true, false, false, false, false, false, false, false, false, false, false, false, false, false] rfl rfl (any_of HT_.out (by kernel_rfl)) (fun _ _ _ h => h) (Or.inl ⟨by rfl, ?_⟩) ?_ ?_
       rotate_left
       ·intro w'
        go_simp
        with_reducible rfl
       rotate_left
       ·simp only [Act.put, List.setIfInBounds_toArray, List.set_cons_zero, List.set_cons_succ, i64_w, i32_w]
        rfl
       refine pure_ (i := 1) (N := some 18) (v := ?_) (a' := ?_) #[true, true, false, false, false, false, false, false, false, false, false, false, false, false] rfl rfl (any_of HT_.out (by kernel_rfl)) (fun _ _ _ h => h) (Or.inl ⟨by rfl, ?_⟩) ?_ ?_
       rotate_left
       ·intro w'
        go_simp
        with_reducible rfl
       rotate_left
       ·simp only [Act.put, List.setIfInBounds_toArray, List.set_cons_zero, List.set_cons_succ, i64_w, i32_w]
        rfl
       refine pure_ (i := 2) (N := some 19) (v := ?_) (a' := ?_) #[true, true, true, false, false, false, false, false, false, false, false, false, false, false] rfl rfl (any_of HT_.out (by kernel_rfl)) (fun _ _ _ h => h) (Or.inl ⟨by rfl, ?_⟩) ?_ ?_
       rotate_left
       ·intro w'
        go_simp
        with_reducible rfl
       rotate_left
       ·simp only [Act.put, List.setIfInBounds_toArray, List.set_cons_zero, List.set_cons_succ, i64_w, i32_w]
        rfl
       refine pure_ (i := 3) (N := some 20) (v := ?_) (a' := ?_) #[true, true, true, true, false, false, false, false, false, false, false, false, false, false] rfl rfl (any_of HT_.out (by kernel_rfl)) (fun _ _ _ h => h) (Or.inl ⟨by rfl, ?_⟩) ?_ ?_
       rotate_left
       ·intro w'
        go_simp
        with_reducible rfl
       rotate_left
       ·simp only [Act.put, List.setIfInBounds_toArray, List.set_cons_zero, List.set_cons_succ, i64_w, i32_w]
        rfl
       refine pure_ (i := 4) (N := some 21) (v := ?_) (a' := ?_) #[true, true, true, true, true, false, false, false, false, false, false, false, false, false] rfl rfl (any_of HT_.out (by kernel_rfl)) (fun _ _ _ h => h) (Or.inl ⟨by rfl, ?_⟩) ?_ ?_
       rotate_left
       ·intro w'
        go_simp
        with_reducible rfl
       rotate_left
       ·simp only [Act.put, List.setIfInBounds_toArray, List.set_cons_zero, List.set_cons_succ, i64_w, i32_w]
        rfl
       refine pure_ (i := 5) (N := some 22) (v := ?_) (a' := ?_) #[true, true, true, true, true, true, false, false, false, false, false, false, false, false] rfl rfl (any_of HT_.out (by kernel_rfl)) (fun _ _ _ h => h) (Or.inl ⟨by rfl, ?_⟩) ?_ ?_
       rotate_left
       ·intro w'
        go_simp
        with_reducible rfl
       rotate_left
       ·simp only [Act.put, List.setIfInBounds_toArray, List.set_cons_zero, List.set_cons_succ, i64_w, i32_w]
        rfl
       refine pure_ (i := 7) (N := some 24) (v := ?_) (a' := ?_) #[true, true, true, true, true, true, false, true, false, false, false, false, false, false] rfl rfl (any_of HT_.out (by kernel_rfl)) (fun _ _ _ h => h) (Or.inl ⟨by rfl, ?_⟩) ?_ ?_
       rotate_left
       ·intro w'
        go_simp
        with_reducible rfl
       rotate_left
       ·simp only [Act.put, List.setIfInBounds_toArray, List.set_cons_zero, List.set_cons_succ, i64_w, i32_w]
        rfl
       refine pure_ (i := 8) (N := some 25) (v := ?_) (a' := ?_) #[true, true, true, true, true, true, false, true, true, false, false, false, false, false] rfl rfl (any_of HT_.out (by kernel_rfl)) (fun _ _ _ h => h) (Or.inl ⟨by rfl, ?_⟩) ?_ ?_
       rotate_left
       ·intro w'
        go_simp
        with_reducible rfl
       rotate_left
       ·simp only [Act.put, List.setIfInBounds_toArray, List.set_cons_zero, List.set_cons_succ, i64_w, i32_w]
        rfl
       refine pure_ (i := 9) (N := some 26) (v := ?_) (a' := ?_) #[true, true, true, true, true, true, false, true, true, true, false, false, false, false] rfl rfl (any_of HT_.out (by kernel_rfl)) (fun _ _ _ h => h) (Or.inl ⟨by rfl, ?_⟩) ?_ ?_
       rotate_left
       ·intro w'
        go_simp
        with_reducible rfl
       rotate_left
       ·simp only [Act.put, List.setIfInBounds_toArray, List.set_cons_zero, List.set_cons_succ, i64_w, i32_w]
        rfl
       refine take_ (i := 6) (N := some 23) (v := ?_) (a' := ?_) #[true, true, true, true, true, true, true, true, true, true, false, false, false, false] rfl rfl (take_ofW HT_.out HW_.out (by kernel_rfl)) (fun _ _ _ h => h) (Or.inl ⟨by rfl, ?_⟩) hHeld ?_ ?_
       rotate_left
       ·rintro w' ⟨s0, s1⟩
        go_simp
        with_reducible rfl
       rotate_left
       ·simp only [Act.put, List.setIfInBounds_toArray, List.set_cons_zero, List.set_cons_succ, i64_w, i32_w]
        rfl
       refine take_ (i := 10) (N := some 27) (v := ?_) (a' := ?_) #[true, true, true, true, true, true, true, true, true, true, true, false, false, false] rfl rfl (take_ofW HT_.out HW_.out (by kernel_rfl)) (fun _ _ _ h => h) (Or.inl ⟨by rfl, ?_⟩) hHeld ?_ ?_
       rotate_left
       ·rintro w' ⟨s0, s1⟩
        go_simp
        with_reducible rfl
       rotate_left
       ·simp only [Act.put, List.setIfInBounds_toArray, List.set_cons_zero, List.set_cons_succ, i64_w, i32_w]
        rfl
       refine one_ (i := 11) (N := some 28) #[true, true, true, true, true, true, true, true, true, true, true, true, false, false] rfl rfl (one_of HT_.out (by kernel_rfl)) (by decide) (fun K hK => ?_)
       refine goes_ Try.func91 (by kernel_rfl) rfl #[.pointer (some ⟨g, 0, none⟩), .int .i64 (rd l1 x14_1), .int .i64 (rd l2 x14_1)] (by rfl) rfl rfl (by (try simp only [List.map_toArray, List.map_cons, List.map_nil]); first | done | rfl | (simp only [List.length_drop, List.length_take]; rfl)) ?_
       with_reducible refine (field_GF_Mul.calls g x1000_1 x1001_1 s0_2 x1003_1 s0_4 s0_5 (rd l1 x14_1) (rd l2 x14_1) t141 t142 t143 t144 w0 _ ?side1 ?side2 A9.out).mono ?_
       (case side1 => repeat (first | (with_reducible first | exact HI0.out | apply IsS109.alloc | apply IsS109.drewN | apply IsS109.drew | apply IsS109.set_0 | apply IsS109.set_1 | apply IsS109.set_3) | exact HI0.out))
       (case side2 => repeat (first | (with_reducible first | exact HB.out | apply below_alloc | apply pw_below_drewN | apply below_drew1 | refine below_set ?_ (IsS109.ge HI0.out)) | exact HB.out))
       rintro e w12 ⟨rfl, hi, hb, hk⟩
       refine ⟨_, rfl, ?_⟩
       have n0_ := Aside0.mk (KeepBut.trans (by repeat (first | (with_reducible first | exact HK.out | apply KeepBut.set_ | apply keep_drewN | apply keep_drew | apply keep_alloc) | exact HK.out)) hk (.inl rfl))
       have n1_ := Aside0.mk (hb)
       have n2_ := Aside0.mk (hi)
       clear HK
       clear HB
       clear HI0
       have HK := n0_
       have HB := n1_
       have HI0 := n2_
       clear n0_ n1_ n2_
       (try clear hb)
       (try clear hb2)
       (try clear hk)
       (try clear hi)
       refine hK.out _ _ ⟨(keep_cell HK.out hw139_0 hne139_0), (keep_cell HK.out hw140_0 hne140_0)⟩ (fun hHeld => ?_)
       clear hK K
       refine norm_ (a' := ?_) ?_ ?_
       rotate_left
       ·show Act.put _ (some 28) _ = _
        simp only [Act.put, List.setIfInBounds_toArray, List.set_cons_zero, List.set_cons_succ, i64_w, i32_w]
        rfl
       refine one_ (i := 12) (N := some 29) #[true, true, true, true, true, true, true, true, true, true, true, true, true, false] rfl rfl (one_of HT_.out (by kernel_rfl)) (by decide) (fun K hK => ?_)
       refine goes_ Try.func92 (by kernel_rfl) rfl #[.pointer (some ⟨g, 0, none⟩), .int .i64 x7_1, .int .i64 t141] (by rfl) rfl rfl (by (try simp only [List.map_toArray, List.map_cons, List.map_nil]); first | done | rfl | (simp only [List.length_drop, List.length_take]; rfl)) ?_
       with_reducible refine (field_GF_Add.calls k1 g t142 t143 s0_2 t144 s0_4 s0_5 x7_1 t141 t145 t146 t147 t148 w0 _ ?side1 ?side2 A10.out).mono ?_
       (case side1 => repeat (first | (with_reducible first | exact HI0.out | apply IsS109.alloc | apply IsS109.drewN | apply IsS109.drew | apply IsS109.set_0 | apply IsS109.set_1 | apply IsS109.set_3) | exact HI0.out))
       (case side2 => repeat (first | (with_reducible first | exact HB.out | apply below_alloc | apply pw_below_drewN | apply below_drew1 | refine below_set ?_ (IsS109.ge HI0.out)) | exact HB.out))
       rintro e w13 ⟨rfl, hi, hb, hk⟩
       refine ⟨_, rfl, ?_⟩
       have n0_ := Aside0.mk (KeepBut.trans (by repeat (first | (with_reducible first | exact HK.out | apply KeepBut.set_ | apply keep_drewN | apply keep_drew | apply keep_alloc) | exact HK.out)) hk (.inl rfl))
       have n1_ := Aside0.mk (hb)
       have n2_ := Aside0.mk (hi)
       clear HK
       clear HB
       clear HI0
       have HK := n0_
       have HB := n1_
       have HI0 := n2_
       clear n0_ n1_ n2_
       (try clear hb)
       (try clear hb2)
       (try clear hk)
       (try clear hi)
       refine hK.out _ _ ⟨(keep_cell HK.out hw139_0 hne139_0), (keep_cell HK.out hw140_0 hne140_0)⟩ (fun hHeld => ?_)
       clear hK K
       refine norm_ (a' := ?_) ?_ ?_
       rotate_left
       ·show Act.put _ (some 29) _ = _
        simp only [Act.put, List.setIfInBounds_toArray, List.set_cons_zero, List.set_cons_succ, i64_w, i32_w]
        rfl
       refine pure_ (i := 13) (N := some 7) (v := ?_) (a' := ?_) #[true, true, true, true, true, true, true, true, true, true, true, true, true, true] rfl rfl (any_of HT_.out (by kernel_rfl)) (fun _ _ _ h => h) (Or.inl ⟨by rfl, ?_⟩) ?_ ?_
       rotate_left
       ·intro w'
        go_simp
        with_reducible rfl
       rotate_left
       ·simp only [Act.put, List.setIfInBounds_toArray, List.set_cons_zero, List.set_cons_succ, i64_w, i32_w]
        rfl
       refine done_ (done_of HT_.out (by kernel_rfl)) ?_
       try go_wp2
       go_roundg k1
       case measure => have := HK1.out; omega
       case rel => exact ⟨(t145), (wrap64 (x14_1 + 1)), (t146), (t147), (t148), (by first | rfl | (simp; done) | (simp [*]; done)), (by first | rfl | (simp; done) | (simp [*]; done)), H', ⟨by have := HK1.out; omega⟩, ⟨by repeat (first | (with_reducible first | exact HI0.out | apply IsS109.alloc | apply IsS109.drewN | apply IsS109.drew | apply IsS109.set_0 | apply IsS109.set_1 | apply IsS109.set_3) | exact HI0.out)⟩, ⟨by repeat (first | (with_reducible first | exact HK.out | apply KeepBut.set_ | apply keep_drewN | apply keep_drew | apply keep_alloc) | exact HK.out)⟩, ⟨by repeat (first | (with_reducible first | exact HB.out | apply below_alloc | apply pw_below_drewN | apply below_drew1 | refine below_set ?_ (IsS109.ge HI0.out)) | exact HB.out)⟩⟩
      ·rw [if_neg c8] at H
       exact absurd H (by simp)
     ·rw [if_neg c7] at H
      exact absurd H (by simp)
    ·rw [if_neg c6] at H
     exact absurd H (by simp)
   ·rw [if_neg c5] at H
    have c5b0 : decide (x14_1 < ji4) = false := decide_eq_false c5
    clear c5
    simp only [Option.some.injEq, Prod.mk.injEq] at H
    obtain ⟨rfl, rfl, rfl, rfl⟩ := H
    go_wp2
    go_ret
    exact ⟨by first | rfl | (simp [errW_none, errW_some] <;> rfl) | (simp only [← hji4]; first | rfl | (simp [errW_none, errW_some] <;> rfl)) | (simp [*, errW_none, errW_some] <;> rfl), by repeat (first | (with_reducible first | exact HI0.out | apply IsS109.alloc | apply IsS109.drewN | apply IsS109.drew | apply IsS109.set_0 | apply IsS109.set_1 | apply IsS109.set_3) | exact HI0.out), by repeat (first | (with_reducible first | exact HB.out | apply below_alloc | apply pw_below_drewN | apply below_drew1 | refine below_set ?_ (IsS109.ge HI0.out)) | exact HB.out), by repeat (first | (with_reducible first | exact HK.out | apply KeepBut.set_ | apply keep_drewN | apply keep_drew | apply keep_alloc) | exact HK.out)⟩
theorem field_GF_Dot.calls_ge (k : Nat) (g : Nat) (s0_0 : Int) (s0_1 : Int) (s0_2 : List Int) (s0_3 : Int) (s0_4 : List Int) (s0_5 : List Int) (A1 : Option Addr) (c1 : Nat) (l1 : List Int) (A2 : Option Addr) (c2 : Nat) (l2 : List Int) (r1 : Int) (r2 : Int) (r3 : Int) (r4 : Int) (w0 w : World) (hI : IsS109 w0 w g s0_0 s0_1 s0_2 s0_3 s0_4 s0_5) (hB : Below w0.heap.size w0 w) (hr1 : Kd.C (Kd.int .i64) w A1 l1.length l1) (hc1 : l1.length ≤ c1) (hf1 : ∀ ad, A1 = some ad → 0 < l1.length → ad.block ≠ g) (hr2 : Kd.C (Kd.int .i64) w A2 l2.length l2) (hc2 : l2.length ≤ c2) (hf2 : ∀ ad, A2 = some ad → 0 < l2.length → ad.block ≠ g) (hlt : ¬ (l2.length : Int) < (l1.length : Int)) (h : field_GF_Dot.f k s0_0 s0_1 s0_2 s0_3 s0_4 s0_5 l1 l2 = some (r1, r2, r3, r4)) :
  Calls Try.prog 68 #[.pointer (some ⟨g, 0, none⟩), .slice A1 l1.length c1, .slice A2 l2.length c2] w fun e w' => e = .returned (.int .i64 r1) ∧ IsS109 w0 w' g r2 r3 s0_2 r4 s0_4 s0_5 ∧ Below w0.heap.size w0 w' ∧ KeepBut w w' g none := by
 have HR1 := Aside0.mk hr1
 have HC1 := Aside0.mk hc1
 clear hr1 hc1
 have HR2 := Aside0.mk hr2
 have HC2 := Aside0.mk hc2
 clear hr2 hc2
 have HI0 := Aside0.mk hI
 have HK := Aside0.mk (KeepBut.refl w g none)
 have HL := Aside0.mk hB.size
 clear hI
 have HW0 := Aside0.mk hB.size
 have HB := Aside0.mk hB
 clear hB
 have H : (field_GF_Dot.l0 k l1 l2 0 (mn (l1.length : Int) (l2.length : Int)) 0 s0_0 s0_1 s0_2 s0_3 s0_4 s0_5) = some (r1, r2, r3, r4) := h
 clear h
 obtain ⟨ji4, hji4⟩ : ∃ j_ : Int, (mn (l1.length : Int) (l2.length : Int)) = j_ := ⟨_, rfl⟩
 replace H : (field_GF_Dot.l0 k l1 l2 0 ji4 0 s0_0 s0_1 s0_2 s0_3 s0_4 s0_5) = some (r1, r2, r3, r4) := by first | (rw [hji4] at H; exact H) | (simp only [hji4] at H ⊢; exact H)
 (try (have hji4l : 0 ≤ ji4 := by (rw [← hji4]; unfold mn; (repeat' split) <;> omega)))
 (try (have hji4m : 0 ≤ ji4 := by omega))
 have hji4_ : (if (l2.length : Int) < (l1.length : Int) then (l2.length : Int) else (l1.length : Int)) = ji4 := hji4
 have H' := Aside0.mk H
 clear H
 have hdec := eq_false hlt
 have HLEN := Aside0.mk (show (l1.length : Int) = ji4 by rw [← hji4_]; split <;> omega)
 go_enter Try.func68, Try.ntmps68
 go_wp2
 simp only [HLEN.out]
 go_loopg [7, 14] k (fun kq v7 v14 w' => ∃ (x7_1 : Int) (x14_1 : Int) (x1000_1 : Int) (x1001_1 : Int) (x1003_1 : Int), v7 = .int .i64 x7_1 ∧ v14 = .int .i64 x14_1 ∧ Aside0 (field_GF_Dot.l0 kq l1 l2 x7_1 ji4 x14_1 x1000_1 x1001_1 s0_2 x1003_1 s0_4 s0_5 = some (r1, r2, r3, r4)) ∧ Aside0 (kq ≤ k) ∧ Aside0 (IsS109 w0 w' g x1000_1 x1001_1 s0_2 x1003_1 s0_4 s0_5) ∧ Aside0 (KeepBut w w' g none) ∧ Aside0 (Below w0.heap.size w0 w'))
 case atStart => exact ⟨(0), (0), (s0_0), (s0_1), (s0_3), (by first | rfl | (simp; done) | (simp [*]; done)), (by first | rfl | (simp; done) | (simp [*]; done)), H', ⟨Nat.le_refl _⟩, ⟨by repeat (first | (with_reducible first | exact HI0.out | apply IsS109.alloc | apply IsS109.drewN | apply IsS109.drew | apply IsS109.set_0 | apply IsS109.set_1 | apply IsS109.set_3) | exact HI0.out)⟩, ⟨by repeat (first | (with_reducible first | exact HK.out | apply KeepBut.set_ | apply keep_drewN | apply keep_drew | apply keep_alloc) | exact HK.out)⟩, ⟨by repeat (first | (with_reducible first | exact HB.out | apply below_alloc | apply pw_below_drewN | apply below_drew1 | refine below_set ?_ (IsS109.ge HI0.out)) | exact HB.out)⟩⟩
 case round =>
  clear H'
  try clear c1
  try clear c2
  try clear p2
  obtain ⟨x7_1, x14_1, x1000_1, x1001_1, x1003_1, rfl, rfl, HA, HK1, HI0, HK, HB⟩ := hrel
  cases gk with
  | zero => exact absurd HA.out (by simp [field_GF_Dot.l0])
  | succ k1 =>
   have H := HA.out
   clear HA
   simp only [field_GF_Dot.l0] at H
   by_cases c5 : x14_1 < ji4
   ·rw [if_pos c5] at H
    have c5b0 : decide (x14_1 < ji4) = true := decide_eq_true c5
    clear c5
    by_cases c6 : 0 ≤ x14_1
    ·rw [if_pos c6] at H
     have c6b0 : decide (0 ≤ x14_1) = true := decide_eq_true c6
     clear c6
     by_cases c7 : x14_1 < (l1.length : Int)
     ·rw [if_pos c7] at H
      have c7b0 : decide (x14_1 < (l1.length : Int)) = true := decide_eq_true c7
      clear c7
      by_cases c8 : x14_1 < (l2.length : Int)
      ·rw [if_pos c8] at H
       have c8b0 : decide (x14_1 < (l2.length : Int)) = true := decide_eq_true c8
       clear c8
       replace H := Option.bind_eq_some_iff.mp H
       obtain ⟨⟨t141, t142, t143, t144⟩, A90, H⟩ := H
       replace H : ((field_GF_Add.f k1 t142 t143 s0_2 t144 s0_4 s0_5 x7_1 t141).bind fun bt145 => (field_GF_Dot.l0 k1 l1 l2 bt145.1 ji4 (wrap64 (x14_1 + 1)) bt145.2.1 bt145.2.2.1 s0_2 bt145.2.2.2 s0_4 s0_5)) = some (r1, r2, r3, r4) := H
       have A9 := Aside0.mk A90
       clear A90
       replace H := Option.bind_eq_some_iff.mp H
       obtain ⟨⟨t145, t146, t147, t148⟩, A100, H⟩ := H
       replace H : (field_GF_Dot.l0 k1 l1 l2 t145 ji4 (wrap64 (x14_1 + 1)) t146 t147 s0_2 t148 s0_4 s0_5) = some (r1, r2, r3, r4) := H
       have A10 := Aside0.mk A100
       clear A100
       have H' := Aside0.mk H
       clear H
       try go_wp2
       have n0_ := Aside0.mk (IsS109.drew HI0.out)
       have n1_ := Aside0.mk (keep_drew HK.out)
       have n2_ := Aside0.mk (below_drew1 HB.out)
       clear HI0
       clear HK
       clear HB
       have HI0 := n0_
       have HK := n1_
       have HB := n2_
       clear n0_ n1_ n2_
       have p139 : 0 ≤ (x14_1 : Int) := of_decide_eq_true (by first | (with_reducible assumption) | assumption)
       have q139 : x14_1 < (l1.length : Int) := of_decide_eq_true (by first | (with_reducible assumption) | assumption)
       obtain ⟨ad139, e139, hx139_0⟩ := Kd.at_int HR1.out x14_1 p139 q139
       have hw139_0 := hx139_0
       cases e139
       have hne139_0 := (show ((ad139.add (x14_1).toNat) : Addr).block ≠ g from by first | (rw [add_block]; exact hf1 ad139 rfl (by omega)) | (show (Addr.add _ _).block ≠ _; rw [add_block]; exact hf1 ad139 rfl (by omega)) | exact hf1 ad139 rfl (by omega))
       replace hx139_0 := keep_cell HK.out hx139_0 (by first | (rw [add_block]; exact hf1 _ rfl (by omega)) | exact hf1 _ rfl (by omega) | exact hf1 ad139 rfl (by omega))
       replace p139 := eq_true p139
       replace q139 := eq_true q139
       have p140 : 0 ≤ (x14_1 : Int) := of_decide_eq_true (by first | (with_reducible assumption) | assumption)
       have q140 : x14_1 < (l2.length : Int) := of_decide_eq_true (by first | (with_reducible assumption) | assumption)
       obtain ⟨ad140, e140, hx140_0⟩ := Kd.at_int HR2.out x14_1 p140 q140
       have hw140_0 := hx140_0
       cases e140
       have hne140_0 := (show ((ad140.add (x14_1).toNat) : Addr).block ≠ g from by first | (rw [add_block]; exact hf2 ad140 rfl (by omega)) | (show (Addr.add _ _).block ≠ _; rw [add_block]; exact hf2 ad140 rfl (by omega)) | exact hf2 ad140 rfl (by omega))
       replace hx140_0 := keep_cell HK.out hx140_0 (by first | (rw [add_block]; exact hf2 _ rfl (by omega)) | exact hf2 _ rfl (by omega) | exact hf2 ad140 rfl (by omega))
       replace p140 := eq_true p140
       replace q140 := eq_true q140
       refine start_ (n := 14) (S := fun w' => w'.cell? (ad139.add (x14_1).toNat) = some (.int .i64 (rd l1 x14_1)) ∧ w'.cell? (ad140.add (x14_1).toNat) = some (.int .i64 (rd l2 x14_1))) (ds := []) #[false, false, false, false, false, false, false, false, false, false, false, false, false, false] (by kernel_rfl) rfl rfl ⟨(keep_cell HK.out hw139_0 hne139_0), (keep_cell HK.out hw140_0 hne140_0)⟩ (fun hHeld => ?_); refine with_tabW field_GF_Dot.tab5 field_GF_Dot.bits5 (fun HT_ HW_ => ?_)
       generalize wr.drew = w11 at HI0 HK HB hx139_0 hx140_0 hHeld ⊢
       refine pure_ (i := 0) (N := some 17) (v := ?_) (a' := ?_) #[true, false, false, false, false, false, false, false, false, false, false, false, false, false] rfl rfl (any_of HT_.out (by kernel_rfl)) (fun _ _ _ h => h) (Or.inl ⟨by rfl, ?_⟩) ?_ ?_
       rotate_left
       ·intro w'
        go_simp
        with_reducible rfl
       rotate_left
       ·simp only [Act.put, List.setIfInBounds_toArray, List.set_cons_zero, List.set_cons_succ, i64_w, i32_w]
        rfl
       refine pure_ (i := 1) (N := some 18) (v := ?_) (a' := ?_) #[true, true, false, false, false, false, false, false, false, false, false, false, false, false] rfl rfl (any_of HT_.out (by kernel_rfl)) (fun _ _ _ h => h) (Or.inl ⟨by rfl, ?_⟩) ?_ ?_
       rotate_left
       ·intro w'
        go_simp
        with_reducible rfl
       rotate_left
       ·simp only [Act.put, List.setIfInBounds_toArray, List.set_cons_zero, List.set_cons_succ, i64_w, i32_w]
        rfl
       refine pure_ (i := 2) (N := some 19) (v := ?_) (a' := ?_) #[true, true, true, false, false, false, false, false, false, false, false, false, false, false] rfl rfl (any_of HT_.out (by kernel_rfl)) (fun _ _ _ h => h) (Or.inl ⟨by rfl, ?_⟩) ?_ ?_
       rotate_left
       ·intro w'
        go_simp
        with_reducible rfl
       rotate_left
       ·simp only [Act.put, List.setIfInBounds_toArray, List.set_cons_zero, List.set_cons_succ, i64_w, i32_w]
        rfl
       refine pure_ (i := 3) (N := some 20) (v := ?_) (a' := ?_) #[true, true, true, true, false, false, false, false, false, false, false, false, false, false] rfl rfl (any_of HT_.out (by kernel_rfl)) (fun _ _ _ h => h) (Or.inl ⟨by rfl, ?_⟩) ?_ ?_
       rotate_left
       ·intro w'
        go_simp
        with_reducible rfl
       rotate_left
       ·simp only [Act.put, List.setIfInBounds_toArray, List.set_cons_zero, List.set_cons_succ, i64_w, i32_w]
        rfl
       refine pure_ (i := 4) (N := some 21) (v := ?_) (a' := ?_) #[true, true, true, true, true, false, false, false, false, false, false, false, false, false] rfl rfl (any_of HT_.out (by kernel_rfl)) (fun _ _ _ h => h) (Or.inl ⟨by rfl, ?_⟩) ?_ ?_
       rotate_left
       ·intro w'
        go_simp
        with_reducible rfl
       rotate_left
       ·simp only [Act.put, List.setIfInBounds_toArray, List.set_cons_zero, List.set_cons_succ, i64_w, i32_w]
        rfl
       refine pure_ (i := 5) (N := some 22) (v := ?_) (a' := ?_) #[true, true, true, true, true, true, false, false, false, false, false, false, false, false] rfl rfl (any_of HT_.out (by kernel_rfl)) (fun _ _ _ h => h) (Or.inl ⟨by rfl, ?_⟩) ?_ ?_
       rotate_left
       ·intro w'
        go_simp
        with_reducible rfl
       rotate_left
       ·simp only [Act.put, List.setIfInBounds_toArray, List.set_cons_zero, List.set_cons_succ, i64_w, i32_w]
        rfl
       refine pure_ (i := 7) (N := some 24) (v := ?_) (a' := ?_) #[true, true, true, true, true, true, false, true, false, false, false, false, false, false] rfl rfl (any_of HT_.out (by kernel_rfl)) (fun _ _ _ h => h) (Or.inl ⟨by rfl, ?_⟩) ?_ ?_
       rotate_left
       ·intro w'
        go_simp
        with_reducible rfl
       rotate_left
       ·simp only [Act.put, List.setIfInBounds_toArray, List.set_cons_zero, List.set_cons_succ, i64_w, i32_w]
        rfl
       refine pure_ (i := 8) (N := some 25) (v := ?_) (a' := ?_) #[true, true, true, true, true, true, false, true, true, false, false, false, false, false] rfl rfl (any_of HT_.out (by kernel_rfl)) (fun _ _ _ h => h) (Or.inl ⟨by rfl, ?_⟩) ?_ ?_
       rotate_left
       ·intro w'
        go_simp
        with_reducible rfl
       rotate_left
       ·simp only [Act.put, List.setIfInBounds_toArray, List.set_cons_zero, List.set_cons_succ, i64_w, i32_w]
        rfl
       refine pure_ (i := 9) (N := some 26) (v := ?_) (a' := ?_) #[true, true, true, true, true, true, false, true, true, true, false, false, false, false] rfl rfl (any_of HT_.out (by kernel_rfl)) (fun _ _ _ h => h) (Or.inl ⟨by rfl, ?_⟩) ?_ ?_
       rotate_left
       ·intro w'
        go_simp
        with_reducible rfl
       rotate_left
       ·simp only [Act.put, List.setIfInBounds_toArray, List.set_cons_zero, List.set_cons_succ, i64_w, i32_w]
        rfl
       refine take_ (i := 6) (N := some 23) (v := ?_) (a' := ?_) #[true, true, true, true, true, true, true, true, true, true, false, false, false, false] rfl rfl (take_ofW HT_.out HW_.out (by kernel_rfl)) (fun _ _ _ h => h) (Or.inl ⟨by rfl, ?_⟩) hHeld ?_ ?_
       rotate_left
       ·rintro w' ⟨s0, s1⟩
        go_simp
        with_reducible rfl
       rotate_left
       ·simp only [Act.put, List.setIfInBounds_toArray, List.set_cons_zero, List.set_cons_succ, i64_w, i32_w]
        rfl
       refine take_ (i := 10) (N := some 27) (v := ?_) (a' := ?_) #[true, true, true, true, true, true, true, true, true, true, true, false, false, false] rfl rfl (take_ofW HT_.out HW_.out (by kernel_rfl)) (fun _ _ _ h => h) (Or.inl ⟨by rfl, ?_⟩) hHeld ?_ ?_
       rotate_left
       ·rintro w' ⟨s0, s1⟩
        go_simp
        with_reducible rfl
       rotate_left
       ·simp only [Act.put, List.setIfInBounds_toArray, List.set_cons_zero, List.set_cons_succ, i64_w, i32_w]
        rfl
       refine one_ (i := 11) (N := some 28) #[true, true, true, true, true, true, true, true, true, true, true, true, false, false] rfl rfl (one_of HT_.out (by kernel_rfl)) (by decide) (fun K hK => ?_)
       refine goes_ Try.func91 (by kernel_rfl) rfl #[.pointer (some ⟨g, 0, none⟩), .int .i64 (rd l1 x14_1), .int .i64 (rd l2 x14_1)] (by rfl) rfl rfl (by (try simp only [List.map_toArray, List.map_cons, List.map_nil]); first | done | rfl | (simp only [List.length_drop, List.length_take]; rfl)) ?_
       with_reducible refine (field_GF_Mul.calls g x1000_1 x1001_1 s0_2 x1003_1 s0_4 s0_5 (rd l1 x14_1) (rd l2 x14_1) t141 t142 t143 t144 w0 _ ?side1 ?side2 A9.out).mono ?_
       (case side1 => repeat (first | (with_reducible first | exact HI0.out | apply IsS109.alloc | apply IsS109.drewN | apply IsS109.drew | apply IsS109.set_0 | apply IsS109.set_1 | apply IsS109.set_3) | exact HI0.out))
       (case side2 => repeat (first | (with_reducible first | exact HB.out | apply below_alloc | apply pw_below_drewN | apply below_drew1 | refine below_set ?_ (IsS109.ge HI0.out)) | exact HB.out))
       rintro e w12 ⟨rfl, hi, hb, hk⟩
       refine ⟨_, rfl, ?_⟩
       have n0_ := Aside0.mk (KeepBut.trans (by repeat (first | (with_reducible first | exact HK.out | apply KeepBut.set_ | apply keep_drewN | apply keep_drew | apply keep_alloc) | exact HK.out)) hk (.inl rfl))
       have n1_ := Aside0.mk (hb)
       have n2_ := Aside0.mk (hi)
       clear HK
       clear HB
       clear HI0
       have HK := n0_
       have HB := n1_
       have HI0 := n2_
       clear n0_ n1_ n2_
       (try clear hb)
       (try clear hb2)
       (try clear hk)
       (try clear hi)
       refine hK.out _ _ ⟨(keep_cell HK.out hw139_0 hne139_0), (keep_cell HK.out hw140_0 hne140_0)⟩ (fun hHeld => ?_)
       clear hK K
       refine norm_ (a' := ?_) ?_ ?_
       rotate_left
       ·show Act.put _ (some 28) _ = _
        simp only [Act.put, List.setIfInBounds_toArray, List.set_cons_zero, List.set_cons_succ, i64_w, i32_w]
        rfl
       refine one_ (i := 12) (N := some 29) #[true, true, true, true, true, true, true, true, true, true, true, true, true, false] rfl rfl (one_of HT_.out (by kernel_rfl)) (by decide) (fun K hK => ?_)
       refine goes_ Try.func92 (by kernel_rfl) rfl #[.pointer (some ⟨g, 0, none⟩), .int .i64 x7_1, .int .i64 t141] (by rfl) rfl rfl (by (try simp only [List.map_toArray, List.map_cons, List.map_nil]); first | done | rfl | (simp only [List.length_drop, List.length_take]; rfl)) ?_
       with_reducible refine (field_GF_Add.calls k1 g t142 t143 s0_2 t144 s0_4 s0_5 x7_1 t141 t145 t146 t147 t148 w0 _ ?side1 ?side2 A10.out).mono ?_
       (case side1 => repeat (first | (with_reducible first | exact HI0.out | apply IsS109.alloc | apply IsS109.drewN | apply IsS109.drew | apply IsS109.set_0 | apply IsS109.set_1 | apply IsS109.set_3) | exact HI0.out))
       (case side2 => repeat (first | (with_reducible first | exact HB.out | apply below_alloc | apply pw_below_drewN | apply below_drew1 | refine below_set ?_ (IsS109.ge HI0.out)) | exact HB.out))
       rintro e w13 ⟨rfl, hi, hb, hk⟩
       refine ⟨_, rfl, ?_⟩
       have n0_ := Aside0.mk (KeepBut.trans (by repeat (first | (with_reducible first | exact HK.out | apply KeepBut.set_ | apply keep_drewN | apply keep_drew | apply keep_alloc) | exact HK.out)) hk (.inl rfl))
       have n1_ := Aside0.mk (hb)
       have n2_ := Aside0.mk (hi)
       clear HK
       clear HB
       clear HI0
       have HK := n0_
       have HB := n1_
       have HI0 := n2_
       clear n0_ n1_ n2_
       (try clear hb)
       (try clear hb2)
       (try clear hk)
       (try clear hi)
       refine hK.out _ _ ⟨(keep_cell HK.out hw139_0 hne139_0), (keep_cell HK.out hw140_0 hne140_0)⟩ (fun hHeld => ?_)
       clear hK K
       refine norm_ (a' := ?_) ?_ ?_
       rotate_left
       ·show Act.put _ (some 29) _ = _
        simp only [Act.put, List.setIfInBounds_toArray, List.set_cons_zero, List.set_cons_succ, i64_w, i32_w]
        rfl
       refine pure_ (i := 13) (N := some 7) (v := ?_) (a' := ?_) #[true, true, true, true, true, true, true, true, true, true, true, true, true, true] rfl rfl (any_of HT_.out (by kernel_rfl)) (fun _ _ _ h => h) (Or.inl ⟨by rfl, ?_⟩) ?_ ?_
       rotate_left
       ·intro w'
        go_simp
        with_reducible rfl
       rotate_left
       ·simp only [Act.put, List.setIfInBounds_toArray, List.set_cons_zero, List.set_cons_succ, i64_w, i32_w]
        rfl
       refine done_ (done_of HT_.out (by kernel_rfl)) ?_
       try go_wp2
       go_roundg k1
       case measure => have := HK1.out; omega
       case rel => exact ⟨(t145), (wrap64 (x14_1 + 1)), (t146), (t147), (t148), (by first | rfl | (simp; done) | (simp [*]; done)), (by first | rfl | (simp; done) | (simp [*]; done)), H', ⟨by have := HK1.out; omega⟩, ⟨by repeat (first | (with_reducible first | exact HI0.out | apply IsS109.alloc | apply IsS109.drewN | apply IsS109.drew | apply IsS109.set_0 | apply IsS109.set_1 | apply IsS109.set_3) | exact HI0.out)⟩, ⟨by repeat (first | (with_reducible first | exact HK.out | apply KeepBut.set_ | apply keep_drewN | apply keep_drew | apply keep_alloc) | exact HK.out)⟩, ⟨by repeat (first | (with_reducible first | exact HB.out | apply below_alloc | apply pw_below_drewN | apply below_drew1 | refine below_set ?_ (IsS109.ge HI0.out)) | exact HB.out)⟩⟩
      ·rw [if_neg c8] at H
       exact absurd H (by simp)
     ·rw [if_neg c7] at H
      exact absurd H (by simp)
    ·rw [if_neg c6] at H
     exact absurd H (by simp)
   ·rw [if_neg c5] at H
    have c5b0 : decide (x14_1 < ji4) = false := decide_eq_false c5
    clear c5
    simp only [Option.some.injEq, Prod.mk.injEq] at H
    obtain ⟨rfl, rfl, rfl, rfl⟩ := H
    go_wp2
    go_ret
    exact ⟨by first | rfl | (simp [errW_none, errW_some] <;> rfl) | (simp only [← hji4]; first | rfl | (simp [errW_none, errW_some] <;> rfl)) | (simp [*, errW_none, errW_some] <;> rfl), by repeat (first | (with_reducible first | exact HI0.out | apply IsS109.alloc | apply IsS109.drewN | apply IsS109.drew | apply IsS109.set_0 | apply IsS109.set_1 | apply IsS109.set_3) | exact HI0.out), by repeat (first | (with_reducible first | exact HB.out | apply below_alloc | apply pw_below_drewN | apply below_drew1 | refine below_set ?_ (IsS109.ge HI0.out)) | exact HB.out), by repeat (first | (with_reducible first | exact HK.out | apply KeepBut.set_ | apply keep_drewN | apply keep_drew | apply keep_alloc) | exact HK.out)⟩
theorem field_GF_Dot.calls (k : Nat) (g : Nat) (s0_0 : Int) (s0_1 : Int) (s0_2 : List Int) (s0_3 : Int) (s0_4 : List Int) (s0_5 : List Int) (A1 : Option Addr) (c1 : Nat) (l1 : List Int) (A2 : Option Addr) (c2 : Nat) (l2 : List Int) (r1 : Int) (r2 : Int) (r3 : Int) (r4 : Int) (w0 w : World) (hI : IsS109 w0 w g s0_0 s0_1 s0_2 s0_3 s0_4 s0_5) (hB : Below w0.heap.size w0 w) (hr1 : Kd.C (Kd.int .i64) w A1 l1.length l1) (hc1 : l1.length ≤ c1) (hf1 : ∀ ad, A1 = some ad → 0 < l1.length → ad.block ≠ g) (hr2 : Kd.C (Kd.int .i64) w A2 l2.length l2) (hc2 : l2.length ≤ c2) (hf2 : ∀ ad, A2 = some ad → 0 < l2.length → ad.block ≠ g) (h : field_GF_Dot.f k s0_0 s0_1 s0_2 s0_3 s0_4 s0_5 l1 l2 = some (r1, r2, r3, r4)) :
  Calls Try.prog 68 #[.pointer (some ⟨g, 0, none⟩), .slice A1 l1.length c1, .slice A2 l2.length c2] w fun e w' => e = .returned (.int .i64 r1) ∧ IsS109 w0 w' g r2 r3 s0_2 r4 s0_4 s0_5 ∧ Below w0.heap.size w0 w' ∧ KeepBut w w' g none := by
 by_cases hlt : (l2.length : Int) < (l1.length : Int)
 ·exact field_GF_Dot.calls_lt k g s0_0 s0_1 s0_2 s0_3 s0_4 s0_5 A1 c1 l1 A2 c2 l2 r1 r2 r3 r4 w0 w hI hB hr1 hc1 hf1 hr2 hc2 hf2 hlt h
 ·exact field_GF_Dot.calls_ge k g s0_0 s0_1 s0_2 s0_3 s0_4 s0_5 A1 c1 l1 A2 c2 l2 r1 r2 r3 r4 w0 w hI hB hr1 hc1 hf1 hr2 hc2 hf2 hlt h
end Go.Proofs.Ytkifipakikbhcaa.Gf
namespace Go.Proofs.Ytkifipakikbhcaa.Gf
open Go.Proofs.Ytkifipakikbhcaa.Ref
open Go.RowKit Go.Proofs.YtkifipakikbhcaaW.PrintWords Go.Proofs.YtkifipakikbhcaaW.PrintLast Go.Proofs.YtkifipakikbhcaaW.PrintMore
attribute [local go_sem] max2_int min2_int max_two min_two max_three min_three max_four min_four
def field_GF_Neg.l0 : Nat → Int → Int → Int → Int → Int → List Int → Int → List Int → List Int → Option (Int × Int × Int × Int)
 | 0, _, _, _, _, _, _, _, _, _ => none
 | k + 1, x1, x5, x6, x1000, x1001, x1002, x1003, x1004, x1005 => if x1 > 0 then (if x1000 = 0 then (none) else (field_GF_Neg.l0 k (wrap64 (Int.tdiv x1 x1000)) (wrap64 (x5 + (wrap64 ((Int.tmod (wrap64 (x1000 - (Int.tmod x1 x1000))) x1000) * x6)))) (wrap64 (x6 * x1000)) x1000 x1001 x1002 x1003 x1004 x1005)) else (some (x5, x1000, x1001, x1003))
def field_GF_Neg.f (k : Nat) (s0_0 : Int) (s0_1 : Int) (s0_2 : List Int) (s0_3 : Int) (s0_4 : List Int) (s0_5 : List Int) (a1 : Int) : Option (Int × Int × Int × Int) := (field_GF_in.f s0_0 s0_1 s0_2 s0_3 s0_4 s0_5 a1).bind fun bt149 => (field_GF_Neg.l0 k bt149.1 0 1 bt149.2.1 bt149.2.2.1 s0_2 bt149.2.2.2 s0_4 s0_5)
theorem field_GF_Neg.calls (k : Nat) (g : Nat) (s0_0 : Int) (s0_1 : Int) (s0_2 : List Int) (s0_3 : Int) (s0_4 : List Int) (s0_5 : List Int) (a1 : Int) (r1 : Int) (r2 : Int) (r3 : Int) (r4 : Int) (w0 w : World) (hI : IsS109 w0 w g s0_0 s0_1 s0_2 s0_3 s0_4 s0_5) (hB : Below w0.heap.size w0 w) (h : field_GF_Neg.f k s0_0 s0_1 s0_2 s0_3 s0_4 s0_5 a1 = some (r1, r2, r3, r4)) :
  Calls Try.prog 69 #[.pointer (some ⟨g, 0, none⟩), .int .i64 a1] w fun e w' => e = .returned (.int .i64 r1) ∧ IsS109 w0 w' g r2 r3 s0_2 r4 s0_4 s0_5 ∧ Below w0.heap.size w0 w' ∧ KeepBut w w' g none := by
 have HI0 := Aside0.mk hI
 have HK := Aside0.mk (KeepBut.refl w g none)
 have HL := Aside0.mk hB.size
 clear hI
 have HW0 := Aside0.mk hB.size
 have HB := Aside0.mk hB
 clear hB
 have H : ((field_GF_in.f s0_0 s0_1 s0_2 s0_3 s0_4 s0_5 a1).bind fun bt149 => (field_GF_Neg.l0 k bt149.1 0 1 bt149.2.1 bt149.2.2.1 s0_2 bt149.2.2.2 s0_4 s0_5)) = some (r1, r2, r3, r4) := h
 clear h
 replace H := Option.bind_eq_some_iff.mp H
 obtain ⟨⟨t149, t150, t151, t152⟩, A30, H⟩ := H
 replace H : (field_GF_Neg.l0 k t149 0 1 t150 t151 s0_2 t152 s0_4 s0_5) = some (r1, r2, r3, r4) := H
 have A3 := Aside0.mk A30
 clear A30
 have H' := Aside0.mk H
 clear H
 go_enter Try.func69, Try.ntmps69
 go_wp2_with (first | (go_at_call 93; (with_reducible refine (field_GF_in.calls g s0_0 s0_1 s0_2 s0_3 s0_4 s0_5 a1 t149 t150 t151 t152 w0 _ ?side1 ?side2 A3.out).mono ?_); (case side1 => repeat (first | (with_reducible first | exact HI0.out | apply IsS109.alloc | apply IsS109.drewN | apply IsS109.drew | apply IsS109.set_0 | apply IsS109.set_1 | apply IsS109.set_3) | exact HI0.out)); (case side2 => repeat (first | (with_reducible first | exact HB.out | apply below_alloc | apply pw_below_drewN | apply below_drew1 | refine below_set ?_ (IsS109.ge HI0.out)) | exact HB.out)); rintro e w4 ⟨rfl, hi, hb, hk⟩; have n0_ := Aside0.mk (KeepBut.trans (by repeat (first | (with_reducible first | exact HK.out | apply KeepBut.set_ | apply keep_drewN | apply keep_drew | apply keep_alloc) | exact HK.out)) hk (.inl rfl)); have n1_ := Aside0.mk (hb); have n2_ := Aside0.mk (hi); clear HK; clear HB; clear HI0; have HK := n0_; have HB := n1_; have HI0 := n2_; clear n0_ n1_ n2_; (try clear hb); (try clear hb2); (try clear hk); (try clear hi)))
 repeat (go_quiet (first | (go_at_call 93; (with_reducible refine (field_GF_in.calls g s0_0 s0_1 s0_2 s0_3 s0_4 s0_5 a1 t149 t150 t151 t152 w0 _ ?side1 ?side2 A3.out).mono ?_); (case side1 => repeat (first | (with_reducible first | exact HI0.out | apply IsS109.alloc | apply IsS109.drewN | apply IsS109.drew | apply IsS109.set_0 | apply IsS109.set_1 | apply IsS109.set_3) | exact HI0.out)); (case side2 => repeat (first | (with_reducible first | exact HB.out | apply below_alloc | apply pw_below_drewN | apply below_drew1 | refine below_set ?_ (IsS109.ge HI0.out)) | exact HB.out)); rintro e w4 ⟨rfl, hi, hb, hk⟩; have n0_ := Aside0.mk (KeepBut.trans (by repeat (first | (with_reducible first | exact HK.out | apply KeepBut.set_ | apply keep_drewN | apply keep_drew | apply keep_alloc) | exact HK.out)) hk (.inl rfl)); have n1_ := Aside0.mk (hb); have n2_ := Aside0.mk (hi); clear HK; clear HB; clear HI0; have HK := n0_; have HB := n1_; have HI0 := n2_; clear n0_ n1_ n2_; (try clear hb); (try clear hb2); (try clear hk); (try clear hi))); try go_wp2_with (first | (go_at_call 93; (with_reducible refine (field_GF_in.calls g s0_0 s0_1 s0_2 s0_3 s0_4 s0_5 a1 t149 t150 t151 t152 w0 _ ?side1 ?side2 A3.out).mono ?_); (case side1 => repeat (first | (with_reducible first | exact HI0.out | apply IsS109.alloc | apply IsS109.drewN | apply IsS109.drew | apply IsS109.set_0 | apply IsS109.set_1 | apply IsS109.set_3) | exact HI0.out)); (case side2 => repeat (first | (with_reducible first | exact HB.out | apply below_alloc | apply pw_below_drewN | apply below_drew1 | refine below_set ?_ (IsS109.ge HI0.out)) | exact HB.out)); rintro e w4 ⟨rfl, hi, hb, hk⟩; have n0_ := Aside0.mk (KeepBut.trans (by repeat (first | (with_reducible first | exact HK.out | apply KeepBut.set_ | apply keep_drewN | apply keep_drew | apply keep_alloc) | exact HK.out)) hk (.inl rfl)); have n1_ := Aside0.mk (hb); have n2_ := Aside0.mk (hi); clear HK; clear HB; clear HI0; have HK := n0_; have HB := n1_; have HI0 := n2_; clear n0_ n1_ n2_; (try clear hb); (try clear hb2); (try clear hk); (try clear hi))))
 go_loopg [1, 5, 6] k (fun kq v1 v5 v6 w' => ∃ (x1_1 : Int) (x5_1 : Int) (x6_1 : Int), v1 = .int .i64 x1_1 ∧ v5 = .int .i64 x5_1 ∧ v6 = .int .i64 x6_1 ∧ Aside0 (field_GF_Neg.l0 kq x1_1 x5_1 x6_1 t150 t151 s0_2 t152 s0_4 s0_5 = some (r1, r2, r3, r4)) ∧ Aside0 (kq ≤ k) ∧ Aside0 (IsS109 w0 w' g t150 t151 s0_2 t152 s0_4 s0_5) ∧ Aside0 (KeepBut w w' g none) ∧ Aside0 (Below w0.heap.size w0 w'))
 case atStart => exact ⟨(t149), (0), (1), (by first | rfl | (simp; done) | (simp [*]; done)), (by first | rfl | (simp; done) | (simp [*]; done)), (by first | rfl | (simp; done) | (simp [*]; done)), H', ⟨Nat.le_refl _⟩, ⟨by repeat (first | (with_reducible first | exact HI0.out | apply IsS109.alloc | apply IsS109.drewN | apply IsS109.drew | apply IsS109.set_0 | apply IsS109.set_1 | apply IsS109.set_3) | exact HI0.out)⟩, ⟨by repeat (first | (with_reducible first | exact HK.out | apply KeepBut.set_ | apply keep_drewN | apply keep_drew | apply keep_alloc) | exact HK.out)⟩, ⟨by repeat (first | (with_reducible first | exact HB.out | apply below_alloc | apply pw_below_drewN | apply below_drew1 | refine below_set ?_ (IsS109.ge HI0.out)) | exact HB.out)⟩⟩
 case round =>
  clear H'
  try clear p2
  obtain ⟨x1_1, x5_1, x6_1, rfl, rfl, rfl, HA, HK1, HI0, HK, HB⟩ := hrel
  cases gk with
  | zero => exact absurd HA.out (by simp [field_GF_Neg.l0])
  | succ k1 =>
   have H := HA.out
   clear HA
   simp only [field_GF_Neg.l0] at H
   by_cases c5 : x1_1 > 0
   ·rw [if_pos c5] at H
    have c5b0 : decide (0 < x1_1) = true := decide_eq_true c5
    clear c5
    by_cases c6 : t150 = 0
    ·rw [if_pos c6] at H
     exact absurd H (by simp)
    ·rw [if_neg c6] at H
     have c6b0 : (t150 == 0) = false := beq_eq_false_iff_ne.mpr c6
     have c6b1 : (t150 != 0) = true := bne_iff_ne.mpr c6
     have H' := Aside0.mk H
     clear H
     obtain ⟨ASz7_2, cSz7_2, ASz7_4, cSz7_4, ASz7_5, cSz7_5, HGz7, hgz7, HSz7_2, HSz7_4, HSz7_5⟩ := HI0.out
     have hcz7_0 := cellS109_0 HGz7
     have hcz7_1 := cellS109_1 HGz7
     have hcz7_2 := cellS109_2 HGz7
     have hcz7_3 := cellS109_3 HGz7
     have hcz7_4 := cellS109_4 HGz7
     have hcz7_5 := cellS109_5 HGz7
     have hfz7_0 := blk_frozen HGz7 0
     have hfz7_1 := blk_frozen HGz7 1
     have hfz7_3 := blk_frozen HGz7 3
     clear HGz7 hgz7
     go_wp2
     repeat (go_quiet (fail); try go_wp2)
     go_roundg k1
     case measure => have := HK1.out; omega
     case rel => exact ⟨(wrap64 (Int.tdiv x1_1 t150)), (wrap64 (x5_1 + (wrap64 ((Int.tmod (wrap64 (t150 - (Int.tmod x1_1 t150))) t150) * x6_1)))), (wrap64 (x6_1 * t150)), (by first | rfl | (simp; done) | (simp [*]; done)), (by first | rfl | (simp; done) | (simp [*]; done)), (by first | rfl | (simp; done) | (simp [*]; done)), H', ⟨by have := HK1.out; omega⟩, ⟨by repeat (first | (with_reducible first | exact HI0.out | apply IsS109.alloc | apply IsS109.drewN | apply IsS109.drew | apply IsS109.set_0 | apply IsS109.set_1 | apply IsS109.set_3) | exact HI0.out)⟩, ⟨by repeat (first | (with_reducible first | exact HK.out | apply KeepBut.set_ | apply keep_drewN | apply keep_drew | apply keep_alloc) | exact HK.out)⟩, ⟨by repeat (first | (with_reducible first | exact HB.out | apply below_alloc | apply pw_below_drewN | apply below_drew1 | refine below_set ?_ (IsS109.ge HI0.out)) | exact HB.out)⟩⟩
   ·rw [if_neg c5] at H
    have c5b0 : decide (0 < x1_1) = false := decide_eq_false c5
    clear c5
    simp only [Option.some.injEq, Prod.mk.injEq] at H
    obtain ⟨rfl, rfl, rfl, rfl⟩ := H
    go_wp2
    repeat (go_quiet (fail); try go_wp2)
    go_ret
    exact ⟨by first | rfl | (simp [errW_none, errW_some] <;> rfl) | (simp [*, errW_none, errW_some] <;> rfl), by repeat (first | (with_reducible first | exact HI0.out | apply IsS109.alloc | apply IsS109.drewN | apply IsS109.drew | apply IsS109.set_0 | apply IsS109.set_1 | apply IsS109.set_3) | exact HI0.out), by repeat (first | (with_reducible first | exact HB.out | apply below_alloc | apply pw_below_drewN | apply below_drew1 | refine below_set ?_ (IsS109.ge HI0.out)) | exact HB.out), by repeat (first | (with_reducible first | exact HK.out | apply KeepBut.set_ | apply keep_drewN | apply keep_drew | apply keep_alloc) | exact HK.out)⟩
end Go.Proofs.Ytkifipakikbhcaa.Gf
namespace Go.Proofs.Ytkifipakikbhcaa.Hand
open Go.Proofs.Ytkifipakikbhcaa.Ref
open Go.Proofs.Ytkifipakikbhcaa.Pg (peel_set.f peel_set.calls peel_mask.f peel_mask.calls peel_left.f peel_left.calls)
open Go.Proofs.Ytkifipakikbhcaa.Pm (peel_Graph.f peel_Graph.calls)
open Go.Proofs.Ytkifipakikbhcaa.Pc (slices_Contains_int_int.f slices_Contains_int_int.calls)
open Go.Proofs.Ytkifipakikbhcaa.Gf (IsS109 field_GF_Dot.f field_GF_Dot.calls field_GF_Div.f field_GF_Div.calls field_GF_Neg.f field_GF_Neg.calls)
open Go.RowKit Go.Proofs.YtkifipakikbhcaaW.PrintWords Go.Proofs.YtkifipakikbhcaaW.PrintLast Go.Proofs.YtkifipakikbhcaaW.PrintMore
attribute [local go_sem ↓] Go.wp_at_zero Go.wp_at_succ
theorem index_l0 (l : List Int) (a : Int) (hl : l.length ≤ 4611686018427387904) : ∀ (m k i : Nat), m = l.length - i → i ≤ l.length → m < k →
  ∃ r, Pc.slices_Index_int_int.l0 k l a (l.length : Int) (i : Int) = some r ∧ (0 ≤ r ↔ a ∈ l.drop i) := by
 intro m
 induction m with
 | zero =>
  intro k i hm hi hk
  obtain ⟨k, rfl⟩ : ∃ k', k = k' + 1 := ⟨k - 1, by omega⟩
  have h : i = l.length := by omega
  refine ⟨-1, by rw [Pc.slices_Index_int_int.l0, if_neg (by omega)], ?_⟩
  rw [h, List.drop_length]; simp
 | succ m ih =>
  intro k i hm hi hk
  obtain ⟨k, rfl⟩ : ∃ k', k = k' + 1 := ⟨k - 1, by omega⟩
  have h : i < l.length := by omega
  obtain ⟨r, hr, hmem⟩ := ih k (i + 1) (by omega) (by omega) (by omega)
  have hw : wrap64 ((i : Int) + 1) = ((i + 1 : Nat) : Int) := by unfold wrap64; omega
  have hd : l.drop i = rd l (i : Int) :: l.drop (i + 1) := by
   have := drop_cons (d := (0 : Int)) (i := (i : Int)) (l := l) (by omega) (by omega)
   rw [Int.toNat_natCast, show ((i : Int) + 1).toNat = i + 1 from by omega] at this
   exact this
  by_cases he : a = rd l (i : Int)
  ·refine ⟨i, by rw [Pc.slices_Index_int_int.l0, if_pos (by omega), if_pos (by omega), if_pos (by omega), if_pos he], ?_⟩
   rw [hd, ← he]; simp
  ·refine ⟨r, by rw [Pc.slices_Index_int_int.l0, if_pos (by omega), if_pos (by omega), if_pos (by omega), if_neg he, hw, hr], ?_⟩
   rw [hmem, hd]; simp [he]
theorem contains_f (l : List Int) (a : Int) (hl : l.length ≤ 4611686018427387904) : slices_Contains_int_int.f (l.length + 1) l a = some (decide (a ∈ l)) := by
 obtain ⟨r, hr, hm⟩ := index_l0 l a hl l.length (l.length + 1) 0 (by omega) (by omega) (by omega)
 unfold Pc.slices_Contains_int_int.f Pc.slices_Index_int_int.f
 have hr' : Pc.slices_Index_int_int.l0 (l.length + 1) l a (l.length : Int) 0 = some r := hr
 rw [hr', Option.bind_some]
 congr 1
 rw [List.drop_zero] at hm
 exact decide_eq_decide.2 hm
structure Fd where
 P : Int
 M : Int
 md : List Int
 q : Int
 ex : List Int
 lg : List Int
def gDot (F : Fd) (a b : List Int) : Option Int := (field_GF_Dot.f 4096 F.P F.M F.md F.q F.ex F.lg a b).bind fun r => if r.2 = (F.P, F.M, F.q) then some r.1 else none
def gDiv (F : Fd) (a b : Int) : Option Int := (field_GF_Div.f F.P F.M F.md F.q F.ex F.lg a b).bind fun r => if r.2.2 = (F.P, F.M, F.q) then some r.1 else none
def gNeg (F : Fd) (a : Int) : Option Int := (field_GF_Neg.f 4096 F.P F.M F.md F.q F.ex F.lg a).bind fun r => if r.2 = (F.P, F.M, F.q) then some r.1 else none
def lone (inn : List Bool) (i : Int) (l : List Int) : Bool := decide (i ∈ l) && !(l.any fun k => !decide (k = i) && inAt inn k)
def fillIn (F : Fd) (inn : List Bool) (i : Int) (out : List Int) : List (List Int) → List (List Int) → Option (List Int)
 | [], _ => some out
 | l :: ls, r :: rs => if lone inn i l = true then (if i < r.length then (gDot F r out).bind fun d => (gDiv F d (rd r i)).bind fun x => (gNeg F x).bind fun y => some (out.set i.toNat y) else none) else fillIn F inn i out ls rs
 | _ :: _, [] => none
def peelGo (F : Fd) (ch rows : List (List Int)) : Nat → List Int → List Bool → Option (List Int × List Bool)
 | 0, _, _ => none
 | n + 1, out, inn => if alone inn ch < 0 then some (out, inn) else (fillIn F inn (alone inn ch) out ch rows).bind fun o => peelGo F ch rows n o (inn.set (alone inn ch).toNat false)
def failsAt (F : Fd) (inn : List Bool) (out : List Int) : List (List Int) → List (List Int) → Option Bool
 | [], _ => some false
 | l :: ls, r :: rs => if (l.any fun k => inAt inn k) = true then failsAt F inn out ls rs else (gDot F r out).bind fun d => if d = 0 then failsAt F inn out ls rs else some true
 | _ :: _, [] => none
def clearAt : List Int → List Int → List Int
 | [], out => out
 | i :: l, out => clearAt l (out.set i.toNat 0)
def peelMain (F : Fd) (V : Int) (ch rows : List (List Int)) (wd er : List Int) : Option (List Int × List Int × Int) :=
 (peel_mask.f 4096 V ch er).bind fun inn =>
  if (er.all fun i => decide (0 ≤ i ∧ i < wd.length)) = true ∧ inn.length = wd.length ∧ (ch.all fun l => l.all fun i => decide (0 ≤ i ∧ i < wd.length)) = true ∧ ch.length ≤ 256 ∧ wd.length ≤ 256 ∧ er.length ≤ 256 ∧ 0 < wd.length ∧ (ch.all fun l => decide (l.length ≤ 256)) = true then
   (peelGo F ch rows (wd.length + 1) (clearAt er wd) inn).bind fun r => (failsAt F r.2 r.1 ch rows).bind fun b => if b = true then some ([], [], 12) else (peel_left.f 4096 r.2).map fun l => (r.1, l, 0)
  else none
structure PJ (F : Fd) (w0 : World) (g b13 b15 go co gi ci n : Nat) (W : World) (out : List Int) (inn : List Bool) : Prop where
 I : IsS109 w0 W g F.P F.M F.md F.q F.ex F.lg
 B : Below w0.heap.size w0 W
 c13 : W.cell? ⟨b13, 0, none⟩ = some (.pointer (some ⟨g, 0, none⟩))
 c15 : W.cell? ⟨b15, 0, none⟩ = some (.slice (some ⟨gi, 0, none⟩) n ci)
 o1 : Kd.R (Kd.int .i64) 3 W w0.heap.size (fun _ => True) (.slice (some ⟨go, 0, none⟩) n co) out
 o2 : Kd.R Kd.bool 4 W w0.heap.size (fun _ => True) (.slice (some ⟨gi, 0, none⟩) n ci) inn
 l1 : out.length = n
 l2 : inn.length = n
 n1 : g ≠ go
 n2 : g ≠ gi
 n3 : g ≠ b13
 n4 : g ≠ b15
 n5 : go ≠ gi
 n6 : go ≠ b13
 n7 : go ≠ b15
 n8 : gi ≠ b13
 n9 : gi ≠ b15
theorem PJ.step {F : Fd} {w0 : World} {g b13 b15 go co gi ci n : Nat} {W W' : World} {out : List Int} {inn : List Bool} (h : PJ F w0 g b13 b15 go co gi ci n W out inn) (hb : Below W.heap.size W W') : PJ F w0 g b13 b15 go co gi ci n W' out inn :=
 ⟨h.I.below hb, below_step h.B hb, cell_below h.c13 hb, cell_below h.c15 hb, Kd.R_below h.o1 hb, Kd.R_below h.o2 hb, h.l1, h.l2, h.n1, h.n2, h.n3, h.n4, h.n5, h.n6, h.n7, h.n8, h.n9⟩
theorem PJ.keep {F : Fd} {w0 : World} {g b13 b15 go co gi ci n : Nat} {W W' : World} {out : List Int} {inn : List Bool} (h : PJ F w0 g b13 b15 go co gi ci n W out inn) (hi : IsS109 w0 W' g F.P F.M F.md F.q F.ex F.lg) (hb : Below w0.heap.size w0 W') (hk : KeepBut W W' g none) : PJ F w0 g b13 b15 go co gi ci n W' out inn :=
 ⟨hi, hb, keep_cell hk h.c13 (fun e => h.n3 e.symm), keep_cell hk h.c15 (fun e => h.n4 e.symm), Kd.R_mono (Kd.R_keep (Kd.R_tight rfl h.o1) hk (fun k hk e => h.n1 (by rw [e] at hk; exact Option.some.inj hk))) (fun _ _ => trivial), Kd.R_mono (Kd.R_keep (Kd.R_tight rfl h.o2) hk (fun k hk e => h.n2 (by rw [e] at hk; exact Option.some.inj hk))) (fun _ _ => trivial), h.l1, h.l2, h.n1, h.n2, h.n3, h.n4, h.n5, h.n6, h.n7, h.n8, h.n9⟩
theorem PJ.putOut {F : Fd} {w0 : World} {g b13 b15 go co gi ci n : Nat} {W : World} {out : List Int} {inn : List Bool} (h : PJ F w0 g b13 b15 go co gi ci n W out inn) (i : Int) (x : Int) : PJ F w0 g b13 b15 go co gi ci n (W.setCell ⟨go, i.toNat, none⟩ (.int .i64 x)) (out.set i.toNat x) inn := by
 have hp := Kd.R_put (show Kd.R (Kd.int .i64) 3 W w0.heap.size (fun _ => True) (.slice (some ⟨go, 0, none⟩) out.length co) out by rw [h.l1]; exact h.o1) i x
 refine ⟨h.I.grown hp.2 ?_, below_set h.B (Kd.R_base h.o1 go rfl), cell_grown hp.2 h.c13 ?_, cell_grown hp.2 h.c15 ?_, by rw [← h.l1]; exact hp.1, Kd.R_grown1 h.o2 rfl hp.2 ?_, by rw [List.length_set]; exact h.l1, h.l2, h.n1, h.n2, h.n3, h.n4, h.n5, h.n6, h.n7, h.n8, h.n9⟩
 ·exact fun e => h.n1 (Option.some.inj e)
 ·exact fun e => h.n6 (Option.some.inj e).symm
 ·exact fun e => h.n7 (Option.some.inj e).symm
 ·exact fun e => h.n5 (Option.some.inj e)
theorem PJ.putIn {F : Fd} {w0 : World} {g b13 b15 go co gi ci n : Nat} {W : World} {out : List Int} {inn : List Bool} (h : PJ F w0 g b13 b15 go co gi ci n W out inn) (i : Int) (x : Bool) : PJ F w0 g b13 b15 go co gi ci n (W.setCell ⟨gi, i.toNat, none⟩ (.bool x)) out (inn.set i.toNat x) := by
 have hp := Kd.R_put (show Kd.R Kd.bool 4 W w0.heap.size (fun _ => True) (.slice (some ⟨gi, 0, none⟩) inn.length ci) inn by rw [h.l2]; exact h.o2) i x
 refine ⟨h.I.grown hp.2 ?_, below_set h.B (Kd.R_base h.o2 gi rfl), cell_grown hp.2 h.c13 ?_, cell_grown hp.2 h.c15 ?_, Kd.R_grown1 h.o1 rfl hp.2 ?_, by rw [← h.l2]; exact hp.1, h.l1, by rw [List.length_set]; exact h.l2, h.n1, h.n2, h.n3, h.n4, h.n5, h.n6, h.n7, h.n8, h.n9⟩
 ·exact fun e => h.n2 (Option.some.inj e)
 ·exact fun e => h.n8 (Option.some.inj e).symm
 ·exact fun e => h.n9 (Option.some.inj e).symm
 ·exact fun e => h.n5 (Option.some.inj e).symm
theorem PJ.dot {F : Fd} {w0 : World} {g b13 b15 go co gi ci n : Nat} {W : World} {out : List Int} {inn : List Bool} (h : PJ F w0 g b13 b15 go co gi ci n W out inn) {A : Option Addr} {c : Nat} {r : List Int} (hr : Kd.C (Kd.int .i64) w0 A r.length r) (hc : r.length ≤ c) {d : Int} (hd : gDot F r out = some d) :
  Calls Try.prog 68 #[.pointer (some ⟨g, 0, none⟩), .slice A r.length c, .slice (some ⟨go, 0, none⟩) n co] W fun e w' => e = .returned (.int .i64 d) ∧ IsS109 w0 w' g F.P F.M F.md F.q F.ex F.lg ∧ Below w0.heap.size w0 w' ∧ KeepBut W w' g none := by
 obtain ⟨⟨x, y1, y2, y3⟩, hx, hy⟩ := Option.bind_eq_some_iff.1 hd
 split at hy
 ·rename_i he
  have hy := Option.some.inj hy
  injection he with e1 e2
  injection e2 with e2 e3
  subst e1 e2 e3 hy
  have ho : Kd.R (Kd.int .i64) 3 W w0.heap.size (fun _ => True) (.slice (some ⟨go, 0, none⟩) out.length co) out := by rw [h.l1]; exact h.o1
  have hc2 := field_GF_Dot.calls 4096 g F.P F.M F.md F.q F.ex F.lg A c r (some ⟨go, 0, none⟩) co out _ _ _ _ w0 W h.I h.B (Kd.C_below hr h.B) hc (C_ne hr h.I.ge) (Kd.R_reads' ho).2.2 (Kd.R_reads' ho).2.1 (fun ad e _ => by injection e with e; subst e; exact fun e => h.n1 e.symm) hx
  rw [h.l1] at hc2
  exact hc2
 ·exact absurd hy (by simp)
theorem PJ.div {F : Fd} {w0 : World} {g b13 b15 go co gi ci n : Nat} {W : World} {out : List Int} {inn : List Bool} (h : PJ F w0 g b13 b15 go co gi ci n W out inn) {a b d : Int} (hd : gDiv F a b = some d) :
  Calls Try.prog 67 #[.pointer (some ⟨g, 0, none⟩), .int .i64 a, .int .i64 b] W fun e w' => ∃ x : Int, e = .returned (.tuple #[.int .i64 d, .int .i64 x]) ∧ IsS109 w0 w' g F.P F.M F.md F.q F.ex F.lg ∧ Below w0.heap.size w0 w' ∧ KeepBut W w' g none := by
 obtain ⟨⟨x, z, y1, y2, y3⟩, hx, hy⟩ := Option.bind_eq_some_iff.1 hd
 split at hy
 ·rename_i he
  have hy := Option.some.inj hy
  injection he with e1 e2
  injection e2 with e2 e3
  subst e1 e2 e3 hy
  exact (field_GF_Div.calls g F.P F.M F.md F.q F.ex F.lg a b _ _ _ _ _ w0 W h.I h.B hx).mono (fun e w' hh => ⟨_, hh⟩)
 ·exact absurd hy (by simp)
theorem PJ.neg {F : Fd} {w0 : World} {g b13 b15 go co gi ci n : Nat} {W : World} {out : List Int} {inn : List Bool} (h : PJ F w0 g b13 b15 go co gi ci n W out inn) {a d : Int} (hd : gNeg F a = some d) :
  Calls Try.prog 69 #[.pointer (some ⟨g, 0, none⟩), .int .i64 a] W fun e w' => e = .returned (.int .i64 d) ∧ IsS109 w0 w' g F.P F.M F.md F.q F.ex F.lg ∧ Below w0.heap.size w0 w' ∧ KeepBut W w' g none := by
 obtain ⟨⟨x, y1, y2, y3⟩, hx, hy⟩ := Option.bind_eq_some_iff.1 hd
 split at hy
 ·rename_i he
  have hy := Option.some.inj hy
  injection he with e1 e2
  injection e2 with e2 e3
  subst e1 e2 e3 hy
  exact field_GF_Neg.calls 4096 g F.P F.M F.md F.q F.ex F.lg a _ _ _ _ w0 W h.I h.B hx
 ·exact absurd hy (by simp)
theorem fill_take {F : Fd} {inn : List Bool} {i : Int} {out : List Int} {l : List Int} {ls rows : List (List Int)} {j : Nat} {o : List Int} (h : fillIn F inn i out (l :: ls) (rows.drop j) = some o) (hl : lone inn i l = true) :
  j < rows.length ∧ i < (rd_L1 rows (j : Int)).length ∧ ∃ d x y, gDot F (rd_L1 rows (j : Int)) out = some d ∧ gDiv F d (rd (rd_L1 rows (j : Int)) i) = some x ∧ gNeg F x = some y ∧ o = out.set i.toNat y := by
 by_cases hj : j < rows.length
 ·rw [rows_drop hj, fillIn, if_pos hl] at h
  split at h
  ·rename_i hi
   obtain ⟨d, hd, h⟩ := Option.bind_eq_some_iff.1 h
   obtain ⟨x, hx, h⟩ := Option.bind_eq_some_iff.1 h
   obtain ⟨y, hy, h⟩ := Option.bind_eq_some_iff.1 h
   exact ⟨hj, hi, d, x, y, hd, hx, hy, (Option.some.inj h).symm⟩
  ·exact absurd h (by simp)
 ·rw [List.drop_eq_nil_of_le (by omega)] at h
  simp [fillIn] at h
end Go.Proofs.Ytkifipakikbhcaa.Hand
namespace Go.Proofs.Ytkifipakikbhcaa.Hand
open Go.Proofs.Ytkifipakikbhcaa.Ref
open Go.Proofs.Ytkifipakikbhcaa.Pg (peel_set.f peel_set.calls peel_mask.f peel_mask.calls peel_left.f peel_left.calls)
open Go.Proofs.Ytkifipakikbhcaa.Pm (peel_Graph.f peel_Graph.calls)
open Go.Proofs.Ytkifipakikbhcaa.Pc (slices_Contains_int_int.f slices_Contains_int_int.calls)
open Go.Proofs.Ytkifipakikbhcaa.Gf (IsS109 field_GF_Dot.f field_GF_Dot.calls field_GF_Div.f field_GF_Div.calls field_GF_Neg.f field_GF_Neg.calls)
open Go.RowKit Go.Proofs.YtkifipakikbhcaaW.PrintWords Go.Proofs.YtkifipakikbhcaaW.PrintLast Go.Proofs.YtkifipakikbhcaaW.PrintMore
attribute [local go_sem ↓] Go.wp_at_zero Go.wp_at_succ
theorem drawn0_below' {W W' : World} (h : Drawn0 W W') : Below W.heap.size W W' := by
 obtain ⟨n, rfl⟩ := h
 exact pw_below_drewN (Below.refl _ _) n
theorem PJ.far {F : Fd} {w0 : World} {g b13 b15 go co gi ci n : Nat} {W : World} {out : List Int} {inn : List Bool} (h : PJ F w0 g b13 b15 go co gi ci n W out inn) (b : Nat) (u : Value) (hd : w0.heap.size ≤ b ∧ b ≠ g ∧ b ≠ go ∧ b ≠ gi ∧ b ≠ b13 ∧ b ≠ b15) : PJ F w0 g b13 b15 go co gi ci n (W.setCell ⟨b, 0, none⟩ u) out inn := by
 have hk := (KeepBut.refl W b none).set_ 0 u
 exact ⟨h.I.far (fun e => hd.2.1 e.symm) u, below_set h.B hd.1, keep_cell hk h.c13 (fun e => hd.2.2.2.2.1 e.symm), keep_cell hk h.c15 (fun e => hd.2.2.2.2.2 e.symm), Kd.R_mono (Kd.R_keep (Kd.R_tight rfl h.o1) hk (fun k hk e => hd.2.2.1 (by rw [e] at hk; exact Option.some.inj hk))) (fun _ _ => trivial), Kd.R_mono (Kd.R_keep (Kd.R_tight rfl h.o2) hk (fun k hk e => hd.2.2.2.1 (by rw [e] at hk; exact Option.some.inj hk))) (fun _ _ => trivial), h.l1, h.l2, h.n1, h.n2, h.n3, h.n4, h.n5, h.n6, h.n7, h.n8, h.n9⟩
theorem fill_skip {F : Fd} {inn : List Bool} {i : Int} {out : List Int} {l : List Int} {ls rows : List (List Int)} {j : Nat} {o : List Int} (h : fillIn F inn i out (l :: ls) (rows.drop j) = some o) (hl : lone inn i l = false) : fillIn F inn i out ls (rows.drop (j + 1)) = some o := by
 rw [← List.tail_drop]
 cases hr : rows.drop j with
 | nil => rw [hr] at h; simp [fillIn] at h
 | cons r rs =>
  rw [hr, fillIn, if_neg (by simp [hl])] at h
  exact h
theorem closure66' {F : Fd} {w0 : World} {g b13 go co gi ci n : Nat} {W : World} {out : List Int} {inn : List Bool} (x i : Int) (b b15 : Nat) (h : PJ F w0 g b13 b15 go co gi ci n W out inn) (hb : W.heap[b]? = some (.cells #[.int .i64 i] 3 (0, 0))) (hx : 0 ≤ x ∧ x < (n : Int)) :
  Calls Try.prog 66 (#[.int .i64 x] ++ #[.pointer (some ⟨b, 0, none⟩), .pointer (some ⟨b15, 0, none⟩)]) W fun e W' => e = .returned (.bool (!decide (x = i) && inAt inn x)) ∧ (PJ F w0 g b13 b15 go co gi ci n W' out inn ∧ W'.heap[b]? = some (.cells #[.int .i64 i] 3 (0, 0))) := by
 refine (closure66 x i b b15 (some ⟨gi, 0, none⟩) ci inn W ((blk_cell hb 0).trans rfl) (by rw [h.l2]; exact h.c15) (Kd.R_reads' (show Kd.R Kd.bool 4 W w0.heap.size (fun _ => True) (.slice (some ⟨gi, 0, none⟩) inn.length ci) inn by rw [h.l2]; exact h.o2)).2.2 hx.1 (by rw [h.l2]; exact hx.2)).mono ?_
 rintro e W' ⟨rfl, rfl⟩
 exact ⟨rfl, h, hb⟩
theorem aloneRow_lt (inn : List Bool) (n : Int) : ∀ (l : List Int) (only o : Int), aloneRow inn l only = some o → (∀ i ∈ l, i < n) → only < n → o < n
 | [], only, o, h, _, h2 => by rw [aloneRow] at h; have := Option.some.inj h; omega
 | i :: l, only, o, h, h1, h2 => by
  rw [aloneRow] at h
  split at h
  ·split at h
   ·simp at h
   ·exact aloneRow_lt inn n l i o h (fun j hj => h1 j (List.mem_cons_of_mem _ hj)) (h1 i (List.mem_cons_self ..))
  ·exact aloneRow_lt inn n l only o h (fun j hj => h1 j (List.mem_cons_of_mem _ hj)) h2
theorem alone_lt (inn : List Bool) (n : Int) (hn : 0 ≤ n) : ∀ (ls : List (List Int)), (∀ l ∈ ls, ∀ i ∈ l, 0 ≤ i ∧ i < n) → alone inn ls < n
 | [], _ => by rw [alone]; omega
 | l :: ls, h => by
  have ih := alone_lt inn n hn ls (fun x hx => h x (List.mem_cons_of_mem _ hx))
  rw [alone]
  cases hr : aloneRow inn l (-1) with
  | none => exact ih
  | some o =>
   simp only []
   split
   ·exact aloneRow_lt inn n l (-1) o hr (fun i hi => (h l (List.mem_cons_self ..) i hi).2) (by omega)
   ·exact ih
theorem fails_skip {F : Fd} {inn : List Bool} {out : List Int} {l : List Int} {ls rows : List (List Int)} {j : Nat} {o : Bool} (h : failsAt F inn out (l :: ls) (rows.drop j) = some o) (hl : l.any (fun k => inAt inn k) = true) : failsAt F inn out ls (rows.drop (j + 1)) = some o := by
 rw [← List.tail_drop]
 cases hr : rows.drop j with
 | nil => rw [hr] at h; simp [failsAt] at h
 | cons r rs =>
  rw [hr, failsAt, if_pos hl] at h
  exact h
theorem fails_take {F : Fd} {inn : List Bool} {out : List Int} {l : List Int} {ls rows : List (List Int)} {j : Nat} {o : Bool} (h : failsAt F inn out (l :: ls) (rows.drop j) = some o) (hl : l.any (fun k => inAt inn k) = false) :
  j < rows.length ∧ ∃ d, gDot F (rd_L1 rows (j : Int)) out = some d ∧ (if d = 0 then failsAt F inn out ls (rows.drop (j + 1)) = some o else o = true) := by
 by_cases hj : j < rows.length
 ·rw [rows_drop hj, failsAt, if_neg (by simp [hl])] at h
  obtain ⟨d, hd, h⟩ := Option.bind_eq_some_iff.1 h
  refine ⟨hj, d, hd, ?_⟩
  split at h
  ·rename_i e; rw [if_pos e]; exact h
  ·rename_i e; rw [if_neg e]; exact (Option.some.inj h).symm
 ·rw [List.drop_eq_nil_of_le (by omega)] at h
  simp [failsAt] at h
theorem closure70' {F : Fd} {w0 : World} {g b13 b15 go co gi ci n : Nat} {W : World} {out : List Int} {inn : List Bool} (x : Int) (h : PJ F w0 g b13 b15 go co gi ci n W out inn) (hx : 0 ≤ x ∧ x < (n : Int)) :
  Calls Try.prog 70 (#[.int .i64 x] ++ #[.pointer (some ⟨b15, 0, none⟩)]) W fun e W' => e = .returned (.bool (inAt inn x)) ∧ PJ F w0 g b13 b15 go co gi ci n W' out inn := by
 refine (closure70 x b15 (some ⟨gi, 0, none⟩) ci inn W (by rw [h.l2]; exact h.c15) (Kd.R_reads' (show Kd.R Kd.bool 4 W w0.heap.size (fun _ => True) (.slice (some ⟨gi, 0, none⟩) inn.length ci) inn by rw [h.l2]; exact h.o2)).2.2 hx.1 (by rw [h.l2]; exact hx.2)).mono ?_
 rintro e W' ⟨rfl, rfl⟩
 exact ⟨rfl, h⟩
theorem peel_ok (P M : Int) (A0 : Option Addr) (c0 : Nat) (md : List Int) (cols : Int) (A1 : Option Addr) (c1 : Nat) (rows : List (List Int)) (A2 : Option Addr) (c2 : Nat) (wd : List Int) (A3 : Option Addr) (c3 : Nat) (er : List Int) (w : World)
  (hr0 : Kd.C (Kd.int .i64) w A0 md.length md) (hc0 : md.length ≤ c0) (hr1 : Kd.C (Kd.slice 3 (Kd.int .i64)) w A1 rows.length rows) (hc1 : rows.length ≤ c1) (hr2 : Kd.C (Kd.int .i64) w A2 wd.length wd) (hc2 : wd.length ≤ c2) (hr3 : Kd.C (Kd.int .i64) w A3 er.length er) (hc3 : er.length ≤ c3)
  (V : Int) (ch : List (List Int)) (hg : peel_Graph.f 4096 P M md cols rows = some (V, ch, 0)) (q : Int) (ex lg : List Int) (hn : newO P M md = some (some (q, ex, lg))) (hw : (wd.length : Int) = cols) (hwl : wd.length ≤ 1000000) (hany : wd.any (fun y => !isB q y) = false) (hset : peel_set.f 4096 er cols = some true)
  (r1 r2 : List Int) (r3 : Int) (hm : peelMain ⟨P, M, md, q, ex, lg⟩ V ch rows wd er = some (r1, r2, r3)) :
  Calls Try.prog 30 #[.agg #[.int .i64 P, .int .i64 M, .slice A0 md.length c0], .agg #[.int .i64 cols, .slice A1 rows.length c1], .slice A2 wd.length c2, .slice A3 er.length c3] w fun e w' => ∃ v1 v2 : Value, e = .returned (.tuple #[v1, v2, .int .i64 r3]) ∧ Kd.R (Kd.int .i64) 3 w' w.heap.size (fun _ => True) v1 r1 ∧ Kd.R (Kd.int .i64) 3 w' w.heap.size (fun _ => True) v2 r2 ∧ Below w.heap.size w w' := by
 have hu24 := Try.underlying24
 have hu27 := Try.underlying27
 have hu31 := Try.underlying31
 have HR0 := Aside0.mk hr0
 have HC0 := Aside0.mk hc0
 have HR1 := Aside0.mk hr1
 have HC1 := Aside0.mk hc1
 have HR2 := Aside0.mk hr2
 have HC2 := Aside0.mk hc2
 have HR3 := Aside0.mk hr3
 have HC3 := Aside0.mk hc3
 have HG := Aside0.mk hg
 have HN := Aside0.mk hn
 have HW := Aside0.mk hw
 have HWL := Aside0.mk hwl
 have HANY := Aside0.mk hany
 have HSET := Aside0.mk hset
 unfold peelMain at hm
 obtain ⟨inn, hmask, hm⟩ := Option.bind_eq_some_iff.1 hm
 by_cases hcnd : (er.all fun i => decide (0 ≤ i ∧ i < wd.length)) = true ∧ inn.length = wd.length ∧ (ch.all fun l => l.all fun i => decide (0 ≤ i ∧ i < wd.length)) = true ∧ ch.length ≤ 256 ∧ wd.length ≤ 256 ∧ er.length ≤ 256 ∧ 0 < wd.length ∧ (ch.all fun l => decide (l.length ≤ 256)) = true
 rotate_left
 ·rw [if_neg hcnd] at hm; exact absurd hm (by simp)
 rw [if_pos hcnd] at hm
 have HMASK := Aside0.mk hmask
 have HMAIN := Aside0.mk hm
 have HER := Aside0.mk (show ∀ i ∈ er, 0 ≤ i ∧ i < (wd.length : Int) from fun i hi => of_decide_eq_true (List.all_eq_true.1 hcnd.1 i hi))
 have HCHI := Aside0.mk (show ∀ l ∈ ch, ∀ i ∈ l, 0 ≤ i ∧ i < (wd.length : Int) from fun l hl i hi => of_decide_eq_true (List.all_eq_true.1 (List.all_eq_true.1 hcnd.2.2.1 l hl) i hi))
 have HINN := Aside0.mk hcnd.2.1
 have HSZ := Aside0.mk hcnd.2.2.2
 have HLL := Aside0.mk (show ∀ l ∈ ch, l.length ≤ 256 from fun l hl => of_decide_eq_true (List.all_eq_true.1 hcnd.2.2.2.2.2.2.2 l hl))
 have t7 : ((wd.length : Int) != cols) = false := by simp [hw]
 clear hr0 hc0 hr1 hc1 hr2 hc2 hr3 hc3 hg hn hw hwl hany hset hm hmask hcnd
 go_enter Try.func30, Try.ntmps30
 go_upto_region 1 with (first | ((with_reducible refine gate_dst (N := 4) rfl ?_); refine box_event ?hg (N := 4) ?hd (cs := #[.int .i64 P, .int .i64 M, .slice A0 md.length c0]) (t := 24) ?hr ?_; (case hd => rfl); (case hg => rfl); (case hr => first | (go_simp; done) | (go_simp; rfl)); intro b4 hb4 w1 hbox hb; have HB4 := Aside0.mk hbox; have HB := Aside0.mk hb; clear hb4 hbox hb) | ((with_reducible refine gate_dst (N := 5) rfl ?_); refine box_event ?hg (N := 5) ?hd (cs := #[.int .i64 cols, .slice A1 rows.length c1]) (t := 27) ?hr ?_; (case hd => rfl); (case hg => rfl); (case hr => first | (go_simp; done) | (go_simp; rfl)); intro b5 hb5 w2 hbox hb; have HB5 := Aside0.mk hbox; have HB4' := Aside0.mk (blk_grown HB4.out (grown_of_below hb none) (by simp)); have HB2 := Aside0.mk (below_step HB.out hb); clear hb5 hbox hb HB HB4))
 have hz0 : w2.cell? ⟨b4, 0, none⟩ = some (.int .i64 P) := (blk_cell HB4'.out 0).trans rfl
 have hz1 : w2.cell? ⟨b4, 1, none⟩ = some (.int .i64 M) := (blk_cell HB4'.out 1).trans rfl
 have hz2 : w2.cell? ⟨b4, 2, none⟩ = some (.slice A0 md.length c0) := (blk_cell HB4'.out 2).trans rfl
 have hm0 : w2.cell? ⟨b5, 0, none⟩ = some (.int .i64 cols) := (blk_cell HB5.out 0).trans rfl
 have hm1 : w2.cell? ⟨b5, 1, none⟩ = some (.slice A1 rows.length c1) := (blk_cell HB5.out 1).trans rfl
 go_upto_region 4 with (first | (go_at_call 14; (with_reducible refine (peel_Graph.calls 4096 P M A0 c0 md cols A1 c1 rows V ch 0 w2 (Kd.C_below HR0.out HB2.out) HC0.out (Kd.C_below HR1.out HB2.out) HC1.out HG.out).mono ?_); rintro e w3 ⟨v1, rfl, hS, hB⟩; obtain ⟨AG, cG, eG⟩ := Kd.S_slice hS; subst eG; have HS := Aside0.mk hS; replace hz0 := cell_below hz0 hB; replace hz1 := cell_below hz1 hB; replace hz2 := cell_below hz2 hB; replace hm0 := cell_below hm0 hB; replace hm1 := cell_below hm1 hB; have HB3 := Aside0.mk (below_step HB2.out hB); clear hS hB))
 have hb4 := below_alloc (Below.refl w3.heap.size w3) (Obj.cells #[Value.int IntKind.i64 V, Value.slice AG ch.length cG] 31)
 have ht0 : (w3.alloc (Obj.cells #[Value.int IntKind.i64 V, Value.slice AG ch.length cG] 31)).cell? ⟨w3.heap.size, 0, none⟩ = some (.int .i64 V) := (blk_cell (heap_alloc_new w3 _) 0).trans rfl
 have ht1 : (w3.alloc (Obj.cells #[Value.int IntKind.i64 V, Value.slice AG ch.length cG] 31)).cell? ⟨w3.heap.size, 1, none⟩ = some (.slice AG ch.length cG) := (blk_cell (heap_alloc_new w3 _) 1).trans rfl
 replace hz0 := cell_below hz0 hb4
 replace hz1 := cell_below hz1 hb4
 replace hz2 := cell_below hz2 hb4
 replace hm0 := cell_below hm0 hb4
 replace hm1 := cell_below hm1 hb4
 have HS4 := Aside0.mk (Kd.C_below (Kd.S_reads' HS.out).2.2 hb4)
 have HSC := Aside0.mk (Kd.S_reads' HS.out).2.1
 have HBX := Aside0.mk (below_step HB3.out hb4)
 clear hb4 HS HB3 HB2
 generalize w3.alloc (Obj.cells #[Value.int IntKind.i64 V, Value.slice AG ch.length cG] 31) = w4 at hz0 hz1 hz2 hm0 hm1 ht0 ht1 HS4 HBX ⊢
 generalize w3.heap.size = b11 at ht0 ht1 ⊢
 go_upto_region 7 with (first | (go_at_call 60; (with_reducible refine (New_some P M A0 c0 md q ex lg w4 (Kd.C_below HR0.out HBX.out) HC0.out HN.out).mono ?_); rintro e w5 ⟨g, rfl, w0, hI, hB1, hB2⟩; have HI := Aside0.mk hI; have HB1 := Aside0.mk hB1; have HB2 := Aside0.mk hB2; clear hI hB1 hB2))
 have hb5 := below_alloc (Below.refl w5.heap.size w5) (Obj.cells #[Value.pointer (some ⟨g, 0, none⟩)] 83)
 have hp0 : (w5.alloc (Obj.cells #[Value.pointer (some ⟨g, 0, none⟩)] 83)).cell? ⟨w5.heap.size, 0, none⟩ = some (.pointer (some ⟨g, 0, none⟩)) := (blk_cell (heap_alloc_new w5 _) 0).trans rfl
 have HI6 := Aside0.mk (HI.out.below hb5)
 have HB6 := Aside0.mk (below_step HB2.out hb5)
 have HNE := Aside0.mk (show g ≠ w5.heap.size by have := HI.out.lt; omega)
 have hz := And.intro hm0 (And.intro hm1 (And.intro ht0 ht1))
 have HZ0 := Aside0.mk (show w0.cell? ⟨b5, 0, none⟩ = some (.int .i64 cols) ∧ w0.cell? ⟨b5, 1, none⟩ = some (.slice A1 rows.length c1) ∧ w0.cell? ⟨b11, 0, none⟩ = some (.int .i64 V) ∧ w0.cell? ⟨b11, 1, none⟩ = some (.slice AG ch.length cG) from ⟨cell_below hm0 HB1.out, cell_below hm1 HB1.out, cell_below ht0 HB1.out, cell_below ht1 HB1.out⟩)
 have HCH := Aside0.mk (Kd.C_below HS4.out HB1.out)
 have HBW := Aside0.mk (below_step HBX.out HB1.out)
 clear hb5 hz hz0 hz1 hz2 hm0 hm1 ht0 ht1 HI HB2 HS4 HBX HB1
 generalize w5.alloc (Obj.cells #[Value.pointer (some ⟨g, 0, none⟩)] 83) = w6 at hp0 HI6 HB6 ⊢
 generalize w5.heap.size = b13 at hp0 HNE ⊢
 have HP0 := Aside0.mk hp0
 clear hp0
 have hm0 := cell_below HZ0.out.1 HB6.out
 have HCF := Aside0.mk (ContainsFunc_Int 62 eg62 #[.pointer (some ⟨b13, 0, none⟩)] (fun W => IsS109 w0 W g P M md q ex lg ∧ Below w0.heap.size w0 W ∧ W.cell? ⟨b13, 0, none⟩ = some (.pointer (some ⟨g, 0, none⟩))) A2 c2 wd (fun y => !isB q y) w6 w0 (Kd.C_below HR2.out HBW.out) ⟨HI6.out, HB6.out, HP0.out⟩ (fun W h => h.2.1) (fun x W hx h => closure62 x g b13 P M md q ex lg w0 W (fun e => HNE.out e.symm) h.1 h.2.1 h.2.2))
 rw [HANY.out] at HCF
 go_upto_region 11 with (first | (go_at_call 61; (with_reducible refine HCF.out.mono ?_); rintro e w7 ⟨rfl, hI, hB, hc⟩; have HI7 := Aside0.mk hI; have HB7 := Aside0.mk hB; have HP7 := Aside0.mk hc; clear hI hB hc))
 clear hm0 HI6 HB6 HP0 HCF
 have hm0 := cell_below HZ0.out.1 HB7.out
 go_upto_region 13 with (first | (go_at_call 48; (with_reducible refine (peel_set.calls 4096 A3 c3 er cols true w7 (Kd.C_below (Kd.C_below HR3.out HBW.out) HB7.out) HC3.out HSET.out).mono ?_); rintro e w8 ⟨rfl, hd⟩; have HD := Aside0.mk (drawn0_below' hd); clear hd))
 clear hm0
 have HI8 := Aside0.mk (HI7.out.below HD.out)
 have HB8 := Aside0.mk (below_step HB7.out HD.out)
 have HP8 := Aside0.mk (cell_below HP7.out HD.out)
 clear HI7 HB7 HP7 HD
 go_upto_region 14 with (first | (go_at_call 64; (with_reducible refine (Clone_calls A2 c2 wd w8 (Kd.C_below (Kd.C_below HR2.out HBW.out) HB8.out) HC2.out HWL.out).mono ?_); rintro e w9 ⟨v14, rfl, hR, hB⟩; have HO9 := Aside0.mk hR; have HBc := Aside0.mk hB; clear hR hB))
 obtain ⟨go, co, e14, hgo1, hgo2, -⟩ := Kd.R_form HO9.out HSZ.out.2.2.2.1
 subst e14
 have HI9 := Aside0.mk (HI8.out.below HBc.out)
 have HB9 := Aside0.mk (below_step HB8.out HBc.out)
 have HP9 := Aside0.mk (cell_below HP8.out HBc.out)
 have HG1 := Aside0.mk (show g < w8.heap.size from HI8.out.lt)
 have HG2 := Aside0.mk (show b13 < w8.heap.size from World.block_lt_of_cell? _ _ HP8.out)
 have HGO := Aside0.mk (And.intro hgo1 hgo2)
 have HS8 := Aside0.mk HB8.out.size
 clear hgo1 hgo2 HI8 HB8 HP8
 have ht0 := cell_below HZ0.out.2.2.1 HB9.out
 have ht1 := cell_below HZ0.out.2.2.2 HB9.out
 go_upto_region 15 with (first | (go_at_call 50; (with_reducible refine (peel_mask.calls 4096 V AG cG ch A3 c3 er inn w9 (Kd.C_below HCH.out HB9.out) HSC.out (Kd.C_below (Kd.C_below HR3.out HBW.out) HB9.out) HC3.out HMASK.out).mono ?_); rintro e w10 ⟨v63, rfl, hR, hB⟩; obtain ⟨gi, ci, e63, hgi1, hgi2, -⟩ := Kd.R_form hR (by rw [HINN.out]; exact HSZ.out.2.2.2.1); rw [HINN.out] at e63; subst e63; have HM10 := Aside0.mk hR; have HBd := Aside0.mk hB; have HGI := Aside0.mk (And.intro hgi1 hgi2); clear hR hB hgi1 hgi2))
 have hb := below_alloc (Below.refl w10.heap.size w10) (Obj.cells #[Value.slice (some ⟨gi, 0, none⟩) wd.length ci] 73)
 have hc15 : (w10.alloc (Obj.cells #[Value.slice (some ⟨gi, 0, none⟩) wd.length ci] 73)).cell? ⟨w10.heap.size, 0, none⟩ = some (.slice (some ⟨gi, 0, none⟩) wd.length ci) := (blk_cell (heap_alloc_new w10 _) 0).trans rfl
 have hj : PJ ⟨P, M, md, q, ex, lg⟩ w0 g b13 w10.heap.size go co gi ci wd.length (w10.alloc (Obj.cells #[Value.slice (some ⟨gi, 0, none⟩) wd.length ci] 73)) wd inn := by
  have hgo := HGO.out
  have hgi := HGI.out
  have h1 := HG1.out
  have h2 := HG2.out
  have hs9 := HBc.out.size
  have hs10 := HBd.out.size
  have hs8 := HB9.out.size
  exact ⟨(HI9.out.below HBd.out).below hb, below_step (below_step HB9.out HBd.out) hb, cell_below (cell_below HP9.out HBd.out) hb, hc15, Kd.R_below (Kd.R_below (Kd.R_lower HO9.out HS8.out) HBd.out) hb, Kd.R_below (Kd.R_lower HM10.out hs8) hb, rfl, HINN.out, by omega, by omega, HNE.out, by omega, by omega, by omega, by omega, by omega, by omega⟩
 have HJ := Aside0.mk hj
 generalize w10.alloc (Obj.cells #[Value.slice (some ⟨gi, 0, none⟩) wd.length ci] 73) = wA at HJ ⊢
 generalize w10.heap.size = b15 at HJ ⊢
 clear hj hc15 hb ht0 ht1 HI9 HB9 HP9 HG1 HG2 HGO HGI HS8 HM10 HBd HBc HO9 HNE
 obtain ⟨n, hn⟩ : ∃ n, wd.length = n := ⟨_, rfl⟩
 rw [hn] at HJ HCHI HER HINN HSZ ⊢
 have HLN := Aside0.mk hn
 clear hn t7
 go_wp2
 go_loopg [66] er.length (fun gk v66 w' => ∃ (m : Nat) (out : List Int), v66 = .int .i64 m ∧ Aside0 (m ≤ er.length ∧ gk = er.length - m ∧ clearAt (er.drop m) out = clearAt er wd) ∧ Aside0 (PJ ⟨P, M, md, q, ex, lg⟩ w0 g b13 b15 go co gi ci n w' out inn))
 case atStart => exact ⟨0, wd, rfl, ⟨by simp, by simp, by simp⟩, HJ⟩
 case round =>
  clear HJ
  obtain ⟨m, out, rfl, HM, HJ⟩ := hrel
  by_cases hlt : (m : Int) < (er.length : Int)
  ·have t1 := eq_true hlt
   have t2 : (0 ≤ (m : Int)) = True := eq_true (Int.natCast_nonneg m)
   obtain ⟨ae, eae, hxe⟩ := Kd.at_int (Kd.C_below (Kd.C_below HR3.out HBW.out) HJ.out.B) m (of_eq_true t2) hlt
   subst eae
   obtain ⟨x, hx⟩ : ∃ x, rd er (m : Int) = x := ⟨_, rfl⟩
   rw [hx, Int.toNat_natCast] at hxe
   have HXI := Aside0.mk (HER.out x (by rw [← hx]; exact rd_memInt (by omega) hlt))
   have HX := Aside0.mk hx
   have HLT := Aside0.mk hlt
   clear hx hlt
   have i0 := eq_true HXI.out.1
   have i1 := eq_true HXI.out.2
   obtain ⟨hcm, hfm⟩ := Kd.R_cell 0 (show Kd.R (Kd.int .i64) 3 wr w0.heap.size (fun _ => True) (.slice (some ⟨go, 0, none⟩) out.length co) out by rw [HJ.out.l1]; exact HJ.out.o1) x HXI.out.1 (by rw [HJ.out.l1]; exact HXI.out.2)
   go_wp2
   have HJ2 := Aside0.mk (HJ.out.putOut x 0)
   go_roundg (er.length - (m + 1))
   case measure => have := HM.out.2.1; have := HLT.out; omega
   case rel =>
    have h := HM.out
    have h2 := HLT.out
    have h3 := HSZ.out
    refine ⟨m + 1, out.set x.toNat 0, ?_, ⟨by omega, rfl, ?_⟩, HJ2⟩
    ·rw [wrap64_succ' (n := 257) (by omega) (by omega) (by omega)]; rfl
    ·have hd := drop_cons (d := (0 : Int)) (i := (m : Int)) (l := er) (by omega) h2
     rw [Int.toNat_natCast, show ((m : Int) + 1).toNat = m + 1 from by omega, show er.getD m 0 = x from by rw [← HX.out]; rfl] at hd
     rw [← h.2.2, hd, clearAt]
  ·have t1 := eq_false hlt
   have HLT := Aside0.mk hlt
   have HOUT := Aside0.mk (show out = clearAt er wd by
    have h := HM.out
    rw [← h.2.2, show m = er.length by omega, List.drop_length, clearAt])
   clear hlt
   have ht0 := cell_below HZ0.out.2.2.1 HJ.out.B
   have ht1 := cell_below HZ0.out.2.2.2 HJ.out.B
   have hc15 := HJ.out.c15
   have hal := alone_calls V AG cG ch (some ⟨gi, 0, none⟩) ci inn wr (Kd.C_below HCH.out HJ.out.B) HSC.out (Kd.R_reads' (show Kd.R Kd.bool 4 wr w0.heap.size (fun _ => True) (.slice (some ⟨gi, 0, none⟩) inn.length ci) inn by rw [HJ.out.l2]; exact HJ.out.o2)).2.2 (by have h := (Kd.R_reads' HJ.out.o2).2.1; rw [HJ.out.l2]; exact h) (by rw [HJ.out.l2]; exact HCHI.out) (Nat.le_trans HSZ.out.1 (by decide))
   rw [HJ.out.l2] at hal
   have HAL := Aside0.mk hal
   clear hal
   rw [← HOUT.out] at HMAIN
   clear HOUT HM HLT
   go_upto_block 1 with (first | (go_at_call 49; (with_reducible refine HAL.out.mono ?_); rintro e w11 ⟨rfl, hB⟩; have HJ11 := Aside0.mk (HJ.out.step hB); clear hB))
   obtain ⟨⟨o2, i2⟩, hgo, hm⟩ := Option.bind_eq_some_iff.1 HMAIN.out
   obtain ⟨bf, hfail, hm⟩ := Option.bind_eq_some_iff.1 hm
   have HGO := Aside0.mk hgo
   have HFAIL := Aside0.mk hfail
   have HEND := Aside0.mk hm
   clear hgo hfail hm HMAIN
   have hbk : (w11.alloc (Obj.cells #[Value.int IntKind.i64 (alone inn ch)] 3)).heap[w11.heap.size]? = some (.cells #[.int .i64 (alone inn ch)] 3 (0, 0)) := heap_alloc_new w11 _
   have HBK := Aside0.mk hbk
   have HJ12 := Aside0.mk (HJ11.out.step (below_alloc (Below.refl w11.heap.size w11) (Obj.cells #[Value.int IntKind.i64 (alone inn ch)] 3)))
   have hd1 : g < w11.heap.size := HJ11.out.I.lt
   have hd2 : go < w11.heap.size := Kd.R_lt HJ11.out.o1 go rfl
   have hd3 : gi < w11.heap.size := Kd.R_lt HJ11.out.o2 gi rfl
   have HDD := Aside0.mk (show w0.heap.size ≤ w11.heap.size ∧ w11.heap.size ≠ g ∧ w11.heap.size ≠ go ∧ w11.heap.size ≠ gi from ⟨HJ11.out.B.size, by omega, by omega, by omega⟩)
   generalize w11.alloc (Obj.cells #[Value.int IntKind.i64 (alone inn ch)] 3) = w12 at HBK HJ12 ⊢
   generalize w11.heap.size = b18 at HBK HDD ⊢
   clear hbk hd1 hd2 hd3 HJ11 HAL HJ ht0 ht1 hc15 t1
   go_loopg [18] (wd.length + 1) (fun gk v18 w' => ∃ (b18 : Nat) (out : List Int) (inn : List Bool), v18 = .pointer (some ⟨b18, 0, none⟩) ∧ Aside0 (peelGo ⟨P, M, md, q, ex, lg⟩ ch rows gk out inn = some (o2, i2)) ∧ Aside0 (PJ ⟨P, M, md, q, ex, lg⟩ w0 g b13 b15 go co gi ci n w' out inn) ∧ Aside0 (w'.heap[b18]? = some (.cells #[.int .i64 (alone inn ch)] 3 (0, 0))) ∧ Aside0 (w0.heap.size ≤ b18 ∧ b18 ≠ g ∧ b18 ≠ go ∧ b18 ≠ gi))
   case atStart => exact ⟨b18, out, inn, rfl, HGO, HJ12, HBK, HDD⟩
   case round =>
    clear HGO HJ12 HBK HDD
    obtain ⟨b, out1, inn1, rfl, HGO, HJ, HBK, HDD⟩ := hrel
    cases gk with
    | zero => exact absurd HGO.out (by simp [peelGo])
    | succ gk =>
     have hgo := HGO.out
     rw [peelGo] at hgo
     obtain ⟨al, hal⟩ : ∃ x, alone inn1 ch = x := ⟨_, rfl⟩
     rw [hal] at hgo HBK
     have HAL := Aside0.mk hal
     clear hal
     have hc18 : wr.cell? ⟨b, 0, none⟩ = some (.int .i64 al) := (blk_cell HBK.out 0).trans rfl
     by_cases hneg : al < 0
     ·rw [if_pos hneg] at hgo
      have hgo := Option.some.inj hgo
      injection hgo with e1 e2
      subst e1 e2
      have t1 : decide (al ≥ 0) = false := decide_eq_false (by omega)
      have t2 := eq_false (show ¬ 0 ≤ al by omega)
      have t3 : decide (0 ≤ al) = false := decide_eq_false (by omega)
      clear hneg
      have ht1 := cell_below HZ0.out.2.2.2 HJ.out.B
      go_wp2_with (fail)
      clear hc18 ht1 HBK HDD
      go_loopg [134] ch.length (fun gk v134 w' => ∃ j : Nat, v134 = .int .i64 j ∧ Aside0 (j ≤ ch.length ∧ gk = ch.length - j ∧ failsAt ⟨P, M, md, q, ex, lg⟩ inn1 out1 (ch.drop j) (rows.drop j) = some bf) ∧ Aside0 (PJ ⟨P, M, md, q, ex, lg⟩ w0 g b13 b15 go co gi ci n w' out1 inn1))
      case atStart => exact ⟨0, rfl, ⟨by simp, by simp, by rw [List.drop_zero, List.drop_zero]; exact HFAIL.out⟩, HJ⟩
      case round =>
       clear HJ
       obtain ⟨j, rfl, HN3, HJ3⟩ := hrel
       by_cases hlt : (j : Int) < (ch.length : Int)
       ·have t4 := eq_true hlt
        have t5 : (0 ≤ (j : Int)) = True := eq_true (Int.natCast_nonneg j)
        obtain ⟨ad, Al, cl, eA, hx, hc0, hr0⟩ := at_L1 HCH.out j (of_eq_true t5) hlt
        replace hx := pw_cell_below HJ3.out.B hx
        subst eA
        obtain ⟨l, hl⟩ : ∃ x, rd_L1 ch (j : Int) = x := ⟨_, rfl⟩
        rw [hl] at hx hc0 hr0
        rw [Int.toNat_natCast] at hx
        have HL := Aside0.mk hl
        have HLT := Aside0.mk hlt
        have HCl := Aside0.mk hc0
        have HRl0 := Aside0.mk hr0
        have HMEM := Aside0.mk (show l ∈ ch by rw [← hl]; exact rd_memRow (by omega) hlt)
        have hfl := HN3.out.2.2
        rw [rows_drop (by omega : j < ch.length), hl] at hfl
        have HFL := Aside0.mk hfl
        clear hl hlt hc0 hr0 hfl
        cases hany : l.any (fun k => inAt inn1 k) with
        | true =>
         have HANY2 := Aside0.mk hany
         clear hany
         go_upto_region 36 with (fail)
         have HJ3 := Aside0.mk (HJ3.out.step (below_drew1 (Below.refl _ _)))
         refine start_ (n := 15) (S := fun w' => True) (ds := []) #[false, false, false, false, false, false, false, false, false, false, false, false, false, false, false] (by kernel_rfl) rfl rfl trivial (fun hHeld => ?_)
         refine pure_ (i := 0) (N := some 139) (v := ?_) (a' := ?_) #[true, false, false, false, false, false, false, false, false, false, false, false, false, false, false] rfl rfl (by kernel_rfl) (fun _ _ _ h => h) (Or.inl ⟨by rfl, ?_⟩) ?_ ?_
         rotate_left
         ·intro w'
          go_simp
          with_reducible rfl
         rotate_left
         ·simp only [Act.put, List.setIfInBounds_toArray, List.set_cons_zero, List.set_cons_succ, i64_w, i32_w]
          rfl
         refine pure_ (i := 1) (N := some 140) (v := ?_) (a' := ?_) #[true, true, false, false, false, false, false, false, false, false, false, false, false, false, false] rfl rfl (by kernel_rfl) (fun _ _ _ h => h) (Or.inl ⟨by rfl, ?_⟩) ?_ ?_
         rotate_left
         ·intro w'
          go_simp
          with_reducible rfl
         rotate_left
         ·simp only [Act.put, List.setIfInBounds_toArray, List.set_cons_zero, List.set_cons_succ, i64_w, i32_w]
          rfl
         refine one_ (i := 2) (N := some 141) #[true, true, true, false, false, false, false, false, false, false, false, false, false, false, false] rfl rfl (by kernel_rfl) (by decide) (fun K hK => ?_)
         refine goes_ Try.func61 (by kernel_rfl) rfl #[.slice Al l.length cl, .func (.func 70) #[] #[.pointer (some ⟨b15, 0, none⟩)]] (by rfl) rfl rfl (by simp only [List.map_toArray, List.map_cons, List.map_nil]; rfl) ?_
         with_reducible refine (ContainsFunc_Int 70 eg70 #[.pointer (some ⟨b15, 0, none⟩)] (fun W => PJ ⟨P, M, md, q, ex, lg⟩ w0 g b13 b15 go co gi ci n W out1 inn1) Al cl l (fun k => inAt inn1 k) _ w0 HRl0.out HJ3.out (fun W h => h.B) (by unfold PredInt; intro x W hx h; exact closure70' x h (HCHI.out l HMEM.out x hx))).mono ?_
         rintro e w40 ⟨rfl, hI⟩
         refine ⟨_, rfl, ?_⟩
         rw [HANY2.out]
         have HJ4 := Aside0.mk hI
         clear hI
         refine hK.out _ _ trivial (fun hHeld => ?_)
         clear hK K
         refine norm_ (a' := ?_) ?_ ?_
         rotate_left
         ·show Act.put _ (some 141) _ = _
          simp only [Act.put, List.setIfInBounds_toArray, List.set_cons_zero, List.set_cons_succ, i64_w, i32_w]
          rfl
         refine pure_ (i := 3) (N := some 142) (v := ?_) (a' := ?_) #[true, true, true, true, false, false, false, false, false, false, false, false, false, false, false] rfl rfl (by kernel_rfl) (fun _ _ _ h => h) (Or.inl ⟨by rfl, ?_⟩) ?_ ?_
         rotate_left
         ·intro w'
          go_simp
          with_reducible rfl
         rotate_left
         ·simp only [Act.put, List.setIfInBounds_toArray, List.set_cons_zero, List.set_cons_succ, i64_w, i32_w]
          rfl
         refine pure_ (i := 4) (N := some 143) (v := ?_) (a' := ?_) #[true, true, true, true, true, false, false, false, false, false, false, false, false, false, false] rfl rfl (by kernel_rfl) (fun _ _ _ h => h) (Or.inl ⟨by rfl, ?_⟩) ?_ ?_
         rotate_left
         ·intro w'
          go_simp
          with_reducible rfl
         rotate_left
         ·simp only [Act.put, List.setIfInBounds_toArray, List.set_cons_zero, List.set_cons_succ, i64_w, i32_w]
          rfl
         refine pure_ (i := 5) (N := some 144) (v := undef) (a' := ?_) #[true, true, true, true, true, true, false, false, false, false, false, false, false, false, false] rfl rfl (by kernel_rfl) (fun _ _ _ h => h) (Or.inr ⟨by rfl, rfl⟩) ?_ ?_
         rotate_left
         ·simp only [Act.put, List.setIfInBounds_toArray, List.set_cons_zero, List.set_cons_succ, i64_w, i32_w]
          rfl
         refine pure_ (i := 6) (N := some 145) (v := undef) (a' := ?_) #[true, true, true, true, true, true, true, false, false, false, false, false, false, false, false] rfl rfl (by kernel_rfl) (fun _ _ _ h => h) (Or.inr ⟨by rfl, rfl⟩) ?_ ?_
         rotate_left
         ·simp only [Act.put, List.setIfInBounds_toArray, List.set_cons_zero, List.set_cons_succ, i64_w, i32_w]
          rfl
         refine pure_ (i := 7) (N := some 146) (v := undef) (a' := ?_) #[true, true, true, true, true, true, true, true, false, false, false, false, false, false, false] rfl rfl (by kernel_rfl) (fun _ _ _ h => h) (Or.inr ⟨by rfl, rfl⟩) ?_ ?_
         rotate_left
         ·simp only [Act.put, List.setIfInBounds_toArray, List.set_cons_zero, List.set_cons_succ, i64_w, i32_w]
          rfl
         refine pure_ (i := 8) (N := some 147) (v := undef) (a' := ?_) #[true, true, true, true, true, true, true, true, true, false, false, false, false, false, false] rfl rfl (by kernel_rfl) (fun _ _ _ h => h) (Or.inr ⟨by rfl, rfl⟩) ?_ ?_
         rotate_left
         ·simp only [Act.put, List.setIfInBounds_toArray, List.set_cons_zero, List.set_cons_succ, i64_w, i32_w]
          rfl
         refine pure_ (i := 9) (N := some 148) (v := undef) (a' := ?_) #[true, true, true, true, true, true, true, true, true, true, false, false, false, false, false] rfl rfl (by kernel_rfl) (fun _ _ _ h => h) (Or.inr ⟨by rfl, rfl⟩) ?_ ?_
         rotate_left
         ·simp only [Act.put, List.setIfInBounds_toArray, List.set_cons_zero, List.set_cons_succ, i64_w, i32_w]
          rfl
         refine pure_ (i := 10) (N := some 149) (v := undef) (a' := ?_) #[true, true, true, true, true, true, true, true, true, true, true, false, false, false, false] rfl rfl (by kernel_rfl) (fun _ _ _ h => h) (Or.inr ⟨by rfl, rfl⟩) ?_ ?_
         rotate_left
         ·simp only [Act.put, List.setIfInBounds_toArray, List.set_cons_zero, List.set_cons_succ, i64_w, i32_w]
          rfl
         refine pure_ (i := 11) (N := some 150) (v := undef) (a' := ?_) #[true, true, true, true, true, true, true, true, true, true, true, true, false, false, false] rfl rfl (by kernel_rfl) (fun _ _ _ h => h) (Or.inr ⟨by rfl, rfl⟩) ?_ ?_
         rotate_left
         ·simp only [Act.put, List.setIfInBounds_toArray, List.set_cons_zero, List.set_cons_succ, i64_w, i32_w]
          rfl
         refine pure_ (i := 12) (N := some 151) (v := undef) (a' := ?_) #[true, true, true, true, true, true, true, true, true, true, true, true, true, false, false] rfl rfl (by kernel_rfl) (fun _ _ _ h => h) (Or.inr ⟨by rfl, rfl⟩) ?_ ?_
         rotate_left
         ·simp only [Act.put, List.setIfInBounds_toArray, List.set_cons_zero, List.set_cons_succ, i64_w, i32_w]
          rfl
         refine pure_ (i := 13) (N := some 152) (v := undef) (a' := ?_) #[true, true, true, true, true, true, true, true, true, true, true, true, true, true, false] rfl rfl (by kernel_rfl) (fun _ _ _ h => h) (Or.inr ⟨by rfl, rfl⟩) ?_ ?_
         rotate_left
         ·simp only [Act.put, List.setIfInBounds_toArray, List.set_cons_zero, List.set_cons_succ, i64_w, i32_w]
          rfl
         refine pure_ (i := 14) (N := some 153) (v := ?_) (a' := ?_) #[true, true, true, true, true, true, true, true, true, true, true, true, true, true, true] rfl rfl (by kernel_rfl) (fun _ _ _ h => h) (Or.inl ⟨by rfl, ?_⟩) ?_ ?_
         rotate_left
         ·intro w'
          go_simp
          with_reducible rfl
         rotate_left
         ·simp only [Act.put, List.setIfInBounds_toArray, List.set_cons_zero, List.set_cons_succ, i64_w, i32_w]
          rfl
         refine done_ (by kernel_rfl) ?_
         go_wp2_with (fail)
         go_roundg (ch.length - (j + 1))
         case measure => have := HN3.out.2.1; have := HLT.out; omega
         case rel =>
          have h := HN3.out
          have h2 := HLT.out
          have h3 := HSZ.out.1
          refine ⟨j + 1, ?_, ⟨by omega, rfl, fails_skip HFL.out HANY2.out⟩, HJ4⟩
          first | (rw [wrap64_succ' (n := 257) (by omega) (by omega) (by omega)]; rfl) | exact congrArg _ (by omega)
        | false =>
         have HANY2 := Aside0.mk hany
         obtain ⟨hj, dv, hdv, hbf⟩ := fails_take HFL.out hany
         clear hany
         have hjlt : (j : Int) < (rows.length : Int) := by exact_mod_cast hj
         obtain ⟨ar, Ad, cr, eR, hxr, hcr, hrr⟩ := at_L1 (Kd.C_below HR1.out HBW.out) j (of_eq_true t5) hjlt
         subst eR
         obtain ⟨r, hr⟩ : ∃ x, rd_L1 rows (j : Int) = x := ⟨_, rfl⟩
         rw [hr] at hxr hcr hrr hdv
         rw [Int.toNat_natCast] at hxr
         have HRW0 := Aside0.mk hxr
         have HRR := Aside0.mk hrr
         have HCR := Aside0.mk hcr
         have HDT := Aside0.mk hdv
         have HBF := Aside0.mk hbf
         have t6 := eq_true hjlt
         have t6' : decide ((j : Int) < (rows.length : Int)) = true := decide_eq_true hjlt
         have t9 : decide (0 ≤ (j : Int)) = true := decide_eq_true (Int.natCast_nonneg j)
         have hs0 := HJ3.out.c13
         have hs1 := cell_below HZ0.out.2.1 HJ3.out.B
         have hs2 := cell_below HRW0.out HJ3.out.B
         clear hj hdv hbf hjlt hxr hcr hrr hr
         by_cases hd : dv = 0
         ·have HD0 := Aside0.mk hd
          have t10 : (dv != 0) = false := by simp [hd]
          clear hd
          go_upto_region 36 with (fail)
          have HJ3 := Aside0.mk (HJ3.out.step (below_drew1 (Below.refl _ _)))
          refine start_ (n := 15) (S := fun w' => w'.cell? ⟨b13, 0, none⟩ = some (.pointer (some ⟨g, 0, none⟩)) ∧ w'.cell? ⟨b5, 1, none⟩ = some (.slice (some ar) rows.length c1) ∧ w'.cell? (ar.add j) = some (.slice Ad r.length cr)) (ds := []) #[false, false, false, false, false, false, false, false, false, false, false, false, false, false, false] (by kernel_rfl) rfl rfl ⟨hs0, hs1, hs2⟩ (fun hHeld => ?_)
          refine pure_ (i := 0) (N := some 139) (v := ?_) (a' := ?_) #[true, false, false, false, false, false, false, false, false, false, false, false, false, false, false] rfl rfl (by kernel_rfl) (fun _ _ _ h => h) (Or.inl ⟨by rfl, ?_⟩) ?_ ?_
          rotate_left
          ·intro w'
           go_simp
           with_reducible rfl
          rotate_left
          ·simp only [Act.put, List.setIfInBounds_toArray, List.set_cons_zero, List.set_cons_succ, i64_w, i32_w]
           rfl
          refine pure_ (i := 1) (N := some 140) (v := ?_) (a' := ?_) #[true, true, false, false, false, false, false, false, false, false, false, false, false, false, false] rfl rfl (by kernel_rfl) (fun _ _ _ h => h) (Or.inl ⟨by rfl, ?_⟩) ?_ ?_
          rotate_left
          ·intro w'
           go_simp
           with_reducible rfl
          rotate_left
          ·simp only [Act.put, List.setIfInBounds_toArray, List.set_cons_zero, List.set_cons_succ, i64_w, i32_w]
           rfl
          refine one_ (i := 2) (N := some 141) #[true, true, true, false, false, false, false, false, false, false, false, false, false, false, false] rfl rfl (by kernel_rfl) (by decide) (fun K hK => ?_)
          refine goes_ Try.func61 (by kernel_rfl) rfl #[.slice Al l.length cl, .func (.func 70) #[] #[.pointer (some ⟨b15, 0, none⟩)]] (by rfl) rfl rfl (by simp only [List.map_toArray, List.map_cons, List.map_nil]; rfl) ?_
          with_reducible refine (ContainsFunc_Int 70 eg70 #[.pointer (some ⟨b15, 0, none⟩)] (fun W => PJ ⟨P, M, md, q, ex, lg⟩ w0 g b13 b15 go co gi ci n W out1 inn1) Al cl l (fun k => inAt inn1 k) _ w0 HRl0.out HJ3.out (fun W h => h.B) (by unfold PredInt; intro x W hx h; exact closure70' x h (HCHI.out l HMEM.out x hx))).mono ?_
          rintro e w40 ⟨rfl, hI⟩
          refine ⟨_, rfl, ?_⟩
          rw [HANY2.out]
          have HJ4 := Aside0.mk hI
          clear hI
          refine hK.out _ _ ⟨HJ4.out.c13, cell_below HZ0.out.2.1 HJ4.out.B, cell_below HRW0.out HJ4.out.B⟩ (fun hHeld => ?_)
          clear hK K
          refine norm_ (a' := ?_) ?_ ?_
          rotate_left
          ·show Act.put _ (some 141) _ = _
           simp only [Act.put, List.setIfInBounds_toArray, List.set_cons_zero, List.set_cons_succ, i64_w, i32_w]
           rfl
          refine pure_ (i := 3) (N := some 142) (v := ?_) (a' := ?_) #[true, true, true, true, false, false, false, false, false, false, false, false, false, false, false] rfl rfl (by kernel_rfl) (fun _ _ _ h => h) (Or.inl ⟨by rfl, ?_⟩) ?_ ?_
          rotate_left
          ·intro w'
           go_simp
           with_reducible rfl
          rotate_left
          ·simp only [Act.put, List.setIfInBounds_toArray, List.set_cons_zero, List.set_cons_succ, i64_w, i32_w]
           rfl
          refine pure_ (i := 4) (N := some 143) (v := ?_) (a' := ?_) #[true, true, true, true, true, false, false, false, false, false, false, false, false, false, false] rfl rfl (by kernel_rfl) (fun _ _ _ h => h) (Or.inl ⟨by rfl, ?_⟩) ?_ ?_
          rotate_left
          ·intro w'
           go_simp
           with_reducible rfl
          rotate_left
          ·simp only [Act.put, List.setIfInBounds_toArray, List.set_cons_zero, List.set_cons_succ, i64_w, i32_w]
           rfl
          refine pure_ (i := 6) (N := some 145) (v := ?_) (a' := ?_) #[true, true, true, true, true, false, true, false, false, false, false, false, false, false, false] rfl rfl (by kernel_rfl) (fun _ _ _ h => h) (Or.inl ⟨by rfl, ?_⟩) ?_ ?_
          rotate_left
          ·intro w'
           go_simp
           with_reducible rfl
          rotate_left
          ·simp only [Act.put, List.setIfInBounds_toArray, List.set_cons_zero, List.set_cons_succ, i64_w, i32_w]
           rfl
          refine pure_ (i := 8) (N := some 147) (v := ?_) (a' := ?_) #[true, true, true, true, true, false, true, false, true, false, false, false, false, false, false] rfl rfl (by kernel_rfl) (fun _ _ _ h => h) (Or.inl ⟨by rfl, ?_⟩) ?_ ?_
          rotate_left
          ·intro w'
           go_simp
           with_reducible rfl
          rotate_left
          ·simp only [Act.put, List.setIfInBounds_toArray, List.set_cons_zero, List.set_cons_succ, i64_w, i32_w]
           rfl
          refine pure_ (i := 11) (N := some 150) (v := ?_) (a' := ?_) #[true, true, true, true, true, false, true, false, true, false, false, true, false, false, false] rfl rfl (by kernel_rfl) (fun _ _ _ h => h) (Or.inl ⟨by rfl, ?_⟩) ?_ ?_
          rotate_left
          ·intro w'
           go_simp
           with_reducible rfl
          rotate_left
          ·simp only [Act.put, List.setIfInBounds_toArray, List.set_cons_zero, List.set_cons_succ, i64_w, i32_w]
           rfl
          refine take_ (i := 5) (N := some 144) (v := ?_) (a' := ?_) #[true, true, true, true, true, true, true, false, true, false, false, true, false, false, false] rfl rfl (by kernel_rfl) (fun _ _ _ h => h) (Or.inl ⟨by rfl, ?_⟩) hHeld ?_ ?_
          rotate_left
          ·rintro w' ⟨s0, s1, s2⟩
           go_simp
           with_reducible rfl
          rotate_left
          ·simp only [Act.put, List.setIfInBounds_toArray, List.set_cons_zero, List.set_cons_succ, i64_w, i32_w]
           rfl
          refine take_ (i := 7) (N := some 146) (v := ?_) (a' := ?_) #[true, true, true, true, true, true, true, true, true, false, false, true, false, false, false] rfl rfl (by kernel_rfl) (fun _ _ _ h => h) (Or.inl ⟨by rfl, ?_⟩) hHeld ?_ ?_
          rotate_left
          ·rintro w' ⟨s0, s1, s2⟩
           go_simp
           with_reducible rfl
          rotate_left
          ·simp only [Act.put, List.setIfInBounds_toArray, List.set_cons_zero, List.set_cons_succ, i64_w, i32_w]
           rfl
          refine pure_ (i := 9) (N := some 148) (v := ?_) (a' := ?_) #[true, true, true, true, true, true, true, true, true, true, false, true, false, false, false] rfl rfl (by kernel_rfl) (fun _ _ _ h => h) (Or.inl ⟨by rfl, ?_⟩) ?_ ?_
          rotate_left
          ·intro w'
           go_simp
           with_reducible rfl
          rotate_left
          ·simp only [Act.put, List.setIfInBounds_toArray, List.set_cons_zero, List.set_cons_succ, i64_w, i32_w]
           rfl
          refine take_ (i := 10) (N := some 149) (v := ?_) (a' := ?_) #[true, true, true, true, true, true, true, true, true, true, true, true, false, false, false] rfl rfl (by kernel_rfl) (fun _ _ _ h => h) (Or.inl ⟨by rfl, ?_⟩) hHeld ?_ ?_
          rotate_left
          ·rintro w' ⟨s0, s1, s2⟩
           go_simp
           with_reducible rfl
          rotate_left
          ·simp only [Act.put, List.setIfInBounds_toArray, List.set_cons_zero, List.set_cons_succ, i64_w, i32_w]
           rfl
          refine one_ (i := 12) (N := some 151) #[true, true, true, true, true, true, true, true, true, true, true, true, true, false, false] rfl rfl (by kernel_rfl) (by decide) (fun K hK => ?_)
          refine goes_ Try.func68 (by kernel_rfl) rfl #[.pointer (some ⟨g, 0, none⟩), .slice Ad r.length cr, .slice (some ⟨go, 0, none⟩) n co] (by rfl) rfl rfl (by simp only [List.map_toArray, List.map_cons, List.map_nil]; rfl) ?_
          with_reducible refine (HJ4.out.dot HRR.out HCR.out HDT.out).mono ?_
          rintro e w41 ⟨rfl, hI, hB, hk⟩
          refine ⟨_, rfl, ?_⟩
          have HJ5 := Aside0.mk (HJ4.out.keep hI hB hk)
          clear hI hB hk
          refine hK.out _ _ ⟨HJ5.out.c13, cell_below HZ0.out.2.1 HJ5.out.B, cell_below HRW0.out HJ5.out.B⟩ (fun hHeld => ?_)
          clear hK K
          refine norm_ (a' := ?_) ?_ ?_
          rotate_left
          ·show Act.put _ (some 151) _ = _
           simp only [Act.put, List.setIfInBounds_toArray, List.set_cons_zero, List.set_cons_succ, i64_w, i32_w]
           rfl
          refine pure_ (i := 13) (N := some 152) (v := ?_) (a' := ?_) #[true, true, true, true, true, true, true, true, true, true, true, true, true, true, false] rfl rfl (by kernel_rfl) (fun _ _ _ h => h) (Or.inl ⟨by rfl, ?_⟩) ?_ ?_
          rotate_left
          ·intro w'
           go_simp
           with_reducible rfl
          rotate_left
          ·simp only [Act.put, List.setIfInBounds_toArray, List.set_cons_zero, List.set_cons_succ, i64_w, i32_w]
           rfl
          refine pure_ (i := 14) (N := some 153) (v := ?_) (a' := ?_) #[true, true, true, true, true, true, true, true, true, true, true, true, true, true, true] rfl rfl (by kernel_rfl) (fun _ _ _ h => h) (Or.inl ⟨by rfl, ?_⟩) ?_ ?_
          rotate_left
          ·intro w'
           go_simp
           with_reducible rfl
          rotate_left
          ·simp only [Act.put, List.setIfInBounds_toArray, List.set_cons_zero, List.set_cons_succ, i64_w, i32_w]
           rfl
          refine done_ (by kernel_rfl) ?_
          go_wp2_with (fail)
          go_roundg (ch.length - (j + 1))
          case measure => have := HN3.out.2.1; have := HLT.out; omega
          case rel =>
           have h := HN3.out
           have h2 := HLT.out
           have h3 := HSZ.out.1
           refine ⟨j + 1, ?_, ⟨by omega, rfl, by have h4 := HBF.out; rw [if_pos HD0.out] at h4; exact h4⟩, HJ5⟩
           first | (rw [wrap64_succ' (n := 257) (by omega) (by omega) (by omega)]; rfl) | exact congrArg _ (by omega)
         ·have HD0 := Aside0.mk hd
          have t10 : (dv != 0) = true := by simp [hd]
          clear hd
          go_upto_region 36 with (fail)
          have HJ3 := Aside0.mk (HJ3.out.step (below_drew1 (Below.refl _ _)))
          refine start_ (n := 15) (S := fun w' => w'.cell? ⟨b13, 0, none⟩ = some (.pointer (some ⟨g, 0, none⟩)) ∧ w'.cell? ⟨b5, 1, none⟩ = some (.slice (some ar) rows.length c1) ∧ w'.cell? (ar.add j) = some (.slice Ad r.length cr)) (ds := []) #[false, false, false, false, false, false, false, false, false, false, false, false, false, false, false] (by kernel_rfl) rfl rfl ⟨hs0, hs1, hs2⟩ (fun hHeld => ?_)
          refine pure_ (i := 0) (N := some 139) (v := ?_) (a' := ?_) #[true, false, false, false, false, false, false, false, false, false, false, false, false, false, false] rfl rfl (by kernel_rfl) (fun _ _ _ h => h) (Or.inl ⟨by rfl, ?_⟩) ?_ ?_
          rotate_left
          ·intro w'
           go_simp
           with_reducible rfl
          rotate_left
          ·simp only [Act.put, List.setIfInBounds_toArray, List.set_cons_zero, List.set_cons_succ, i64_w, i32_w]
           rfl
          refine pure_ (i := 1) (N := some 140) (v := ?_) (a' := ?_) #[true, true, false, false, false, false, false, false, false, false, false, false, false, false, false] rfl rfl (by kernel_rfl) (fun _ _ _ h => h) (Or.inl ⟨by rfl, ?_⟩) ?_ ?_
          rotate_left
          ·intro w'
           go_simp
           with_reducible rfl
          rotate_left
          ·simp only [Act.put, List.setIfInBounds_toArray, List.set_cons_zero, List.set_cons_succ, i64_w, i32_w]
           rfl
          refine one_ (i := 2) (N := some 141) #[true, true, true, false, false, false, false, false, false, false, false, false, false, false, false] rfl rfl (by kernel_rfl) (by decide) (fun K hK => ?_)
          refine goes_ Try.func61 (by kernel_rfl) rfl #[.slice Al l.length cl, .func (.func 70) #[] #[.pointer (some ⟨b15, 0, none⟩)]] (by rfl) rfl rfl (by simp only [List.map_toArray, List.map_cons, List.map_nil]; rfl) ?_
          with_reducible refine (ContainsFunc_Int 70 eg70 #[.pointer (some ⟨b15, 0, none⟩)] (fun W => PJ ⟨P, M, md, q, ex, lg⟩ w0 g b13 b15 go co gi ci n W out1 inn1) Al cl l (fun k => inAt inn1 k) _ w0 HRl0.out HJ3.out (fun W h => h.B) (by unfold PredInt; intro x W hx h; exact closure70' x h (HCHI.out l HMEM.out x hx))).mono ?_
          rintro e w40 ⟨rfl, hI⟩
          refine ⟨_, rfl, ?_⟩
          rw [HANY2.out]
          have HJ4 := Aside0.mk hI
          clear hI
          refine hK.out _ _ ⟨HJ4.out.c13, cell_below HZ0.out.2.1 HJ4.out.B, cell_below HRW0.out HJ4.out.B⟩ (fun hHeld => ?_)
          clear hK K
          refine norm_ (a' := ?_) ?_ ?_
          rotate_left
          ·show Act.put _ (some 141) _ = _
           simp only [Act.put, List.setIfInBounds_toArray, List.set_cons_zero, List.set_cons_succ, i64_w, i32_w]
           rfl
          refine pure_ (i := 3) (N := some 142) (v := ?_) (a' := ?_) #[true, true, true, true, false, false, false, false, false, false, false, false, false, false, false] rfl rfl (by kernel_rfl) (fun _ _ _ h => h) (Or.inl ⟨by rfl, ?_⟩) ?_ ?_
          rotate_left
          ·intro w'
           go_simp
           with_reducible rfl
          rotate_left
          ·simp only [Act.put, List.setIfInBounds_toArray, List.set_cons_zero, List.set_cons_succ, i64_w, i32_w]
           rfl
          refine pure_ (i := 4) (N := some 143) (v := ?_) (a' := ?_) #[true, true, true, true, true, false, false, false, false, false, false, false, false, false, false] rfl rfl (by kernel_rfl) (fun _ _ _ h => h) (Or.inl ⟨by rfl, ?_⟩) ?_ ?_
          rotate_left
          ·intro w'
           go_simp
           with_reducible rfl
          rotate_left
          ·simp only [Act.put, List.setIfInBounds_toArray, List.set_cons_zero, List.set_cons_succ, i64_w, i32_w]
           rfl
          refine pure_ (i := 6) (N := some 145) (v := ?_) (a' := ?_) #[true, true, true, true, true, false, true, false, false, false, false, false, false, false, false] rfl rfl (by kernel_rfl) (fun _ _ _ h => h) (Or.inl ⟨by rfl, ?_⟩) ?_ ?_
          rotate_left
          ·intro w'
           go_simp
           with_reducible rfl
          rotate_left
          ·simp only [Act.put, List.setIfInBounds_toArray, List.set_cons_zero, List.set_cons_succ, i64_w, i32_w]
           rfl
          refine pure_ (i := 8) (N := some 147) (v := ?_) (a' := ?_) #[true, true, true, true, true, false, true, false, true, false, false, false, false, false, false] rfl rfl (by kernel_rfl) (fun _ _ _ h => h) (Or.inl ⟨by rfl, ?_⟩) ?_ ?_
          rotate_left
          ·intro w'
           go_simp
           with_reducible rfl
          rotate_left
          ·simp only [Act.put, List.setIfInBounds_toArray, List.set_cons_zero, List.set_cons_succ, i64_w, i32_w]
           rfl
          refine pure_ (i := 11) (N := some 150) (v := ?_) (a' := ?_) #[true, true, true, true, true, false, true, false, true, false, false, true, false, false, false] rfl rfl (by kernel_rfl) (fun _ _ _ h => h) (Or.inl ⟨by rfl, ?_⟩) ?_ ?_
          rotate_left
          ·intro w'
           go_simp
           with_reducible rfl
          rotate_left
          ·simp only [Act.put, List.setIfInBounds_toArray, List.set_cons_zero, List.set_cons_succ, i64_w, i32_w]
           rfl
          refine take_ (i := 5) (N := some 144) (v := ?_) (a' := ?_) #[true, true, true, true, true, true, true, false, true, false, false, true, false, false, false] rfl rfl (by kernel_rfl) (fun _ _ _ h => h) (Or.inl ⟨by rfl, ?_⟩) hHeld ?_ ?_
          rotate_left
          ·rintro w' ⟨s0, s1, s2⟩
           go_simp
           with_reducible rfl
          rotate_left
          ·simp only [Act.put, List.setIfInBounds_toArray, List.set_cons_zero, List.set_cons_succ, i64_w, i32_w]
           rfl
          refine take_ (i := 7) (N := some 146) (v := ?_) (a' := ?_) #[true, true, true, true, true, true, true, true, true, false, false, true, false, false, false] rfl rfl (by kernel_rfl) (fun _ _ _ h => h) (Or.inl ⟨by rfl, ?_⟩) hHeld ?_ ?_
          rotate_left
          ·rintro w' ⟨s0, s1, s2⟩
           go_simp
           with_reducible rfl
          rotate_left
          ·simp only [Act.put, List.setIfInBounds_toArray, List.set_cons_zero, List.set_cons_succ, i64_w, i32_w]
           rfl
          refine pure_ (i := 9) (N := some 148) (v := ?_) (a' := ?_) #[true, true, true, true, true, true, true, true, true, true, false, true, false, false, false] rfl rfl (by kernel_rfl) (fun _ _ _ h => h) (Or.inl ⟨by rfl, ?_⟩) ?_ ?_
          rotate_left
          ·intro w'
           go_simp
           with_reducible rfl
          rotate_left
          ·simp only [Act.put, List.setIfInBounds_toArray, List.set_cons_zero, List.set_cons_succ, i64_w, i32_w]
           rfl
          refine take_ (i := 10) (N := some 149) (v := ?_) (a' := ?_) #[true, true, true, true, true, true, true, true, true, true, true, true, false, false, false] rfl rfl (by kernel_rfl) (fun _ _ _ h => h) (Or.inl ⟨by rfl, ?_⟩) hHeld ?_ ?_
          rotate_left
          ·rintro w' ⟨s0, s1, s2⟩
           go_simp
           with_reducible rfl
          rotate_left
          ·simp only [Act.put, List.setIfInBounds_toArray, List.set_cons_zero, List.set_cons_succ, i64_w, i32_w]
           rfl
          refine one_ (i := 12) (N := some 151) #[true, true, true, true, true, true, true, true, true, true, true, true, true, false, false] rfl rfl (by kernel_rfl) (by decide) (fun K hK => ?_)
          refine goes_ Try.func68 (by kernel_rfl) rfl #[.pointer (some ⟨g, 0, none⟩), .slice Ad r.length cr, .slice (some ⟨go, 0, none⟩) n co] (by rfl) rfl rfl (by simp only [List.map_toArray, List.map_cons, List.map_nil]; rfl) ?_
          with_reducible refine (HJ4.out.dot HRR.out HCR.out HDT.out).mono ?_
          rintro e w41 ⟨rfl, hI, hB, hk⟩
          refine ⟨_, rfl, ?_⟩
          have HJ5 := Aside0.mk (HJ4.out.keep hI hB hk)
          clear hI hB hk
          refine hK.out _ _ ⟨HJ5.out.c13, cell_below HZ0.out.2.1 HJ5.out.B, cell_below HRW0.out HJ5.out.B⟩ (fun hHeld => ?_)
          clear hK K
          refine norm_ (a' := ?_) ?_ ?_
          rotate_left
          ·show Act.put _ (some 151) _ = _
           simp only [Act.put, List.setIfInBounds_toArray, List.set_cons_zero, List.set_cons_succ, i64_w, i32_w]
           rfl
          refine pure_ (i := 13) (N := some 152) (v := ?_) (a' := ?_) #[true, true, true, true, true, true, true, true, true, true, true, true, true, true, false] rfl rfl (by kernel_rfl) (fun _ _ _ h => h) (Or.inl ⟨by rfl, ?_⟩) ?_ ?_
          rotate_left
          ·intro w'
           go_simp
           with_reducible rfl
          rotate_left
          ·simp only [Act.put, List.setIfInBounds_toArray, List.set_cons_zero, List.set_cons_succ, i64_w, i32_w]
           rfl
          refine pure_ (i := 14) (N := some 153) (v := ?_) (a' := ?_) #[true, true, true, true, true, true, true, true, true, true, true, true, true, true, true] rfl rfl (by kernel_rfl) (fun _ _ _ h => h) (Or.inl ⟨by rfl, ?_⟩) ?_ ?_
          rotate_left
          ·intro w'
           go_simp
           with_reducible rfl
          rotate_left
          ·simp only [Act.put, List.setIfInBounds_toArray, List.set_cons_zero, List.set_cons_succ, i64_w, i32_w]
           rfl
          refine done_ (by kernel_rfl) ?_
          go_wp2_with (fail)
          go_ret3
          have hb : bf = true := by have h4 := HBF.out; rw [if_neg HD0.out] at h4; exact h4
          have hend := HEND.out
          rw [if_pos hb] at hend
          have hend := Option.some.inj hend
          injection hend with e1 e2
          injection e2 with e2 e3
          subst e1 e2 e3
          exact ⟨_, _, rfl, Kd.R_nil _ _ _ _ _, Kd.R_nil _ _ _ _ _, below_step HBW.out HJ5.out.B⟩
       ·have t4 := eq_false hlt
        have t5 : decide ((j : Int) < (ch.length : Int)) = false := decide_eq_false hlt
        have hb : bf = false := by
         have h := HN3.out
         have h2 := h.2.2
         rw [show j = ch.length by omega, List.drop_length, failsAt] at h2
         exact (Option.some.inj h2).symm
        have hend := HEND.out
        rw [if_neg (by simp [hb])] at hend
        obtain ⟨lf, hlf, e⟩ := Option.map_eq_some_iff.1 hend
        injection e with e1 e2
        injection e2 with e2 e3
        subst e1 e2 e3
        have HLF := Aside0.mk hlf
        have hc15 := HJ3.out.c15
        clear hlt hb hend hlf
        have HLC := Aside0.mk (peel_left.calls 4096 (some ⟨gi, 0, none⟩) ci inn1 lf wr (Kd.R_reads' (show Kd.R Kd.bool 4 wr w0.heap.size (fun _ => True) (.slice (some ⟨gi, 0, none⟩) inn1.length ci) inn1 by rw [HJ3.out.l2]; exact HJ3.out.o2)).2.2 (by have h := (Kd.R_reads' HJ3.out.o2).2.1; rw [HJ3.out.l2]; exact h) HLF.out)
        rw [HJ3.out.l2] at HLC
        go_wp2_with (first | (go_at_call 55; (with_reducible refine HLC.out.mono ?_); rintro e wE ⟨vl, rfl, hR, hB⟩; have HLR := Aside0.mk hR; have HLB := Aside0.mk hB; clear hR hB))
        go_ret3
        exact ⟨_, _, rfl, Kd.R_lower (Kd.R_below HJ3.out.o1 HLB.out) HBW.out.size, Kd.R_lower HLR.out (below_size (below_step HBW.out HJ3.out.B)), below_step HBW.out (below_step HJ3.out.B HLB.out)⟩
     ·rw [if_neg hneg] at hgo
      obtain ⟨o3, hfill, hgo⟩ := Option.bind_eq_some_iff.1 hgo
      have HFILL := Aside0.mk hfill
      have HGO2 := Aside0.mk hgo
      clear hfill hgo
      have t2 := eq_true (show 0 ≤ al by omega)
      have t3 : decide (0 ≤ al) = true := decide_eq_true (by omega)
      have ht1 := cell_below HZ0.out.2.2.2 HJ.out.B
      go_upto_region 23 with (fail)
      clear hneg
      go_upto_block 5 with (fail)
      go_cut [19, 20, 21, 22] from 85 to 126 (fun s19 s20 s21 s22 wc => Aside0 (PJ ⟨P, M, md, q, ex, lg⟩ w0 g b13 b15 go co gi ci n wc o3 inn1) ∧ Aside0 (wc.heap[b]? = some (.cells #[.int .i64 al] 3 (0, 0))))
      case first =>
       clear hc18 ht1
       go_wp2_with (fail)
       go_loopg [85] ch.length (fun gk v85 w' => ∃ j : Nat, v85 = .int .i64 j ∧ Aside0 (j ≤ ch.length ∧ gk = ch.length - j ∧ fillIn ⟨P, M, md, q, ex, lg⟩ inn1 al out1 (ch.drop j) (rows.drop j) = some o3) ∧ Aside0 (PJ ⟨P, M, md, q, ex, lg⟩ w0 g b13 b15 go co gi ci n w' out1 inn1) ∧ Aside0 (w'.heap[b]? = some (.cells #[.int .i64 al] 3 (0, 0))))
       case atStart => exact ⟨0, rfl, ⟨by simp, by simp, by rw [List.drop_zero, List.drop_zero]; exact HFILL.out⟩, HJ, HBK⟩
       case round =>
        obtain ⟨j, rfl, HN3, HJ3, HBK3⟩ := hrel
        by_cases hlt : (j : Int) < (ch.length : Int)
        ·have t4 := eq_true hlt
         have t5 : (0 ≤ (j : Int)) = True := eq_true (Int.natCast_nonneg j)
         obtain ⟨ad, Al, cl, eA, hx, hc0, hr0⟩ := at_L1 HCH.out j (of_eq_true t5) hlt
         replace hx := pw_cell_below HJ3.out.B hx
         subst eA
         obtain ⟨l, hl⟩ : ∃ x, rd_L1 ch (j : Int) = x := ⟨_, rfl⟩
         rw [hl] at hx hc0 hr0
         rw [Int.toNat_natCast] at hx
         have HL := Aside0.mk hl
         have HLT := Aside0.mk hlt
         have HCl := Aside0.mk hc0
         have HRl0 := Aside0.mk hr0
         have HRl := Aside0.mk (Kd.C_below hr0 HJ3.out.B)
         have HMEM := Aside0.mk (show l ∈ ch by rw [← hl]; exact rd_memRow (by omega) hlt)
         have hfl := HN3.out.2.2
         rw [rows_drop (by omega : j < ch.length), hl] at hfl
         have HFL := Aside0.mk hfl
         clear hl hlt hc0 hr0 hfl
         have hc18 := (blk_cell HBK3.out 0).trans (show _ = some (Value.int .i64 al) from rfl)
         have HCON := Aside0.mk (contains_f l al (Nat.le_trans (HLL.out l HMEM.out) (by decide)))
         by_cases hmem : al ∈ l
         ·rw [decide_eq_true hmem] at HCON
          have HIM := Aside0.mk hmem
          clear hmem
          cases hany : l.any (fun k => !decide (k = al) && inAt inn1 k) with
          | false =>
           have HANY2 := Aside0.mk hany
           clear hany
           go_upto_region 27 with (first | (go_at_call 65; (with_reducible refine (slices_Contains_int_int.calls _ Al cl l al true _ HRl.out HCl.out HCON.out).mono ?_); rintro e w20 ⟨rfl, hd⟩; have HJ4 := Aside0.mk (HJ3.out.step (drawn0_below' hd)); have HB4 := Aside0.mk (blk_grown HBK3.out (grown_of_below (drawn0_below' hd) none) (by simp)); clear hd) | (go_at_call 61; (with_reducible refine (ContainsFunc_Int 66 eg66 #[.pointer (some ⟨b, 0, none⟩), .pointer (some ⟨b15, 0, none⟩)] (fun W => PJ ⟨P, M, md, q, ex, lg⟩ w0 g b13 b15 go co gi ci n W out1 inn1 ∧ W.heap[b]? = some (.cells #[.int .i64 al] 3 (0, 0))) Al cl l (fun k => !decide (k = al) && inAt inn1 k) _ w0 HRl0.out ⟨HJ4.out, HB4.out⟩ (fun W h => h.1.B) (by unfold PredInt; intro x W hx h; exact closure66' x al b b15 h.1 h.2 (HCHI.out l HMEM.out x hx))).mono ?_); rintro e w21 ⟨rfl, hI, hb⟩; rw [HANY2.out]; have HJ5 := Aside0.mk hI; have HBk5 := Aside0.mk hb; clear hI hb))
           have hl1 : lone inn1 al l = true := by simp [lone, HIM.out, HANY2.out]
           obtain ⟨hj, hir, dv, xv, yv, hdv, hxv, hyv, ho3⟩ := fill_take HFL.out hl1
           have hjlt : (j : Int) < (rows.length : Int) := by exact_mod_cast hj
           obtain ⟨ar, Ad, cr, eR, hxr, hcr, hrr⟩ := at_L1 (Kd.C_below HR1.out HBW.out) j (of_eq_true t5) hjlt
           subst eR
           obtain ⟨r, hr⟩ : ∃ x, rd_L1 rows (j : Int) = x := ⟨_, rfl⟩
           rw [hr] at hxr hcr hrr hir hdv hxv
           rw [Int.toNat_natCast] at hxr
           obtain ⟨adr, eD, hxe⟩ := Kd.at_int hrr al (of_eq_true t2) hir
           subst eD
           have HRW0 := Aside0.mk hxr
           have HRE0 := Aside0.mk hxe
           have HRR := Aside0.mk hrr
           have HCR := Aside0.mk hcr
           have HDT := Aside0.mk hdv
           have HDV := Aside0.mk hxv
           have HNG := Aside0.mk hyv
           have HO3 := Aside0.mk ho3
           have t6 := eq_true hjlt
           have t6' : decide ((j : Int) < (rows.length : Int)) = true := decide_eq_true hjlt
           have t8 := eq_true hir
           have t8' : decide (al < (r.length : Int)) = true := decide_eq_true hir
           have t9 : decide (0 ≤ (j : Int)) = true := decide_eq_true (Int.natCast_nonneg j)
           have i1 := eq_true (show al < (n : Int) by rw [← HAL.out]; exact alone_lt inn1 n (by omega) ch HCHI.out)
           have HJ5 := Aside0.mk (HJ5.out.step (below_drew1 (Below.refl _ _)))
           have HBk5 := Aside0.mk (show w21.drew.heap[b]? = _ from HBk5.out)
           have hs0 := HJ5.out.c13
           have hs1 := cell_below HZ0.out.2.1 HJ5.out.B
           have hs2 := cell_below HRW0.out HJ5.out.B
           have hs3 := (blk_cell HBk5.out 0).trans (show _ = some (Value.int .i64 al) from rfl)
           have hs4 := cell_below HRE0.out HJ5.out.B
           clear hl1 hj hir hdv hxv hyv ho3 hjlt hxr hcr hrr hxe hr
           refine start_ (n := 23) (S := fun w' => w'.cell? ⟨b13, 0, none⟩ = some (.pointer (some ⟨g, 0, none⟩)) ∧ w'.cell? ⟨b5, 1, none⟩ = some (.slice (some ar) rows.length c1) ∧ w'.cell? (ar.add j) = some (.slice (some adr) r.length cr) ∧ w'.cell? ⟨b, 0, none⟩ = some (.int .i64 al) ∧ w'.cell? (adr.add al.toNat) = some (.int .i64 (rd r al))) (ds := []) #[false, false, false, false, false, false, false, false, false, false, false, false, false, false, false, false, false, false, false, false, false, false, false] (by kernel_rfl) rfl rfl ⟨hs0, hs1, hs2, hs3, hs4⟩ (fun hHeld => ?_)
           refine pure_ (i := 2) (N := some 102) (v := ?_) (a' := ?_) #[false, false, true, false, false, false, false, false, false, false, false, false, false, false, false, false, false, false, false, false, false, false, false] rfl rfl (by kernel_rfl) (fun _ _ _ h => h) (Or.inl ⟨by rfl, ?_⟩) ?_ ?_
           rotate_left
           ·intro w'
            go_simp
            with_reducible rfl
           rotate_left
           ·simp only [Act.put, List.setIfInBounds_toArray, List.set_cons_zero, List.set_cons_succ, i64_w, i32_w]
            rfl
           refine pure_ (i := 4) (N := some 104) (v := ?_) (a' := ?_) #[false, false, true, false, true, false, false, false, false, false, false, false, false, false, false, false, false, false, false, false, false, false, false] rfl rfl (by kernel_rfl) (fun _ _ _ h => h) (Or.inl ⟨by rfl, ?_⟩) ?_ ?_
           rotate_left
           ·intro w'
            go_simp
            with_reducible rfl
           rotate_left
           ·simp only [Act.put, List.setIfInBounds_toArray, List.set_cons_zero, List.set_cons_succ, i64_w, i32_w]
            rfl
           refine pure_ (i := 7) (N := some 107) (v := ?_) (a' := ?_) #[false, false, true, false, true, false, false, true, false, false, false, false, false, false, false, false, false, false, false, false, false, false, false] rfl rfl (by kernel_rfl) (fun _ _ _ h => h) (Or.inl ⟨by rfl, ?_⟩) ?_ ?_
           rotate_left
           ·intro w'
            go_simp
            with_reducible rfl
           rotate_left
           ·simp only [Act.put, List.setIfInBounds_toArray, List.set_cons_zero, List.set_cons_succ, i64_w, i32_w]
            rfl
           refine pure_ (i := 9) (N := some 109) (v := ?_) (a' := ?_) #[false, false, true, false, true, false, false, true, false, true, false, false, false, false, false, false, false, false, false, false, false, false, false] rfl rfl (by kernel_rfl) (fun _ _ _ h => h) (Or.inl ⟨by rfl, ?_⟩) ?_ ?_
           rotate_left
           ·intro w'
            go_simp
            with_reducible rfl
           rotate_left
           ·simp only [Act.put, List.setIfInBounds_toArray, List.set_cons_zero, List.set_cons_succ, i64_w, i32_w]
            rfl
           refine pure_ (i := 11) (N := some 111) (v := ?_) (a' := ?_) #[false, false, true, false, true, false, false, true, false, true, false, true, false, false, false, false, false, false, false, false, false, false, false] rfl rfl (by kernel_rfl) (fun _ _ _ h => h) (Or.inl ⟨by rfl, ?_⟩) ?_ ?_
           rotate_left
           ·intro w'
            go_simp
            with_reducible rfl
           rotate_left
           ·simp only [Act.put, List.setIfInBounds_toArray, List.set_cons_zero, List.set_cons_succ, i64_w, i32_w]
            rfl
           refine take_ (i := 0) (N := some 100) (v := ?_) (a' := ?_) #[true, false, true, false, true, false, false, true, false, true, false, true, false, false, false, false, false, false, false, false, false, false, false] rfl rfl (by kernel_rfl) (fun _ _ _ h => h) (Or.inl ⟨by rfl, ?_⟩) hHeld ?_ ?_
           rotate_left
           ·rintro w' ⟨s0, s1, s2, s3, s4⟩
            go_simp
            with_reducible rfl
           rotate_left
           ·simp only [Act.put, List.setIfInBounds_toArray, List.set_cons_zero, List.set_cons_succ, i64_w, i32_w]
            rfl
           refine take_ (i := 1) (N := some 101) (v := ?_) (a' := ?_) #[true, true, true, false, true, false, false, true, false, true, false, true, false, false, false, false, false, false, false, false, false, false, false] rfl rfl (by kernel_rfl) (fun _ _ _ h => h) (Or.inl ⟨by rfl, ?_⟩) hHeld ?_ ?_
           rotate_left
           ·rintro w' ⟨s0, s1, s2, s3, s4⟩
            go_simp
            with_reducible rfl
           rotate_left
           ·simp only [Act.put, List.setIfInBounds_toArray, List.set_cons_zero, List.set_cons_succ, i64_w, i32_w]
            rfl
           refine take_ (i := 3) (N := some 103) (v := ?_) (a' := ?_) #[true, true, true, true, true, false, false, true, false, true, false, true, false, false, false, false, false, false, false, false, false, false, false] rfl rfl (by kernel_rfl) (fun _ _ _ h => h) (Or.inl ⟨by rfl, ?_⟩) hHeld ?_ ?_
           rotate_left
           ·rintro w' ⟨s0, s1, s2, s3, s4⟩
            go_simp
            with_reducible rfl
           rotate_left
           ·simp only [Act.put, List.setIfInBounds_toArray, List.set_cons_zero, List.set_cons_succ, i64_w, i32_w]
            rfl
           refine pure_ (i := 5) (N := some 105) (v := ?_) (a' := ?_) #[true, true, true, true, true, true, false, true, false, true, false, true, false, false, false, false, false, false, false, false, false, false, false] rfl rfl (by kernel_rfl) (fun _ _ _ h => h) (Or.inl ⟨by rfl, ?_⟩) ?_ ?_
           rotate_left
           ·intro w'
            go_simp
            with_reducible rfl
           rotate_left
           ·simp only [Act.put, List.setIfInBounds_toArray, List.set_cons_zero, List.set_cons_succ, i64_w, i32_w]
            rfl
           refine take_ (i := 6) (N := some 106) (v := ?_) (a' := ?_) #[true, true, true, true, true, true, true, true, false, true, false, true, false, false, false, false, false, false, false, false, false, false, false] rfl rfl (by kernel_rfl) (fun _ _ _ h => h) (Or.inl ⟨by rfl, ?_⟩) hHeld ?_ ?_
           rotate_left
           ·rintro w' ⟨s0, s1, s2, s3, s4⟩
            go_simp
            with_reducible rfl
           rotate_left
           ·simp only [Act.put, List.setIfInBounds_toArray, List.set_cons_zero, List.set_cons_succ, i64_w, i32_w]
            rfl
           refine take_ (i := 10) (N := some 110) (v := ?_) (a' := ?_) #[true, true, true, true, true, true, true, true, false, true, true, true, false, false, false, false, false, false, false, false, false, false, false] rfl rfl (by kernel_rfl) (fun _ _ _ h => h) (Or.inl ⟨by rfl, ?_⟩) hHeld ?_ ?_
           rotate_left
           ·rintro w' ⟨s0, s1, s2, s3, s4⟩
            go_simp
            with_reducible rfl
           rotate_left
           ·simp only [Act.put, List.setIfInBounds_toArray, List.set_cons_zero, List.set_cons_succ, i64_w, i32_w]
            rfl
           refine pure_ (i := 12) (N := some 112) (v := ?_) (a' := ?_) #[true, true, true, true, true, true, true, true, false, true, true, true, true, false, false, false, false, false, false, false, false, false, false] rfl rfl (by kernel_rfl) (fun _ _ _ h => h) (Or.inl ⟨by rfl, ?_⟩) ?_ ?_
           rotate_left
           ·intro w'
            go_simp
            with_reducible rfl
           rotate_left
           ·simp only [Act.put, List.setIfInBounds_toArray, List.set_cons_zero, List.set_cons_succ, i64_w, i32_w]
            rfl
           refine take_ (i := 13) (N := some 113) (v := ?_) (a' := ?_) #[true, true, true, true, true, true, true, true, false, true, true, true, true, true, false, false, false, false, false, false, false, false, false] rfl rfl (by kernel_rfl) (fun _ _ _ h => h) (Or.inl ⟨by rfl, ?_⟩) hHeld ?_ ?_
           rotate_left
           ·rintro w' ⟨s0, s1, s2, s3, s4⟩
            go_simp
            with_reducible rfl
           rotate_left
           ·simp only [Act.put, List.setIfInBounds_toArray, List.set_cons_zero, List.set_cons_succ, i64_w, i32_w]
            rfl
           refine take_ (i := 14) (N := some 114) (v := ?_) (a' := ?_) #[true, true, true, true, true, true, true, true, false, true, true, true, true, true, true, false, false, false, false, false, false, false, false] rfl rfl (by kernel_rfl) (fun _ _ _ h => h) (Or.inl ⟨by rfl, ?_⟩) hHeld ?_ ?_
           rotate_left
           ·rintro w' ⟨s0, s1, s2, s3, s4⟩
            go_simp
            with_reducible rfl
           rotate_left
           ·simp only [Act.put, List.setIfInBounds_toArray, List.set_cons_zero, List.set_cons_succ, i64_w, i32_w]
            rfl
           refine pure_ (i := 15) (N := some 115) (v := ?_) (a' := ?_) #[true, true, true, true, true, true, true, true, false, true, true, true, true, true, true, true, false, false, false, false, false, false, false] rfl rfl (by kernel_rfl) (fun _ _ _ h => h) (Or.inl ⟨by rfl, ?_⟩) ?_ ?_
           rotate_left
           ·intro w'
            go_simp
            with_reducible rfl
           rotate_left
           ·simp only [Act.put, List.setIfInBounds_toArray, List.set_cons_zero, List.set_cons_succ, i64_w, i32_w]
            rfl
           refine take_ (i := 16) (N := some 116) (v := ?_) (a' := ?_) #[true, true, true, true, true, true, true, true, false, true, true, true, true, true, true, true, true, false, false, false, false, false, false] rfl rfl (by kernel_rfl) (fun _ _ _ h => h) (Or.inl ⟨by rfl, ?_⟩) hHeld ?_ ?_
           rotate_left
           ·rintro w' ⟨s0, s1, s2, s3, s4⟩
            go_simp
            with_reducible rfl
           rotate_left
           ·simp only [Act.put, List.setIfInBounds_toArray, List.set_cons_zero, List.set_cons_succ, i64_w, i32_w]
            rfl
           refine one_ (i := 8) (N := some 108) #[true, true, true, true, true, true, true, true, true, true, true, true, true, true, true, true, true, false, false, false, false, false, false] rfl rfl (by kernel_rfl) (by decide) (fun K hK => ?_)
           refine goes_ Try.func68 (by kernel_rfl) rfl #[.pointer (some ⟨g, 0, none⟩), .slice (some adr) r.length cr, .slice (some ⟨go, 0, none⟩) n co] (by rfl) rfl rfl (by simp only [List.map_toArray, List.map_cons, List.map_nil]; rfl) ?_
           with_reducible refine (HJ5.out.dot HRR.out HCR.out HDT.out).mono ?_
           rintro e w30 ⟨rfl, hI, hB, hk⟩
           refine ⟨_, rfl, ?_⟩
           have HJ6 := Aside0.mk (HJ5.out.keep hI hB hk)
           have HBk6 := Aside0.mk (hk.blk HBk5.out HDD.out.2.1 (by simp))
           clear hI hB hk
           refine hK.out _ _ ⟨HJ6.out.c13, cell_below HZ0.out.2.1 HJ6.out.B, cell_below HRW0.out HJ6.out.B, (blk_cell HBk6.out 0).trans rfl, cell_below HRE0.out HJ6.out.B⟩ (fun hHeld => ?_)
           clear hK K
           refine norm_ (a' := ?_) ?_ ?_
           rotate_left
           ·show Act.put _ (some 108) _ = _
            simp only [Act.put, List.setIfInBounds_toArray, List.set_cons_zero, List.set_cons_succ, i64_w, i32_w]
            rfl
           refine one_ (i := 17) (N := some 117) #[true, true, true, true, true, true, true, true, true, true, true, true, true, true, true, true, true, true, false, false, false, false, false] rfl rfl (by kernel_rfl) (by decide) (fun K hK => ?_)
           refine goes_ Try.func67 (by kernel_rfl) rfl #[.pointer (some ⟨g, 0, none⟩), .int .i64 dv, .int .i64 (rd r al)] (by rfl) rfl rfl (by simp only [List.map_toArray, List.map_cons, List.map_nil]; rfl) ?_
           with_reducible refine (HJ6.out.div HDV.out).mono ?_
           rintro e w31 ⟨xq, rfl, hI, hB, hk⟩
           refine ⟨_, rfl, ?_⟩
           have HJ7 := Aside0.mk (HJ6.out.keep hI hB hk)
           have HBk7 := Aside0.mk (hk.blk HBk6.out HDD.out.2.1 (by simp))
           clear hI hB hk
           refine hK.out _ _ ⟨HJ7.out.c13, cell_below HZ0.out.2.1 HJ7.out.B, cell_below HRW0.out HJ7.out.B, (blk_cell HBk7.out 0).trans rfl, cell_below HRE0.out HJ7.out.B⟩ (fun hHeld => ?_)
           clear hK K
           refine norm_ (a' := ?_) ?_ ?_
           rotate_left
           ·show Act.put _ (some 117) _ = _
            simp only [Act.put, List.setIfInBounds_toArray, List.set_cons_zero, List.set_cons_succ, i64_w, i32_w]
            rfl
           refine pure_ (i := 18) (N := some 99) (v := ?_) (a' := ?_) #[true, true, true, true, true, true, true, true, true, true, true, true, true, true, true, true, true, true, true, false, false, false, false] rfl rfl (by kernel_rfl) (fun _ _ _ h => h) (Or.inl ⟨by rfl, ?_⟩) ?_ ?_
           rotate_left
           ·intro w'
            go_simp
            with_reducible rfl
           rotate_left
           ·simp only [Act.put, List.setIfInBounds_toArray, List.set_cons_zero, List.set_cons_succ, i64_w, i32_w]
            rfl
           refine pure_ (i := 19) (N := some 118) (v := ?_) (a' := ?_) #[true, true, true, true, true, true, true, true, true, true, true, true, true, true, true, true, true, true, true, true, false, false, false] rfl rfl (by kernel_rfl) (fun _ _ _ h => h) (Or.inl ⟨by rfl, ?_⟩) ?_ ?_
           rotate_left
           ·intro w'
            go_simp
            with_reducible rfl
           rotate_left
           ·simp only [Act.put, List.setIfInBounds_toArray, List.set_cons_zero, List.set_cons_succ, i64_w, i32_w]
            rfl
           refine pure_ (i := 20) (N := some 119) (v := ?_) (a' := ?_) #[true, true, true, true, true, true, true, true, true, true, true, true, true, true, true, true, true, true, true, true, true, false, false] rfl rfl (by kernel_rfl) (fun _ _ _ h => h) (Or.inl ⟨by rfl, ?_⟩) ?_ ?_
           rotate_left
           ·intro w'
            go_simp
            with_reducible rfl
           rotate_left
           ·simp only [Act.put, List.setIfInBounds_toArray, List.set_cons_zero, List.set_cons_succ, i64_w, i32_w]
            rfl
           refine pure_ (i := 21) (N := some 21) (v := ?_) (a' := ?_) #[true, true, true, true, true, true, true, true, true, true, true, true, true, true, true, true, true, true, true, true, true, true, false] rfl rfl (by kernel_rfl) (fun _ _ _ h => h) (Or.inl ⟨by rfl, ?_⟩) ?_ ?_
           rotate_left
           ·intro w'
            go_simp
            with_reducible rfl
           rotate_left
           ·simp only [Act.put, List.setIfInBounds_toArray, List.set_cons_zero, List.set_cons_succ, i64_w, i32_w]
            rfl
           refine pure_ (i := 22) (N := some 22) (v := ?_) (a' := ?_) #[true, true, true, true, true, true, true, true, true, true, true, true, true, true, true, true, true, true, true, true, true, true, true] rfl rfl (by kernel_rfl) (fun _ _ _ h => h) (Or.inl ⟨by rfl, ?_⟩) ?_ ?_
           rotate_left
           ·intro w'
            go_simp
            with_reducible rfl
           rotate_left
           ·simp only [Act.put, List.setIfInBounds_toArray, List.set_cons_zero, List.set_cons_succ, i64_w, i32_w]
            rfl
           refine done_ (by kernel_rfl) ?_
           go_upto_region 28 with (fail)
           have HJ7 := Aside0.mk (HJ7.out.step (below_drew1 (Below.refl _ _)))
           have HBk7 := Aside0.mk (show w31.drew.heap[b]? = _ from HBk7.out)
           have hn0 := HJ7.out.c13
           have hn1 := (blk_cell HBk7.out 0).trans (show _ = some (Value.int .i64 al) from rfl)
           refine start_ (n := 7) (S := fun w' => w'.cell? ⟨b13, 0, none⟩ = some (.pointer (some ⟨g, 0, none⟩)) ∧ w'.cell? ⟨b, 0, none⟩ = some (.int .i64 al)) (ds := [6]) #[false, false, false, false, false, false, false] (by kernel_rfl) rfl rfl ⟨hn0, hn1⟩ (fun hHeld => ?_)
           refine pure_ (i := 0) (N := some 120) (v := ?_) (a' := ?_) #[true, false, false, false, false, false, false] rfl rfl (by kernel_rfl) (fun _ _ _ h => h) (Or.inl ⟨by rfl, ?_⟩) ?_ ?_
           rotate_left
           ·intro w'
            go_simp
            with_reducible rfl
           rotate_left
           ·simp only [Act.put, List.setIfInBounds_toArray, List.set_cons_zero, List.set_cons_succ, i64_w, i32_w]
            rfl
           refine pure_ (i := 3) (N := some 123) (v := ?_) (a' := ?_) #[true, false, false, true, false, false, false] rfl rfl (by kernel_rfl) (fun _ _ _ h => h) (Or.inl ⟨by rfl, ?_⟩) ?_ ?_
           rotate_left
           ·intro w'
            go_simp
            with_reducible rfl
           rotate_left
           ·simp only [Act.put, List.setIfInBounds_toArray, List.set_cons_zero, List.set_cons_succ, i64_w, i32_w]
            rfl
           refine take_ (i := 1) (N := some 121) (v := ?_) (a' := ?_) #[true, true, false, true, false, false, false] rfl rfl (by kernel_rfl) (fun _ _ _ h => h) (Or.inl ⟨by rfl, ?_⟩) hHeld ?_ ?_
           rotate_left
           ·rintro w' ⟨s0, s1⟩
            go_simp
            with_reducible rfl
           rotate_left
           ·simp only [Act.put, List.setIfInBounds_toArray, List.set_cons_zero, List.set_cons_succ, i64_w, i32_w]
            rfl
           refine take_ (i := 2) (N := some 122) (v := ?_) (a' := ?_) #[true, true, true, true, false, false, false] rfl rfl (by kernel_rfl) (fun _ _ _ h => h) (Or.inl ⟨by rfl, ?_⟩) hHeld ?_ ?_
           rotate_left
           ·rintro w' ⟨s0, s1⟩
            go_simp
            with_reducible rfl
           rotate_left
           ·simp only [Act.put, List.setIfInBounds_toArray, List.set_cons_zero, List.set_cons_succ, i64_w, i32_w]
            rfl
           refine one_ (i := 4) (N := some 124) #[true, true, true, true, true, false, false] rfl rfl (by kernel_rfl) (by decide) (fun K hK => ?_)
           refine goes_ Try.func69 (by kernel_rfl) rfl #[.pointer (some ⟨g, 0, none⟩), .int .i64 xv] (by rfl) rfl rfl (by simp only [List.map_toArray, List.map_cons, List.map_nil]; rfl) ?_
           with_reducible refine (HJ7.out.neg HNG.out).mono ?_
           rintro e w32 ⟨rfl, hI, hB, hk⟩
           refine ⟨_, rfl, ?_⟩
           have HJ8 := Aside0.mk (HJ7.out.keep hI hB hk)
           have HBk8 := Aside0.mk (hk.blk HBk7.out HDD.out.2.1 (by simp))
           clear hI hB hk
           obtain ⟨hcm, hfm⟩ := Kd.R_cell 0 (show Kd.R (Kd.int .i64) 3 w32 w0.heap.size (fun _ => True) (.slice (some ⟨go, 0, none⟩) out1.length co) out1 by rw [HJ8.out.l1]; exact HJ8.out.o1) al (of_eq_true t2) (by rw [HJ8.out.l1]; exact of_eq_true i1)
           refine hK.out _ _ ⟨HJ8.out.c13, (blk_cell HBk8.out 0).trans rfl⟩ (fun hHeld => ?_)
           clear hK K
           refine norm_ (a' := ?_) ?_ ?_
           rotate_left
           ·show Act.put _ (some 124) _ = _
            simp only [Act.put, List.setIfInBounds_toArray, List.set_cons_zero, List.set_cons_succ, i64_w, i32_w]
            rfl
           refine pure_ (i := 5) (N := some 125) (v := ?_) (a' := ?_) #[true, true, true, true, true, true, false] rfl rfl (by kernel_rfl) (fun _ _ _ h => h) (Or.inl ⟨by rfl, ?_⟩) ?_ ?_
           rotate_left
           ·intro w'
            go_simp
            with_reducible rfl
           rotate_left
           ·simp only [Act.put, List.setIfInBounds_toArray, List.set_cons_zero, List.set_cons_succ, i64_w, i32_w]
            rfl
           refine last_ (i := 6) (N := none) #[true, true, true, true, true, true, true] rfl rfl (by kernel_rfl) (by decide) (fun K hK => ?_)
           refine skip_ (w1 := ?_) (by rfl) rfl ?_ ?_
           rotate_left
           ·go_simp
            rfl
           refine hK.out _ _ ?_
           clear hK K
           refine done_ (by kernel_rfl) ?_
           have HJ9 := Aside0.mk (HJ8.out.putOut al yv)
           have HB9 := Aside0.mk (blk_grown HBk8.out (Kd.R_put (show Kd.R (Kd.int .i64) 3 w32 w0.heap.size (fun _ => True) (.slice (some ⟨go, 0, none⟩) out1.length co) out1 by rw [HJ8.out.l1]; exact HJ8.out.o1) al yv).2 (fun e => HDD.out.2.2.1 (Option.some.inj e)))
           go_wp2_with (fail)
           go_meet
           case rel => exact ⟨by rw [HO3.out]; exact HJ9, HB9⟩
          | true =>
           have HANY2 := Aside0.mk hany
           clear hany
           go_wp2_with (first | (go_at_call 65; (with_reducible refine (slices_Contains_int_int.calls _ Al cl l al true _ HRl.out HCl.out HCON.out).mono ?_); rintro e w20 ⟨rfl, hd⟩; have HJ4 := Aside0.mk (HJ3.out.step (drawn0_below' hd)); have HB4 := Aside0.mk (blk_grown HBK3.out (grown_of_below (drawn0_below' hd) none) (by simp)); clear hd) | (go_at_call 61; (with_reducible refine (ContainsFunc_Int 66 eg66 #[.pointer (some ⟨b, 0, none⟩), .pointer (some ⟨b15, 0, none⟩)] (fun W => PJ ⟨P, M, md, q, ex, lg⟩ w0 g b13 b15 go co gi ci n W out1 inn1 ∧ W.heap[b]? = some (.cells #[.int .i64 al] 3 (0, 0))) Al cl l (fun k => !decide (k = al) && inAt inn1 k) _ w0 HRl0.out ⟨HJ4.out, HB4.out⟩ (fun W h => h.1.B) (by unfold PredInt; intro x W hx h; exact closure66' x al b b15 h.1 h.2 (HCHI.out l HMEM.out x hx))).mono ?_); rintro e w21 ⟨rfl, hI, hb⟩; rw [HANY2.out]; have HJ5 := Aside0.mk hI; have HB5 := Aside0.mk hb; clear hI hb))
           go_roundg (ch.length - (j + 1))
           case measure => have := HN3.out.2.1; have := HLT.out; omega
           case rel =>
            have h := HN3.out
            have h2 := HLT.out
            have h3 := HSZ.out.1
            refine ⟨j + 1, ?_, ⟨by omega, rfl, fill_skip HFL.out (by simp only [lone, HANY2.out, Bool.not_true, Bool.and_false])⟩, HJ5, HB5⟩
            first | (rw [wrap64_succ' (n := 257) (by omega) (by omega) (by omega)]; rfl) | exact congrArg _ (by omega)
         ·rw [decide_eq_false hmem] at HCON
          have HNM := Aside0.mk hmem
          clear hmem
          go_wp2_with (first | (go_at_call 65; (with_reducible refine (slices_Contains_int_int.calls _ Al cl l al false _ HRl.out HCl.out HCON.out).mono ?_); rintro e w20 ⟨rfl, hd⟩; have HJ4 := Aside0.mk (HJ3.out.step (drawn0_below' hd)); have HB4 := Aside0.mk (blk_grown HBK3.out (grown_of_below (drawn0_below' hd) none) (by simp)); clear hd))
          go_roundg (ch.length - (j + 1))
          case measure => have := HN3.out.2.1; have := HLT.out; omega
          case rel =>
           have h := HN3.out
           have h2 := HLT.out
           have h3 := HSZ.out.1
           refine ⟨j + 1, ?_, ⟨by omega, rfl, fill_skip HFL.out (by simp [lone, HNM.out])⟩, HJ4, HB4⟩
           first | (rw [wrap64_succ' (n := 257) (by omega) (by omega) (by omega)]; rfl) | exact congrArg _ (by omega)
        ·have t4 := eq_false hlt
         have t5 : decide ((j : Int) < (ch.length : Int)) = false := decide_eq_false hlt
         have HLT := Aside0.mk hlt
         have HO3 := Aside0.mk (show out1 = o3 by
          have h := HN3.out
          have h2 := h.2.2
          rw [show j = ch.length by omega, List.drop_length, fillIn] at h2
          exact Option.some.inj h2)
         clear hlt
         go_wp2_with (fail)
         go_meet
         case rel => exact ⟨by rw [← HO3.out]; exact HJ3, HBK3⟩
      case rest =>
       obtain ⟨HJc, HBc⟩ := hcut
       clear hc18 ht1
       have hc18 : wc.cell? ⟨b, 0, none⟩ = some (.int .i64 al) := (blk_cell HBc.out 0).trans rfl
       have hc15 := HJc.out.c15
       have HLA := Aside0.mk (show al < (n : Int) by rw [← HAL.out]; exact alone_lt inn1 n (by omega) ch HCHI.out)
       have HL0 := Aside0.mk (show 0 ≤ al from of_eq_true t2)
       have i1 := eq_true HLA.out
       obtain ⟨hcm, hfm⟩ := Kd.R_cell false (show Kd.R Kd.bool 4 wc w0.heap.size (fun _ => True) (.slice (some ⟨gi, 0, none⟩) inn1.length ci) inn1 by rw [HJc.out.l2]; exact HJc.out.o2) al HL0.out (by rw [HJc.out.l2]; exact HLA.out)
       have HJd := Aside0.mk (HJc.out.putIn al false)
       have hd15 := HJd.out.c15
       have hd18 : (wc.setCell ⟨gi, al.toNat, none⟩ (.bool false)).cell? ⟨b, 0, none⟩ = some (.int .i64 al) := by
        have ho := (Kd.R_put (show Kd.R Kd.bool 4 wc w0.heap.size (fun _ => True) (.slice (some ⟨gi, 0, none⟩) inn1.length ci) inn1 by rw [HJc.out.l2]; exact HJc.out.o2) al false).2
        exact cell_grown ho hc18 (fun e => HDD.out.2.2.2 (Option.some.inj e))
       go_upto_region 22 with (fail)
       have hsz : (wc.setCell ⟨gi, al.toNat, none⟩ (.bool false)).heap.size = wc.heap.size := by simp
       have hbk : ((wc.setCell ⟨gi, al.toNat, none⟩ (.bool false)).alloc (Obj.cells #[Value.int IntKind.i64 al] 3)).heap[wc.heap.size]? = some (.cells #[.int .i64 al] 3 (0, 0)) := by rw [← hsz]; exact heap_alloc_new _ _
       have HBK2 := Aside0.mk hbk
       have HJe := Aside0.mk (HJd.out.step (below_alloc (Below.refl _ (wc.setCell ⟨gi, al.toNat, none⟩ (.bool false))) (Obj.cells #[Value.int IntKind.i64 al] 3)))
       have hd1 : g < (wc.setCell ⟨gi, al.toNat, none⟩ (.bool false)).heap.size := HJd.out.I.lt
       have hd2 : go < (wc.setCell ⟨gi, al.toNat, none⟩ (.bool false)).heap.size := Kd.R_lt HJd.out.o1 go rfl
       have hd3 : gi < (wc.setCell ⟨gi, al.toNat, none⟩ (.bool false)).heap.size := Kd.R_lt HJd.out.o2 gi rfl
       have hd4 : b13 < (wc.setCell ⟨gi, al.toNat, none⟩ (.bool false)).heap.size := World.block_lt_of_cell? _ _ HJd.out.c13
       have hd5 : b15 < (wc.setCell ⟨gi, al.toNat, none⟩ (.bool false)).heap.size := World.block_lt_of_cell? _ _ HJd.out.c15
       have HD2 := Aside0.mk (show w0.heap.size ≤ wc.heap.size ∧ wc.heap.size ≠ g ∧ wc.heap.size ≠ go ∧ wc.heap.size ≠ gi ∧ wc.heap.size ≠ b13 ∧ wc.heap.size ≠ b15 from ⟨by have := HJd.out.B.size; omega, by omega, by omega, by omega, by omega, by omega⟩)
       clear hd15 hd18 hd1 hd2 hd3 hd4 hd5 hcm hfm hc15 hc18 hbk
       generalize (wc.setCell ⟨gi, al.toNat, none⟩ (.bool false)).alloc (Obj.cells #[Value.int IntKind.i64 al] 3) = wD at HBK2 HJe ⊢
       clear hsz
       generalize wc.heap.size = b' at HBK2 HD2 ⊢
       have ht0 := cell_below HZ0.out.2.2.1 HJe.out.B
       have ht1 := cell_below HZ0.out.2.2.2 HJe.out.B
       have hc15 := HJe.out.c15
       have hal := alone_calls V AG cG ch (some ⟨gi, 0, none⟩) ci (inn1.set al.toNat false) wD (Kd.C_below HCH.out HJe.out.B) HSC.out (Kd.R_reads' (show Kd.R Kd.bool 4 wD w0.heap.size (fun _ => True) (.slice (some ⟨gi, 0, none⟩) (inn1.set al.toNat false).length ci) (inn1.set al.toNat false) by rw [HJe.out.l2]; exact HJe.out.o2)).2.2 (by have h := (Kd.R_reads' HJe.out.o2).2.1; rw [HJe.out.l2]; exact h) (by rw [HJe.out.l2]; exact HCHI.out) (Nat.le_trans HSZ.out.1 (by decide))
       rw [HJe.out.l2] at hal
       have HAL2 := Aside0.mk hal
       clear hal
       go_wp2_with (first | (go_at_call 49; (with_reducible refine HAL2.out.mono ?_); rintro e wE ⟨rfl, hB⟩; have HJf := Aside0.mk (HJe.out.step hB); have hbf : wE.heap[b']? = some (.cells #[.int .i64 al] 3 (0, 0)) := blk_grown HBK2.out (grown_of_below hB none) (by simp); have HBF := Aside0.mk hbf; have hbc : wE.cell? ⟨b', 0, none⟩ = some (.int .i64 al) := (blk_cell hbf 0).trans rfl; have hbz := blk_frozen hbf 0; clear hB hbf))
       have HJg := Aside0.mk (HJf.out.far b' (.int .i64 (alone (inn1.set al.toNat false) ch)) HD2.out)
       have HBg := Aside0.mk (show (wE.setCell ⟨b', 0, none⟩ (.int .i64 (alone (inn1.set al.toNat false) ch))).heap[b']? = some (.cells #[.int .i64 (alone (inn1.set al.toNat false) ch)] 3 (0, 0)) by simpa using blk_set HBF.out 0 (.int .i64 (alone (inn1.set al.toNat false) ch)))
       go_roundg gk
       case measure => exact Nat.lt_succ_self _
       case rel =>
        exact ⟨b', o3, inn1.set al.toNat false, rfl, HGO2, HJg, HBg, ⟨HD2.out.1, HD2.out.2.1, HD2.out.2.2.1, HD2.out.2.2.2.1⟩⟩
end Go.Proofs.Ytkifipakikbhcaa.Hand
namespace Go.Proofs.Ytkifipakikbhcaa.Hand
open Go.Proofs.Ytkifipakikbhcaa.Ref
open Go.Proofs.Ytkifipakikbhcaa.Pg (peel_set.f)
open Go.Proofs.Ytkifipakikbhcaa.Pm (peel_Graph.f)
open Go.RowKit Go.Proofs.YtkifipakikbhcaaW.PrintWords Go.Proofs.YtkifipakikbhcaaW.PrintLast Go.Proofs.YtkifipakikbhcaaW.PrintMore
theorem peelMain_small {F : Fd} {V : Int} {ch rows : List (List Int)} {wd er : List Int} {r : List Int × List Int × Int} (h : peelMain F V ch rows wd er = some r) : wd.length ≤ 256 := by
 unfold peelMain at h
 obtain ⟨inn, hmask, h⟩ := Option.bind_eq_some_iff.1 h
 split at h
 ·rename_i hc; exact hc.2.2.2.2.1
 ·exact absurd h (by simp)
def peel_Ok.f (P M : Int) (md : List Int) (cols : Int) (rows : List (List Int)) (wd er : List Int) : Option (List Int × List Int × Int) :=
 (peel_Graph.f 4096 P M md cols rows).bind fun t => if t.2.2 = 0 then (newO P M md).bind fun o => o.bind fun x => if (wd.length : Int) = cols then (if (wd.any fun y => !isB x.1 y) = true then none else (peel_set.f 4096 er cols).bind fun b => if b = true then peelMain ⟨P, M, md, x.1, x.2.1, x.2.2⟩ t.1 t.2.1 rows wd er else none) else none else none
theorem peel_Ok.calls (P M : Int) (A0 : Option Addr) (c0 : Nat) (md : List Int) (cols : Int) (A1 : Option Addr) (c1 : Nat) (rows : List (List Int)) (A2 : Option Addr) (c2 : Nat) (wd : List Int) (A3 : Option Addr) (c3 : Nat) (er : List Int) (r1 r2 : List Int) (r3 : Int) (w : World)
  (hr0 : Kd.C (Kd.int .i64) w A0 md.length md) (hc0 : md.length ≤ c0) (hr1 : Kd.C (Kd.slice 3 (Kd.int .i64)) w A1 rows.length rows) (hc1 : rows.length ≤ c1) (hr2 : Kd.C (Kd.int .i64) w A2 wd.length wd) (hc2 : wd.length ≤ c2) (hr3 : Kd.C (Kd.int .i64) w A3 er.length er) (hc3 : er.length ≤ c3) (h : peel_Ok.f P M md cols rows wd er = some (r1, r2, r3)) :
  Calls Try.prog 30 #[.agg #[.int .i64 P, .int .i64 M, .slice A0 md.length c0], .agg #[.int .i64 cols, .slice A1 rows.length c1], .slice A2 wd.length c2, .slice A3 er.length c3] w fun e w' => ∃ v1 v2 : Value, e = .returned (.tuple #[v1, v2, .int .i64 r3]) ∧ Kd.R (Kd.int .i64) 3 w' w.heap.size (fun _ => True) v1 r1 ∧ Kd.R (Kd.int .i64) 3 w' w.heap.size (fun _ => True) v2 r2 ∧ Below w.heap.size w w' := by
 unfold peel_Ok.f at h
 obtain ⟨⟨V, ch, ge⟩, hg, h⟩ := Option.bind_eq_some_iff.1 h
 simp only at h
 split at h
 ·rename_i hge
  subst hge
  obtain ⟨o, hn, h⟩ := Option.bind_eq_some_iff.1 h
  obtain ⟨⟨q, ex, lg⟩, ho, h⟩ := Option.bind_eq_some_iff.1 h
  subst ho
  have h : (if (wd.length : Int) = cols then (if (wd.any fun y => !isB q y) = true then none else (peel_set.f 4096 er cols).bind fun b => if b = true then peelMain ⟨P, M, md, q, ex, lg⟩ V ch rows wd er else none) else none) = some (r1, r2, r3) := h
  by_cases hw : (wd.length : Int) = cols
  ·rw [if_pos hw] at h
   cases hany : wd.any (fun y => !isB q y) with
   | true => rw [if_pos hany] at h; exact absurd h (by simp)
   | false =>
    rw [if_neg (by simp [hany])] at h
    obtain ⟨b, hset, h⟩ := Option.bind_eq_some_iff.1 h
    cases b with
    | true =>
     rw [if_pos rfl] at h
     exact peel_ok P M A0 c0 md cols A1 c1 rows A2 c2 wd A3 c3 er w hr0 hc0 hr1 hc1 hr2 hc2 hr3 hc3 V ch hg q ex lg hn hw (Nat.le_trans (peelMain_small h) (by decide)) hany hset r1 r2 r3 h
    | false => rw [if_neg (by simp)] at h; exact absurd h (by simp)
  ·rw [if_neg hw] at h; exact absurd h (by simp)
 ·exact absurd h (by simp)
end Go.Proofs.Ytkifipakikbhcaa.Hand
