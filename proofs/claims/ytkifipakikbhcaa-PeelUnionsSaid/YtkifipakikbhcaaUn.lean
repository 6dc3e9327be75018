/- PeelUnions: for every graph and every three sets of bits the law answers true: the union of two stopping sets is one, and lies in the greatest one of every set around it. No condition. -/
import Derived.Test.YtkifipakikbhcaaUn6
namespace Go.Proofs.Ytkifipakikbhcaa.peelUnions
open Go.ChangeShapes Go.WideShapes Go.ChangeAt Go.RowKit
open Go.Proofs.Ytkifipakikbhcaa.Hand (own laidOut rows_C ints_C open_arr2 open_arr3 open_graph open_matrix open_field int_of)
set_option linter.unusedVariables false
set_option maxRecDepth 100000 in
theorem lifted (os : Os) (started : os.Started) (H : Type) (enc : TypeId × Value → H) :
    ReturnsInHanded {} Try.checked os 8 .any (Rows.peelUnionsSpec.pre6 enc Try.prog Try.f8 Rows.peelUnionsRow.domain false) (Rows.peelUnionsSpec.post enc Try.prog Try.f8 false true false false) := by
  refine returnsInHanded_of_change (C := Try.checked) own started (by kernel_rfl) Try.func8
    (ChangeSpec.witness6 (enc := enc) (C := Try.checked) false ⟨#[], #[.agg #[.int .i64 0, .slice none 0 0], .agg #[.int .u32 0, .int .u32 0, .int .u32 0]], []⟩ 8 (by kernel_rfl) (by kernel_rfl) (by kernel_rfl) (by kernel_rfl)) ?_
  intro W base args ds gs before hval0 hW hcnd _
  have hval : ∀ (j : Nat) t v, Try.f8.params[j]? = some t → args[j]? = some v → Value.okWide Try.prog W .any base t v := hval0
  have hW' := hW
  obtain ⟨p, q, hA0, hV, rfl, hfz, hnd⟩ := hW
  have hA : DataW.TrodAll enc Try.prog W 0 (fun _ => true) true Try.f8.params.toList args.toList ds p := hA0
  rw [Try.params8] at hA hval
  obtain ⟨v0, vs0, d0, ds0, p0, q0, hargs, rfl, rfl, h0, r0⟩ := trodAll_cons hA
  obtain ⟨v1, vs1, d1, ds1, p1, q1, rfl, rfl, rfl, h1, r1⟩ := trodAll_cons r0
  obtain ⟨rfl, rfl, rfl⟩ := trodAll_nil r1
  obtain rfl : args = #[v0, v1] := by cases args; simp_all
  obtain ⟨rfl, rfl⟩ := trodVars_none hV
  have k0 := h0
  have lt0 : ∀ x ∈ p0, x.block < W.heap.size := by obtain ⟨m, hm⟩ := k0; exact DataW.trod_lt m _ _ _ hm
  have k1 := h1
  have lt1 : ∀ x ∈ p1, x.block < W.heap.size := by obtain ⟨m, hm⟩ := k1; exact DataW.trod_lt m _ _ _ hm
  obtain ⟨g0, A0, c0, l0, rfl, hc0, _, hC0⟩ := open_graph (hval 0 31 v0 rfl rfl) h0
  obtain ⟨e0, e1, e2, y0, y1, y2, m, rfl, g0_, g1_, g2_⟩ := open_arr3 Try.underlying58 (by kernel_rfl) (by kernel_rfl) (hval 1 58 v1 rfl rfl) h1
  obtain ⟨b0, rfl⟩ := int_of Try.underlying57 g0_
  obtain ⟨b1, rfl⟩ := int_of Try.underlying57 g1_
  obtain ⟨b2, rfl⟩ := int_of Try.underlying57 g2_
  clear hA0 hval0
  refine (Lc.codewrightlaw44_PeelUnions.calls 2000 g0 A0 c0 l0 b0 b1 b2 true rfl W hC0 hc0 (Hand.unions_pure g0 l0 b0 b1 b2)).mono fun e W' ⟨he, bel⟩ => ?_
  subst he
  exact ⟨_, rfl, _, _, _, [], _, [], hW', trodAll_mk1 (shut_bool Try.underlying4 _), (trodAll_cons_mk (Below.trod laidOut (by kernel_rfl) (of_decide_eq_true (by kernel_rfl)) k0 bel lt0) (trodAll_cons_mk (Below.trod laidOut (by kernel_rfl) (of_decide_eq_true (by kernel_rfl)) k1 bel lt1) trodAll_mk0)), rfl, bel.frame _, fun h => by cases h⟩
theorem over : Rows.peelUnionsRow.holds Try.pinned (OpenSpec.ofChange Rows.peelUnionsSpec) :=
  OpenClaim.holds_of_wide 8 Try.f8 rfl rfl rfl rfl rfl rfl rfl ⟨rfl, rfl, rfl, rfl, rfl⟩ rfl rfl rfl rfl rfl (by kernel_rfl) Try.func8 (by kernel_rfl)
    (of_decide_eq_true (by kernel_rfl)) (by unfold Func.isWrapper; first | (rw [if_pos (by decide +kernel)]; kernel_rfl) | (rw [if_neg (by decide +kernel)]; exact ⟨rfl, rfl⟩))
    (fun os started H enc _ => lifted os started H enc)
theorem proved : Rows.PeelUnionsSaid := over
#print axioms proved
end Go.Proofs.Ytkifipakikbhcaa.peelUnions
namespace Go.Proofs.Ytkifipakikbhcaa
/-- The row, under a short name, for the claim. -/
theorem peelUnions_holds : Rows.PeelUnionsSaid := peelUnions.proved
end Go.Proofs.Ytkifipakikbhcaa
