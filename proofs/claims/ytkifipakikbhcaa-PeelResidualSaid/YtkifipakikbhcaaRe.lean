/- PeelResidual: for every field, matrix, word and list the law answers true: the positions that are left are the greatest stopping set within the erased ones. No condition. -/
import Derived.Test.YtkifipakikbhcaaRe6
namespace Go.Proofs.Ytkifipakikbhcaa.peelResidual
open Go.ChangeShapes Go.WideShapes Go.ChangeAt Go.RowKit
open Go.Proofs.Ytkifipakikbhcaa.Hand (own laidOut rows_C ints_C open_arr2 open_arr3 open_graph open_matrix open_field int_of)
set_option linter.unusedVariables false
set_option maxRecDepth 100000 in
theorem lifted (os : Os) (started : os.Started) (H : Type) (enc : TypeId × Value → H) :
    ReturnsInHanded {} Try.checked os 6 .any (Rows.peelResidualSpec.pre6 enc Try.prog Try.f6 Rows.peelResidualRow.domain false) (Rows.peelResidualSpec.post enc Try.prog Try.f6 false true false false) := by
  refine returnsInHanded_of_change (C := Try.checked) own started (by kernel_rfl) Try.func6
    (ChangeSpec.witness6 (enc := enc) (C := Try.checked) false ⟨#[], #[.agg #[.int .i64 0, .int .i64 0, .slice none 0 0], .agg #[.int .i64 0, .slice none 0 0], .agg #[.slice none 0 0, .slice none 0 0]], []⟩ 8 (by kernel_rfl) (by kernel_rfl) (by kernel_rfl) (by kernel_rfl)) ?_
  intro W base args ds gs before hval0 hW hcnd _
  have hval : ∀ (j : Nat) t v, Try.f6.params[j]? = some t → args[j]? = some v → Value.okWide Try.prog W .any base t v := hval0
  have hW' := hW
  obtain ⟨p, q, hA0, hV, rfl, hfz, hnd⟩ := hW
  have hA : DataW.TrodAll enc Try.prog W 0 (fun _ => true) true Try.f6.params.toList args.toList ds p := hA0
  rw [Try.params6] at hA hval
  obtain ⟨v0, vs0, d0, ds0, p0, q0, hargs, rfl, rfl, h0, r0⟩ := trodAll_cons hA
  obtain ⟨v1, vs1, d1, ds1, p1, q1, rfl, rfl, rfl, h1, r1⟩ := trodAll_cons r0
  obtain ⟨v2, vs2, d2, ds2, p2, q2, rfl, rfl, rfl, h2, r2⟩ := trodAll_cons r1
  obtain ⟨rfl, rfl, rfl⟩ := trodAll_nil r2
  obtain rfl : args = #[v0, v1, v2] := by cases args; simp_all
  obtain ⟨rfl, rfl⟩ := trodVars_none hV
  have k0 := h0
  have lt0 : ∀ x ∈ p0, x.block < W.heap.size := by obtain ⟨m, hm⟩ := k0; exact DataW.trod_lt m _ _ _ hm
  have k1 := h1
  have lt1 : ∀ x ∈ p1, x.block < W.heap.size := by obtain ⟨m, hm⟩ := k1; exact DataW.trod_lt m _ _ _ hm
  have k2 := h2
  have lt2 : ∀ x ∈ p2, x.block < W.heap.size := by obtain ⟨m, hm⟩ := k2; exact DataW.trod_lt m _ _ _ hm
  obtain ⟨P0, M0, A0, c0, l0, rfl, hc0, hm0, hC0⟩ := open_field (hval 0 24 v0 rfl rfl) h0
  obtain ⟨g1, A1, c1, l1, rfl, hc1, _, hC1⟩ := open_matrix (hval 1 27 v1 rfl rfl) h1
  obtain ⟨e0, e1, y0, y1, m, rfl, g0_, g1_⟩ := open_arr2 Try.underlying48 (by kernel_rfl) (by kernel_rfl) (hval 2 48 v2 rfl rfl) h2
  obtain ⟨B0, q0_, w0, rfl, u0, _, U0⟩ := ints_C g0_
  obtain ⟨B1, q1_, w1, rfl, u1, _, U1⟩ := ints_C g1_
  clear hA0 hval0
  refine (Lc.l44_PeelResidual.calls 6000 P0 M0 A0 c0 l0 g1 A1 c1 l1 B0 q0_ w0 B1 q1_ w1 true rfl W hC0 hc0 hC1 hc1 U0 u0 U1 u1 (Hand.residual_pure P0 M0 l0 g1 l1 w0 w1)).mono fun e W' ⟨he, bel⟩ => ?_
  subst he
  exact ⟨_, rfl, _, _, _, [], _, [], hW', trodAll_mk1 (shut_bool Try.underlying4 _), (trodAll_cons_mk (Below.trod laidOut (by kernel_rfl) (of_decide_eq_true (by kernel_rfl)) k0 bel lt0) (trodAll_cons_mk (Below.trod laidOut (by kernel_rfl) (of_decide_eq_true (by kernel_rfl)) k1 bel lt1) (trodAll_cons_mk (Below.trod laidOut (by kernel_rfl) (of_decide_eq_true (by kernel_rfl)) k2 bel lt2) trodAll_mk0))), rfl, bel.frame _, fun h => by cases h⟩
theorem over : Rows.peelResidualRow.holds Try.pinned (OpenSpec.ofChange Rows.peelResidualSpec) :=
  OpenClaim.holds_of_wide 6 Try.f6 rfl rfl rfl rfl rfl rfl rfl ⟨rfl, rfl, rfl, rfl, rfl⟩ rfl rfl rfl rfl rfl (by kernel_rfl) Try.func6 (by kernel_rfl)
    (of_decide_eq_true (by kernel_rfl)) (by unfold Func.isWrapper; first | (rw [if_pos (by decide +kernel)]; kernel_rfl) | (rw [if_neg (by decide +kernel)]; exact ⟨rfl, rfl⟩))
    (fun os started H enc _ => lifted os started H enc)
theorem proved : Rows.PeelResidualSaid := over
#print axioms proved
end Go.Proofs.Ytkifipakikbhcaa.peelResidual
namespace Go.Proofs.Ytkifipakikbhcaa
/-- The row, under a short name, for the claim. -/
theorem peelResidual_holds : Rows.PeelResidualSaid := peelResidual.proved
end Go.Proofs.Ytkifipakikbhcaa
