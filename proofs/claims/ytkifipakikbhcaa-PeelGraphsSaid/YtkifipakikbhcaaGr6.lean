/- Part 6 of the claim: what the law reaches, walked (merged by slim.py out of the texts in wip). -/
import Derived.Test.YtkifipakikbhcaaGr5
import Derived.Below
import Derived.ChangeOld
import Derived.Deep.Matrix
import Derived.Laws.IdiomArrays
import Derived.Lib.SmallJoins
import Derived.OpenShut
import Derived.ProofKit
import Derived.ShutString
import Derived.SizedLaws
import Derived.Test.YtkifipakikbhcaaRows
import Derived.WalkKit
set_option maxHeartbeats 8000000
set_option maxRecDepth 100000
set_option linter.unusedSimpArgs false
set_option linter.unusedVariables false
namespace Go.Proofs.Ytkifipakikbhcaa.Hand
open Ytkifipakikbhcaa.Ref
open Ytkifipakikbhcaa.Pg (peel_set.f peel_mask.f peel_left.f)
open Ytkifipakikbhcaa.Pm (peel_Graph.f peel_Graph.j0 peel_Graph.l0 peel_Graph.l1)
open Go.RowKit YtkifipakikbhcaaW.PrintWords YtkifipakikbhcaaW.PrintLast YtkifipakikbhcaaW.PrintMore
def marks (r : List Int) : List Bool := r.map fun x => decide (x ≠ 0)
def supp (r : List Int) : List Int := leftR (marks r) 0
theorem marks_length (r : List Int) : (marks r).length = r.length := by unfold marks; simp
theorem graph_l1 (r : List Int) (rows : List (List Int)) (V : Int) (n : Int) (i : Nat) (out : List (List Int)) (hr : r.length ≤ 1000) (ho : out.length ≤ 1000) (hi : i ≤ 1000) : ∀ (d k j : Nat) (acc : List Int), d = r.length - j → j ≤ r.length → d < k → acc.length ≤ j →
  peel_Graph.l1 k acc rows n (i : Int) r (r.length : Int) (j : Int) V out = peel_Graph.l0 (k - d - 1) rows n ((i + 1 : Nat) : Int) V (out ++ [acc ++ leftR ((marks r).drop j) j]) := by
 intro d
 induction d with
 | zero =>
  intro k j acc hd hj hk ha
  obtain ⟨k, rfl⟩ : ∃ k', k = k' + 1 := ⟨k - 1, by omega⟩
  have e : j = r.length := by omega
  rw [peel_Graph.l1, if_neg (by omega), if_pos (by omega), w64_succ (n := 1001) (by omega) (by omega), e, ← marks_length r, List.drop_length, leftR, List.append_nil]
  rfl
 | succ d ih =>
  intro k j acc hd hj hk ha
  obtain ⟨k, rfl⟩ : ∃ k', k = k' + 1 := ⟨k - 1, by omega⟩
  have hlt : j < r.length := by omega
  have hm : (marks r).drop j = decide (rd r (j : Int) ≠ 0) :: (marks r).drop (j + 1) := by
   unfold marks
   rw [← List.map_drop, rd_drop hlt, List.map_cons, List.map_drop]
  rw [peel_Graph.l1, if_pos (by omega), if_pos (by omega), if_pos (by omega), hm, leftR, w64_succ (n := 1001) (by omega) (by omega), show k + 1 - (d + 1) - 1 = k - d - 1 by omega]
  by_cases h0 : rd r (j : Int) = 0
  ·rw [if_pos h0, if_neg (by simp [h0])]
   exact ih k (j + 1) acc (by omega) (by omega) (by omega) (by omega)
  ·rw [if_neg h0, if_pos (by omega), if_pos (by simp [h0])]
   have := ih k (j + 1) (acc ++ [(j : Int)]) (by omega) (by omega) (by omega) (by simp; omega)
   rw [this]
   congr 2
   simp
theorem graph_l0 (rows : List (List Int)) (V : Int) (c : Nat) (hr : rows.length ≤ 1000) (hc : c ≤ 1000) (hl : ∀ r ∈ rows, r.length = c) : ∀ (d k i : Nat) (out : List (List Int)), d = rows.length - i → i ≤ rows.length → d * (c + 2) < k → out.length = i →
  peel_Graph.l0 k rows (rows.length : Int) (i : Int) V out = some (V, out ++ (rows.drop i).map supp, 0) := by
 intro d
 induction d with
 | zero =>
  intro k i out hd hi hk ho
  obtain ⟨k, rfl⟩ : ∃ k', k = k' + 1 := ⟨k - 1, by omega⟩
  rw [peel_Graph.l0, if_neg (by omega), show i = rows.length by omega, List.drop_length, List.map_nil, List.append_nil]
 | succ d ih =>
  intro k i out hd hi hk ho
  obtain ⟨k, rfl⟩ : ∃ k', k = k' + 1 := ⟨k - 1, by omega⟩
  have hlt : i < rows.length := by omega
  have hln := hl _ (rd_memRow (l := rows) (i := (i : Int)) (by omega) (by omega))
  rw [Nat.succ_mul] at hk
  have e1 : peel_Graph.l1 k [] rows (rows.length : Int) (i : Int) (Pm.rd_L1 rows (i : Int)) ((Pm.rd_L1 rows (i : Int)).length : Int) 0 V out = _ := graph_l1 (rd_L1 rows (i : Int)) rows V (rows.length : Int) i out (by omega) (by omega) (by omega) (rd_L1 rows (i : Int)).length k 0 [] (by omega) (by omega) (by omega) (by simp)
  rw [peel_Graph.l0, if_pos (by omega), if_pos (by omega), if_pos (by omega), e1, ih _ (i + 1) _ (by omega) (by omega) (by omega) (by simp [ho]), rows_drop hlt, List.map_cons, List.drop_zero, List.nil_append]
  simp [supp]
theorem supp_len {r : List Int} {c : Nat} (h : r.length = c) : (supp r).length ≤ c := by
 unfold supp; rw [leftR_length, ← h, ← marks_length r]; exact List.count_le_length
section
variable {P M : Int} {md : List Int} {q : Nat} {ex lg : List Int}
end
end Go.Proofs.Ytkifipakikbhcaa.Hand
namespace Go.Proofs.Ytkifipakikbhcaa.Hand
open Ytkifipakikbhcaa.Ref
open Go.RowKit YtkifipakikbhcaaW.PrintWords YtkifipakikbhcaaW.PrintLast YtkifipakikbhcaaW.PrintMore
theorem support_l0 (r : List Int) (hr : r.length ≤ 1000) : ∀ (d k j : Nat) (acc : List Int), d = r.length - j → j ≤ r.length → d < k → acc.length ≤ j →
  r44_Support.l0 k r acc (j : Int) = some (acc ++ leftR ((marks r).drop j) j) := by
 intro d
 induction d with
 | zero =>
  intro k j acc hd hj hk ha
  obtain ⟨k, rfl⟩ : ∃ k', k = k' + 1 := ⟨k - 1, by omega⟩
  have e : j = r.length := by omega
  rw [r44_Support.l0, if_neg (by omega), e, ← marks_length r, List.drop_length, leftR, List.append_nil]
 | succ d ih =>
  intro k j acc hd hj hk ha
  obtain ⟨k, rfl⟩ : ∃ k', k = k' + 1 := ⟨k - 1, by omega⟩
  have hlt : j < r.length := by omega
  have hm : (marks r).drop j = decide (rd r (j : Int) ≠ 0) :: (marks r).drop (j + 1) := by
   unfold marks
   rw [← List.map_drop, rd_drop hlt, List.map_cons, List.map_drop]
  rw [r44_Support.l0, if_pos (by omega), if_pos (by omega), hm, leftR, w64_succ (n := 1001) (by omega) (by omega)]
  by_cases h0 : rd r (j : Int) = 0
  ·rw [if_pos h0, if_neg (by simp [h0])]
   exact ih k (j + 1) acc (by omega) (by omega) (by omega) (by omega)
  ·rw [if_neg h0, if_pos (by omega), if_pos (by simp [h0]), ih k (j + 1) (acc ++ [(j : Int)]) (by omega) (by omega) (by omega) (by simp; omega)]
   simp
theorem support_f {r : List Int} {k : Nat} (hr : r.length ≤ 1000) (hk : r.length < k) : r44_Support.f k r = some (supp r) := by
 have := support_l0 r hr r.length k 0 [] (by omega) (by omega) hk (by simp)
 rw [List.drop_zero, List.nil_append] at this
 exact this
theorem rgraph_l0 (rows : List (List Int)) (V : Int) (hr : rows.length ≤ 1000) (hl : ∀ r ∈ rows, r.length ≤ 1000) : ∀ (d k i : Nat) (out : List (List Int)), d = rows.length - i → i ≤ rows.length → d + 1001 < k → out.length = i →
  r44_Graph.l0 k (i : Int) V rows V out = some (V, out ++ (rows.drop i).map supp, 0) := by
 intro d
 induction d with
 | zero =>
  intro k i out hd hi hk ho
  obtain ⟨k, rfl⟩ : ∃ k', k = k' + 1 := ⟨k - 1, by omega⟩
  rw [r44_Graph.l0, if_neg (by omega), show i = rows.length by omega, List.drop_length, List.map_nil, List.append_nil]
 | succ d ih =>
  intro k i out hd hi hk ho
  obtain ⟨k, rfl⟩ : ∃ k', k = k' + 1 := ⟨k - 1, by omega⟩
  have hlt : i < rows.length := by omega
  have hln := hl _ (rd_memRow (l := rows) (i := (i : Int)) (by omega) (by omega))
  rw [r44_Graph.l0, if_pos (by omega), if_pos (by omega), support_f (by omega) (by omega), Option.bind_some, if_pos (by omega), w64_succ (n := 1001) (by omega) (by omega), ih k (i + 1) _ (by omega) (by omega) (by omega) (by simp [ho]), rows_drop hlt, List.map_cons]
  simp
theorem rgraph_f {P M : Int} {md : List Int} {cols : Int} {rows : List (List Int)} {k : Nat} {e : Int} (hk : 3000 ≤ k) (h : r9_Check.f k P M md cols rows = some e) (hr : rows.length ≤ 1000) (hl : ∀ r ∈ rows, r.length ≤ 1000) :
  r44_Graph.f k P M md cols rows = some (if e = 0 then (if cols < 1 ∨ cols > 64 then (0, [], 4) else (cols, rows.map supp, 0)) else (0, [], e)) := by
 obtain ⟨k, rfl⟩ : ∃ k', k = k' + 1 := ⟨k - 1, by omega⟩
 unfold r44_Graph.f
 rw [h, Option.bind_some]
 by_cases h0 : e = 0
 ·rw [if_pos h0, if_pos h0]
  by_cases h1 : cols < 1
  ·rw [if_pos h1, if_pos (Or.inl h1), r44_Graph.j0, if_pos rfl]
  ·rw [if_neg h1, r44_Graph.j0]
   by_cases h2 : cols > 64
   ·rw [if_pos (det h2), if_pos (Or.inr h2)]
   ·rw [if_neg (by simp; omega), if_neg (by omega)]
    have := rgraph_l0 rows cols hr hl rows.length k 0 [] (by omega) (by omega) (by omega) rfl
    rw [List.drop_zero, List.nil_append] at this
    exact this
 ·rw [if_neg h0, if_neg h0]
end Go.Proofs.Ytkifipakikbhcaa.Hand
namespace Go.Proofs.Ytkifipakikbhcaa.Hand
open Ytkifipakikbhcaa.Ref
open Ytkifipakikbhcaa.Pm (peel_Graph.f peel_Graph.j0 peel_Graph.l0 peel_Graph.l1)
open Go.RowKit YtkifipakikbhcaaW.PrintWords YtkifipakikbhcaaW.PrintLast YtkifipakikbhcaaW.PrintMore
theorem check9_all (P M : Int) (md : List Int) (cols : Int) (rows : List (List Int)) {k : Nat} (hk : 6000 ≤ k) (hr : rows.length ≤ 1000) (hr2 : ∀ l ∈ rows, l.length ≤ 1000) :
  ∃ e, r9_Check.f k P M md cols rows = some e ∧ matrix_Check.f P M md cols rows = some e ∧ (e = 0 → 0 ≤ cols ∧ cols ≤ 256 ∧ rows.length ≤ 256 ∧ (∀ r ∈ rows, (r.length : Int) = cols) ∧ ∃ (m q : Nat) (ex lg : List Int) (g : Int), M = m ∧ Fl P m md q ex lg g ∧ ∀ r ∈ rows, ∀ x ∈ r, El (q : Int) x) := by
 rcases fld_all P M md with ⟨m, q, ex, lg, g, rfl, F⟩ | ⟨h1, h2⟩
 ·have hm : matrix_Check.f P (m : Int) md cols rows = some (checkM (q : Int) cols rows) := by
   unfold matrix_Check.f
   rw [F.make]; rfl
  have hent : ∀ {l : List Int}, entR (q : Int) l = 0 → ∀ x ∈ l, El (q : Int) x := by
   intro l
   induction l with
   | nil => exact fun _ x hx => by cases hx
   | cons y l ih =>
    intro h x hx
    rw [entR] at h
    split at h
    ·rename_i hy
     rcases List.mem_cons.1 hx with rfl | hx
     ·exact hy
     ·exact ih h x hx
    ·cases h
  have hentM : ∀ {rs : List (List Int)}, entM (q : Int) rs = 0 → ∀ r ∈ rs, ∀ x ∈ r, El (q : Int) x := by
   intro rs
   induction rs with
   | nil => exact fun _ r hr => by cases hr
   | cons y l ih =>
    intro h r hr
    rw [entM] at h
    split at h
    ·rename_i hy
     rcases List.mem_cons.1 hr with rfl | hr
     ·exact hent hy
     ·exact ih h r hr
    ·rename_i hy; exact absurd h hy
  refine ⟨checkM (q : Int) cols rows, ?_, hm, fun h0 => ?_⟩
  ·unfold r9_Check.f checkM
   rw [F.chk k (by omega), Option.bind_some, if_pos rfl]
   obtain ⟨k, rfl⟩ : ∃ k', k = k' + 1 := ⟨k - 1, by omega⟩
   by_cases h1 : cols < 0
   ·rw [if_pos h1, r9_Check.j0, if_pos rfl, if_pos (Or.inl h1)]
   rw [if_neg h1]
   by_cases h2 : cols > 256
   ·rw [if_pos h2, r9_Check.j0, if_pos rfl, if_pos (Or.inr (Or.inl h2))]
   rw [if_neg h2, r9_Check.j0]
   by_cases h3 : (rows.length : Int) > 256
   ·rw [if_pos (det h3), if_pos (Or.inr (Or.inr h3))]
   ·rw [if_neg (by simpa using h3), if_neg (by omega)]
    have := check9_l0 (cols := cols) F.ord rows (by omega) hr2 rows.length k 0 (by omega) (by omega) (by omega)
    rw [List.drop_zero] at this
    exact this
  ·unfold checkM at h0
   split at h0
   ·cases h0
   ·rename_i hh
    split at h0
    ·rename_i hl
     exact ⟨by omega, by omega, by omega, fun r hr => lenR_mem hl hr, m, q, ex, lg, g, rfl, F, hentM h0⟩
    ·cases h0
 ·refine ⟨1, ?_, ?_, by simp⟩
  ·unfold r9_Check.f
   rw [h2 k (by omega), Option.bind_some, if_neg (by simp)]
  ·unfold matrix_Check.f
   rw [h1]; rfl
theorem graph_all {P M : Int} {md : List Int} {cols : Int} {rows : List (List Int)} {k : Nat} {e : Int} (hk : 30000 ≤ k) (h : matrix_Check.f P M md cols rows = some e) (hr : rows.length ≤ 300) (hl : e = 0 → ∀ r ∈ rows, (r.length : Int) = cols) :
  peel_Graph.f k P M md cols rows = some (if e = 0 then (if cols < 1 ∨ cols > 64 then (0, [], 4) else (cols, rows.map supp, 0)) else (0, [], e)) := by
 obtain ⟨k, rfl⟩ : ∃ k', k = k' + 1 := ⟨k - 1, by omega⟩
 unfold peel_Graph.f
 rw [h, Option.bind_some]
 by_cases h0 : e = 0
 ·rw [if_pos h0, if_pos h0]
  by_cases h1 : cols < 1
  ·rw [if_pos h1, if_pos (Or.inl h1), peel_Graph.j0, if_pos rfl]
  ·rw [if_neg h1, peel_Graph.j0]
   by_cases h2 : cols > 64
   ·rw [if_pos (det h2), if_pos (Or.inr h2)]
   ·rw [if_neg (by simpa using h2), if_neg (by omega)]
    obtain ⟨c, rfl⟩ := Int.eq_ofNat_of_zero_le (show 0 ≤ cols by omega)
    have hb : rows.length * (c + 2) ≤ 300 * 66 := Nat.mul_le_mul hr (by omega)
    have := graph_l0 rows (c : Int) c (by omega) (by omega) (fun r hr => by have := hl h0 r hr; omega) rows.length k 0 [] (by omega) (by omega) (by omega) rfl
    rw [List.drop_zero, List.nil_append] at this
    exact this
 ·rw [if_neg h0, if_neg h0]
theorem same_l0 (l : List Int) (hl : l.length ≤ 1000000) : ∀ (d k i : Nat), d = l.length - i → i ≤ l.length → d < k → r9_SameInts.l0 k l l (i : Int) = some true := by
 intro d
 induction d with
 | zero =>
  intro k i hd hi hk
  obtain ⟨k, rfl⟩ : ∃ k', k = k' + 1 := ⟨k - 1, by omega⟩
  rw [r9_SameInts.l0, if_neg (by omega)]
 | succ d ih =>
  intro k i hd hi hk
  obtain ⟨k, rfl⟩ : ∃ k', k = k' + 1 := ⟨k - 1, by omega⟩
  rw [r9_SameInts.l0, if_pos (by omega), if_pos (by omega), if_pos (by omega), if_pos rfl, w64_succ (n := 1000000) (by omega) (by omega)]
  exact ih k (i + 1) (by omega) (by omega) (by omega)
theorem same_f {l : List Int} {k : Nat} (hl : l.length ≤ 1000000) (hk : l.length < k) : r9_SameInts.f k l l = some true := by
 unfold r9_SameInts.f
 rw [if_pos rfl]
 exact same_l0 l hl l.length k 0 (by omega) (by omega) (by omega)
theorem sameRows_l0 (l : List (List Int)) (hl : l.length ≤ 1000) (hr : ∀ r ∈ l, r.length ≤ 1000) : ∀ (d k i : Nat), d = l.length - i → i ≤ l.length → d + 1001 < k → r9_SameRows.l0 k l l (i : Int) = some true := by
 intro d
 induction d with
 | zero =>
  intro k i hd hi hk
  obtain ⟨k, rfl⟩ : ∃ k', k = k' + 1 := ⟨k - 1, by omega⟩
  rw [r9_SameRows.l0, if_neg (by omega)]
 | succ d ih =>
  intro k i hd hi hk
  obtain ⟨k, rfl⟩ : ∃ k', k = k' + 1 := ⟨k - 1, by omega⟩
  have hln := hr _ (rd_memRow (l := l) (i := (i : Int)) (by omega) (by omega))
  rw [r9_SameRows.l0, if_pos (by omega), if_pos (by omega), if_pos (by omega), same_f (by omega) (by omega), Option.bind_some, if_pos rfl, w64_succ (n := 1000) (by omega) (by omega)]
  exact ih k (i + 1) (by omega) (by omega) (by omega)
theorem sameG_f {V : Int} {l : List (List Int)} {k : Nat} (hl : l.length ≤ 1000) (hr : ∀ r ∈ l, r.length ≤ 1000) (hk : 3000 ≤ k) : r44_Same.f k V l V l = some true := by
 unfold r44_Same.f r9_SameRows.f
 have := sameRows_l0 l hl hr l.length k 0 (by omega) (by omega) (by omega)
 have h2 : r9_SameRows.l0 k l l 0 = some true := this
 rw [if_pos rfl, if_pos rfl, h2]; rfl
end Go.Proofs.Ytkifipakikbhcaa.Hand
namespace Go.Proofs.Ytkifipakikbhcaa.Hand
open Ytkifipakikbhcaa.Ref
open Ytkifipakikbhcaa.Pm (peel_Graph.f)
open Ytkifipakikbhcaa.Lb (l44_PeelGraphs.f l44_PeelGraphs.j0)
open Go.RowKit YtkifipakikbhcaaW.PrintWords YtkifipakikbhcaaW.PrintLast YtkifipakikbhcaaW.PrintMore
theorem graphs_pure (P M : Int) (md : List Int) (cols : Int) (rows : List (List Int)) : l44_PeelGraphs.f 40000 P M md cols rows = some true := by
 have haw : ∀ (b : Bool), b = true → l44_PeelGraphs.j0 40000 b P M md cols rows = some true := by
  intro b hb
  rw [l44_PeelGraphs.j0, if_pos hb]; rfl
 unfold l44_PeelGraphs.f
 rw [show l44_awake.f = some true from rfl, Option.bind_some, if_pos rfl]
 obtain ⟨b, hb, hfew⟩ := few_f cols rows 300 40000 (by omega) (by omega)
 rw [show ((300 : Nat) : Int) = 300 from rfl] at hb
 rw [hb, Option.bind_some]
 cases b with
 | false => exact haw _ rfl
 | true =>
  obtain ⟨f1, f2, f3⟩ := hfew rfl
  obtain ⟨e, h9, hm, h0⟩ := check9_all P M md cols rows (k := 39999) (by omega) (by omega) (fun l hl => by have := f3 l hl; omega)
  rw [l44_PeelGraphs.j0, if_neg (by simp), graph_all (by omega) hm f2 (fun h => (h0 h).2.2.2.1), Option.bind_some, rgraph_f (by omega) h9 (by omega) (fun r hr => by have := f3 r hr; omega), Option.bind_some, if_pos rfl]
  have hs : ∀ (V : Int) (l : List (List Int)), (l = [] ∨ l = rows.map supp) → r44_Same.f 39999 V l V l = some true := by
   intro V l hl
   refine sameG_f ?_ (fun r hr => ?_) (by omega)
   ·rcases hl with rfl | rfl
    ·simp
    ·rw [List.length_map]; omega
   ·rcases hl with rfl | rfl
    ·cases hr
    ·obtain ⟨x, hx, rfl⟩ := List.mem_map.1 hr
     have h1 := f3 x hx
     have h2 := supp_len (r := x) rfl
     omega
  by_cases e0 : e = 0
  ·simp only [if_pos e0]
   by_cases hc : cols < 1 ∨ cols > 64
   ·simp only [if_pos hc]
    rw [hs _ _ (Or.inl rfl)]; rfl
   ·simp only [if_neg hc]
    rw [hs _ _ (Or.inr rfl)]; rfl
  ·simp only [if_neg e0]
   rw [hs _ _ (Or.inl rfl)]; rfl
end Go.Proofs.Ytkifipakikbhcaa.Hand
namespace Go.Proofs.Ytkifipakikbhcaa.Hand
open Go.ChangeShapes Go.WideShapes Go.ChangeAt Go.RowKit
open Ytkifipakikbhcaa.Ref
open YtkifipakikbhcaaW.PrintWords YtkifipakikbhcaaW.PrintLast YtkifipakikbhcaaW.PrintMore
theorem own : ownKnob Try.prog.godebug = none := by kernel_rfl
theorem laidOut : laidOutB Try.prog = true := by kernel_rfl
section
variable {H : Type} {enc : TypeId × Value → H} {W : World}
theorem ints_C {fuel : Nat} {v : Value} {x : DataW H × List MemPlace} (h : DataW.trod enc Try.prog W 0 (fun _ => true) true fuel 22 [v] = some x) :
  ∃ (A : Option Addr) (c : Nat) (l : List Int), v = .slice A l.length c ∧ l.length ≤ c ∧ c ≤ maxLen ∧ Kd.C (Kd.int .i64) W A l.length l := by
 rcases Go.ChangeShapes.open_ints Try.underlying22 Try.underlying3 (by kernel_rfl) h with ⟨hcs, _⟩ | ⟨a, len, cap, zs, hcs, _, hl, hm, hz, _, hcell, _⟩
 ·exact ⟨none, 0, [], by simpa using hcs, Nat.le_refl _, Nat.zero_le _, Kd.C_nil _ _⟩
 ·simp only [if_true] at hz
  have hlen : (zs.take len).length = len := by rw [List.length_take]; omega
  refine ⟨some a, cap, zs.take len, by rw [hlen]; simpa using hcs, by omega, hm, ?_⟩
  refine Kd.C_of_reads (d := 0) ⟨rfl, by rw [hlen]; have := hm; unfold maxLen at this; omega, fun hp => ⟨a, rfl, fun j hj => ?_⟩⟩
  rw [hlen] at hj
  rw [hcell j (by omega)]
  simp [List.getD_eq_getElem?_getD, List.getElem?_take, hj]
theorem rows_C {fuel : Nat} {v : Value} {x : DataW H × List MemPlace} (h : DataW.trod enc Try.prog W 0 (fun _ => true) true fuel 25 [v] = some x) :
  ∃ (A : Option Addr) (c : Nat) (l : List (List Int)), v = .slice A l.length c ∧ l.length ≤ c ∧ c ≤ maxLen ∧ Kd.C (Kd.slice 3 (Kd.int .i64)) W A l.length l := by
 rcases Go.Deep.open_int_rows Try.underlying25 Try.underlying22 Try.underlying3 (by kernel_rfl) (by kernel_rfl) h with ⟨hcs, _⟩ | ⟨a, len, cap, A, L, C, Z, hcs, _, hl, hm, _, hr⟩
 ·exact ⟨none, 0, [], by simpa using hcs, Nat.le_refl _, Nat.zero_le _, Kd.C_nil _ _⟩
 ·have hlen : ((List.range len).map fun r => (Z r).take (L r)).length = len := by simp
  refine ⟨some a, cap, (List.range len).map fun r => (Z r).take (L r), by rw [hlen]; simpa using hcs, by omega, hm, rfl, by rw [hlen]; have := hm; unfold maxLen at this; omega, fun hp => ⟨a, rfl, fun j p hj => ?_⟩⟩
  have hj2 : j < len := by
   have := (List.getElem?_eq_some_iff.1 hj).1
   rw [hlen] at this; exact this
  have hp : p = (Z j).take (L j) := by
   rw [List.getElem?_map, List.getElem?_range hj2] at hj
   exact (osi hj).symm
  obtain ⟨hc, h1, h2, h3, h4, h5, h6⟩ := hr j (by omega)
  have hpl : p.length = L j := by rw [hp, List.length_take]; omega
  refine ⟨[.slice (A j) p.length (C j)], rfl, ⟨A j, C j, rfl, by omega, ?_⟩, ?_⟩
  ·refine Kd.C_of_reads (d := 0) ⟨rfl, by have := h2; unfold maxLen at this; omega, fun hp0 => ?_⟩
   cases hA : A j with
   | none => exact absurd (h5 hA) (by omega)
   | some a' =>
    refine ⟨a', rfl, fun i hi => ?_⟩
    rw [(h6 a' hA).2 i (by omega)]
    have hi2 : i < L j := by omega
    simp [hp, List.getD_eq_getElem?_getD, List.getElem?_take, hi2]
  ·intro i u hu
   have hi : i = 0 := by
    have := (List.getElem?_eq_some_iff.1 hu).1
    simp at this; exact this
   subst hi
   have hu : Value.slice (A j) p.length (C j) = u := by simpa using hu
   rw [← hu, hpl]
   have e : j * (Kd.slice 3 (Kd.int .i64)).sz + 0 = j := by show j * 1 + 0 = j; omega
   rw [e]; exact hc
end
end Go.Proofs.Ytkifipakikbhcaa.Hand
namespace Go.Proofs.Ytkifipakikbhcaa.Hand
open Go.ChangeShapes Go.WideShapes Go.ChangeAt Go.RowKit
open YtkifipakikbhcaaW.PrintWords YtkifipakikbhcaaW.PrintLast YtkifipakikbhcaaW.PrintMore
set_option maxRecDepth 100000
section
variable {H : Type} {enc : TypeId × Value → H} {W : World} {b0 : Nat} {d : DataW H} {p : List MemPlace} {v : Value}
theorem int_of {fuel : Nat} {c0 : Value} {y : DataW H × List MemPlace} {t : TypeId} {k : IntKind} (ht : Try.prog.underlying t = some (.int k)) (h : DataW.trod enc Try.prog W 0 (fun _ => true) true fuel t [c0] = some y) : ∃ a : Int, c0 = .int k a := by
 obtain ⟨a, e0, _, _⟩ := DataW.trod_int ht h
 exact ⟨a, by simpa using e0⟩
theorem open_matrix (hv : Value.okWide Try.prog W .any b0 27 v) (h : DataW.Trod enc Try.prog W 0 (fun _ => true) true 27 v d p) :
  ∃ (a : Int) (A : Option Addr) (c : Nat) (l : List (List Int)), v = .agg #[.int .i64 a, .slice A l.length c] ∧ l.length ≤ c ∧ c ≤ maxLen ∧ Kd.C (Kd.slice 3 (Kd.int .i64)) W A l.length l := by
 obtain ⟨c0, c1, y0, y1, m, rfl, _, _, hy0, hy1⟩ := Go.Joins.open_agg2 Try.underlying27 (by kernel_rfl) (by kernel_rfl) hv h
 obtain ⟨a, rfl⟩ := int_of Try.underlying3 hy0
 obtain ⟨A, c, l, rfl, hc, hm, hC⟩ := rows_C hy1
 exact ⟨a, A, c, l, rfl, hc, hm, hC⟩
theorem open_field (hv : Value.okWide Try.prog W .any b0 24 v) (h : DataW.Trod enc Try.prog W 0 (fun _ => true) true 24 v d p) :
  ∃ (P M : Int) (A : Option Addr) (c : Nat) (l : List Int), v = .agg #[.int .i64 P, .int .i64 M, .slice A l.length c] ∧ l.length ≤ c ∧ c ≤ maxLen ∧ Kd.C (Kd.int .i64) W A l.length l := by
 obtain ⟨c0, c1, c2, y0, y1, y2, m, rfl, _, _, hy0, hy1, hy2⟩ := Go.Joins.open_agg3 Try.underlying24 (by kernel_rfl) (by kernel_rfl) hv h
 obtain ⟨a, rfl⟩ := int_of Try.underlying3 hy0
 obtain ⟨b, rfl⟩ := int_of Try.underlying3 hy1
 obtain ⟨A, c, l, rfl, hc, hm, hC⟩ := ints_C hy2
 exact ⟨a, b, A, c, l, rfl, hc, hm, hC⟩
end
end Go.Proofs.Ytkifipakikbhcaa.Hand
