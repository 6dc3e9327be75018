/- Part 5 of the claim: what the law reaches, walked (merged by slim.py out of the texts in wip). -/
import Derived.Test.YtkifipakikbhcaaGr4
import Derived.ArgAppend
import Derived.Below
import Derived.BigQuiet
import Derived.Deep.AppendLies
import Derived.Deep.CutBlock
import Derived.Deep.CutRange
import Derived.Deep.DeepCutAuto
import Derived.Deep.DrawnRows
import Derived.Deep.Draws
import Derived.Deep.LoopGhost
import Derived.Deep.OwnRows
import Derived.Deep.QuietTactic
import Derived.Deep.RegionHeld3
import Derived.KernelRfl
import Derived.Laws.BitsLemmas
import Derived.Laws.BytesArg
import Derived.Laws.IdiomCopy
import Derived.Laws.MakeOwn
import Derived.Laws.OwnMore
import Derived.Laws.Rows
import Derived.Laws.Slices
import Derived.Lib.AppendStr
import Derived.Lib.ConvBytes
import Derived.Maps.AppendAt
import Derived.OrdersHeld
import Derived.OwnWalk
import Derived.RowKit
import Derived.RowKit3
import Derived.Tactics
import Derived.Test.YtkifipakikbhcaaProg
import Derived.WalkKit
import Derived.WideLaws
set_option maxHeartbeats 8000000
set_option maxRecDepth 100000
set_option linter.unusedSimpArgs false
set_option linter.unusedVariables false
namespace Go.Proofs.Ytkifipakikbhcaa.Hand
open Ytkifipakikbhcaa.Ref
open Ytkifipakikbhcaa.Pg (peel_set.f peel_set.calls peel_mask.f peel_mask.calls peel_left.f peel_left.calls)
open Ytkifipakikbhcaa.Pm (peel_Graph.f peel_Graph.calls)
open Ytkifipakikbhcaa.Pc (slices_Contains_int_int.f slices_Contains_int_int.calls)
open Ytkifipakikbhcaa.Gf (IsS109 field_GF_Dot.f field_GF_Dot.calls field_GF_Div.f field_GF_Div.calls field_GF_Neg.f field_GF_Neg.calls)
open Go.RowKit YtkifipakikbhcaaW.PrintWords YtkifipakikbhcaaW.PrintLast YtkifipakikbhcaaW.PrintMore
attribute [local go_sem ↓] Go.wp_at_zero Go.wp_at_succ
theorem drawn0_below' {W W' : World} (h : Drawn0 W W') : Below W.heap.size W W' := by
 obtain ⟨n, rfl⟩ := h
 exact pbn (Below.refl _ _) n
theorem PJ.far {F : Fd} {w0 : World} {g b13 b15 go co gi ci n : Nat} {W : World} {out : List Int} {inn : List Bool} (h : PJ F w0 g b13 b15 go co gi ci n W out inn) (b : Nat) (u : Value) (hd : w0.heap.size ≤ b ∧ b ≠ g ∧ b ≠ go ∧ b ≠ gi ∧ b ≠ b13 ∧ b ≠ b15) : PJ F w0 g b13 b15 go co gi ci n (W.setCell ⟨b, 0, none⟩ u) out inn := by
 have hk := (KeepBut.refl W b none).set_ 0 u
 exact ⟨h.I.far (fun e => hd.2.1 e.symm) u, bst h.B hd.1, keep_cell hk h.c13 (fun e => hd.2.2.2.2.1 e.symm), keep_cell hk h.c15 (fun e => hd.2.2.2.2.2 e.symm), Kd.R_mono (Kd.R_keep (Kd.R_tight rfl h.o1) hk (fun k hk e => hd.2.2.1 (by rw [e] at hk; exact osi hk))) (fun _ _ => trivial), Kd.R_mono (Kd.R_keep (Kd.R_tight rfl h.o2) hk (fun k hk e => hd.2.2.2.1 (by rw [e] at hk; exact osi hk))) (fun _ _ => trivial), h.l1, h.l2, h.n1, h.n2, h.n3, h.n4, h.n5, h.n6, h.n7, h.n8, h.n9⟩
theorem fill_skip {F : Fd} {inn : List Bool} {i : Int} {out : List Int} {l : List Int} {ls rows : List (List Int)} {j : Nat} {o : List Int} (h : fillIn F inn i out (l :: ls) (rows.drop j) = some o) (hl : lone inn i l = false) : fillIn F inn i out ls (rows.drop (j + 1)) = some o := by
 rw [← List.tail_drop]
 cases hr : rows.drop j with
 | nil => rw [hr] at h; simp [fillIn] at h
 | cons r rs =>
  rw [hr, fillIn, if_neg (by simp [hl])] at h
  exact h
theorem closure66' {F : Fd} {w0 : World} {g b13 go co gi ci n : Nat} {W : World} {out : List Int} {inn : List Bool} (x i : Int) (b b15 : Nat) (h : PJ F w0 g b13 b15 go co gi ci n W out inn) (hb : W.heap[b]? = some (.cells #[.int .i64 i] 3 (0, 0))) (hx : 0 ≤ x ∧ x < (n : Int)) :
  Calls Try.prog 66 (#[.int .i64 x] ++ #[.pointer (some ⟨b, 0, none⟩), .pointer (some ⟨b15, 0, none⟩)]) W fun e W' => e = .returned (.bool (!decide (x = i) && inAt inn x)) ∧ (PJ F w0 g b13 b15 go co gi ci n W' out inn ∧ W'.heap[b]? = some (.cells #[.int .i64 i] 3 (0, 0))) := by
 refine (closure66 x i b b15 (some ⟨gi, 0, none⟩) ci inn W ((kce hb 0).trans rfl) (by rw [h.l2]; exact h.c15) (Kd.R_reads' (show Kd.R Kd.bool 4 W w0.heap.size (fun _ => True) (.slice (some ⟨gi, 0, none⟩) inn.length ci) inn by rw [h.l2]; exact h.o2)).2.2 hx.1 (by rw [h.l2]; exact hx.2)).mono ?_
 rintro e W' ⟨rfl, rfl⟩
 exact ⟨rfl, h, hb⟩
theorem aloneRow_lt (inn : List Bool) (n : Int) : ∀ (l : List Int) (only o : Int), aloneRow inn l only = some o → (∀ i ∈ l, i < n) → only < n → o < n
 | [], only, o, h, _, h2 => by rw [aloneRow] at h; have := osi h; omega
 | i :: l, only, o, h, h1, h2 => by
  rw [aloneRow] at h
  split at h
  ·split at h
   ·simp at h
   ·exact aloneRow_lt inn n l i o h (fun j hj => h1 j (List.mem_cons_of_mem _ hj)) (h1 i (List.mem_cons_self ..))
  ·exact aloneRow_lt inn n l only o h (fun j hj => h1 j (List.mem_cons_of_mem _ hj)) h2
theorem alone_lt (inn : List Bool) (n : Int) (hn : 0 ≤ n) : ∀ (ls : List (List Int)), (∀ l ∈ ls, ∀ i ∈ l, 0 ≤ i ∧ i < n) → alone inn ls < n
 | [], _ => by rw [alone]; omega
 | l :: ls, h => by
  have ih := alone_lt inn n hn ls (fun x hx => h x (List.mem_cons_of_mem _ hx))
  rw [alone]
  cases hr : aloneRow inn l (-1) with
  | none => exact ih
  | some o =>
   simp only []
   split
   ·exact aloneRow_lt inn n l (-1) o hr (fun i hi => (h l (List.mem_cons_self ..) i hi).2) (by omega)
   ·exact ih
theorem fails_skip {F : Fd} {inn : List Bool} {out : List Int} {l : List Int} {ls rows : List (List Int)} {j : Nat} {o : Bool} (h : failsAt F inn out (l :: ls) (rows.drop j) = some o) (hl : l.any (fun k => inAt inn k) = true) : failsAt F inn out ls (rows.drop (j + 1)) = some o := by
 rw [← List.tail_drop]
 cases hr : rows.drop j with
 | nil => rw [hr] at h; simp [failsAt] at h
 | cons r rs =>
  rw [hr, failsAt, if_pos hl] at h
  exact h
theorem fails_take {F : Fd} {inn : List Bool} {out : List Int} {l : List Int} {ls rows : List (List Int)} {j : Nat} {o : Bool} (h : failsAt F inn out (l :: ls) (rows.drop j) = some o) (hl : l.any (fun k => inAt inn k) = false) :
  j < rows.length ∧ ∃ d, gDot F (rd_L1 rows (j : Int)) out = some d ∧ (if d = 0 then failsAt F inn out ls (rows.drop (j + 1)) = some o else o = true) := by
 by_cases hj : j < rows.length
 ·rw [rows_drop hj, failsAt, if_neg (by simp [hl])] at h
  obtain ⟨d, hd, h⟩ := Option.bind_eq_some_iff.1 h
  refine ⟨hj, d, hd, ?_⟩
  split at h
  ·rename_i e; rw [if_pos e]; exact h
  ·rename_i e; rw [if_neg e]; exact (osi h).symm
 ·rw [List.drop_eq_nil_of_le (by omega)] at h
  simp [failsAt] at h
theorem closure70' {F : Fd} {w0 : World} {g b13 b15 go co gi ci n : Nat} {W : World} {out : List Int} {inn : List Bool} (x : Int) (h : PJ F w0 g b13 b15 go co gi ci n W out inn) (hx : 0 ≤ x ∧ x < (n : Int)) :
  Calls Try.prog 70 (#[.int .i64 x] ++ #[.pointer (some ⟨b15, 0, none⟩)]) W fun e W' => e = .returned (.bool (inAt inn x)) ∧ PJ F w0 g b13 b15 go co gi ci n W' out inn := by
 refine (closure70 x b15 (some ⟨gi, 0, none⟩) ci inn W (by rw [h.l2]; exact h.c15) (Kd.R_reads' (show Kd.R Kd.bool 4 W w0.heap.size (fun _ => True) (.slice (some ⟨gi, 0, none⟩) inn.length ci) inn by rw [h.l2]; exact h.o2)).2.2 hx.1 (by rw [h.l2]; exact hx.2)).mono ?_
 rintro e W' ⟨rfl, rfl⟩
 exact ⟨rfl, h⟩
theorem peel_ok (P M : Int) (A0 : Option Addr) (c0 : Nat) (md : List Int) (cols : Int) (A1 : Option Addr) (c1 : Nat) (rows : List (List Int)) (A2 : Option Addr) (c2 : Nat) (wd : List Int) (A3 : Option Addr) (c3 : Nat) (er : List Int) (w : World)
  (hr0 : Kd.C (Kd.int .i64) w A0 md.length md) (hc0 : md.length ≤ c0) (hr1 : Kd.C (Kd.slice 3 (Kd.int .i64)) w A1 rows.length rows) (hc1 : rows.length ≤ c1) (hr2 : Kd.C (Kd.int .i64) w A2 wd.length wd) (hc2 : wd.length ≤ c2) (hr3 : Kd.C (Kd.int .i64) w A3 er.length er) (hc3 : er.length ≤ c3)
  (V : Int) (ch : List (List Int)) (hg : peel_Graph.f 4096 P M md cols rows = some (V, ch, 0)) (q : Int) (ex lg : List Int) (hn : newO P M md = some (some (q, ex, lg))) (hw : (wd.length : Int) = cols) (hwl : wd.length ≤ 1000000) (hany : wd.any (fun y => !isB q y) = false) (hset : peel_set.f 4096 er cols = some true)
  (r1 r2 : List Int) (r3 : Int) (hm : peelMain ⟨P, M, md, q, ex, lg⟩ V ch rows wd er = some (r1, r2, r3)) :
  Calls Try.prog 30 #[.agg #[.int .i64 P, .int .i64 M, .slice A0 md.length c0], .agg #[.int .i64 cols, .slice A1 rows.length c1], .slice A2 wd.length c2, .slice A3 er.length c3] w fun e w' => ∃ v1 v2 : Value, e = .returned (.tuple #[v1, v2, .int .i64 r3]) ∧ Kd.R (Kd.int .i64) 3 w' w.heap.size (fun _ => True) v1 r1 ∧ Kd.R (Kd.int .i64) 3 w' w.heap.size (fun _ => True) v2 r2 ∧ Below w.heap.size w w' := by
 have hu24 := Try.underlying24
 have hu27 := Try.underlying27
 have hu31 := Try.underlying31
 have HR0 := ak hr0
 have HC0 := ak hc0
 have HR1 := ak hr1
 have HC1 := ak hc1
 have HR2 := ak hr2
 have HC2 := ak hc2
 have HR3 := ak hr3
 have HC3 := ak hc3
 have HG := ak hg
 have HN := ak hn
 have HW := ak hw
 have HWL := ak hwl
 have HANY := ak hany
 have HSET := ak hset
 unfold peelMain at hm
 obtain ⟨inn, hmask, hm⟩ := Option.bind_eq_some_iff.1 hm
 by_cases hcnd : (er.all fun i => decide (0 ≤ i ∧ i < wd.length)) = true ∧ inn.length = wd.length ∧ (ch.all fun l => l.all fun i => decide (0 ≤ i ∧ i < wd.length)) = true ∧ ch.length ≤ 256 ∧ wd.length ≤ 256 ∧ er.length ≤ 256 ∧ 0 < wd.length ∧ (ch.all fun l => decide (l.length ≤ 256)) = true
 rotate_left
 ·rw [if_neg hcnd] at hm; exact absurd hm (by simp)
 rw [if_pos hcnd] at hm
 have HMASK := ak hmask
 have HMAIN := ak hm
 have HER := ak (show ∀ i ∈ er, 0 ≤ i ∧ i < (wd.length : Int) from fun i hi => odt (List.all_eq_true.1 hcnd.1 i hi))
 have HCHI := ak (show ∀ l ∈ ch, ∀ i ∈ l, 0 ≤ i ∧ i < (wd.length : Int) from fun l hl i hi => odt (List.all_eq_true.1 (List.all_eq_true.1 hcnd.2.2.1 l hl) i hi))
 have HINN := ak hcnd.2.1
 have HSZ := ak hcnd.2.2.2
 have HLL := ak (show ∀ l ∈ ch, l.length ≤ 256 from fun l hl => odt (List.all_eq_true.1 hcnd.2.2.2.2.2.2.2 l hl))
 have t7 : ((wd.length : Int) != cols) = false := by simp [hw]
 clear hr0 hc0 hr1 hc1 hr2 hc2 hr3 hc3 hg hn hw hwl hany hset hm hmask hcnd
 go_enter Try.func30, Try.ntmps30
 go_upto_region 1 with (first | ((with_reducible refine gate_dst (N := 4) rfl ?_); refine box_event ?hg (N := 4) ?hd (cs := #[.int .i64 P, .int .i64 M, .slice A0 md.length c0]) (t := 24) ?hr ?_; (case hd => rfl); (case hg => rfl); (case hr => (go_simp; done)); intro b4 hb4 w1 hbox hb; have HB4 := ak hbox; have HB := ak hb; clear hb4 hbox hb) | ((with_reducible refine gate_dst (N := 5) rfl ?_); refine box_event ?hg (N := 5) ?hd (cs := #[.int .i64 cols, .slice A1 rows.length c1]) (t := 27) ?hr ?_; (case hd => rfl); (case hg => rfl); (case hr => (go_simp; done)); intro b5 hb5 w2 hbox hb; have HB5 := ak hbox; have HB4' := ak (blk_grown HB4.out (grown_of_below hb none) (by simp)); have HB2 := ak (bsp HB.out hb); clear hb5 hbox hb HB HB4))
 have hz0 : w2.cell? ⟨b4, 0, none⟩ = some (.int .i64 P) := (kce HB4'.out 0).trans rfl
 have hz1 : w2.cell? ⟨b4, 1, none⟩ = some (.int .i64 M) := (kce HB4'.out 1).trans rfl
 have hz2 : w2.cell? ⟨b4, 2, none⟩ = some (.slice A0 md.length c0) := (kce HB4'.out 2).trans rfl
 have hm0 : w2.cell? ⟨b5, 0, none⟩ = some (.int .i64 cols) := (kce HB5.out 0).trans rfl
 have hm1 : w2.cell? ⟨b5, 1, none⟩ = some (.slice A1 rows.length c1) := (kce HB5.out 1).trans rfl
 go_upto_region 4 with (go_at_call 14; (with_reducible refine (peel_Graph.calls 4096 P M A0 c0 md cols A1 c1 rows V ch 0 w2 (Kd.C_below HR0.out HB2.out) HC0.out (Kd.C_below HR1.out HB2.out) HC1.out HG.out).mono ?_); rintro e w3 ⟨v1, rfl, hS, hB⟩; obtain ⟨AG, cG, eG⟩ := Kd.S_slice hS; subst eG; have HS := ak hS; replace hz0 := cbl hz0 hB; replace hz1 := cbl hz1 hB; replace hz2 := cbl hz2 hB; replace hm0 := cbl hm0 hB; replace hm1 := cbl hm1 hB; have HB3 := ak (bsp HB2.out hB); clear hS hB)
 have hb4 := bal (Below.refl w3.heap.size w3) (Obj.cells #[Value.int IntKind.i64 V, Value.slice AG ch.length cG] 31)
 have ht0 : (w3.alloc (Obj.cells #[Value.int IntKind.i64 V, Value.slice AG ch.length cG] 31)).cell? ⟨w3.heap.size, 0, none⟩ = some (.int .i64 V) := (kce (heap_alloc_new w3 _) 0).trans rfl
 have ht1 : (w3.alloc (Obj.cells #[Value.int IntKind.i64 V, Value.slice AG ch.length cG] 31)).cell? ⟨w3.heap.size, 1, none⟩ = some (.slice AG ch.length cG) := (kce (heap_alloc_new w3 _) 1).trans rfl
 replace hz0 := cbl hz0 hb4
 replace hz1 := cbl hz1 hb4
 replace hz2 := cbl hz2 hb4
 replace hm0 := cbl hm0 hb4
 replace hm1 := cbl hm1 hb4
 have HS4 := ak (Kd.C_below (Kd.S_reads' HS.out).2.2 hb4)
 have HSC := ak (Kd.S_reads' HS.out).2.1
 have HBX := ak (bsp HB3.out hb4)
 clear hb4 HS HB3 HB2
 generalize w3.alloc (Obj.cells #[Value.int IntKind.i64 V, Value.slice AG ch.length cG] 31) = w4 at hz0 hz1 hz2 hm0 hm1 ht0 ht1 HS4 HBX ⊢
 generalize w3.heap.size = b11 at ht0 ht1 ⊢
 go_upto_region 7 with (go_at_call 60; (with_reducible refine (New_some P M A0 c0 md q ex lg w4 (Kd.C_below HR0.out HBX.out) HC0.out HN.out).mono ?_); rintro e w5 ⟨g, rfl, w0, hI, hB1, hB2⟩; have HI := ak hI; have HB1 := ak hB1; have HB2 := ak hB2; clear hI hB1 hB2)
 have hb5 := bal (Below.refl w5.heap.size w5) (Obj.cells #[Value.pointer (some ⟨g, 0, none⟩)] 83)
 have hp0 : (w5.alloc (Obj.cells #[Value.pointer (some ⟨g, 0, none⟩)] 83)).cell? ⟨w5.heap.size, 0, none⟩ = some (.pointer (some ⟨g, 0, none⟩)) := (kce (heap_alloc_new w5 _) 0).trans rfl
 have HI6 := ak (HI.out.below hb5)
 have HB6 := ak (bsp HB2.out hb5)
 have HNE := ak (show g ≠ w5.heap.size by have := HI.out.lt; omega)
 have hz := And.intro hm0 (And.intro hm1 (And.intro ht0 ht1))
 have HZ0 := ak (show w0.cell? ⟨b5, 0, none⟩ = some (.int .i64 cols) ∧ w0.cell? ⟨b5, 1, none⟩ = some (.slice A1 rows.length c1) ∧ w0.cell? ⟨b11, 0, none⟩ = some (.int .i64 V) ∧ w0.cell? ⟨b11, 1, none⟩ = some (.slice AG ch.length cG) from ⟨cbl hm0 HB1.out, cbl hm1 HB1.out, cbl ht0 HB1.out, cbl ht1 HB1.out⟩)
 have HCH := ak (Kd.C_below HS4.out HB1.out)
 have HBW := ak (bsp HBX.out HB1.out)
 clear hb5 hz hz0 hz1 hz2 hm0 hm1 ht0 ht1 HI HB2 HS4 HBX HB1
 generalize w5.alloc (Obj.cells #[Value.pointer (some ⟨g, 0, none⟩)] 83) = w6 at hp0 HI6 HB6 ⊢
 generalize w5.heap.size = b13 at hp0 HNE ⊢
 have HP0 := ak hp0
 clear hp0
 have hm0 := cbl HZ0.out.1 HB6.out
 have HCF := ak (ContainsFunc_Int 62 eg62 #[.pointer (some ⟨b13, 0, none⟩)] (fun W => IsS109 w0 W g P M md q ex lg ∧ Below w0.heap.size w0 W ∧ W.cell? ⟨b13, 0, none⟩ = some (.pointer (some ⟨g, 0, none⟩))) A2 c2 wd (fun y => !isB q y) w6 w0 (Kd.C_below HR2.out HBW.out) ⟨HI6.out, HB6.out, HP0.out⟩ (fun W h => h.2.1) (fun x W hx h => closure62 x g b13 P M md q ex lg w0 W (fun e => HNE.out e.symm) h.1 h.2.1 h.2.2))
 rw [HANY.out] at HCF
 go_upto_region 11 with (go_at_call 61; (with_reducible refine HCF.out.mono ?_); rintro e w7 ⟨rfl, hI, hB, hc⟩; have HI7 := ak hI; have HB7 := ak hB; have HP7 := ak hc; clear hI hB hc)
 clear hm0 HI6 HB6 HP0 HCF
 have hm0 := cbl HZ0.out.1 HB7.out
 go_upto_region 13 with (go_at_call 48; (with_reducible refine (peel_set.calls 4096 A3 c3 er cols true w7 (Kd.C_below (Kd.C_below HR3.out HBW.out) HB7.out) HC3.out HSET.out).mono ?_); rintro e w8 ⟨rfl, hd⟩; have HD := ak (drawn0_below' hd); clear hd)
 clear hm0
 have HI8 := ak (HI7.out.below HD.out)
 have HB8 := ak (bsp HB7.out HD.out)
 have HP8 := ak (cbl HP7.out HD.out)
 clear HI7 HB7 HP7 HD
 go_upto_region 14 with (go_at_call 64; (with_reducible refine (Clone_calls A2 c2 wd w8 (Kd.C_below (Kd.C_below HR2.out HBW.out) HB8.out) HC2.out HWL.out).mono ?_); rintro e w9 ⟨v14, rfl, hR, hB⟩; have HO9 := ak hR; have HBc := ak hB; clear hR hB)
 obtain ⟨go, co, e14, hgo1, hgo2, -⟩ := Kd.R_form HO9.out HSZ.out.2.2.2.1
 subst e14
 have HI9 := ak (HI8.out.below HBc.out)
 have HB9 := ak (bsp HB8.out HBc.out)
 have HP9 := ak (cbl HP8.out HBc.out)
 have HG1 := ak (show g < w8.heap.size from HI8.out.lt)
 have HG2 := ak (show b13 < w8.heap.size from World.block_lt_of_cell? _ _ HP8.out)
 have HGO := ak (And.intro hgo1 hgo2)
 have HS8 := ak HB8.out.size
 clear hgo1 hgo2 HI8 HB8 HP8
 have ht0 := cbl HZ0.out.2.2.1 HB9.out
 have ht1 := cbl HZ0.out.2.2.2 HB9.out
 go_upto_region 15 with (go_at_call 50; (with_reducible refine (peel_mask.calls 4096 V AG cG ch A3 c3 er inn w9 (Kd.C_below HCH.out HB9.out) HSC.out (Kd.C_below (Kd.C_below HR3.out HBW.out) HB9.out) HC3.out HMASK.out).mono ?_); rintro e w10 ⟨v63, rfl, hR, hB⟩; obtain ⟨gi, ci, e63, hgi1, hgi2, -⟩ := Kd.R_form hR (by rw [HINN.out]; exact HSZ.out.2.2.2.1); rw [HINN.out] at e63; subst e63; have HM10 := ak hR; have HBd := ak hB; have HGI := ak (And.intro hgi1 hgi2); clear hR hB hgi1 hgi2)
 have hb := bal (Below.refl w10.heap.size w10) (Obj.cells #[Value.slice (some ⟨gi, 0, none⟩) wd.length ci] 73)
 have hc15 : (w10.alloc (Obj.cells #[Value.slice (some ⟨gi, 0, none⟩) wd.length ci] 73)).cell? ⟨w10.heap.size, 0, none⟩ = some (.slice (some ⟨gi, 0, none⟩) wd.length ci) := (kce (heap_alloc_new w10 _) 0).trans rfl
 have hj : PJ ⟨P, M, md, q, ex, lg⟩ w0 g b13 w10.heap.size go co gi ci wd.length (w10.alloc (Obj.cells #[Value.slice (some ⟨gi, 0, none⟩) wd.length ci] 73)) wd inn := by
  have hgo := HGO.out
  have hgi := HGI.out
  have h1 := HG1.out
  have h2 := HG2.out
  have hs9 := HBc.out.size
  have hs10 := HBd.out.size
  have hs8 := HB9.out.size
  exact ⟨(HI9.out.below HBd.out).below hb, bsp (bsp HB9.out HBd.out) hb, cbl (cbl HP9.out HBd.out) hb, hc15, Kd.R_below (Kd.R_below (Kd.R_lower HO9.out HS8.out) HBd.out) hb, Kd.R_below (Kd.R_lower HM10.out hs8) hb, rfl, HINN.out, by omega, by omega, HNE.out, by omega, by omega, by omega, by omega, by omega, by omega⟩
 have HJ := ak hj
 generalize w10.alloc (Obj.cells #[Value.slice (some ⟨gi, 0, none⟩) wd.length ci] 73) = wA at HJ ⊢
 generalize w10.heap.size = b15 at HJ ⊢
 clear hj hc15 hb ht0 ht1 HI9 HB9 HP9 HG1 HG2 HGO HGI HS8 HM10 HBd HBc HO9 HNE
 obtain ⟨n, hn⟩ : ∃ n, wd.length = n := ⟨_, rfl⟩
 rw [hn] at HJ HCHI HER HINN HSZ ⊢
 have HLN := ak hn
 clear hn t7
 go_wp2
 go_loopg [66] er.length (fun gk v66 w' => ∃ (m : Nat) (out : List Int), v66 = .int .i64 m ∧ Aside0 (m ≤ er.length ∧ gk = er.length - m ∧ clearAt (er.drop m) out = clearAt er wd) ∧ Aside0 (PJ ⟨P, M, md, q, ex, lg⟩ w0 g b13 b15 go co gi ci n w' out inn))
 case atStart => exact ⟨0, wd, rfl, ⟨by simp, by simp, by simp⟩, HJ⟩
 case round =>
  clear HJ
  obtain ⟨m, out, rfl, HM, HJ⟩ := hrel
  by_cases hlt : (m : Int) < (er.length : Int)
  ·have t1 := eq_true hlt
   have t2 : (0 ≤ (m : Int)) = True := eq_true (Int.natCast_nonneg m)
   obtain ⟨ae, eae, hxe⟩ := Kd.at_int (Kd.C_below (Kd.C_below HR3.out HBW.out) HJ.out.B) m (of_eq_true t2) hlt
   subst eae
   obtain ⟨x, hx⟩ : ∃ x, rd er (m : Int) = x := ⟨_, rfl⟩
   rw [hx, Int.toNat_natCast] at hxe
   have HXI := ak (HER.out x (by rw [← hx]; exact rd_memInt (by omega) hlt))
   have HX := ak hx
   have HLT := ak hlt
   clear hx hlt
   have i0 := eq_true HXI.out.1
   have i1 := eq_true HXI.out.2
   obtain ⟨hcm, hfm⟩ := Kd.R_cell 0 (show Kd.R (Kd.int .i64) 3 wr w0.heap.size (fun _ => True) (.slice (some ⟨go, 0, none⟩) out.length co) out by rw [HJ.out.l1]; exact HJ.out.o1) x HXI.out.1 (by rw [HJ.out.l1]; exact HXI.out.2)
   go_wp2
   have HJ2 := ak (HJ.out.putOut x 0)
   go_roundg (er.length - (m + 1))
   case measure => have := HM.out.2.1; have := HLT.out; omega
   case rel =>
    have h := HM.out
    have h2 := HLT.out
    have h3 := HSZ.out
    refine ⟨m + 1, out.set x.toNat 0, ?_, ⟨by omega, rfl, ?_⟩, HJ2⟩
    ·rw [wrap64_succ' (n := 257) (by omega) (by omega) (by omega)]; rfl
    ·have hd := drop_cons (d := (0 : Int)) (i := (m : Int)) (l := er) (by omega) h2
     rw [Int.toNat_natCast, show ((m : Int) + 1).toNat = m + 1 from by omega, show er.getD m 0 = x from by rw [← HX.out]; rfl] at hd
     rw [← h.2.2, hd, clearAt]
  ·have t1 := eq_false hlt
   have HLT := ak hlt
   have HOUT := ak (show out = clearAt er wd by
    have h := HM.out
    rw [← h.2.2, show m = er.length by omega, List.drop_length, clearAt])
   clear hlt
   have ht0 := cbl HZ0.out.2.2.1 HJ.out.B
   have ht1 := cbl HZ0.out.2.2.2 HJ.out.B
   have hc15 := HJ.out.c15
   have hal := alone_calls V AG cG ch (some ⟨gi, 0, none⟩) ci inn wr (Kd.C_below HCH.out HJ.out.B) HSC.out (Kd.R_reads' (show Kd.R Kd.bool 4 wr w0.heap.size (fun _ => True) (.slice (some ⟨gi, 0, none⟩) inn.length ci) inn by rw [HJ.out.l2]; exact HJ.out.o2)).2.2 (by have h := (Kd.R_reads' HJ.out.o2).2.1; rw [HJ.out.l2]; exact h) (by rw [HJ.out.l2]; exact HCHI.out) (Nat.le_trans HSZ.out.1 (by decide))
   rw [HJ.out.l2] at hal
   have HAL := ak hal
   clear hal
   rw [← HOUT.out] at HMAIN
   clear HOUT HM HLT
   go_upto_block 1 with (go_at_call 49; (with_reducible refine HAL.out.mono ?_); rintro e w11 ⟨rfl, hB⟩; have HJ11 := ak (HJ.out.step hB); clear hB)
   obtain ⟨⟨o2, i2⟩, hgo, hm⟩ := Option.bind_eq_some_iff.1 HMAIN.out
   obtain ⟨bf, hfail, hm⟩ := Option.bind_eq_some_iff.1 hm
   have HGO := ak hgo
   have HFAIL := ak hfail
   have HEND := ak hm
   clear hgo hfail hm HMAIN
   have hbk : (w11.alloc (Obj.cells #[Value.int IntKind.i64 (alone inn ch)] 3)).heap[w11.heap.size]? = some (.cells #[.int .i64 (alone inn ch)] 3 (0, 0)) := heap_alloc_new w11 _
   have HBK := ak hbk
   have HJ12 := ak (HJ11.out.step (bal (Below.refl w11.heap.size w11) (Obj.cells #[Value.int IntKind.i64 (alone inn ch)] 3)))
   have hd1 : g < w11.heap.size := HJ11.out.I.lt
   have hd2 : go < w11.heap.size := Kd.R_lt HJ11.out.o1 go rfl
   have hd3 : gi < w11.heap.size := Kd.R_lt HJ11.out.o2 gi rfl
   have HDD := ak (show w0.heap.size ≤ w11.heap.size ∧ w11.heap.size ≠ g ∧ w11.heap.size ≠ go ∧ w11.heap.size ≠ gi from ⟨HJ11.out.B.size, by omega, by omega, by omega⟩)
   generalize w11.alloc (Obj.cells #[Value.int IntKind.i64 (alone inn ch)] 3) = w12 at HBK HJ12 ⊢
   generalize w11.heap.size = b18 at HBK HDD ⊢
   clear hbk hd1 hd2 hd3 HJ11 HAL HJ ht0 ht1 hc15 t1
   go_loopg [18] (wd.length + 1) (fun gk v18 w' => ∃ (b18 : Nat) (out : List Int) (inn : List Bool), v18 = .pointer (some ⟨b18, 0, none⟩) ∧ Aside0 (peelGo ⟨P, M, md, q, ex, lg⟩ ch rows gk out inn = some (o2, i2)) ∧ Aside0 (PJ ⟨P, M, md, q, ex, lg⟩ w0 g b13 b15 go co gi ci n w' out inn) ∧ Aside0 (w'.heap[b18]? = some (.cells #[.int .i64 (alone inn ch)] 3 (0, 0))) ∧ Aside0 (w0.heap.size ≤ b18 ∧ b18 ≠ g ∧ b18 ≠ go ∧ b18 ≠ gi))
   case atStart => exact ⟨b18, out, inn, rfl, HGO, HJ12, HBK, HDD⟩
   case round =>
    clear HGO HJ12 HBK HDD
    obtain ⟨b, out1, inn1, rfl, HGO, HJ, HBK, HDD⟩ := hrel
    cases gk with
    | zero => exact absurd HGO.out (by simp [peelGo])
    | succ gk =>
     have hgo := HGO.out
     rw [peelGo] at hgo
     obtain ⟨al, hal⟩ : ∃ x, alone inn1 ch = x := ⟨_, rfl⟩
     rw [hal] at hgo HBK
     have HAL := ak hal
     clear hal
     have hc18 : wr.cell? ⟨b, 0, none⟩ = some (.int .i64 al) := (kce HBK.out 0).trans rfl
     by_cases hneg : al < 0
     ·rw [if_pos hneg] at hgo
      have hgo := osi hgo
      injection hgo with e1 e2
      subst e1 e2
      have t1 : decide (al ≥ 0) = false := dff (by omega)
      have t2 := eq_false (show ¬ 0 ≤ al by omega)
      have t3 : decide (0 ≤ al) = false := dff (by omega)
      clear hneg
      have ht1 := cbl HZ0.out.2.2.2 HJ.out.B
      go_wp2_with (fail)
      clear hc18 ht1 HBK HDD
      go_loopg [134] ch.length (fun gk v134 w' => ∃ j : Nat, v134 = .int .i64 j ∧ Aside0 (j ≤ ch.length ∧ gk = ch.length - j ∧ failsAt ⟨P, M, md, q, ex, lg⟩ inn1 out1 (ch.drop j) (rows.drop j) = some bf) ∧ Aside0 (PJ ⟨P, M, md, q, ex, lg⟩ w0 g b13 b15 go co gi ci n w' out1 inn1))
      case atStart => exact ⟨0, rfl, ⟨by simp, by simp, by rw [List.drop_zero, List.drop_zero]; exact HFAIL.out⟩, HJ⟩
      case round =>
       clear HJ
       obtain ⟨j, rfl, HN3, HJ3⟩ := hrel
       by_cases hlt : (j : Int) < (ch.length : Int)
       ·have t4 := eq_true hlt
        have t5 : (0 ≤ (j : Int)) = True := eq_true (Int.natCast_nonneg j)
        obtain ⟨ad, Al, cl, eA, hx, hc0, hr0⟩ := at_L1 HCH.out j (of_eq_true t5) hlt
        replace hx := pcb HJ3.out.B hx
        subst eA
        obtain ⟨l, hl⟩ : ∃ x, rd_L1 ch (j : Int) = x := ⟨_, rfl⟩
        rw [hl] at hx hc0 hr0
        rw [Int.toNat_natCast] at hx
        have HL := ak hl
        have HLT := ak hlt
        have HCl := ak hc0
        have HRl0 := ak hr0
        have HMEM := ak (show l ∈ ch by rw [← hl]; exact rd_memRow (by omega) hlt)
        have hfl := HN3.out.2.2
        rw [rows_drop (by omega : j < ch.length), hl] at hfl
        have HFL := ak hfl
        clear hl hlt hc0 hr0 hfl
        cases hany : l.any (fun k => inAt inn1 k) with
        | true =>
         have HANY2 := ak hany
         clear hany
         go_upto_region 36 with (fail)
         have HJ3 := ak (HJ3.out.step (bd1 (Below.refl _ _)))
         refine start_ (n := 15) (S := fun w' => True) (ds := []) #[false, false, false, false, false, false, false, false, false, false, false, false, false, false, false] (by kernel_rfl) rfl rfl trivial (fun hHeld => ?_)
         refine pure_ (i := 0) (N := some 139) (v := ?_) (a' := ?_) #[true, false, false, false, false, false, false, false, false, false, false, false, false, false, false] rfl rfl (by kernel_rfl) (fun _ _ _ h => h) (Or.inl ⟨by rfl, ?_⟩) ?_ ?_
         rotate_left
         ·intro w'
          go_simp
          with_reducible rfl
         rotate_left
         ·simp only [Act.put, sia, scz, scs, i64_w, i32_w]
          rfl
         refine pure_ (i := 1) (N := some 140) (v := ?_) (a' := ?_) #[true, true, false, false, false, false, false, false, false, false, false, false, false, false, false] rfl rfl (by kernel_rfl) (fun _ _ _ h => h) (Or.inl ⟨by rfl, ?_⟩) ?_ ?_
         rotate_left
         ·intro w'
          go_simp
          with_reducible rfl
         rotate_left
         ·simp only [Act.put, sia, scz, scs, i64_w, i32_w]
          rfl
         refine one_ (i := 2) (N := some 141) #[true, true, true, false, false, false, false, false, false, false, false, false, false, false, false] rfl rfl (by kernel_rfl) (by decide) (fun K hK => ?_)
         refine goes_ Try.func61 (by kernel_rfl) rfl #[.slice Al l.length cl, .func (.func 70) #[] #[.pointer (some ⟨b15, 0, none⟩)]] (by rfl) rfl rfl (by simp only [List.map_toArray, List.map_cons, List.map_nil]; rfl) ?_
         with_reducible refine (ContainsFunc_Int 70 eg70 #[.pointer (some ⟨b15, 0, none⟩)] (fun W => PJ ⟨P, M, md, q, ex, lg⟩ w0 g b13 b15 go co gi ci n W out1 inn1) Al cl l (fun k => inAt inn1 k) _ w0 HRl0.out HJ3.out (fun W h => h.B) (by unfold PredInt; intro x W hx h; exact closure70' x h (HCHI.out l HMEM.out x hx))).mono ?_
         rintro e w40 ⟨rfl, hI⟩
         refine ⟨_, rfl, ?_⟩
         rw [HANY2.out]
         have HJ4 := ak hI
         clear hI
         refine hK.out _ _ trivial (fun hHeld => ?_)
         clear hK K
         refine norm_ (a' := ?_) ?_ ?_
         rotate_left
         ·show Act.put _ (some 141) _ = _
          simp only [Act.put, sia, scz, scs, i64_w, i32_w]
          rfl
         refine pure_ (i := 3) (N := some 142) (v := ?_) (a' := ?_) #[true, true, true, true, false, false, false, false, false, false, false, false, false, false, false] rfl rfl (by kernel_rfl) (fun _ _ _ h => h) (Or.inl ⟨by rfl, ?_⟩) ?_ ?_
         rotate_left
         ·intro w'
          go_simp
          with_reducible rfl
         rotate_left
         ·simp only [Act.put, sia, scz, scs, i64_w, i32_w]
          rfl
         refine pure_ (i := 4) (N := some 143) (v := ?_) (a' := ?_) #[true, true, true, true, true, false, false, false, false, false, false, false, false, false, false] rfl rfl (by kernel_rfl) (fun _ _ _ h => h) (Or.inl ⟨by rfl, ?_⟩) ?_ ?_
         rotate_left
         ·intro w'
          go_simp
          with_reducible rfl
         rotate_left
         ·simp only [Act.put, sia, scz, scs, i64_w, i32_w]
          rfl
         refine pure_ (i := 5) (N := some 144) (v := undef) (a' := ?_) #[true, true, true, true, true, true, false, false, false, false, false, false, false, false, false] rfl rfl (by kernel_rfl) (fun _ _ _ h => h) (Or.inr ⟨by rfl, rfl⟩) ?_ ?_
         rotate_left
         ·simp only [Act.put, sia, scz, scs, i64_w, i32_w]
          rfl
         refine pure_ (i := 6) (N := some 145) (v := undef) (a' := ?_) #[true, true, true, true, true, true, true, false, false, false, false, false, false, false, false] rfl rfl (by kernel_rfl) (fun _ _ _ h => h) (Or.inr ⟨by rfl, rfl⟩) ?_ ?_
         rotate_left
         ·simp only [Act.put, sia, scz, scs, i64_w, i32_w]
          rfl
         refine pure_ (i := 7) (N := some 146) (v := undef) (a' := ?_) #[true, true, true, true, true, true, true, true, false, false, false, false, false, false, false] rfl rfl (by kernel_rfl) (fun _ _ _ h => h) (Or.inr ⟨by rfl, rfl⟩) ?_ ?_
         rotate_left
         ·simp only [Act.put, sia, scz, scs, i64_w, i32_w]
          rfl
         refine pure_ (i := 8) (N := some 147) (v := undef) (a' := ?_) #[true, true, true, true, true, true, true, true, true, false, false, false, false, false, false] rfl rfl (by kernel_rfl) (fun _ _ _ h => h) (Or.inr ⟨by rfl, rfl⟩) ?_ ?_
         rotate_left
         ·simp only [Act.put, sia, scz, scs, i64_w, i32_w]
          rfl
         refine pure_ (i := 9) (N := some 148) (v := undef) (a' := ?_) #[true, true, true, true, true, true, true, true, true, true, false, false, false, false, false] rfl rfl (by kernel_rfl) (fun _ _ _ h => h) (Or.inr ⟨by rfl, rfl⟩) ?_ ?_
         rotate_left
         ·simp only [Act.put, sia, scz, scs, i64_w, i32_w]
          rfl
         refine pure_ (i := 10) (N := some 149) (v := undef) (a' := ?_) #[true, true, true, true, true, true, true, true, true, true, true, false, false, false, false] rfl rfl (by kernel_rfl) (fun _ _ _ h => h) (Or.inr ⟨by rfl, rfl⟩) ?_ ?_
         rotate_left
         ·simp only [Act.put, sia, scz, scs, i64_w, i32_w]
          rfl
         refine pure_ (i := 11) (N := some 150) (v := undef) (a' := ?_) #[true, true, true, true, true, true, true, true, true, true, true, true, false, false, false] rfl rfl (by kernel_rfl) (fun _ _ _ h => h) (Or.inr ⟨by rfl, rfl⟩) ?_ ?_
         rotate_left
         ·simp only [Act.put, sia, scz, scs, i64_w, i32_w]
          rfl
         refine pure_ (i := 12) (N := some 151) (v := undef) (a' := ?_) #[true, true, true, true, true, true, true, true, true, true, true, true, true, false, false] rfl rfl (by kernel_rfl) (fun _ _ _ h => h) (Or.inr ⟨by rfl, rfl⟩) ?_ ?_
         rotate_left
         ·simp only [Act.put, sia, scz, scs, i64_w, i32_w]
          rfl
         refine pure_ (i := 13) (N := some 152) (v := undef) (a' := ?_) #[true, true, true, true, true, true, true, true, true, true, true, true, true, true, false] rfl rfl (by kernel_rfl) (fun _ _ _ h => h) (Or.inr ⟨by rfl, rfl⟩) ?_ ?_
         rotate_left
         ·simp only [Act.put, sia, scz, scs, i64_w, i32_w]
          rfl
         refine pure_ (i := 14) (N := some 153) (v := ?_) (a' := ?_) #[true, true, true, true, true, true, true, true, true, true, true, true, true, true, true] rfl rfl (by kernel_rfl) (fun _ _ _ h => h) (Or.inl ⟨by rfl, ?_⟩) ?_ ?_
         rotate_left
         ·intro w'
          go_simp
          with_reducible rfl
         rotate_left
         ·simp only [Act.put, sia, scz, scs, i64_w, i32_w]
          rfl
         refine done_ (by kernel_rfl) ?_
         go_wp2_with (fail)
         go_roundg (ch.length - (j + 1))
         case measure => have := HN3.out.2.1; have := HLT.out; omega
         case rel =>
          have h := HN3.out
          have h2 := HLT.out
          have h3 := HSZ.out.1
          refine ⟨j + 1, ?_, ⟨by omega, rfl, fails_skip HFL.out HANY2.out⟩, HJ4⟩
          (rw [wrap64_succ' (n := 257) (by omega) (by omega) (by omega)]; rfl)
        | false =>
         have HANY2 := ak hany
         obtain ⟨hj, dv, hdv, hbf⟩ := fails_take HFL.out hany
         clear hany
         have hjlt : (j : Int) < (rows.length : Int) := by exact_mod_cast hj
         obtain ⟨ar, Ad, cr, eR, hxr, hcr, hrr⟩ := at_L1 (Kd.C_below HR1.out HBW.out) j (of_eq_true t5) hjlt
         subst eR
         obtain ⟨r, hr⟩ : ∃ x, rd_L1 rows (j : Int) = x := ⟨_, rfl⟩
         rw [hr] at hxr hcr hrr hdv
         rw [Int.toNat_natCast] at hxr
         have HRW0 := ak hxr
         have HRR := ak hrr
         have HCR := ak hcr
         have HDT := ak hdv
         have HBF := ak hbf
         have t6 := eq_true hjlt
         have t6' : decide ((j : Int) < (rows.length : Int)) = true := det hjlt
         have t9 : decide (0 ≤ (j : Int)) = true := det (Int.natCast_nonneg j)
         have hs0 := HJ3.out.c13
         have hs1 := cbl HZ0.out.2.1 HJ3.out.B
         have hs2 := cbl HRW0.out HJ3.out.B
         clear hj hdv hbf hjlt hxr hcr hrr hr
         by_cases hd : dv = 0
         ·have HD0 := ak hd
          have t10 : (dv != 0) = false := by simp [hd]
          clear hd
          go_upto_region 36 with (fail)
          have HJ3 := ak (HJ3.out.step (bd1 (Below.refl _ _)))
          refine start_ (n := 15) (S := fun w' => w'.cell? ⟨b13, 0, none⟩ = some (.pointer (some ⟨g, 0, none⟩)) ∧ w'.cell? ⟨b5, 1, none⟩ = some (.slice (some ar) rows.length c1) ∧ w'.cell? (ar.add j) = some (.slice Ad r.length cr)) (ds := []) #[false, false, false, false, false, false, false, false, false, false, false, false, false, false, false] (by kernel_rfl) rfl rfl ⟨hs0, hs1, hs2⟩ (fun hHeld => ?_)
          refine pure_ (i := 0) (N := some 139) (v := ?_) (a' := ?_) #[true, false, false, false, false, false, false, false, false, false, false, false, false, false, false] rfl rfl (by kernel_rfl) (fun _ _ _ h => h) (Or.inl ⟨by rfl, ?_⟩) ?_ ?_
          rotate_left
          ·intro w'
           go_simp
           with_reducible rfl
          rotate_left
          ·simp only [Act.put, sia, scz, scs, i64_w, i32_w]
           rfl
          refine pure_ (i := 1) (N := some 140) (v := ?_) (a' := ?_) #[true, true, false, false, false, false, false, false, false, false, false, false, false, false, false] rfl rfl (by kernel_rfl) (fun _ _ _ h => h) (Or.inl ⟨by rfl, ?_⟩) ?_ ?_
          rotate_left
          ·intro w'
           go_simp
           with_reducible rfl
          rotate_left
          ·simp only [Act.put, sia, scz, scs, i64_w, i32_w]
           rfl
          refine one_ (i := 2) (N := some 141) #[true, true, true, false, false, false, false, false, false, false, false, false, false, false, false] rfl rfl (by kernel_rfl) (by decide) (fun K hK => ?_)
          refine goes_ Try.func61 (by kernel_rfl) rfl #[.slice Al l.length cl, .func (.func 70) #[] #[.pointer (some ⟨b15, 0, none⟩)]] (by rfl) rfl rfl (by simp only [List.map_toArray, List.map_cons, List.map_nil]; rfl) ?_
          with_reducible refine (ContainsFunc_Int 70 eg70 #[.pointer (some ⟨b15, 0, none⟩)] (fun W => PJ ⟨P, M, md, q, ex, lg⟩ w0 g b13 b15 go co gi ci n W out1 inn1) Al cl l (fun k => inAt inn1 k) _ w0 HRl0.out HJ3.out (fun W h => h.B) (by unfold PredInt; intro x W hx h; exact closure70' x h (HCHI.out l HMEM.out x hx))).mono ?_
          rintro e w40 ⟨rfl, hI⟩
          refine ⟨_, rfl, ?_⟩
          rw [HANY2.out]
          have HJ4 := ak hI
          clear hI
          refine hK.out _ _ ⟨HJ4.out.c13, cbl HZ0.out.2.1 HJ4.out.B, cbl HRW0.out HJ4.out.B⟩ (fun hHeld => ?_)
          clear hK K
          refine norm_ (a' := ?_) ?_ ?_
          rotate_left
          ·show Act.put _ (some 141) _ = _
           simp only [Act.put, sia, scz, scs, i64_w, i32_w]
           rfl
          refine pure_ (i := 3) (N := some 142) (v := ?_) (a' := ?_) #[true, true, true, true, false, false, false, false, false, false, false, false, false, false, false] rfl rfl (by kernel_rfl) (fun _ _ _ h => h) (Or.inl ⟨by rfl, ?_⟩) ?_ ?_
          rotate_left
          ·intro w'
           go_simp
           with_reducible rfl
          rotate_left
          ·simp only [Act.put, sia, scz, scs, i64_w, i32_w]
           rfl
          refine pure_ (i := 4) (N := some 143) (v := ?_) (a' := ?_) #[true, true, true, true, true, false, false, false, false, false, false, false, false, false, false] rfl rfl (by kernel_rfl) (fun _ _ _ h => h) (Or.inl ⟨by rfl, ?_⟩) ?_ ?_
          rotate_left
          ·intro w'
           go_simp
           with_reducible rfl
          rotate_left
          ·simp only [Act.put, sia, scz, scs, i64_w, i32_w]
           rfl
          refine pure_ (i := 6) (N := some 145) (v := ?_) (a' := ?_) #[true, true, true, true, true, false, true, false, false, false, false, false, false, false, false] rfl rfl (by kernel_rfl) (fun _ _ _ h => h) (Or.inl ⟨by rfl, ?_⟩) ?_ ?_
          rotate_left
          ·intro w'
           go_simp
           with_reducible rfl
          rotate_left
          ·simp only [Act.put, sia, scz, scs, i64_w, i32_w]
           rfl
          refine pure_ (i := 8) (N := some 147) (v := ?_) (a' := ?_) #[true, true, true, true, true, false, true, false, true, false, false, false, false, false, false] rfl rfl (by kernel_rfl) (fun _ _ _ h => h) (Or.inl ⟨by rfl, ?_⟩) ?_ ?_
          rotate_left
          ·intro w'
           go_simp
           with_reducible rfl
          rotate_left
          ·simp only [Act.put, sia, scz, scs, i64_w, i32_w]
           rfl
          refine pure_ (i := 11) (N := some 150) (v := ?_) (a' := ?_) #[true, true, true, true, true, false, true, false, true, false, false, true, false, false, false] rfl rfl (by kernel_rfl) (fun _ _ _ h => h) (Or.inl ⟨by rfl, ?_⟩) ?_ ?_
          rotate_left
          ·intro w'
           go_simp
           with_reducible rfl
          rotate_left
          ·simp only [Act.put, sia, scz, scs, i64_w, i32_w]
           rfl
          refine take_ (i := 5) (N := some 144) (v := ?_) (a' := ?_) #[true, true, true, true, true, true, true, false, true, false, false, true, false, false, false] rfl rfl (by kernel_rfl) (fun _ _ _ h => h) (Or.inl ⟨by rfl, ?_⟩) hHeld ?_ ?_
          rotate_left
          ·rintro w' ⟨s0, s1, s2⟩
           go_simp
           with_reducible rfl
          rotate_left
          ·simp only [Act.put, sia, scz, scs, i64_w, i32_w]
           rfl
          refine take_ (i := 7) (N := some 146) (v := ?_) (a' := ?_) #[true, true, true, true, true, true, true, true, true, false, false, true, false, false, false] rfl rfl (by kernel_rfl) (fun _ _ _ h => h) (Or.inl ⟨by rfl, ?_⟩) hHeld ?_ ?_
          rotate_left
          ·rintro w' ⟨s0, s1, s2⟩
           go_simp
           with_reducible rfl
          rotate_left
          ·simp only [Act.put, sia, scz, scs, i64_w, i32_w]
           rfl
          refine pure_ (i := 9) (N := some 148) (v := ?_) (a' := ?_) #[true, true, true, true, true, true, true, true, true, true, false, true, false, false, false] rfl rfl (by kernel_rfl) (fun _ _ _ h => h) (Or.inl ⟨by rfl, ?_⟩) ?_ ?_
          rotate_left
          ·intro w'
           go_simp
           with_reducible rfl
          rotate_left
          ·simp only [Act.put, sia, scz, scs, i64_w, i32_w]
           rfl
          refine take_ (i := 10) (N := some 149) (v := ?_) (a' := ?_) #[true, true, true, true, true, true, true, true, true, true, true, true, false, false, false] rfl rfl (by kernel_rfl) (fun _ _ _ h => h) (Or.inl ⟨by rfl, ?_⟩) hHeld ?_ ?_
          rotate_left
          ·rintro w' ⟨s0, s1, s2⟩
           go_simp
           with_reducible rfl
          rotate_left
          ·simp only [Act.put, sia, scz, scs, i64_w, i32_w]
           rfl
          refine one_ (i := 12) (N := some 151) #[true, true, true, true, true, true, true, true, true, true, true, true, true, false, false] rfl rfl (by kernel_rfl) (by decide) (fun K hK => ?_)
          refine goes_ Try.func68 (by kernel_rfl) rfl #[.pointer (some ⟨g, 0, none⟩), .slice Ad r.length cr, .slice (some ⟨go, 0, none⟩) n co] (by rfl) rfl rfl (by simp only [List.map_toArray, List.map_cons, List.map_nil]; rfl) ?_
          with_reducible refine (HJ4.out.dot HRR.out HCR.out HDT.out).mono ?_
          rintro e w41 ⟨rfl, hI, hB, hk⟩
          refine ⟨_, rfl, ?_⟩
          have HJ5 := ak (HJ4.out.keep hI hB hk)
          clear hI hB hk
          refine hK.out _ _ ⟨HJ5.out.c13, cbl HZ0.out.2.1 HJ5.out.B, cbl HRW0.out HJ5.out.B⟩ (fun hHeld => ?_)
          clear hK K
          refine norm_ (a' := ?_) ?_ ?_
          rotate_left
          ·show Act.put _ (some 151) _ = _
           simp only [Act.put, sia, scz, scs, i64_w, i32_w]
           rfl
          refine pure_ (i := 13) (N := some 152) (v := ?_) (a' := ?_) #[true, true, true, true, true, true, true, true, true, true, true, true, true, true, false] rfl rfl (by kernel_rfl) (fun _ _ _ h => h) (Or.inl ⟨by rfl, ?_⟩) ?_ ?_
          rotate_left
          ·intro w'
           go_simp
           with_reducible rfl
          rotate_left
          ·simp only [Act.put, sia, scz, scs, i64_w, i32_w]
           rfl
          refine pure_ (i := 14) (N := some 153) (v := ?_) (a' := ?_) #[true, true, true, true, true, true, true, true, true, true, true, true, true, true, true] rfl rfl (by kernel_rfl) (fun _ _ _ h => h) (Or.inl ⟨by rfl, ?_⟩) ?_ ?_
          rotate_left
          ·intro w'
           go_simp
           with_reducible rfl
          rotate_left
          ·simp only [Act.put, sia, scz, scs, i64_w, i32_w]
           rfl
          refine done_ (by kernel_rfl) ?_
          go_wp2_with (fail)
          go_roundg (ch.length - (j + 1))
          case measure => have := HN3.out.2.1; have := HLT.out; omega
          case rel =>
           have h := HN3.out
           have h2 := HLT.out
           have h3 := HSZ.out.1
           refine ⟨j + 1, ?_, ⟨by omega, rfl, by have h4 := HBF.out; rw [if_pos HD0.out] at h4; exact h4⟩, HJ5⟩
           (rw [wrap64_succ' (n := 257) (by omega) (by omega) (by omega)]; rfl)
         ·have HD0 := ak hd
          have t10 : (dv != 0) = true := by simp [hd]
          clear hd
          go_upto_region 36 with (fail)
          have HJ3 := ak (HJ3.out.step (bd1 (Below.refl _ _)))
          refine start_ (n := 15) (S := fun w' => w'.cell? ⟨b13, 0, none⟩ = some (.pointer (some ⟨g, 0, none⟩)) ∧ w'.cell? ⟨b5, 1, none⟩ = some (.slice (some ar) rows.length c1) ∧ w'.cell? (ar.add j) = some (.slice Ad r.length cr)) (ds := []) #[false, false, false, false, false, false, false, false, false, false, false, false, false, false, false] (by kernel_rfl) rfl rfl ⟨hs0, hs1, hs2⟩ (fun hHeld => ?_)
          refine pure_ (i := 0) (N := some 139) (v := ?_) (a' := ?_) #[true, false, false, false, false, false, false, false, false, false, false, false, false, false, false] rfl rfl (by kernel_rfl) (fun _ _ _ h => h) (Or.inl ⟨by rfl, ?_⟩) ?_ ?_
          rotate_left
          ·intro w'
           go_simp
           with_reducible rfl
          rotate_left
          ·simp only [Act.put, sia, scz, scs, i64_w, i32_w]
           rfl
          refine pure_ (i := 1) (N := some 140) (v := ?_) (a' := ?_) #[true, true, false, false, false, false, false, false, false, false, false, false, false, false, false] rfl rfl (by kernel_rfl) (fun _ _ _ h => h) (Or.inl ⟨by rfl, ?_⟩) ?_ ?_
          rotate_left
          ·intro w'
           go_simp
           with_reducible rfl
          rotate_left
          ·simp only [Act.put, sia, scz, scs, i64_w, i32_w]
           rfl
          refine one_ (i := 2) (N := some 141) #[true, true, true, false, false, false, false, false, false, false, false, false, false, false, false] rfl rfl (by kernel_rfl) (by decide) (fun K hK => ?_)
          refine goes_ Try.func61 (by kernel_rfl) rfl #[.slice Al l.length cl, .func (.func 70) #[] #[.pointer (some ⟨b15, 0, none⟩)]] (by rfl) rfl rfl (by simp only [List.map_toArray, List.map_cons, List.map_nil]; rfl) ?_
          with_reducible refine (ContainsFunc_Int 70 eg70 #[.pointer (some ⟨b15, 0, none⟩)] (fun W => PJ ⟨P, M, md, q, ex, lg⟩ w0 g b13 b15 go co gi ci n W out1 inn1) Al cl l (fun k => inAt inn1 k) _ w0 HRl0.out HJ3.out (fun W h => h.B) (by unfold PredInt; intro x W hx h; exact closure70' x h (HCHI.out l HMEM.out x hx))).mono ?_
          rintro e w40 ⟨rfl, hI⟩
          refine ⟨_, rfl, ?_⟩
          rw [HANY2.out]
          have HJ4 := ak hI
          clear hI
          refine hK.out _ _ ⟨HJ4.out.c13, cbl HZ0.out.2.1 HJ4.out.B, cbl HRW0.out HJ4.out.B⟩ (fun hHeld => ?_)
          clear hK K
          refine norm_ (a' := ?_) ?_ ?_
          rotate_left
          ·show Act.put _ (some 141) _ = _
           simp only [Act.put, sia, scz, scs, i64_w, i32_w]
           rfl
          refine pure_ (i := 3) (N := some 142) (v := ?_) (a' := ?_) #[true, true, true, true, false, false, false, false, false, false, false, false, false, false, false] rfl rfl (by kernel_rfl) (fun _ _ _ h => h) (Or.inl ⟨by rfl, ?_⟩) ?_ ?_
          rotate_left
          ·intro w'
           go_simp
           with_reducible rfl
          rotate_left
          ·simp only [Act.put, sia, scz, scs, i64_w, i32_w]
           rfl
          refine pure_ (i := 4) (N := some 143) (v := ?_) (a' := ?_) #[true, true, true, true, true, false, false, false, false, false, false, false, false, false, false] rfl rfl (by kernel_rfl) (fun _ _ _ h => h) (Or.inl ⟨by rfl, ?_⟩) ?_ ?_
          rotate_left
          ·intro w'
           go_simp
           with_reducible rfl
          rotate_left
          ·simp only [Act.put, sia, scz, scs, i64_w, i32_w]
           rfl
          refine pure_ (i := 6) (N := some 145) (v := ?_) (a' := ?_) #[true, true, true, true, true, false, true, false, false, false, false, false, false, false, false] rfl rfl (by kernel_rfl) (fun _ _ _ h => h) (Or.inl ⟨by rfl, ?_⟩) ?_ ?_
          rotate_left
          ·intro w'
           go_simp
           with_reducible rfl
          rotate_left
          ·simp only [Act.put, sia, scz, scs, i64_w, i32_w]
           rfl
          refine pure_ (i := 8) (N := some 147) (v := ?_) (a' := ?_) #[true, true, true, true, true, false, true, false, true, false, false, false, false, false, false] rfl rfl (by kernel_rfl) (fun _ _ _ h => h) (Or.inl ⟨by rfl, ?_⟩) ?_ ?_
          rotate_left
          ·intro w'
           go_simp
           with_reducible rfl
          rotate_left
          ·simp only [Act.put, sia, scz, scs, i64_w, i32_w]
           rfl
          refine pure_ (i := 11) (N := some 150) (v := ?_) (a' := ?_) #[true, true, true, true, true, false, true, false, true, false, false, true, false, false, false] rfl rfl (by kernel_rfl) (fun _ _ _ h => h) (Or.inl ⟨by rfl, ?_⟩) ?_ ?_
          rotate_left
          ·intro w'
           go_simp
           with_reducible rfl
          rotate_left
          ·simp only [Act.put, sia, scz, scs, i64_w, i32_w]
           rfl
          refine take_ (i := 5) (N := some 144) (v := ?_) (a' := ?_) #[true, true, true, true, true, true, true, false, true, false, false, true, false, false, false] rfl rfl (by kernel_rfl) (fun _ _ _ h => h) (Or.inl ⟨by rfl, ?_⟩) hHeld ?_ ?_
          rotate_left
          ·rintro w' ⟨s0, s1, s2⟩
           go_simp
           with_reducible rfl
          rotate_left
          ·simp only [Act.put, sia, scz, scs, i64_w, i32_w]
           rfl
          refine take_ (i := 7) (N := some 146) (v := ?_) (a' := ?_) #[true, true, true, true, true, true, true, true, true, false, false, true, false, false, false] rfl rfl (by kernel_rfl) (fun _ _ _ h => h) (Or.inl ⟨by rfl, ?_⟩) hHeld ?_ ?_
          rotate_left
          ·rintro w' ⟨s0, s1, s2⟩
           go_simp
           with_reducible rfl
          rotate_left
          ·simp only [Act.put, sia, scz, scs, i64_w, i32_w]
           rfl
          refine pure_ (i := 9) (N := some 148) (v := ?_) (a' := ?_) #[true, true, true, true, true, true, true, true, true, true, false, true, false, false, false] rfl rfl (by kernel_rfl) (fun _ _ _ h => h) (Or.inl ⟨by rfl, ?_⟩) ?_ ?_
          rotate_left
          ·intro w'
           go_simp
           with_reducible rfl
          rotate_left
          ·simp only [Act.put, sia, scz, scs, i64_w, i32_w]
           rfl
          refine take_ (i := 10) (N := some 149) (v := ?_) (a' := ?_) #[true, true, true, true, true, true, true, true, true, true, true, true, false, false, false] rfl rfl (by kernel_rfl) (fun _ _ _ h => h) (Or.inl ⟨by rfl, ?_⟩) hHeld ?_ ?_
          rotate_left
          ·rintro w' ⟨s0, s1, s2⟩
           go_simp
           with_reducible rfl
          rotate_left
          ·simp only [Act.put, sia, scz, scs, i64_w, i32_w]
           rfl
          refine one_ (i := 12) (N := some 151) #[true, true, true, true, true, true, true, true, true, true, true, true, true, false, false] rfl rfl (by kernel_rfl) (by decide) (fun K hK => ?_)
          refine goes_ Try.func68 (by kernel_rfl) rfl #[.pointer (some ⟨g, 0, none⟩), .slice Ad r.length cr, .slice (some ⟨go, 0, none⟩) n co] (by rfl) rfl rfl (by simp only [List.map_toArray, List.map_cons, List.map_nil]; rfl) ?_
          with_reducible refine (HJ4.out.dot HRR.out HCR.out HDT.out).mono ?_
          rintro e w41 ⟨rfl, hI, hB, hk⟩
          refine ⟨_, rfl, ?_⟩
          have HJ5 := ak (HJ4.out.keep hI hB hk)
          clear hI hB hk
          refine hK.out _ _ ⟨HJ5.out.c13, cbl HZ0.out.2.1 HJ5.out.B, cbl HRW0.out HJ5.out.B⟩ (fun hHeld => ?_)
          clear hK K
          refine norm_ (a' := ?_) ?_ ?_
          rotate_left
          ·show Act.put _ (some 151) _ = _
           simp only [Act.put, sia, scz, scs, i64_w, i32_w]
           rfl
          refine pure_ (i := 13) (N := some 152) (v := ?_) (a' := ?_) #[true, true, true, true, true, true, true, true, true, true, true, true, true, true, false] rfl rfl (by kernel_rfl) (fun _ _ _ h => h) (Or.inl ⟨by rfl, ?_⟩) ?_ ?_
          rotate_left
          ·intro w'
           go_simp
           with_reducible rfl
          rotate_left
          ·simp only [Act.put, sia, scz, scs, i64_w, i32_w]
           rfl
          refine pure_ (i := 14) (N := some 153) (v := ?_) (a' := ?_) #[true, true, true, true, true, true, true, true, true, true, true, true, true, true, true] rfl rfl (by kernel_rfl) (fun _ _ _ h => h) (Or.inl ⟨by rfl, ?_⟩) ?_ ?_
          rotate_left
          ·intro w'
           go_simp
           with_reducible rfl
          rotate_left
          ·simp only [Act.put, sia, scz, scs, i64_w, i32_w]
           rfl
          refine done_ (by kernel_rfl) ?_
          go_wp2_with (fail)
          go_ret3
          have hb : bf = true := by have h4 := HBF.out; rw [if_neg HD0.out] at h4; exact h4
          have hend := HEND.out
          rw [if_pos hb] at hend
          have hend := osi hend
          injection hend with e1 e2
          injection e2 with e2 e3
          subst e1 e2 e3
          exact ⟨_, _, rfl, Kd.R_nil _ _ _ _ _, Kd.R_nil _ _ _ _ _, bsp HBW.out HJ5.out.B⟩
       ·have t4 := eq_false hlt
        have t5 : decide ((j : Int) < (ch.length : Int)) = false := dff hlt
        have hb : bf = false := by
         have h := HN3.out
         have h2 := h.2.2
         rw [show j = ch.length by omega, List.drop_length, failsAt] at h2
         exact (osi h2).symm
        have hend := HEND.out
        rw [if_neg (by simp [hb])] at hend
        obtain ⟨lf, hlf, e⟩ := Option.map_eq_some_iff.1 hend
        injection e with e1 e2
        injection e2 with e2 e3
        subst e1 e2 e3
        have HLF := ak hlf
        have hc15 := HJ3.out.c15
        clear hlt hb hend hlf
        have HLC := ak (peel_left.calls 4096 (some ⟨gi, 0, none⟩) ci inn1 lf wr (Kd.R_reads' (show Kd.R Kd.bool 4 wr w0.heap.size (fun _ => True) (.slice (some ⟨gi, 0, none⟩) inn1.length ci) inn1 by rw [HJ3.out.l2]; exact HJ3.out.o2)).2.2 (by have h := (Kd.R_reads' HJ3.out.o2).2.1; rw [HJ3.out.l2]; exact h) HLF.out)
        rw [HJ3.out.l2] at HLC
        go_wp2_with (go_at_call 55; (with_reducible refine HLC.out.mono ?_); rintro e wE ⟨vl, rfl, hR, hB⟩; have HLR := ak hR; have HLB := ak hB; clear hR hB)
        go_ret3
        exact ⟨_, _, rfl, Kd.R_lower (Kd.R_below HJ3.out.o1 HLB.out) HBW.out.size, Kd.R_lower HLR.out (bsz (bsp HBW.out HJ3.out.B)), bsp HBW.out (bsp HJ3.out.B HLB.out)⟩
     ·rw [if_neg hneg] at hgo
      obtain ⟨o3, hfill, hgo⟩ := Option.bind_eq_some_iff.1 hgo
      have HFILL := ak hfill
      have HGO2 := ak hgo
      clear hfill hgo
      have t2 := eq_true (show 0 ≤ al by omega)
      have t3 : decide (0 ≤ al) = true := det (by omega)
      have ht1 := cbl HZ0.out.2.2.2 HJ.out.B
      go_upto_region 23 with (fail)
      clear hneg
      go_upto_block 5 with (fail)
      go_cut [19, 20, 21, 22] from 85 to 126 (fun s19 s20 s21 s22 wc => Aside0 (PJ ⟨P, M, md, q, ex, lg⟩ w0 g b13 b15 go co gi ci n wc o3 inn1) ∧ Aside0 (wc.heap[b]? = some (.cells #[.int .i64 al] 3 (0, 0))))
      case first =>
       clear hc18 ht1
       go_wp2_with (fail)
       go_loopg [85] ch.length (fun gk v85 w' => ∃ j : Nat, v85 = .int .i64 j ∧ Aside0 (j ≤ ch.length ∧ gk = ch.length - j ∧ fillIn ⟨P, M, md, q, ex, lg⟩ inn1 al out1 (ch.drop j) (rows.drop j) = some o3) ∧ Aside0 (PJ ⟨P, M, md, q, ex, lg⟩ w0 g b13 b15 go co gi ci n w' out1 inn1) ∧ Aside0 (w'.heap[b]? = some (.cells #[.int .i64 al] 3 (0, 0))))
       case atStart => exact ⟨0, rfl, ⟨by simp, by simp, by rw [List.drop_zero, List.drop_zero]; exact HFILL.out⟩, HJ, HBK⟩
       case round =>
        obtain ⟨j, rfl, HN3, HJ3, HBK3⟩ := hrel
        by_cases hlt : (j : Int) < (ch.length : Int)
        ·have t4 := eq_true hlt
         have t5 : (0 ≤ (j : Int)) = True := eq_true (Int.natCast_nonneg j)
         obtain ⟨ad, Al, cl, eA, hx, hc0, hr0⟩ := at_L1 HCH.out j (of_eq_true t5) hlt
         replace hx := pcb HJ3.out.B hx
         subst eA
         obtain ⟨l, hl⟩ : ∃ x, rd_L1 ch (j : Int) = x := ⟨_, rfl⟩
         rw [hl] at hx hc0 hr0
         rw [Int.toNat_natCast] at hx
         have HL := ak hl
         have HLT := ak hlt
         have HCl := ak hc0
         have HRl0 := ak hr0
         have HRl := ak (Kd.C_below hr0 HJ3.out.B)
         have HMEM := ak (show l ∈ ch by rw [← hl]; exact rd_memRow (by omega) hlt)
         have hfl := HN3.out.2.2
         rw [rows_drop (by omega : j < ch.length), hl] at hfl
         have HFL := ak hfl
         clear hl hlt hc0 hr0 hfl
         have hc18 := (kce HBK3.out 0).trans (show _ = some (Value.int .i64 al) from rfl)
         have HCON := ak (contains_f l al (Nat.le_trans (HLL.out l HMEM.out) (by decide)))
         by_cases hmem : al ∈ l
         ·rw [det hmem] at HCON
          have HIM := ak hmem
          clear hmem
          cases hany : l.any (fun k => !decide (k = al) && inAt inn1 k) with
          | false =>
           have HANY2 := ak hany
           clear hany
           go_upto_region 27 with (first | (go_at_call 65; (with_reducible refine (slices_Contains_int_int.calls _ Al cl l al true _ HRl.out HCl.out HCON.out).mono ?_); rintro e w20 ⟨rfl, hd⟩; have HJ4 := ak (HJ3.out.step (drawn0_below' hd)); have HB4 := ak (blk_grown HBK3.out (grown_of_below (drawn0_below' hd) none) (by simp)); clear hd) | (go_at_call 61; (with_reducible refine (ContainsFunc_Int 66 eg66 #[.pointer (some ⟨b, 0, none⟩), .pointer (some ⟨b15, 0, none⟩)] (fun W => PJ ⟨P, M, md, q, ex, lg⟩ w0 g b13 b15 go co gi ci n W out1 inn1 ∧ W.heap[b]? = some (.cells #[.int .i64 al] 3 (0, 0))) Al cl l (fun k => !decide (k = al) && inAt inn1 k) _ w0 HRl0.out ⟨HJ4.out, HB4.out⟩ (fun W h => h.1.B) (by unfold PredInt; intro x W hx h; exact closure66' x al b b15 h.1 h.2 (HCHI.out l HMEM.out x hx))).mono ?_); rintro e w21 ⟨rfl, hI, hb⟩; rw [HANY2.out]; have HJ5 := ak hI; have HBk5 := ak hb; clear hI hb))
           have hl1 : lone inn1 al l = true := by simp [lone, HIM.out, HANY2.out]
           obtain ⟨hj, hir, dv, xv, yv, hdv, hxv, hyv, ho3⟩ := fill_take HFL.out hl1
           have hjlt : (j : Int) < (rows.length : Int) := by exact_mod_cast hj
           obtain ⟨ar, Ad, cr, eR, hxr, hcr, hrr⟩ := at_L1 (Kd.C_below HR1.out HBW.out) j (of_eq_true t5) hjlt
           subst eR
           obtain ⟨r, hr⟩ : ∃ x, rd_L1 rows (j : Int) = x := ⟨_, rfl⟩
           rw [hr] at hxr hcr hrr hir hdv hxv
           rw [Int.toNat_natCast] at hxr
           obtain ⟨adr, eD, hxe⟩ := Kd.at_int hrr al (of_eq_true t2) hir
           subst eD
           have HRW0 := ak hxr
           have HRE0 := ak hxe
           have HRR := ak hrr
           have HCR := ak hcr
           have HDT := ak hdv
           have HDV := ak hxv
           have HNG := ak hyv
           have HO3 := ak ho3
           have t6 := eq_true hjlt
           have t6' : decide ((j : Int) < (rows.length : Int)) = true := det hjlt
           have t8 := eq_true hir
           have t8' : decide (al < (r.length : Int)) = true := det hir
           have t9 : decide (0 ≤ (j : Int)) = true := det (Int.natCast_nonneg j)
           have i1 := eq_true (show al < (n : Int) by rw [← HAL.out]; exact alone_lt inn1 n (by omega) ch HCHI.out)
           have HJ5 := ak (HJ5.out.step (bd1 (Below.refl _ _)))
           have HBk5 := ak (show w21.drew.heap[b]? = _ from HBk5.out)
           have hs0 := HJ5.out.c13
           have hs1 := cbl HZ0.out.2.1 HJ5.out.B
           have hs2 := cbl HRW0.out HJ5.out.B
           have hs3 := (kce HBk5.out 0).trans (show _ = some (Value.int .i64 al) from rfl)
           have hs4 := cbl HRE0.out HJ5.out.B
           clear hl1 hj hir hdv hxv hyv ho3 hjlt hxr hcr hrr hxe hr
           refine start_ (n := 23) (S := fun w' => w'.cell? ⟨b13, 0, none⟩ = some (.pointer (some ⟨g, 0, none⟩)) ∧ w'.cell? ⟨b5, 1, none⟩ = some (.slice (some ar) rows.length c1) ∧ w'.cell? (ar.add j) = some (.slice (some adr) r.length cr) ∧ w'.cell? ⟨b, 0, none⟩ = some (.int .i64 al) ∧ w'.cell? (adr.add al.toNat) = some (.int .i64 (rd r al))) (ds := []) #[false, false, false, false, false, false, false, false, false, false, false, false, false, false, false, false, false, false, false, false, false, false, false] (by kernel_rfl) rfl rfl ⟨hs0, hs1, hs2, hs3, hs4⟩ (fun hHeld => ?_)
           refine pure_ (i := 2) (N := some 102) (v := ?_) (a' := ?_) #[false, false, true, false, false, false, false, false, false, false, false, false, false, false, false, false, false, false, false, false, false, false, false] rfl rfl (by kernel_rfl) (fun _ _ _ h => h) (Or.inl ⟨by rfl, ?_⟩) ?_ ?_
           rotate_left
           ·intro w'
            go_simp
            with_reducible rfl
           rotate_left
           ·simp only [Act.put, sia, scz, scs, i64_w, i32_w]
            rfl
           refine pure_ (i := 4) (N := some 104) (v := ?_) (a' := ?_) #[false, false, true, false, true, false, false, false, false, false, false, false, false, false, false, false, false, false, false, false, false, false, false] rfl rfl (by kernel_rfl) (fun _ _ _ h => h) (Or.inl ⟨by rfl, ?_⟩) ?_ ?_
           rotate_left
           ·intro w'
            go_simp
            with_reducible rfl
           rotate_left
           ·simp only [Act.put, sia, scz, scs, i64_w, i32_w]
            rfl
           refine pure_ (i := 7) (N := some 107) (v := ?_) (a' := ?_) #[false, false, true, false, true, false, false, true, false, false, false, false, false, false, false, false, false, false, false, false, false, false, false] rfl rfl (by kernel_rfl) (fun _ _ _ h => h) (Or.inl ⟨by rfl, ?_⟩) ?_ ?_
           rotate_left
           ·intro w'
            go_simp
            with_reducible rfl
           rotate_left
           ·simp only [Act.put, sia, scz, scs, i64_w, i32_w]
            rfl
           refine pure_ (i := 9) (N := some 109) (v := ?_) (a' := ?_) #[false, false, true, false, true, false, false, true, false, true, false, false, false, false, false, false, false, false, false, false, false, false, false] rfl rfl (by kernel_rfl) (fun _ _ _ h => h) (Or.inl ⟨by rfl, ?_⟩) ?_ ?_
           rotate_left
           ·intro w'
            go_simp
            with_reducible rfl
           rotate_left
           ·simp only [Act.put, sia, scz, scs, i64_w, i32_w]
            rfl
           refine pure_ (i := 11) (N := some 111) (v := ?_) (a' := ?_) #[false, false, true, false, true, false, false, true, false, true, false, true, false, false, false, false, false, false, false, false, false, false, false] rfl rfl (by kernel_rfl) (fun _ _ _ h => h) (Or.inl ⟨by rfl, ?_⟩) ?_ ?_
           rotate_left
           ·intro w'
            go_simp
            with_reducible rfl
           rotate_left
           ·simp only [Act.put, sia, scz, scs, i64_w, i32_w]
            rfl
           refine take_ (i := 0) (N := some 100) (v := ?_) (a' := ?_) #[true, false, true, false, true, false, false, true, false, true, false, true, false, false, false, false, false, false, false, false, false, false, false] rfl rfl (by kernel_rfl) (fun _ _ _ h => h) (Or.inl ⟨by rfl, ?_⟩) hHeld ?_ ?_
           rotate_left
           ·rintro w' ⟨s0, s1, s2, s3, s4⟩
            go_simp
            with_reducible rfl
           rotate_left
           ·simp only [Act.put, sia, scz, scs, i64_w, i32_w]
            rfl
           refine take_ (i := 1) (N := some 101) (v := ?_) (a' := ?_) #[true, true, true, false, true, false, false, true, false, true, false, true, false, false, false, false, false, false, false, false, false, false, false] rfl rfl (by kernel_rfl) (fun _ _ _ h => h) (Or.inl ⟨by rfl, ?_⟩) hHeld ?_ ?_
           rotate_left
           ·rintro w' ⟨s0, s1, s2, s3, s4⟩
            go_simp
            with_reducible rfl
           rotate_left
           ·simp only [Act.put, sia, scz, scs, i64_w, i32_w]
            rfl
           refine take_ (i := 3) (N := some 103) (v := ?_) (a' := ?_) #[true, true, true, true, true, false, false, true, false, true, false, true, false, false, false, false, false, false, false, false, false, false, false] rfl rfl (by kernel_rfl) (fun _ _ _ h => h) (Or.inl ⟨by rfl, ?_⟩) hHeld ?_ ?_
           rotate_left
           ·rintro w' ⟨s0, s1, s2, s3, s4⟩
            go_simp
            with_reducible rfl
           rotate_left
           ·simp only [Act.put, sia, scz, scs, i64_w, i32_w]
            rfl
           refine pure_ (i := 5) (N := some 105) (v := ?_) (a' := ?_) #[true, true, true, true, true, true, false, true, false, true, false, true, false, false, false, false, false, false, false, false, false, false, false] rfl rfl (by kernel_rfl) (fun _ _ _ h => h) (Or.inl ⟨by rfl, ?_⟩) ?_ ?_
           rotate_left
           ·intro w'
            go_simp
            with_reducible rfl
           rotate_left
           ·simp only [Act.put, sia, scz, scs, i64_w, i32_w]
            rfl
           refine take_ (i := 6) (N := some 106) (v := ?_) (a' := ?_) #[true, true, true, true, true, true, true, true, false, true, false, true, false, false, false, false, false, false, false, false, false, false, false] rfl rfl (by kernel_rfl) (fun _ _ _ h => h) (Or.inl ⟨by rfl, ?_⟩) hHeld ?_ ?_
           rotate_left
           ·rintro w' ⟨s0, s1, s2, s3, s4⟩
            go_simp
            with_reducible rfl
           rotate_left
           ·simp only [Act.put, sia, scz, scs, i64_w, i32_w]
            rfl
           refine take_ (i := 10) (N := some 110) (v := ?_) (a' := ?_) #[true, true, true, true, true, true, true, true, false, true, true, true, false, false, false, false, false, false, false, false, false, false, false] rfl rfl (by kernel_rfl) (fun _ _ _ h => h) (Or.inl ⟨by rfl, ?_⟩) hHeld ?_ ?_
           rotate_left
           ·rintro w' ⟨s0, s1, s2, s3, s4⟩
            go_simp
            with_reducible rfl
           rotate_left
           ·simp only [Act.put, sia, scz, scs, i64_w, i32_w]
            rfl
           refine pure_ (i := 12) (N := some 112) (v := ?_) (a' := ?_) #[true, true, true, true, true, true, true, true, false, true, true, true, true, false, false, false, false, false, false, false, false, false, false] rfl rfl (by kernel_rfl) (fun _ _ _ h => h) (Or.inl ⟨by rfl, ?_⟩) ?_ ?_
           rotate_left
           ·intro w'
            go_simp
            with_reducible rfl
           rotate_left
           ·simp only [Act.put, sia, scz, scs, i64_w, i32_w]
            rfl
           refine take_ (i := 13) (N := some 113) (v := ?_) (a' := ?_) #[true, true, true, true, true, true, true, true, false, true, true, true, true, true, false, false, false, false, false, false, false, false, false] rfl rfl (by kernel_rfl) (fun _ _ _ h => h) (Or.inl ⟨by rfl, ?_⟩) hHeld ?_ ?_
           rotate_left
           ·rintro w' ⟨s0, s1, s2, s3, s4⟩
            go_simp
            with_reducible rfl
           rotate_left
           ·simp only [Act.put, sia, scz, scs, i64_w, i32_w]
            rfl
           refine take_ (i := 14) (N := some 114) (v := ?_) (a' := ?_) #[true, true, true, true, true, true, true, true, false, true, true, true, true, true, true, false, false, false, false, false, false, false, false] rfl rfl (by kernel_rfl) (fun _ _ _ h => h) (Or.inl ⟨by rfl, ?_⟩) hHeld ?_ ?_
           rotate_left
           ·rintro w' ⟨s0, s1, s2, s3, s4⟩
            go_simp
            with_reducible rfl
           rotate_left
           ·simp only [Act.put, sia, scz, scs, i64_w, i32_w]
            rfl
           refine pure_ (i := 15) (N := some 115) (v := ?_) (a' := ?_) #[true, true, true, true, true, true, true, true, false, true, true, true, true, true, true, true, false, false, false, false, false, false, false] rfl rfl (by kernel_rfl) (fun _ _ _ h => h) (Or.inl ⟨by rfl, ?_⟩) ?_ ?_
           rotate_left
           ·intro w'
            go_simp
            with_reducible rfl
           rotate_left
           ·simp only [Act.put, sia, scz, scs, i64_w, i32_w]
            rfl
           refine take_ (i := 16) (N := some 116) (v := ?_) (a' := ?_) #[true, true, true, true, true, true, true, true, false, true, true, true, true, true, true, true, true, false, false, false, false, false, false] rfl rfl (by kernel_rfl) (fun _ _ _ h => h) (Or.inl ⟨by rfl, ?_⟩) hHeld ?_ ?_
           rotate_left
           ·rintro w' ⟨s0, s1, s2, s3, s4⟩
            go_simp
            with_reducible rfl
           rotate_left
           ·simp only [Act.put, sia, scz, scs, i64_w, i32_w]
            rfl
           refine one_ (i := 8) (N := some 108) #[true, true, true, true, true, true, true, true, true, true, true, true, true, true, true, true, true, false, false, false, false, false, false] rfl rfl (by kernel_rfl) (by decide) (fun K hK => ?_)
           refine goes_ Try.func68 (by kernel_rfl) rfl #[.pointer (some ⟨g, 0, none⟩), .slice (some adr) r.length cr, .slice (some ⟨go, 0, none⟩) n co] (by rfl) rfl rfl (by simp only [List.map_toArray, List.map_cons, List.map_nil]; rfl) ?_
           with_reducible refine (HJ5.out.dot HRR.out HCR.out HDT.out).mono ?_
           rintro e w30 ⟨rfl, hI, hB, hk⟩
           refine ⟨_, rfl, ?_⟩
           have HJ6 := ak (HJ5.out.keep hI hB hk)
           have HBk6 := ak (hk.blk HBk5.out HDD.out.2.1 (by simp))
           clear hI hB hk
           refine hK.out _ _ ⟨HJ6.out.c13, cbl HZ0.out.2.1 HJ6.out.B, cbl HRW0.out HJ6.out.B, (kce HBk6.out 0).trans rfl, cbl HRE0.out HJ6.out.B⟩ (fun hHeld => ?_)
           clear hK K
           refine norm_ (a' := ?_) ?_ ?_
           rotate_left
           ·show Act.put _ (some 108) _ = _
            simp only [Act.put, sia, scz, scs, i64_w, i32_w]
            rfl
           refine one_ (i := 17) (N := some 117) #[true, true, true, true, true, true, true, true, true, true, true, true, true, true, true, true, true, true, false, false, false, false, false] rfl rfl (by kernel_rfl) (by decide) (fun K hK => ?_)
           refine goes_ Try.func67 (by kernel_rfl) rfl #[.pointer (some ⟨g, 0, none⟩), .int .i64 dv, .int .i64 (rd r al)] (by rfl) rfl rfl (by simp only [List.map_toArray, List.map_cons, List.map_nil]; rfl) ?_
           with_reducible refine (HJ6.out.div HDV.out).mono ?_
           rintro e w31 ⟨xq, rfl, hI, hB, hk⟩
           refine ⟨_, rfl, ?_⟩
           have HJ7 := ak (HJ6.out.keep hI hB hk)
           have HBk7 := ak (hk.blk HBk6.out HDD.out.2.1 (by simp))
           clear hI hB hk
           refine hK.out _ _ ⟨HJ7.out.c13, cbl HZ0.out.2.1 HJ7.out.B, cbl HRW0.out HJ7.out.B, (kce HBk7.out 0).trans rfl, cbl HRE0.out HJ7.out.B⟩ (fun hHeld => ?_)
           clear hK K
           refine norm_ (a' := ?_) ?_ ?_
           rotate_left
           ·show Act.put _ (some 117) _ = _
            simp only [Act.put, sia, scz, scs, i64_w, i32_w]
            rfl
           refine pure_ (i := 18) (N := some 99) (v := ?_) (a' := ?_) #[true, true, true, true, true, true, true, true, true, true, true, true, true, true, true, true, true, true, true, false, false, false, false] rfl rfl (by kernel_rfl) (fun _ _ _ h => h) (Or.inl ⟨by rfl, ?_⟩) ?_ ?_
           rotate_left
           ·intro w'
            go_simp
            with_reducible rfl
           rotate_left
           ·simp only [Act.put, sia, scz, scs, i64_w, i32_w]
            rfl
           refine pure_ (i := 19) (N := some 118) (v := ?_) (a' := ?_) #[true, true, true, true, true, true, true, true, true, true, true, true, true, true, true, true, true, true, true, true, false, false, false] rfl rfl (by kernel_rfl) (fun _ _ _ h => h) (Or.inl ⟨by rfl, ?_⟩) ?_ ?_
           rotate_left
           ·intro w'
            go_simp
            with_reducible rfl
           rotate_left
           ·simp only [Act.put, sia, scz, scs, i64_w, i32_w]
            rfl
           refine pure_ (i := 20) (N := some 119) (v := ?_) (a' := ?_) #[true, true, true, true, true, true, true, true, true, true, true, true, true, true, true, true, true, true, true, true, true, false, false] rfl rfl (by kernel_rfl) (fun _ _ _ h => h) (Or.inl ⟨by rfl, ?_⟩) ?_ ?_
           rotate_left
           ·intro w'
            go_simp
            with_reducible rfl
           rotate_left
           ·simp only [Act.put, sia, scz, scs, i64_w, i32_w]
            rfl
           refine pure_ (i := 21) (N := some 21) (v := ?_) (a' := ?_) #[true, true, true, true, true, true, true, true, true, true, true, true, true, true, true, true, true, true, true, true, true, true, false] rfl rfl (by kernel_rfl) (fun _ _ _ h => h) (Or.inl ⟨by rfl, ?_⟩) ?_ ?_
           rotate_left
           ·intro w'
            go_simp
            with_reducible rfl
           rotate_left
           ·simp only [Act.put, sia, scz, scs, i64_w, i32_w]
            rfl
           refine pure_ (i := 22) (N := some 22) (v := ?_) (a' := ?_) #[true, true, true, true, true, true, true, true, true, true, true, true, true, true, true, true, true, true, true, true, true, true, true] rfl rfl (by kernel_rfl) (fun _ _ _ h => h) (Or.inl ⟨by rfl, ?_⟩) ?_ ?_
           rotate_left
           ·intro w'
            go_simp
            with_reducible rfl
           rotate_left
           ·simp only [Act.put, sia, scz, scs, i64_w, i32_w]
            rfl
           refine done_ (by kernel_rfl) ?_
           go_upto_region 28 with (fail)
           have HJ7 := ak (HJ7.out.step (bd1 (Below.refl _ _)))
           have HBk7 := ak (show w31.drew.heap[b]? = _ from HBk7.out)
           have hn0 := HJ7.out.c13
           have hn1 := (kce HBk7.out 0).trans (show _ = some (Value.int .i64 al) from rfl)
           refine start_ (n := 7) (S := fun w' => w'.cell? ⟨b13, 0, none⟩ = some (.pointer (some ⟨g, 0, none⟩)) ∧ w'.cell? ⟨b, 0, none⟩ = some (.int .i64 al)) (ds := [6]) #[false, false, false, false, false, false, false] (by kernel_rfl) rfl rfl ⟨hn0, hn1⟩ (fun hHeld => ?_)
           refine pure_ (i := 0) (N := some 120) (v := ?_) (a' := ?_) #[true, false, false, false, false, false, false] rfl rfl (by kernel_rfl) (fun _ _ _ h => h) (Or.inl ⟨by rfl, ?_⟩) ?_ ?_
           rotate_left
           ·intro w'
            go_simp
            with_reducible rfl
           rotate_left
           ·simp only [Act.put, sia, scz, scs, i64_w, i32_w]
            rfl
           refine pure_ (i := 3) (N := some 123) (v := ?_) (a' := ?_) #[true, false, false, true, false, false, false] rfl rfl (by kernel_rfl) (fun _ _ _ h => h) (Or.inl ⟨by rfl, ?_⟩) ?_ ?_
           rotate_left
           ·intro w'
            go_simp
            with_reducible rfl
           rotate_left
           ·simp only [Act.put, sia, scz, scs, i64_w, i32_w]
            rfl
           refine take_ (i := 1) (N := some 121) (v := ?_) (a' := ?_) #[true, true, false, true, false, false, false] rfl rfl (by kernel_rfl) (fun _ _ _ h => h) (Or.inl ⟨by rfl, ?_⟩) hHeld ?_ ?_
           rotate_left
           ·rintro w' ⟨s0, s1⟩
            go_simp
            with_reducible rfl
           rotate_left
           ·simp only [Act.put, sia, scz, scs, i64_w, i32_w]
            rfl
           refine take_ (i := 2) (N := some 122) (v := ?_) (a' := ?_) #[true, true, true, true, false, false, false] rfl rfl (by kernel_rfl) (fun _ _ _ h => h) (Or.inl ⟨by rfl, ?_⟩) hHeld ?_ ?_
           rotate_left
           ·rintro w' ⟨s0, s1⟩
            go_simp
            with_reducible rfl
           rotate_left
           ·simp only [Act.put, sia, scz, scs, i64_w, i32_w]
            rfl
           refine one_ (i := 4) (N := some 124) #[true, true, true, true, true, false, false] rfl rfl (by kernel_rfl) (by decide) (fun K hK => ?_)
           refine goes_ Try.func69 (by kernel_rfl) rfl #[.pointer (some ⟨g, 0, none⟩), .int .i64 xv] (by rfl) rfl rfl (by simp only [List.map_toArray, List.map_cons, List.map_nil]; rfl) ?_
           with_reducible refine (HJ7.out.neg HNG.out).mono ?_
           rintro e w32 ⟨rfl, hI, hB, hk⟩
           refine ⟨_, rfl, ?_⟩
           have HJ8 := ak (HJ7.out.keep hI hB hk)
           have HBk8 := ak (hk.blk HBk7.out HDD.out.2.1 (by simp))
           clear hI hB hk
           obtain ⟨hcm, hfm⟩ := Kd.R_cell 0 (show Kd.R (Kd.int .i64) 3 w32 w0.heap.size (fun _ => True) (.slice (some ⟨go, 0, none⟩) out1.length co) out1 by rw [HJ8.out.l1]; exact HJ8.out.o1) al (of_eq_true t2) (by rw [HJ8.out.l1]; exact of_eq_true i1)
           refine hK.out _ _ ⟨HJ8.out.c13, (kce HBk8.out 0).trans rfl⟩ (fun hHeld => ?_)
           clear hK K
           refine norm_ (a' := ?_) ?_ ?_
           rotate_left
           ·show Act.put _ (some 124) _ = _
            simp only [Act.put, sia, scz, scs, i64_w, i32_w]
            rfl
           refine pure_ (i := 5) (N := some 125) (v := ?_) (a' := ?_) #[true, true, true, true, true, true, false] rfl rfl (by kernel_rfl) (fun _ _ _ h => h) (Or.inl ⟨by rfl, ?_⟩) ?_ ?_
           rotate_left
           ·intro w'
            go_simp
            with_reducible rfl
           rotate_left
           ·simp only [Act.put, sia, scz, scs, i64_w, i32_w]
            rfl
           refine last_ (i := 6) (N := none) #[true, true, true, true, true, true, true] rfl rfl (by kernel_rfl) (by decide) (fun K hK => ?_)
           refine skip_ (w1 := ?_) (by rfl) rfl ?_ ?_
           rotate_left
           ·go_simp
            rfl
           refine hK.out _ _ ?_
           clear hK K
           refine done_ (by kernel_rfl) ?_
           have HJ9 := ak (HJ8.out.putOut al yv)
           have HB9 := ak (blk_grown HBk8.out (Kd.R_put (show Kd.R (Kd.int .i64) 3 w32 w0.heap.size (fun _ => True) (.slice (some ⟨go, 0, none⟩) out1.length co) out1 by rw [HJ8.out.l1]; exact HJ8.out.o1) al yv).2 (fun e => HDD.out.2.2.1 (osi e)))
           go_wp2_with (fail)
           go_meet
           case rel => exact ⟨by rw [HO3.out]; exact HJ9, HB9⟩
          | true =>
           have HANY2 := ak hany
           clear hany
           go_wp2_with (first | (go_at_call 65; (with_reducible refine (slices_Contains_int_int.calls _ Al cl l al true _ HRl.out HCl.out HCON.out).mono ?_); rintro e w20 ⟨rfl, hd⟩; have HJ4 := ak (HJ3.out.step (drawn0_below' hd)); have HB4 := ak (blk_grown HBK3.out (grown_of_below (drawn0_below' hd) none) (by simp)); clear hd) | (go_at_call 61; (with_reducible refine (ContainsFunc_Int 66 eg66 #[.pointer (some ⟨b, 0, none⟩), .pointer (some ⟨b15, 0, none⟩)] (fun W => PJ ⟨P, M, md, q, ex, lg⟩ w0 g b13 b15 go co gi ci n W out1 inn1 ∧ W.heap[b]? = some (.cells #[.int .i64 al] 3 (0, 0))) Al cl l (fun k => !decide (k = al) && inAt inn1 k) _ w0 HRl0.out ⟨HJ4.out, HB4.out⟩ (fun W h => h.1.B) (by unfold PredInt; intro x W hx h; exact closure66' x al b b15 h.1 h.2 (HCHI.out l HMEM.out x hx))).mono ?_); rintro e w21 ⟨rfl, hI, hb⟩; rw [HANY2.out]; have HJ5 := ak hI; have HB5 := ak hb; clear hI hb))
           go_roundg (ch.length - (j + 1))
           case measure => have := HN3.out.2.1; have := HLT.out; omega
           case rel =>
            have h := HN3.out
            have h2 := HLT.out
            have h3 := HSZ.out.1
            refine ⟨j + 1, ?_, ⟨by omega, rfl, fill_skip HFL.out (by simp only [lone, HANY2.out, Bool.not_true, Bool.and_false])⟩, HJ5, HB5⟩
            (rw [wrap64_succ' (n := 257) (by omega) (by omega) (by omega)]; rfl)
         ·rw [dff hmem] at HCON
          have HNM := ak hmem
          clear hmem
          go_wp2_with (go_at_call 65; (with_reducible refine (slices_Contains_int_int.calls _ Al cl l al false _ HRl.out HCl.out HCON.out).mono ?_); rintro e w20 ⟨rfl, hd⟩; have HJ4 := ak (HJ3.out.step (drawn0_below' hd)); have HB4 := ak (blk_grown HBK3.out (grown_of_below (drawn0_below' hd) none) (by simp)); clear hd)
          go_roundg (ch.length - (j + 1))
          case measure => have := HN3.out.2.1; have := HLT.out; omega
          case rel =>
           have h := HN3.out
           have h2 := HLT.out
           have h3 := HSZ.out.1
           refine ⟨j + 1, ?_, ⟨by omega, rfl, fill_skip HFL.out (by simp [lone, HNM.out])⟩, HJ4, HB4⟩
           (rw [wrap64_succ' (n := 257) (by omega) (by omega) (by omega)]; rfl)
        ·have t4 := eq_false hlt
         have t5 : decide ((j : Int) < (ch.length : Int)) = false := dff hlt
         have HLT := ak hlt
         have HO3 := ak (show out1 = o3 by
          have h := HN3.out
          have h2 := h.2.2
          rw [show j = ch.length by omega, List.drop_length, fillIn] at h2
          exact osi h2)
         clear hlt
         go_wp2_with (fail)
         go_meet
         case rel => exact ⟨by rw [← HO3.out]; exact HJ3, HBK3⟩
      case rest =>
       obtain ⟨HJc, HBc⟩ := hcut
       clear hc18 ht1
       have hc18 : wc.cell? ⟨b, 0, none⟩ = some (.int .i64 al) := (kce HBc.out 0).trans rfl
       have hc15 := HJc.out.c15
       have HLA := ak (show al < (n : Int) by rw [← HAL.out]; exact alone_lt inn1 n (by omega) ch HCHI.out)
       have HL0 := ak (show 0 ≤ al from of_eq_true t2)
       have i1 := eq_true HLA.out
       obtain ⟨hcm, hfm⟩ := Kd.R_cell false (show Kd.R Kd.bool 4 wc w0.heap.size (fun _ => True) (.slice (some ⟨gi, 0, none⟩) inn1.length ci) inn1 by rw [HJc.out.l2]; exact HJc.out.o2) al HL0.out (by rw [HJc.out.l2]; exact HLA.out)
       have HJd := ak (HJc.out.putIn al false)
       have hd15 := HJd.out.c15
       have hd18 : (wc.setCell ⟨gi, al.toNat, none⟩ (.bool false)).cell? ⟨b, 0, none⟩ = some (.int .i64 al) := by
        have ho := (Kd.R_put (show Kd.R Kd.bool 4 wc w0.heap.size (fun _ => True) (.slice (some ⟨gi, 0, none⟩) inn1.length ci) inn1 by rw [HJc.out.l2]; exact HJc.out.o2) al false).2
        exact cell_grown ho hc18 (fun e => HDD.out.2.2.2 (osi e))
       go_upto_region 22 with (fail)
       have hsz : (wc.setCell ⟨gi, al.toNat, none⟩ (.bool false)).heap.size = wc.heap.size := by simp
       have hbk : ((wc.setCell ⟨gi, al.toNat, none⟩ (.bool false)).alloc (Obj.cells #[Value.int IntKind.i64 al] 3)).heap[wc.heap.size]? = some (.cells #[.int .i64 al] 3 (0, 0)) := by rw [← hsz]; exact heap_alloc_new _ _
       have HBK2 := ak hbk
       have HJe := ak (HJd.out.step (bal (Below.refl _ (wc.setCell ⟨gi, al.toNat, none⟩ (.bool false))) (Obj.cells #[Value.int IntKind.i64 al] 3)))
       have hd1 : g < (wc.setCell ⟨gi, al.toNat, none⟩ (.bool false)).heap.size := HJd.out.I.lt
       have hd2 : go < (wc.setCell ⟨gi, al.toNat, none⟩ (.bool false)).heap.size := Kd.R_lt HJd.out.o1 go rfl
       have hd3 : gi < (wc.setCell ⟨gi, al.toNat, none⟩ (.bool false)).heap.size := Kd.R_lt HJd.out.o2 gi rfl
       have hd4 : b13 < (wc.setCell ⟨gi, al.toNat, none⟩ (.bool false)).heap.size := World.block_lt_of_cell? _ _ HJd.out.c13
       have hd5 : b15 < (wc.setCell ⟨gi, al.toNat, none⟩ (.bool false)).heap.size := World.block_lt_of_cell? _ _ HJd.out.c15
       have HD2 := ak (show w0.heap.size ≤ wc.heap.size ∧ wc.heap.size ≠ g ∧ wc.heap.size ≠ go ∧ wc.heap.size ≠ gi ∧ wc.heap.size ≠ b13 ∧ wc.heap.size ≠ b15 from ⟨by have := HJd.out.B.size; omega, by omega, by omega, by omega, by omega, by omega⟩)
       clear hd15 hd18 hd1 hd2 hd3 hd4 hd5 hcm hfm hc15 hc18 hbk
       generalize (wc.setCell ⟨gi, al.toNat, none⟩ (.bool false)).alloc (Obj.cells #[Value.int IntKind.i64 al] 3) = wD at HBK2 HJe ⊢
       clear hsz
       generalize wc.heap.size = b' at HBK2 HD2 ⊢
       have ht0 := cbl HZ0.out.2.2.1 HJe.out.B
       have ht1 := cbl HZ0.out.2.2.2 HJe.out.B
       have hc15 := HJe.out.c15
       have hal := alone_calls V AG cG ch (some ⟨gi, 0, none⟩) ci (inn1.set al.toNat false) wD (Kd.C_below HCH.out HJe.out.B) HSC.out (Kd.R_reads' (show Kd.R Kd.bool 4 wD w0.heap.size (fun _ => True) (.slice (some ⟨gi, 0, none⟩) (inn1.set al.toNat false).length ci) (inn1.set al.toNat false) by rw [HJe.out.l2]; exact HJe.out.o2)).2.2 (by have h := (Kd.R_reads' HJe.out.o2).2.1; rw [HJe.out.l2]; exact h) (by rw [HJe.out.l2]; exact HCHI.out) (Nat.le_trans HSZ.out.1 (by decide))
       rw [HJe.out.l2] at hal
       have HAL2 := ak hal
       clear hal
       go_wp2_with (go_at_call 49; (with_reducible refine HAL2.out.mono ?_); rintro e wE ⟨rfl, hB⟩; have HJf := ak (HJe.out.step hB); have hbf : wE.heap[b']? = some (.cells #[.int .i64 al] 3 (0, 0)) := blk_grown HBK2.out (grown_of_below hB none) (by simp); have HBF := ak hbf; have hbc : wE.cell? ⟨b', 0, none⟩ = some (.int .i64 al) := (kce hbf 0).trans rfl; have hbz := kfz hbf 0; clear hB hbf)
       have HJg := ak (HJf.out.far b' (.int .i64 (alone (inn1.set al.toNat false) ch)) HD2.out)
       have HBg := ak (show (wE.setCell ⟨b', 0, none⟩ (.int .i64 (alone (inn1.set al.toNat false) ch))).heap[b']? = some (.cells #[.int .i64 (alone (inn1.set al.toNat false) ch)] 3 (0, 0)) by simpa using blk_set HBF.out 0 (.int .i64 (alone (inn1.set al.toNat false) ch)))
       go_roundg gk
       case measure => exact Nat.lt_succ_self _
       case rel =>
        exact ⟨b', o3, inn1.set al.toNat false, rfl, HGO2, HJg, HBg, ⟨HD2.out.1, HD2.out.2.1, HD2.out.2.2.1, HD2.out.2.2.2.1⟩⟩
end Go.Proofs.Ytkifipakikbhcaa.Hand
namespace Go.Proofs.Ytkifipakikbhcaa.Hand
open Ytkifipakikbhcaa.Ref
open Ytkifipakikbhcaa.Pg (peel_set.f)
open Ytkifipakikbhcaa.Pm (peel_Graph.f)
open Go.RowKit YtkifipakikbhcaaW.PrintWords YtkifipakikbhcaaW.PrintLast YtkifipakikbhcaaW.PrintMore
theorem peelMain_small {F : Fd} {V : Int} {ch rows : List (List Int)} {wd er : List Int} {r : List Int × List Int × Int} (h : peelMain F V ch rows wd er = some r) : wd.length ≤ 256 := by
 unfold peelMain at h
 obtain ⟨inn, hmask, h⟩ := Option.bind_eq_some_iff.1 h
 split at h
 ·rename_i hc; exact hc.2.2.2.2.1
 ·exact absurd h (by simp)
def peel_Ok.f (P M : Int) (md : List Int) (cols : Int) (rows : List (List Int)) (wd er : List Int) : Option (List Int × List Int × Int) :=
 (peel_Graph.f 4096 P M md cols rows).bind fun t => if t.2.2 = 0 then (newO P M md).bind fun o => o.bind fun x => if (wd.length : Int) = cols then (if (wd.any fun y => !isB x.1 y) = true then none else (peel_set.f 4096 er cols).bind fun b => if b = true then peelMain ⟨P, M, md, x.1, x.2.1, x.2.2⟩ t.1 t.2.1 rows wd er else none) else none else none
theorem peel_Ok.calls (P M : Int) (A0 : Option Addr) (c0 : Nat) (md : List Int) (cols : Int) (A1 : Option Addr) (c1 : Nat) (rows : List (List Int)) (A2 : Option Addr) (c2 : Nat) (wd : List Int) (A3 : Option Addr) (c3 : Nat) (er : List Int) (r1 r2 : List Int) (r3 : Int) (w : World)
  (hr0 : Kd.C (Kd.int .i64) w A0 md.length md) (hc0 : md.length ≤ c0) (hr1 : Kd.C (Kd.slice 3 (Kd.int .i64)) w A1 rows.length rows) (hc1 : rows.length ≤ c1) (hr2 : Kd.C (Kd.int .i64) w A2 wd.length wd) (hc2 : wd.length ≤ c2) (hr3 : Kd.C (Kd.int .i64) w A3 er.length er) (hc3 : er.length ≤ c3) (h : peel_Ok.f P M md cols rows wd er = some (r1, r2, r3)) :
  Calls Try.prog 30 #[.agg #[.int .i64 P, .int .i64 M, .slice A0 md.length c0], .agg #[.int .i64 cols, .slice A1 rows.length c1], .slice A2 wd.length c2, .slice A3 er.length c3] w fun e w' => ∃ v1 v2 : Value, e = .returned (.tuple #[v1, v2, .int .i64 r3]) ∧ Kd.R (Kd.int .i64) 3 w' w.heap.size (fun _ => True) v1 r1 ∧ Kd.R (Kd.int .i64) 3 w' w.heap.size (fun _ => True) v2 r2 ∧ Below w.heap.size w w' := by
 unfold peel_Ok.f at h
 obtain ⟨⟨V, ch, ge⟩, hg, h⟩ := Option.bind_eq_some_iff.1 h
 simp only at h
 split at h
 ·rename_i hge
  subst hge
  obtain ⟨o, hn, h⟩ := Option.bind_eq_some_iff.1 h
  obtain ⟨⟨q, ex, lg⟩, ho, h⟩ := Option.bind_eq_some_iff.1 h
  subst ho
  have h : (if (wd.length : Int) = cols then (if (wd.any fun y => !isB q y) = true then none else (peel_set.f 4096 er cols).bind fun b => if b = true then peelMain ⟨P, M, md, q, ex, lg⟩ V ch rows wd er else none) else none) = some (r1, r2, r3) := h
  by_cases hw : (wd.length : Int) = cols
  ·rw [if_pos hw] at h
   cases hany : wd.any (fun y => !isB q y) with
   | true => rw [if_pos hany] at h; exact absurd h (by simp)
   | false =>
    rw [if_neg (by simp [hany])] at h
    obtain ⟨b, hset, h⟩ := Option.bind_eq_some_iff.1 h
    cases b with
    | true =>
     rw [if_pos rfl] at h
     exact peel_ok P M A0 c0 md cols A1 c1 rows A2 c2 wd A3 c3 er w hr0 hc0 hr1 hc1 hr2 hc2 hr3 hc3 V ch hg q ex lg hn hw (Nat.le_trans (peelMain_small h) (by decide)) hany hset r1 r2 r3 h
    | false => rw [if_neg (by simp)] at h; exact absurd h (by simp)
  ·rw [if_neg hw] at h; exact absurd h (by simp)
 ·exact absurd h (by simp)
end Go.Proofs.Ytkifipakikbhcaa.Hand
namespace Go.Proofs.Ytkifipakikbhcaa.La
open Ytkifipakikbhcaa.Ref Ytkifipakikbhcaa.Pg Ytkifipakikbhcaa.Pk Ytkifipakikbhcaa.Pm Ytkifipakikbhcaa.Hand
open Go.RowKit YtkifipakikbhcaaW.PrintWords YtkifipakikbhcaaW.PrintLast YtkifipakikbhcaaW.PrintMore
def Fs (W : World) (bs : List (Nat × Array Value × Nat)) (is : List (Option Addr × List Int)) (rs : List (Option Addr × List (List Int))) : Prop :=
 (∀ p ∈ bs, W.heap[p.1]? = some (.cells p.2.1 p.2.2 (0, 0))) ∧ (∀ p ∈ is, Kd.C (Kd.int .i64) W p.1 p.2.length p.2) ∧ ∀ p ∈ rs, Kd.C (Kd.slice 3 (Kd.int .i64)) W p.1 p.2.length p.2
theorem Fs.below {W W' : World} {bs : List (Nat × Array Value × Nat)} {is : List (Option Addr × List Int)} {rs : List (Option Addr × List (List Int))} (h : Fs W bs is rs) (hb : Below W.heap.size W W') : Fs W' bs is rs :=
 ⟨fun p hp => blk_grown (h.1 p hp) (grown_of_below hb none) (by simp), fun p hp => Kd.C_below (h.2.1 p hp) hb, fun p hp => Kd.C_below (h.2.2 p hp) hb⟩
theorem Fs.start (W : World) : Fs W [] [] [] := ⟨fun _ h => by simp at h, fun _ h => by simp at h, fun _ h => by simp at h⟩
theorem Fs.addB {W : World} {bs : List (Nat × Array Value × Nat)} {is : List (Option Addr × List Int)} {rs : List (Option Addr × List (List Int))} (h : Fs W bs is rs) {g : Nat} {cs : Array Value} {t : Nat} (hx : W.heap[g]? = some (.cells cs t (0, 0))) : Fs W ((g, cs, t) :: bs) is rs :=
 ⟨fun p hp => (List.mem_cons.1 hp).elim (fun e => by subst e; exact hx) (fun hp => h.1 p hp), h.2⟩
theorem Fs.addI {W : World} {bs : List (Nat × Array Value × Nat)} {is : List (Option Addr × List Int)} {rs : List (Option Addr × List (List Int))} (h : Fs W bs is rs) {A : Option Addr} {l : List Int} (hx : Kd.C (Kd.int .i64) W A l.length l) : Fs W bs ((A, l) :: is) rs :=
 ⟨h.1, fun p hp => (List.mem_cons.1 hp).elim (fun e => by subst e; exact hx) (fun hp => h.2.1 p hp), h.2.2⟩
theorem Fs.addR {W : World} {bs : List (Nat × Array Value × Nat)} {is : List (Option Addr × List Int)} {rs : List (Option Addr × List (List Int))} (h : Fs W bs is rs) {A : Option Addr} {l : List (List Int)} (hx : Kd.C (Kd.slice 3 (Kd.int .i64)) W A l.length l) : Fs W bs is ((A, l) :: rs) :=
 ⟨h.1, h.2.1, fun p hp => (List.mem_cons.1 hp).elim (fun e => by subst e; exact hx) (fun hp => h.2.2 p hp)⟩
theorem Fs.b {W : World} {bs : List (Nat × Array Value × Nat)} {is : List (Option Addr × List Int)} {rs : List (Option Addr × List (List Int))} (h : Fs W bs is rs) {g : Nat} {cs : Array Value} {t : Nat} (i : Nat) (e : bs[i]? = some (g, cs, t)) : W.heap[g]? = some (.cells cs t (0, 0)) := h.1 _ (List.mem_of_getElem? e)
theorem Fs.i {W : World} {bs : List (Nat × Array Value × Nat)} {is : List (Option Addr × List Int)} {rs : List (Option Addr × List (List Int))} (h : Fs W bs is rs) {A : Option Addr} {l : List Int} (i : Nat) (e : is[i]? = some (A, l)) : Kd.C (Kd.int .i64) W A l.length l := h.2.1 _ (List.mem_of_getElem? e)
theorem Fs.r {W : World} {bs : List (Nat × Array Value × Nat)} {is : List (Option Addr × List Int)} {rs : List (Option Addr × List (List Int))} (h : Fs W bs is rs) {A : Option Addr} {l : List (List Int)} (i : Nat) (e : rs[i]? = some (A, l)) : Kd.C (Kd.slice 3 (Kd.int .i64)) W A l.length l := h.2.2 _ (List.mem_of_getElem? e)
theorem awake_walk (k kj8 : Nat) (y102 : List Int) (hy102 : y102 = (([1, 1, 0, 1, 0, 0, 0] : List Int))) (y105 : List Int) (hy105 : y105 = (([0, 1, 1, 0, 1, 0, 0] : List Int))) (y108 : List Int) (hy108 : y108 = (([0, 0, 1, 1, 0, 1, 0] : List Int))) (y111 : List Int) (hy111 : y111 = (([0, 0, 0, 1, 1, 0, 1] : List Int))) (y114 : List (List Int)) (hy114 : y114 = (([y102, y105, y108, y111] : List (List Int)))) (y118 : List Int) (hy118 : y118 = (([1, 1, 0, 0, 1, 0, 1] : List Int))) (t121 : Int) (t122 : List (List Int)) (t125 : Int) (A10 : peel_Graph.f k 2 1 ([] : List Int) 7 y114 = some (t121, t122, t125)) (t127 : Int) (t128 : Int) (A20 : peel_Girth.f k t121 t122 = some (t127, t128)) (t129 : List Int) (t132 : Int) (A30 : peel_Smallest.f t121 t122 = some (t129, t132)) (y133 : List Int) (hy133 : y133 = (([5, 6] : List Int))) (t137 : Int) (A40 : peel_Stopping.f k t121 t122 y133 = some (false, t137)) (y138 : List Int) (hy138 : y138 = (([0, 1, 0, 1, 1, 0, 1] : List Int))) (y141 : List Int) (hy141 : y141 = (([0, 3] : List Int))) (t144 : List Int) (t147 : List Int) (t150 : Int) (A50 : peel_Ok.f 2 1 ([] : List Int) 7 y114 y138 y141 = some (t144, t147, t150)) (y151 : List Int) (hy151 : y151 = (([0, 1, 4, 6] : List Int))) (t154 : List Int) (t157 : List Int) (t160 : Int) (A60 : peel_Ok.f 2 1 ([] : List Int) 7 y114 y118 y151 = some (t154, t157, t160)) (y161 : List Int) (hy161 : y161 = (([1, 0, 0, 0, 0, 0, 0] : List Int))) (t164 : List Int) (t167 : List Int) (t170 : Int) (A70 : peel_Ok.f 2 1 ([] : List Int) 7 y114 y161 ([] : List Int) = some (t164, t167, t170)) (y171 : List Int) (hy171 : y171 = (([0, 1, 2, 4] : List Int))) (t174 : List Int) (t177 : Int) (A80 : peel_Greatest.f k t121 t122 y171 = some (t174, t177)) (c75 : t125 = 0) (c76 : t128 = 0) (c77 : t132 = 0) (c78 : t137 = 0) (c79 : t150 = 0) (c80 : t160 = 0) (c81 : t170 = 12) (y178 : List Int) (hy178 : y178 = (([0, 1, 3] : List Int))) (y181 : List Int) (hy181 : y181 = (([1, 2, 4] : List Int))) (y184 : List Int) (hy184 : y184 = (([2, 3, 5] : List Int))) (y187 : List Int) (hy187 : y187 = (([3, 4, 6] : List Int))) (y190 : List (List Int)) (hy190 : y190 = (([y178, y181, y184, y187] : List (List Int)))) (A830 : r44_Same.f kj8 t121 t122 7 y190 = some true) (c85 : t127 = 6) (y194 : List Int) (hy194 : y194 = (([0, 1, 2, 5] : List Int))) (A860 : r9_SameInts.f kj8 t129 y194 = some true) (c112 : (t174.length : Int) = 0) (t198 : Int) (A1130 : peel_Check.f t121 t122 = some (t198)) (c114 : t198 = 0) (A1150 : r9_SameInts.f kj8 t144 y118 = some true) (c117 : (t147.length : Int) = 0) (y200 : List Int) (hy200 : y200 = (List.replicate 7 0)) (A1190 : r9_SameInts.f kj8 t154 y200 = some true) (y204 : List Int) (hy204 : y204 = (([0, 1, 4, 6] : List Int))) (A1210 : r9_SameInts.f kj8 t157 y204 = some true) (c82 : t177 = 0) (w : World) :
  Calls Try.prog 12 #[] w fun e w' => e = .returned (.bool true) ∧ Below w.heap.size w w' := by
 have hu24 := Try.underlying24
 have hu27 := Try.underlying27
 have hu31 := Try.underlying31
 have HB := ak (Below.refl w.heap.size w)
 have Ny102 := ak hy102
 clear hy102
 have Ny105 := ak hy105
 clear hy105
 have Ny108 := ak hy108
 clear hy108
 have Ny111 := ak hy111
 clear hy111
 have Ny114 := ak hy114
 clear hy114
 have Ny118 := ak hy118
 clear hy118
 have A1 := ak A10
 clear A10
 have A2 := ak A20
 clear A20
 have A3 := ak A30
 clear A30
 have Ny133 := ak hy133
 clear hy133
 have A4 := ak A40
 clear A40
 have Ny138 := ak hy138
 clear hy138
 have Ny141 := ak hy141
 clear hy141
 have A5 := ak A50
 clear A50
 have Ny151 := ak hy151
 clear hy151
 have A6 := ak A60
 clear A60
 have Ny161 := ak hy161
 clear hy161
 have A7 := ak A70
 clear A70
 have Ny171 := ak hy171
 clear hy171
 have A8 := ak A80
 clear A80
 have Ny178 := ak hy178
 clear hy178
 have Ny181 := ak hy181
 clear hy181
 have Ny184 := ak hy184
 clear hy184
 have Ny187 := ak hy187
 clear hy187
 have Ny190 := ak hy190
 clear hy190
 have A83 := ak A830
 clear A830
 have Ny194 := ak hy194
 clear hy194
 have A86 := ak A860
 clear A860
 have A113 := ak A1130
 clear A1130
 have A115 := ak A1150
 clear A1150
 have c118b0 := eq_true (show 7 ≤ 35184372088832 by decide)
 have c118b1 : decide (7 ≤ 35184372088832) = true := by decide
 have Ny200 := ak hy200
 clear hy200
 have A119 := ak A1190
 clear A1190
 have Ny204 := ak hy204
 clear hy204
 have A121 := ak A1210
 clear A1210
 go_enter Try.func12, Try.ntmps12
 have HF := ak (Fs.start w)
 go_upto_region 2 with ((with_reducible refine gate_dst (N := 1) rfl ?_); (try (refine gate_guard (by rfl) ?_; dsimp only)); refine box_event ?hg (N := 1) ?hd (cs := #[.int .i64 0, .int .i64 0, .slice none 0 0]) (t := 24) ?hr ?_; (case hd => rfl); (case hg => rfl); (case hr => (go_simp; done)); intro gb101 hg w11 hbox hb; have GWf := ak (Nat.le_of_eq hg.symm); have HW := ak hb; have BK := ak hbox; clear hb hbox hg; have hzf0 : w11.cell? ⟨gb101, 0, none⟩ = some (.int .i64 0) := (kce BK.out 0).trans rfl; have hff0 := kfz BK.out 0; have hzf1 : w11.cell? ⟨gb101, 1, none⟩ = some (.int .i64 0) := (kce BK.out 1).trans rfl; have hff1 := kfz BK.out 1; have hzf2 : w11.cell? ⟨gb101, 2, none⟩ = some (.slice none 0 0) := (kce BK.out 2).trans rfl; have hff2 := kfz BK.out 2)
 have hk : ((((w11).setCell ⟨gb101, 0, none⟩ (.int .i64 2)).setCell ⟨gb101, 1, none⟩ (.int .i64 1)).setCell ⟨gb101, 2, none⟩ (.slice none 0 0)).heap[gb101]? = some (.cells #[.int .i64 2, .int .i64 1, .slice none 0 0] 24 (0, 0)) := blk_put (cs' := #[.int .i64 2, .int .i64 1, .slice none 0 0]) (blk_put (cs' := #[.int .i64 2, .int .i64 1, .slice none 0 0]) (blk_put (cs' := #[.int .i64 2, .int .i64 0, .slice none 0 0]) (BK.out) 0 _ rfl) 1 _ rfl) 2 _ rfl
 have hq : Below _ _ ((((w11).setCell ⟨gb101, 0, none⟩ (.int .i64 2)).setCell ⟨gb101, 1, none⟩ (.int .i64 1)).setCell ⟨gb101, 2, none⟩ (.slice none 0 0)) := bst (bst (bst (HW.out) GWf.out) GWf.out) GWf.out
 clear hzf0 hff0 hzf1 hff1 hzf2 hff2
 replace HF := ak ((HF.out.below hq).addB hk)
 replace HB := ak (bsp HB.out hq)
 clear hk hq BK HW GWf
 generalize (((w11).setCell ⟨gb101, 0, none⟩ (.int .i64 2)).setCell ⟨gb101, 1, none⟩ (.int .i64 1)).setCell ⟨gb101, 2, none⟩ (.slice none 0 0) = w12 at HF HB ⊢
 go_upto_region 3 with (first | ((with_reducible refine gate_dst (N := 25) rfl ?_); (try (refine gate_guard (by rfl) ?_; dsimp only)); refine Kd.R_lit (Kd.int .i64) _ 3 ?hg (N := 25) ?hd (xs := ([1, 1, 0, 1, 0, 0, 0] : List Int)) (inner := [.int .i64 1, .int .i64 1, .int .i64 0, .int .i64 1, .int .i64 0, .int .i64 0, .int .i64 0]) (ok := fun _ => True) (okp := fun _ => True) ?hr ?hp (fun _ hk => hk) trivial (Below.refl _ _) (Nat.le_refl _) (by simp) ?_; (case hd => rfl); (case hg => rfl); (case hr => (go_simp; done)); (case hp => exact (Reps.one (show Kd.M (Kd.int .i64) _ _ _ 1 [.int .i64 1] from rfl) (Reps.one (show Kd.M (Kd.int .i64) _ _ _ 1 [.int .i64 1] from rfl) (Reps.one (show Kd.M (Kd.int .i64) _ _ _ 0 [.int .i64 0] from rfl) (Reps.one (show Kd.M (Kd.int .i64) _ _ _ 1 [.int .i64 1] from rfl) (Reps.one (show Kd.M (Kd.int .i64) _ _ _ 0 [.int .i64 0] from rfl) (Reps.one (show Kd.M (Kd.int .i64) _ _ _ 0 [.int .i64 0] from rfl) (Reps.one (show Kd.M (Kd.int .i64) _ _ _ 0 [.int .i64 0] from rfl) (Reps.none _ _))))))))); intro v_ w13 ho hb hg_ hnew_; clear hg_ hnew_; (rw [← Ny102.out] at ho); obtain ⟨Ay102, Cy102, e_⟩ := Kd.R_slice ho; subst e_; have HLy102 := ak (Kd.R_reads' ho).2.1; replace HF := ak ((HF.out.below hb).addI (Kd.R_reads' ho).2.2); replace HB := ak (bsp HB.out hb); have HRy102 := ak ho; clear hb ho) | ((with_reducible refine gate_dst (N := 26) rfl ?_); (try (refine gate_guard (by rfl) ?_; dsimp only)); refine Kd.R_lit (Kd.int .i64) _ 3 ?hg (N := 26) ?hd (xs := ([0, 1, 1, 0, 1, 0, 0] : List Int)) (inner := [.int .i64 0, .int .i64 1, .int .i64 1, .int .i64 0, .int .i64 1, .int .i64 0, .int .i64 0]) (ok := fun _ => True) (okp := fun _ => True) ?hr ?hp (fun _ hk => hk) trivial (Below.refl _ _) (Nat.le_refl _) (by simp) ?_; (case hd => rfl); (case hg => rfl); (case hr => (go_simp; done)); (case hp => exact (Reps.one (show Kd.M (Kd.int .i64) _ _ _ 0 [.int .i64 0] from rfl) (Reps.one (show Kd.M (Kd.int .i64) _ _ _ 1 [.int .i64 1] from rfl) (Reps.one (show Kd.M (Kd.int .i64) _ _ _ 1 [.int .i64 1] from rfl) (Reps.one (show Kd.M (Kd.int .i64) _ _ _ 0 [.int .i64 0] from rfl) (Reps.one (show Kd.M (Kd.int .i64) _ _ _ 1 [.int .i64 1] from rfl) (Reps.one (show Kd.M (Kd.int .i64) _ _ _ 0 [.int .i64 0] from rfl) (Reps.one (show Kd.M (Kd.int .i64) _ _ _ 0 [.int .i64 0] from rfl) (Reps.none _ _))))))))); intro v_ w14 ho hb hg_ hnew_; clear hg_ hnew_; (rw [← Ny105.out] at ho); obtain ⟨Ay105, Cy105, e_⟩ := Kd.R_slice ho; subst e_; have HLy105 := ak (Kd.R_reads' ho).2.1; replace HF := ak ((HF.out.below hb).addI (Kd.R_reads' ho).2.2); replace HB := ak (bsp HB.out hb); replace HRy102 := ak (Kd.R_below HRy102.out hb); have HRy105 := ak ho; clear hb ho) | ((with_reducible refine gate_dst (N := 27) rfl ?_); (try (refine gate_guard (by rfl) ?_; dsimp only)); refine Kd.R_lit (Kd.int .i64) _ 3 ?hg (N := 27) ?hd (xs := ([0, 0, 1, 1, 0, 1, 0] : List Int)) (inner := [.int .i64 0, .int .i64 0, .int .i64 1, .int .i64 1, .int .i64 0, .int .i64 1, .int .i64 0]) (ok := fun _ => True) (okp := fun _ => True) ?hr ?hp (fun _ hk => hk) trivial (Below.refl _ _) (Nat.le_refl _) (by simp) ?_; (case hd => rfl); (case hg => rfl); (case hr => (go_simp; done)); (case hp => exact (Reps.one (show Kd.M (Kd.int .i64) _ _ _ 0 [.int .i64 0] from rfl) (Reps.one (show Kd.M (Kd.int .i64) _ _ _ 0 [.int .i64 0] from rfl) (Reps.one (show Kd.M (Kd.int .i64) _ _ _ 1 [.int .i64 1] from rfl) (Reps.one (show Kd.M (Kd.int .i64) _ _ _ 1 [.int .i64 1] from rfl) (Reps.one (show Kd.M (Kd.int .i64) _ _ _ 0 [.int .i64 0] from rfl) (Reps.one (show Kd.M (Kd.int .i64) _ _ _ 1 [.int .i64 1] from rfl) (Reps.one (show Kd.M (Kd.int .i64) _ _ _ 0 [.int .i64 0] from rfl) (Reps.none _ _))))))))); intro v_ w15 ho hb hg_ hnew_; clear hg_ hnew_; (rw [← Ny108.out] at ho); obtain ⟨Ay108, Cy108, e_⟩ := Kd.R_slice ho; subst e_; have HLy108 := ak (Kd.R_reads' ho).2.1; replace HF := ak ((HF.out.below hb).addI (Kd.R_reads' ho).2.2); replace HB := ak (bsp HB.out hb); replace HRy102 := ak (Kd.R_below HRy102.out hb); replace HRy105 := ak (Kd.R_below HRy105.out hb); have HRy108 := ak ho; clear hb ho) | ((with_reducible refine gate_dst (N := 28) rfl ?_); (try (refine gate_guard (by rfl) ?_; dsimp only)); refine Kd.R_lit (Kd.int .i64) _ 3 ?hg (N := 28) ?hd (xs := ([0, 0, 0, 1, 1, 0, 1] : List Int)) (inner := [.int .i64 0, .int .i64 0, .int .i64 0, .int .i64 1, .int .i64 1, .int .i64 0, .int .i64 1]) (ok := fun _ => True) (okp := fun _ => True) ?hr ?hp (fun _ hk => hk) trivial (Below.refl _ _) (Nat.le_refl _) (by simp) ?_; (case hd => rfl); (case hg => rfl); (case hr => (go_simp; done)); (case hp => exact (Reps.one (show Kd.M (Kd.int .i64) _ _ _ 0 [.int .i64 0] from rfl) (Reps.one (show Kd.M (Kd.int .i64) _ _ _ 0 [.int .i64 0] from rfl) (Reps.one (show Kd.M (Kd.int .i64) _ _ _ 0 [.int .i64 0] from rfl) (Reps.one (show Kd.M (Kd.int .i64) _ _ _ 1 [.int .i64 1] from rfl) (Reps.one (show Kd.M (Kd.int .i64) _ _ _ 1 [.int .i64 1] from rfl) (Reps.one (show Kd.M (Kd.int .i64) _ _ _ 0 [.int .i64 0] from rfl) (Reps.one (show Kd.M (Kd.int .i64) _ _ _ 1 [.int .i64 1] from rfl) (Reps.none _ _))))))))); intro v_ w16 ho hb hg_ hnew_; clear hg_ hnew_; (rw [← Ny111.out] at ho); obtain ⟨Ay111, Cy111, e_⟩ := Kd.R_slice ho; subst e_; have HLy111 := ak (Kd.R_reads' ho).2.1; replace HF := ak ((HF.out.below hb).addI (Kd.R_reads' ho).2.2); replace HB := ak (bsp HB.out hb); replace HRy102 := ak (Kd.R_below HRy102.out hb); replace HRy105 := ak (Kd.R_below HRy105.out hb); replace HRy108 := ak (Kd.R_below HRy108.out hb); have HRy111 := ak ho; clear hb ho) | ((with_reducible refine gate_dst (N := 29) rfl ?_); (try (refine gate_guard (by rfl) ?_; dsimp only)); refine Kd.N_lit (Kd.slice 3 (Kd.int .i64)) _ 22 ?hg (N' := 29) ?hd (xs := ([y102, y105, y108, y111] : List (List Int))) (inner := [.slice Ay102 y102.length Cy102, .slice Ay105 y105.length Cy105, .slice Ay108 y108.length Cy108, .slice Ay111 y111.length Cy111]) (ok := fun _ => True) (okp := fun _ => True) ?hr ?hp (fun _ hk => hk) trivial (Below.refl _ _) (Nat.le_refl _) (by simp) ?_; (case hd => rfl); (case hg => rfl); (case hr => (go_simp; done)); (case hp => exact (Reps.one (show Kd.FK (Kd.slice 3 (Kd.int .i64)) _ _ y102 [.slice Ay102 y102.length Cy102] from Kd.FK_slice_mk HLy102.out (Kd.R_F HRy102.out)) (Reps.one (show Kd.FK (Kd.slice 3 (Kd.int .i64)) _ _ y105 [.slice Ay105 y105.length Cy105] from Kd.FK_slice_mk HLy105.out (Kd.R_F HRy105.out)) (Reps.one (show Kd.FK (Kd.slice 3 (Kd.int .i64)) _ _ y108 [.slice Ay108 y108.length Cy108] from Kd.FK_slice_mk HLy108.out (Kd.R_F HRy108.out)) (Reps.one (show Kd.FK (Kd.slice 3 (Kd.int .i64)) _ _ y111 [.slice Ay111 y111.length Cy111] from Kd.FK_slice_mk HLy111.out (Kd.R_F HRy111.out)) (Reps.none _ _)))))); intro v_ w17 ho hb hg_ hnew_; clear hg_ hnew_; rw [← Ny114.out] at ho; obtain ⟨Ay114, Cy114, e_⟩ := Kd.N_slice ho; subst e_; have HLy114 := ak (Kd.N_reads' ho).2.1; replace HF := ak ((HF.out.below hb).addR (Kd.N_reads' ho).2.2); replace HB := ak (bsp HB.out hb); clear HRy102 HRy105 HRy108 HRy111; clear hb ho) | ((with_reducible refine gate_dst (N := 2) rfl ?_); (try (refine gate_guard (by rfl) ?_; dsimp only)); refine box_event ?hg (N := 2) ?hd (cs := #[.int .i64 0, .slice none 0 0]) (t := 27) ?hr ?_; (case hd => rfl); (case hg => rfl); (case hr => (go_simp; done)); intro gb117 hg w18 hbox hb; have GWh := ak (Nat.le_of_eq hg.symm); have HW := ak hb; have BK := ak hbox; clear hb hbox hg; have hzh0 : w18.cell? ⟨gb117, 0, none⟩ = some (.int .i64 0) := (kce BK.out 0).trans rfl; have hfh0 := kfz BK.out 0; have hzh1 : w18.cell? ⟨gb117, 1, none⟩ = some (.slice none 0 0) := (kce BK.out 1).trans rfl; have hfh1 := kfz BK.out 1))
 have hk : (((w18).setCell ⟨gb117, 0, none⟩ (.int .i64 7)).setCell ⟨gb117, 1, none⟩ (.slice Ay114 y114.length Cy114)).heap[gb117]? = some (.cells #[.int .i64 7, .slice Ay114 y114.length Cy114] 27 (0, 0)) := blk_put (cs' := #[.int .i64 7, .slice Ay114 y114.length Cy114]) (blk_put (cs' := #[.int .i64 7, .slice none 0 0]) (BK.out) 0 _ rfl) 1 _ rfl
 have hq : Below _ _ (((w18).setCell ⟨gb117, 0, none⟩ (.int .i64 7)).setCell ⟨gb117, 1, none⟩ (.slice Ay114 y114.length Cy114)) := bst (bst (HW.out) GWh.out) GWh.out
 clear hzh0 hfh0 hzh1 hfh1
 replace HF := ak ((HF.out.below hq).addB hk)
 replace HB := ak (bsp HB.out hq)
 clear hk hq BK HW GWh
 generalize ((w18).setCell ⟨gb117, 0, none⟩ (.int .i64 7)).setCell ⟨gb117, 1, none⟩ (.slice Ay114 y114.length Cy114) = w19 at HF HB ⊢
 go_upto_region 4 with ((with_reducible refine gate_dst (N := 31) rfl ?_); (try (refine gate_guard (by rfl) ?_; dsimp only)); refine Kd.R_lit (Kd.int .i64) _ 3 ?hg (N := 31) ?hd (xs := ([1, 1, 0, 0, 1, 0, 1] : List Int)) (inner := [.int .i64 1, .int .i64 1, .int .i64 0, .int .i64 0, .int .i64 1, .int .i64 0, .int .i64 1]) (ok := fun _ => True) (okp := fun _ => True) ?hr ?hp (fun _ hk => hk) trivial (Below.refl _ _) (Nat.le_refl _) (by simp) ?_; (case hd => rfl); (case hg => rfl); (case hr => (go_simp; done)); (case hp => exact (Reps.one (show Kd.M (Kd.int .i64) _ _ _ 1 [.int .i64 1] from rfl) (Reps.one (show Kd.M (Kd.int .i64) _ _ _ 1 [.int .i64 1] from rfl) (Reps.one (show Kd.M (Kd.int .i64) _ _ _ 0 [.int .i64 0] from rfl) (Reps.one (show Kd.M (Kd.int .i64) _ _ _ 0 [.int .i64 0] from rfl) (Reps.one (show Kd.M (Kd.int .i64) _ _ _ 1 [.int .i64 1] from rfl) (Reps.one (show Kd.M (Kd.int .i64) _ _ _ 0 [.int .i64 0] from rfl) (Reps.one (show Kd.M (Kd.int .i64) _ _ _ 1 [.int .i64 1] from rfl) (Reps.none _ _))))))))); intro v_ w20 ho hb hg_ hnew_; clear hg_ hnew_; (rw [← Ny118.out] at ho); obtain ⟨Ay118, Cy118, e_⟩ := Kd.R_slice ho; subst e_; have HLy118 := ak (Kd.R_reads' ho).2.1; replace HF := ak ((HF.out.below hb).addI (Kd.R_reads' ho).2.2); replace HB := ak (bsp HB.out hb); clear hb ho)
 have hzf0 : w20.cell? ⟨gb101, 0, none⟩ = some (.int .i64 2) := (kce (HF.out.b (g := gb101) (cs := #[.int .i64 2, .int .i64 1, .slice none 0 0]) (t := 24) 1 rfl) 0).trans rfl
 have hzf1 : w20.cell? ⟨gb101, 1, none⟩ = some (.int .i64 1) := (kce (HF.out.b (g := gb101) (cs := #[.int .i64 2, .int .i64 1, .slice none 0 0]) (t := 24) 1 rfl) 1).trans rfl
 have hzf2 : w20.cell? ⟨gb101, 2, none⟩ = some (.slice none 0 0) := (kce (HF.out.b (g := gb101) (cs := #[.int .i64 2, .int .i64 1, .slice none 0 0]) (t := 24) 1 rfl) 2).trans rfl
 have hzh0 : w20.cell? ⟨gb117, 0, none⟩ = some (.int .i64 7) := (kce (HF.out.b (g := gb117) (cs := #[.int .i64 7, .slice Ay114 y114.length Cy114]) (t := 27) 0 rfl) 0).trans rfl
 have hzh1 : w20.cell? ⟨gb117, 1, none⟩ = some (.slice Ay114 y114.length Cy114) := (kce (HF.out.b (g := gb117) (cs := #[.int .i64 7, .slice Ay114 y114.length Cy114]) (t := 27) 0 rfl) 1).trans rfl
 go_upto_region 5 with (first | (go_at_call 14; have hx1 := HF.out.r (A := Ay114) (l := y114) 0 rfl; (refine (peel_Graph.calls k 2 1 none 0 ([] : List Int) 7 Ay114 Cy114 y114 t121 t122 t125 _ (Kd.C_nil _ _) (Nat.le_refl _) hx1 HLy114.out A1.out).mono ?_); clear hx1; rintro e w21 ⟨va0, rfl, ho0, hb⟩; obtain ⟨At122, Ct122, e_⟩ := Kd.S_slice ho0; subst e_; have HLt122 := ak (Kd.S_reads' ho0).2.1; replace HF := ak ((HF.out.below hb).addR (Kd.S_reads' ho0).2.2); replace HB := ak (bsp HB.out hb); clear hb ho0) | ((with_reducible refine gate_dst (N := 4) rfl ?_); (try (refine gate_guard (by rfl) ?_; dsimp only)); refine box_event ?hg (N := 4) ?hd (cs := #[.int .i64 0, .slice none 0 0]) (t := 31) ?hr ?_; (case hd => rfl); (case hg => rfl); (case hr => (go_simp; done)); intro gb126 hg w22 hbox hb; have GWt := ak (Nat.le_of_eq hg.symm); have HW := ak hb; have BK := ak hbox; clear hb hbox hg; have hzt0 : w22.cell? ⟨gb126, 0, none⟩ = some (.int .i64 0) := (kce BK.out 0).trans rfl; have hft0 := kfz BK.out 0; have hzt1 : w22.cell? ⟨gb126, 1, none⟩ = some (.slice none 0 0) := (kce BK.out 1).trans rfl; have hft1 := kfz BK.out 1))
 have hk : (((w22).setCell ⟨gb126, 0, none⟩ (.int .i64 t121)).setCell ⟨gb126, 1, none⟩ (.slice At122 t122.length Ct122)).heap[gb126]? = some (.cells #[.int .i64 t121, .slice At122 t122.length Ct122] 31 (0, 0)) := blk_put (cs' := #[.int .i64 t121, .slice At122 t122.length Ct122]) (blk_put (cs' := #[.int .i64 t121, .slice none 0 0]) (BK.out) 0 _ rfl) 1 _ rfl
 have hq : Below _ _ (((w22).setCell ⟨gb126, 0, none⟩ (.int .i64 t121)).setCell ⟨gb126, 1, none⟩ (.slice At122 t122.length Ct122)) := bst (bst (HW.out) GWt.out) GWt.out
 clear hzt0 hft0 hzt1 hft1
 replace HF := ak ((HF.out.below hq).addB hk)
 replace HB := ak (bsp HB.out hq)
 clear hk hq BK HW GWt
 generalize ((w22).setCell ⟨gb126, 0, none⟩ (.int .i64 t121)).setCell ⟨gb126, 1, none⟩ (.slice At122 t122.length Ct122) = w23 at HF HB ⊢
 (try (clear hzf0 hzf1 hzf2 hzh0 hzh1))
 have hzt0 : w23.cell? ⟨gb126, 0, none⟩ = some (.int .i64 t121) := (kce (HF.out.b (g := gb126) (cs := #[.int .i64 t121, .slice At122 t122.length Ct122]) (t := 31) 0 rfl) 0).trans rfl
 have hzt1 : w23.cell? ⟨gb126, 1, none⟩ = some (.slice At122 t122.length Ct122) := (kce (HF.out.b (g := gb126) (cs := #[.int .i64 t121, .slice At122 t122.length Ct122]) (t := 31) 0 rfl) 1).trans rfl
 go_upto_region 6 with (go_at_call 18; have hx1 := HF.out.r (A := At122) (l := t122) 0 rfl; (with_reducible refine (peel_Girth.calls k t121 _ _ t122 t127 t128 _ hx1 HLt122.out A2.out).mono ?_); clear hx1; rintro e w24 ⟨rfl, hb⟩; replace HF := ak (HF.out.below hb); replace HB := ak (bsp HB.out hb); clear hb; have hzt0 : w24.cell? ⟨gb126, 0, none⟩ = some (.int .i64 t121) := (kce (HF.out.b (g := gb126) (cs := #[.int .i64 t121, .slice At122 t122.length Ct122]) (t := 31) 0 rfl) 0).trans rfl; have hzt1 : w24.cell? ⟨gb126, 1, none⟩ = some (.slice At122 t122.length Ct122) := (kce (HF.out.b (g := gb126) (cs := #[.int .i64 t121, .slice At122 t122.length Ct122]) (t := 31) 0 rfl) 1).trans rfl)
 go_upto_region 7 with (go_at_call 26; have hx1 := HF.out.r (A := At122) (l := t122) 0 rfl; (with_reducible refine (peel_Smallest.calls t121 _ _ t122 t129 t132 _ hx1 HLt122.out A3.out).mono ?_); clear hx1; rintro e w25 ⟨va0, rfl, ho0, hb⟩; obtain ⟨At129, Ct129, e_⟩ := Kd.R_slice ho0; subst e_; have HLt129 := ak (Kd.R_reads' ho0).2.1; replace HF := ak ((HF.out.below hb).addI (Kd.R_reads' ho0).2.2); replace HB := ak (bsp HB.out hb); clear hb ho0; have hzt0 : w25.cell? ⟨gb126, 0, none⟩ = some (.int .i64 t121) := (kce (HF.out.b (g := gb126) (cs := #[.int .i64 t121, .slice At122 t122.length Ct122]) (t := 31) 0 rfl) 0).trans rfl; have hzt1 : w25.cell? ⟨gb126, 1, none⟩ = some (.slice At122 t122.length Ct122) := (kce (HF.out.b (g := gb126) (cs := #[.int .i64 t121, .slice At122 t122.length Ct122]) (t := 31) 0 rfl) 1).trans rfl)
 go_upto_region 8 with (first | ((with_reducible refine gate_dst (N := 50) rfl ?_); (try (refine gate_guard (by rfl) ?_; dsimp only)); refine Kd.R_lit (Kd.int .i64) _ 3 ?hg (N := 50) ?hd (xs := ([5, 6] : List Int)) (inner := [.int .i64 5, .int .i64 6]) (ok := fun _ => True) (okp := fun _ => True) ?hr ?hp (fun _ hk => hk) trivial (Below.refl _ _) (Nat.le_refl _) (by simp) ?_; (case hd => rfl); (case hg => rfl); (case hr => (go_simp; done)); (case hp => exact (Reps.one (show Kd.M (Kd.int .i64) _ _ _ 5 [.int .i64 5] from rfl) (Reps.one (show Kd.M (Kd.int .i64) _ _ _ 6 [.int .i64 6] from rfl) (Reps.none _ _)))); intro v_ w26 ho hb hg_ hnew_; clear hg_ hnew_; (rw [← Ny133.out] at ho); obtain ⟨Ay133, Cy133, e_⟩ := Kd.R_slice ho; subst e_; have HLy133 := ak (Kd.R_reads' ho).2.1; replace HF := ak ((HF.out.below hb).addI (Kd.R_reads' ho).2.2); replace HB := ak (bsp HB.out hb); clear hb ho) | (go_at_call 20; have hx1 := HF.out.r (A := At122) (l := t122) 0 rfl; have hx2 := HF.out.i (A := Ay133) (l := y133) 0 rfl; (with_reducible refine (peel_Stopping.calls k t121 _ _ t122 _ _ y133 false t137 _ hx1 HLt122.out hx2 HLy133.out A4.out).mono ?_); clear hx1 hx2; rintro e w27 ⟨rfl, hb⟩; replace HF := ak (HF.out.below hb); replace HB := ak (bsp HB.out hb); clear hb; have hzf0 : w27.cell? ⟨gb101, 0, none⟩ = some (.int .i64 2) := (kce (HF.out.b (g := gb101) (cs := #[.int .i64 2, .int .i64 1, .slice none 0 0]) (t := 24) 2 rfl) 0).trans rfl; have hzf1 : w27.cell? ⟨gb101, 1, none⟩ = some (.int .i64 1) := (kce (HF.out.b (g := gb101) (cs := #[.int .i64 2, .int .i64 1, .slice none 0 0]) (t := 24) 2 rfl) 1).trans rfl; have hzf2 : w27.cell? ⟨gb101, 2, none⟩ = some (.slice none 0 0) := (kce (HF.out.b (g := gb101) (cs := #[.int .i64 2, .int .i64 1, .slice none 0 0]) (t := 24) 2 rfl) 2).trans rfl; have hzh0 : w27.cell? ⟨gb117, 0, none⟩ = some (.int .i64 7) := (kce (HF.out.b (g := gb117) (cs := #[.int .i64 7, .slice Ay114 y114.length Cy114]) (t := 27) 1 rfl) 0).trans rfl; have hzh1 : w27.cell? ⟨gb117, 1, none⟩ = some (.slice Ay114 y114.length Cy114) := (kce (HF.out.b (g := gb117) (cs := #[.int .i64 7, .slice Ay114 y114.length Cy114]) (t := 27) 1 rfl) 1).trans rfl))
 go_upto_region 9 with (first | ((with_reducible refine gate_dst (N := 57) rfl ?_); (try (refine gate_guard (by rfl) ?_; dsimp only)); refine Kd.R_lit (Kd.int .i64) _ 3 ?hg (N := 57) ?hd (xs := ([0, 1, 0, 1, 1, 0, 1] : List Int)) (inner := [.int .i64 0, .int .i64 1, .int .i64 0, .int .i64 1, .int .i64 1, .int .i64 0, .int .i64 1]) (ok := fun _ => True) (okp := fun _ => True) ?hr ?hp (fun _ hk => hk) trivial (Below.refl _ _) (Nat.le_refl _) (by simp) ?_; (case hd => rfl); (case hg => rfl); (case hr => (go_simp; done)); (case hp => exact (Reps.one (show Kd.M (Kd.int .i64) _ _ _ 0 [.int .i64 0] from rfl) (Reps.one (show Kd.M (Kd.int .i64) _ _ _ 1 [.int .i64 1] from rfl) (Reps.one (show Kd.M (Kd.int .i64) _ _ _ 0 [.int .i64 0] from rfl) (Reps.one (show Kd.M (Kd.int .i64) _ _ _ 1 [.int .i64 1] from rfl) (Reps.one (show Kd.M (Kd.int .i64) _ _ _ 1 [.int .i64 1] from rfl) (Reps.one (show Kd.M (Kd.int .i64) _ _ _ 0 [.int .i64 0] from rfl) (Reps.one (show Kd.M (Kd.int .i64) _ _ _ 1 [.int .i64 1] from rfl) (Reps.none _ _))))))))); intro v_ w28 ho hb hg_ hnew_; clear hg_ hnew_; (rw [← Ny138.out] at ho); obtain ⟨Ay138, Cy138, e_⟩ := Kd.R_slice ho; subst e_; have HLy138 := ak (Kd.R_reads' ho).2.1; replace HF := ak ((HF.out.below hb).addI (Kd.R_reads' ho).2.2); replace HB := ak (bsp HB.out hb); clear hb ho) | ((with_reducible refine gate_dst (N := 58) rfl ?_); (try (refine gate_guard (by rfl) ?_; dsimp only)); refine Kd.R_lit (Kd.int .i64) _ 3 ?hg (N := 58) ?hd (xs := ([0, 3] : List Int)) (inner := [.int .i64 0, .int .i64 3]) (ok := fun _ => True) (okp := fun _ => True) ?hr ?hp (fun _ hk => hk) trivial (Below.refl _ _) (Nat.le_refl _) (by simp) ?_; (case hd => rfl); (case hg => rfl); (case hr => (go_simp; done)); (case hp => exact (Reps.one (show Kd.M (Kd.int .i64) _ _ _ 0 [.int .i64 0] from rfl) (Reps.one (show Kd.M (Kd.int .i64) _ _ _ 3 [.int .i64 3] from rfl) (Reps.none _ _)))); intro v_ w29 ho hb hg_ hnew_; clear hg_ hnew_; (rw [← Ny141.out] at ho); obtain ⟨Ay141, Cy141, e_⟩ := Kd.R_slice ho; subst e_; have HLy141 := ak (Kd.R_reads' ho).2.1; replace HF := ak ((HF.out.below hb).addI (Kd.R_reads' ho).2.2); replace HB := ak (bsp HB.out hb); clear hb ho) | (go_at_call 30; have hx1 := HF.out.r (A := Ay114) (l := y114) 1 rfl; have hx2 := HF.out.i (A := Ay138) (l := y138) 1 rfl; have hx3 := HF.out.i (A := Ay141) (l := y141) 0 rfl; (refine (peel_Ok.calls 2 1 none 0 ([] : List Int) 7 _ _ y114 _ _ y138 _ _ y141 t144 t147 t150 _ (Kd.C_nil _ _) (Nat.le_refl _) hx1 HLy114.out hx2 HLy138.out hx3 HLy141.out A5.out).mono ?_); clear hx1 hx2 hx3; rintro e w30 ⟨va0, va1, rfl, ho0, ho1, hb⟩; obtain ⟨At144, Ct144, e_⟩ := Kd.R_slice ho0; subst e_; have HLt144 := ak (Kd.R_reads' ho0).2.1; obtain ⟨At147, Ct147, e_⟩ := Kd.R_slice ho1; subst e_; have HLt147 := ak (Kd.R_reads' ho1).2.1; replace HF := ak (((HF.out.below hb).addI (Kd.R_reads' ho0).2.2).addI (Kd.R_reads' ho1).2.2); replace HB := ak (bsp HB.out hb); clear hb ho0 ho1; have hzf0 : w30.cell? ⟨gb101, 0, none⟩ = some (.int .i64 2) := (kce (HF.out.b (g := gb101) (cs := #[.int .i64 2, .int .i64 1, .slice none 0 0]) (t := 24) 2 rfl) 0).trans rfl; have hzf1 : w30.cell? ⟨gb101, 1, none⟩ = some (.int .i64 1) := (kce (HF.out.b (g := gb101) (cs := #[.int .i64 2, .int .i64 1, .slice none 0 0]) (t := 24) 2 rfl) 1).trans rfl; have hzf2 : w30.cell? ⟨gb101, 2, none⟩ = some (.slice none 0 0) := (kce (HF.out.b (g := gb101) (cs := #[.int .i64 2, .int .i64 1, .slice none 0 0]) (t := 24) 2 rfl) 2).trans rfl; have hzh0 : w30.cell? ⟨gb117, 0, none⟩ = some (.int .i64 7) := (kce (HF.out.b (g := gb117) (cs := #[.int .i64 7, .slice Ay114 y114.length Cy114]) (t := 27) 1 rfl) 0).trans rfl; have hzh1 : w30.cell? ⟨gb117, 1, none⟩ = some (.slice Ay114 y114.length Cy114) := (kce (HF.out.b (g := gb117) (cs := #[.int .i64 7, .slice Ay114 y114.length Cy114]) (t := 27) 1 rfl) 1).trans rfl))
 go_upto_region 10 with (first | ((with_reducible refine gate_dst (N := 67) rfl ?_); (try (refine gate_guard (by rfl) ?_; dsimp only)); refine Kd.R_lit (Kd.int .i64) _ 3 ?hg (N := 67) ?hd (xs := ([0, 1, 4, 6] : List Int)) (inner := [.int .i64 0, .int .i64 1, .int .i64 4, .int .i64 6]) (ok := fun _ => True) (okp := fun _ => True) ?hr ?hp (fun _ hk => hk) trivial (Below.refl _ _) (Nat.le_refl _) (by simp) ?_; (case hd => rfl); (case hg => rfl); (case hr => (go_simp; done)); (case hp => exact (Reps.one (show Kd.M (Kd.int .i64) _ _ _ 0 [.int .i64 0] from rfl) (Reps.one (show Kd.M (Kd.int .i64) _ _ _ 1 [.int .i64 1] from rfl) (Reps.one (show Kd.M (Kd.int .i64) _ _ _ 4 [.int .i64 4] from rfl) (Reps.one (show Kd.M (Kd.int .i64) _ _ _ 6 [.int .i64 6] from rfl) (Reps.none _ _)))))); intro v_ w31 ho hb hg_ hnew_; clear hg_ hnew_; (rw [← Ny151.out] at ho); obtain ⟨Ay151, Cy151, e_⟩ := Kd.R_slice ho; subst e_; have HLy151 := ak (Kd.R_reads' ho).2.1; replace HF := ak ((HF.out.below hb).addI (Kd.R_reads' ho).2.2); replace HB := ak (bsp HB.out hb); clear hb ho) | (go_at_call 30; have hx1 := HF.out.r (A := Ay114) (l := y114) 1 rfl; have hx2 := HF.out.i (A := Ay118) (l := y118) 7 rfl; have hx3 := HF.out.i (A := Ay151) (l := y151) 0 rfl; (refine (peel_Ok.calls 2 1 none 0 ([] : List Int) 7 _ _ y114 _ _ y118 _ _ y151 t154 t157 t160 _ (Kd.C_nil _ _) (Nat.le_refl _) hx1 HLy114.out hx2 HLy118.out hx3 HLy151.out A6.out).mono ?_); clear hx1 hx2 hx3; rintro e w32 ⟨va0, va1, rfl, ho0, ho1, hb⟩; obtain ⟨At154, Ct154, e_⟩ := Kd.R_slice ho0; subst e_; have HLt154 := ak (Kd.R_reads' ho0).2.1; obtain ⟨At157, Ct157, e_⟩ := Kd.R_slice ho1; subst e_; have HLt157 := ak (Kd.R_reads' ho1).2.1; replace HF := ak (((HF.out.below hb).addI (Kd.R_reads' ho0).2.2).addI (Kd.R_reads' ho1).2.2); replace HB := ak (bsp HB.out hb); clear hb ho0 ho1; have hzf0 : w32.cell? ⟨gb101, 0, none⟩ = some (.int .i64 2) := (kce (HF.out.b (g := gb101) (cs := #[.int .i64 2, .int .i64 1, .slice none 0 0]) (t := 24) 2 rfl) 0).trans rfl; have hzf1 : w32.cell? ⟨gb101, 1, none⟩ = some (.int .i64 1) := (kce (HF.out.b (g := gb101) (cs := #[.int .i64 2, .int .i64 1, .slice none 0 0]) (t := 24) 2 rfl) 1).trans rfl; have hzf2 : w32.cell? ⟨gb101, 2, none⟩ = some (.slice none 0 0) := (kce (HF.out.b (g := gb101) (cs := #[.int .i64 2, .int .i64 1, .slice none 0 0]) (t := 24) 2 rfl) 2).trans rfl; have hzh0 : w32.cell? ⟨gb117, 0, none⟩ = some (.int .i64 7) := (kce (HF.out.b (g := gb117) (cs := #[.int .i64 7, .slice Ay114 y114.length Cy114]) (t := 27) 1 rfl) 0).trans rfl; have hzh1 : w32.cell? ⟨gb117, 1, none⟩ = some (.slice Ay114 y114.length Cy114) := (kce (HF.out.b (g := gb117) (cs := #[.int .i64 7, .slice Ay114 y114.length Cy114]) (t := 27) 1 rfl) 1).trans rfl))
 go_upto_region 11 with (first | ((with_reducible refine gate_dst (N := 75) rfl ?_); (try (refine gate_guard (by rfl) ?_; dsimp only)); refine Kd.R_lit (Kd.int .i64) _ 3 ?hg (N := 75) ?hd (xs := ([1, 0, 0, 0, 0, 0, 0] : List Int)) (inner := [.int .i64 1, .int .i64 0, .int .i64 0, .int .i64 0, .int .i64 0, .int .i64 0, .int .i64 0]) (ok := fun _ => True) (okp := fun _ => True) ?hr ?hp (fun _ hk => hk) trivial (Below.refl _ _) (Nat.le_refl _) (by simp) ?_; (case hd => rfl); (case hg => rfl); (case hr => (go_simp; done)); (case hp => exact (Reps.one (show Kd.M (Kd.int .i64) _ _ _ 1 [.int .i64 1] from rfl) (Reps.one (show Kd.M (Kd.int .i64) _ _ _ 0 [.int .i64 0] from rfl) (Reps.one (show Kd.M (Kd.int .i64) _ _ _ 0 [.int .i64 0] from rfl) (Reps.one (show Kd.M (Kd.int .i64) _ _ _ 0 [.int .i64 0] from rfl) (Reps.one (show Kd.M (Kd.int .i64) _ _ _ 0 [.int .i64 0] from rfl) (Reps.one (show Kd.M (Kd.int .i64) _ _ _ 0 [.int .i64 0] from rfl) (Reps.one (show Kd.M (Kd.int .i64) _ _ _ 0 [.int .i64 0] from rfl) (Reps.none _ _))))))))); intro v_ w33 ho hb hg_ hnew_; clear hg_ hnew_; (rw [← Ny161.out] at ho); obtain ⟨Ay161, Cy161, e_⟩ := Kd.R_slice ho; subst e_; have HLy161 := ak (Kd.R_reads' ho).2.1; replace HF := ak ((HF.out.below hb).addI (Kd.R_reads' ho).2.2); replace HB := ak (bsp HB.out hb); clear hb ho) | (go_at_call 30; have hx1 := HF.out.r (A := Ay114) (l := y114) 1 rfl; have hx2 := HF.out.i (A := Ay161) (l := y161) 0 rfl; (refine (peel_Ok.calls 2 1 none 0 ([] : List Int) 7 _ _ y114 _ _ y161 none 0 ([] : List Int) t164 t167 t170 _ (Kd.C_nil _ _) (Nat.le_refl _) hx1 HLy114.out hx2 HLy161.out (Kd.C_nil _ _) (Nat.le_refl _) A7.out).mono ?_); clear hx1 hx2; rintro e w34 ⟨va0, va1, rfl, ho0, ho1, hb⟩; obtain ⟨At164, Ct164, e_⟩ := Kd.R_slice ho0; subst e_; have HLt164 := ak (Kd.R_reads' ho0).2.1; obtain ⟨At167, Ct167, e_⟩ := Kd.R_slice ho1; subst e_; have HLt167 := ak (Kd.R_reads' ho1).2.1; replace HF := ak (((HF.out.below hb).addI (Kd.R_reads' ho0).2.2).addI (Kd.R_reads' ho1).2.2); replace HB := ak (bsp HB.out hb); clear hb ho0 ho1; have hzt0 : w34.cell? ⟨gb126, 0, none⟩ = some (.int .i64 t121) := (kce (HF.out.b (g := gb126) (cs := #[.int .i64 t121, .slice At122 t122.length Ct122]) (t := 31) 0 rfl) 0).trans rfl; have hzt1 : w34.cell? ⟨gb126, 1, none⟩ = some (.slice At122 t122.length Ct122) := (kce (HF.out.b (g := gb126) (cs := #[.int .i64 t121, .slice At122 t122.length Ct122]) (t := 31) 0 rfl) 1).trans rfl))
 go_upto_region 12 with (first | ((with_reducible refine gate_dst (N := 82) rfl ?_); (try (refine gate_guard (by rfl) ?_; dsimp only)); refine Kd.R_lit (Kd.int .i64) _ 3 ?hg (N := 82) ?hd (xs := ([0, 1, 2, 4] : List Int)) (inner := [.int .i64 0, .int .i64 1, .int .i64 2, .int .i64 4]) (ok := fun _ => True) (okp := fun _ => True) ?hr ?hp (fun _ hk => hk) trivial (Below.refl _ _) (Nat.le_refl _) (by simp) ?_; (case hd => rfl); (case hg => rfl); (case hr => (go_simp; done)); (case hp => exact (Reps.one (show Kd.M (Kd.int .i64) _ _ _ 0 [.int .i64 0] from rfl) (Reps.one (show Kd.M (Kd.int .i64) _ _ _ 1 [.int .i64 1] from rfl) (Reps.one (show Kd.M (Kd.int .i64) _ _ _ 2 [.int .i64 2] from rfl) (Reps.one (show Kd.M (Kd.int .i64) _ _ _ 4 [.int .i64 4] from rfl) (Reps.none _ _)))))); intro v_ w35 ho hb hg_ hnew_; clear hg_ hnew_; (rw [← Ny171.out] at ho); obtain ⟨Ay171, Cy171, e_⟩ := Kd.R_slice ho; subst e_; have HLy171 := ak (Kd.R_reads' ho).2.1; replace HF := ak ((HF.out.below hb).addI (Kd.R_reads' ho).2.2); replace HB := ak (bsp HB.out hb); clear hb ho) | (go_at_call 24; have hx1 := HF.out.r (A := At122) (l := t122) 0 rfl; have hx2 := HF.out.i (A := Ay171) (l := y171) 0 rfl; (with_reducible refine (peel_Greatest.calls k t121 _ _ t122 _ _ y171 t174 t177 _ hx1 HLt122.out hx2 HLy171.out A8.out).mono ?_); clear hx1 hx2; rintro e w36 ⟨va0, rfl, ho0, hb⟩; obtain ⟨At174, Ct174, e_⟩ := Kd.R_slice ho0; subst e_; have HLt174 := ak (Kd.R_reads' ho0).2.1; replace HF := ak ((HF.out.below hb).addI (Kd.R_reads' ho0).2.2); replace HB := ak (bsp HB.out hb); clear hb ho0; have hzt0 : w36.cell? ⟨gb126, 0, none⟩ = some (.int .i64 t121) := (kce (HF.out.b (g := gb126) (cs := #[.int .i64 t121, .slice At122 t122.length Ct122]) (t := 31) 0 rfl) 0).trans rfl; have hzt1 : w36.cell? ⟨gb126, 1, none⟩ = some (.slice At122 t122.length Ct122) := (kce (HF.out.b (g := gb126) (cs := #[.int .i64 t121, .slice At122 t122.length Ct122]) (t := 31) 0 rfl) 1).trans rfl))
 have c75b0 : (t125 == 0) = true := beq_iff_eq.mpr c75
 have c75b1 : (t125 != 0) = false := bnm c75
 clear c75
 have c76b0 : (t128 == 0) = true := beq_iff_eq.mpr c76
 have c76b1 : (t128 != 0) = false := bnm c76
 clear c76
 have c77b0 : (t132 == 0) = true := beq_iff_eq.mpr c77
 have c77b1 : (t132 != 0) = false := bnm c77
 clear c77
 have c78b0 : (t137 == 0) = true := beq_iff_eq.mpr c78
 have c78b1 : (t137 != 0) = false := bnm c78
 clear c78
 have c79b0 : (t150 == 0) = true := beq_iff_eq.mpr c79
 have c79b1 : (t150 != 0) = false := bnm c79
 clear c79
 have c80b0 : (t160 == 0) = true := beq_iff_eq.mpr c80
 have c80b1 : (t160 != 0) = false := bnm c80
 clear c80
 have c81b0 : (t170 == 12) = true := beq_iff_eq.mpr c81
 have c81b1 : (t170 != 12) = false := bnm c81
 clear c81
 have c82b1 : (t177 != 0) = false := bnm c82
 clear c82
 (skip)
 have c85b0 : (t127 == 6) = true := beq_iff_eq.mpr c85
 have c85b1 : (t127 != 6) = false := bnm c85
 clear c85
 have c112b0 : ((t174.length : Int) == 0) = true := beq_iff_eq.mpr c112
 have c112b1 : ((t174.length : Int) != 0) = false := bnm c112
 clear c112
 have c114b0 : (t198 == 0) = true := beq_iff_eq.mpr c114
 have c114b1 : (t198 != 0) = false := bnm c114
 clear c114
 have c117b0 : ((t147.length : Int) == 0) = true := beq_iff_eq.mpr c117
 have c117b1 : ((t147.length : Int) != 0) = false := bnm c117
 clear c117
 go_upto_region 14 with ((fail))
 go_upto_region 15 with (first | ((with_reducible refine gate_dst (N := 117) rfl ?_); (try (refine gate_guard (by rfl) ?_; dsimp only)); refine Kd.R_lit (Kd.int .i64) _ 3 ?hg (N := 117) ?hd (xs := ([0, 1, 3] : List Int)) (inner := [.int .i64 0, .int .i64 1, .int .i64 3]) (ok := fun _ => True) (okp := fun _ => True) ?hr ?hp (fun _ hk => hk) trivial (Below.refl _ _) (Nat.le_refl _) (by simp) ?_; (case hd => rfl); (case hg => rfl); (case hr => (go_simp; done)); (case hp => exact (Reps.one (show Kd.M (Kd.int .i64) _ _ _ 0 [.int .i64 0] from rfl) (Reps.one (show Kd.M (Kd.int .i64) _ _ _ 1 [.int .i64 1] from rfl) (Reps.one (show Kd.M (Kd.int .i64) _ _ _ 3 [.int .i64 3] from rfl) (Reps.none _ _))))); intro v_ w37 ho hb hg_ hnew_; clear hg_ hnew_; (rw [← Ny178.out] at ho); obtain ⟨Ay178, Cy178, e_⟩ := Kd.R_slice ho; subst e_; have HLy178 := ak (Kd.R_reads' ho).2.1; replace HF := ak ((HF.out.below hb).addI (Kd.R_reads' ho).2.2); replace HB := ak (bsp HB.out hb); have HRy178 := ak ho; clear hb ho) | ((with_reducible refine gate_dst (N := 118) rfl ?_); (try (refine gate_guard (by rfl) ?_; dsimp only)); refine Kd.R_lit (Kd.int .i64) _ 3 ?hg (N := 118) ?hd (xs := ([1, 2, 4] : List Int)) (inner := [.int .i64 1, .int .i64 2, .int .i64 4]) (ok := fun _ => True) (okp := fun _ => True) ?hr ?hp (fun _ hk => hk) trivial (Below.refl _ _) (Nat.le_refl _) (by simp) ?_; (case hd => rfl); (case hg => rfl); (case hr => (go_simp; done)); (case hp => exact (Reps.one (show Kd.M (Kd.int .i64) _ _ _ 1 [.int .i64 1] from rfl) (Reps.one (show Kd.M (Kd.int .i64) _ _ _ 2 [.int .i64 2] from rfl) (Reps.one (show Kd.M (Kd.int .i64) _ _ _ 4 [.int .i64 4] from rfl) (Reps.none _ _))))); intro v_ w38 ho hb hg_ hnew_; clear hg_ hnew_; (rw [← Ny181.out] at ho); obtain ⟨Ay181, Cy181, e_⟩ := Kd.R_slice ho; subst e_; have HLy181 := ak (Kd.R_reads' ho).2.1; replace HF := ak ((HF.out.below hb).addI (Kd.R_reads' ho).2.2); replace HB := ak (bsp HB.out hb); replace HRy178 := ak (Kd.R_below HRy178.out hb); have HRy181 := ak ho; clear hb ho) | ((with_reducible refine gate_dst (N := 119) rfl ?_); (try (refine gate_guard (by rfl) ?_; dsimp only)); refine Kd.R_lit (Kd.int .i64) _ 3 ?hg (N := 119) ?hd (xs := ([2, 3, 5] : List Int)) (inner := [.int .i64 2, .int .i64 3, .int .i64 5]) (ok := fun _ => True) (okp := fun _ => True) ?hr ?hp (fun _ hk => hk) trivial (Below.refl _ _) (Nat.le_refl _) (by simp) ?_; (case hd => rfl); (case hg => rfl); (case hr => (go_simp; done)); (case hp => exact (Reps.one (show Kd.M (Kd.int .i64) _ _ _ 2 [.int .i64 2] from rfl) (Reps.one (show Kd.M (Kd.int .i64) _ _ _ 3 [.int .i64 3] from rfl) (Reps.one (show Kd.M (Kd.int .i64) _ _ _ 5 [.int .i64 5] from rfl) (Reps.none _ _))))); intro v_ w39 ho hb hg_ hnew_; clear hg_ hnew_; (rw [← Ny184.out] at ho); obtain ⟨Ay184, Cy184, e_⟩ := Kd.R_slice ho; subst e_; have HLy184 := ak (Kd.R_reads' ho).2.1; replace HF := ak ((HF.out.below hb).addI (Kd.R_reads' ho).2.2); replace HB := ak (bsp HB.out hb); replace HRy178 := ak (Kd.R_below HRy178.out hb); replace HRy181 := ak (Kd.R_below HRy181.out hb); have HRy184 := ak ho; clear hb ho) | ((with_reducible refine gate_dst (N := 120) rfl ?_); (try (refine gate_guard (by rfl) ?_; dsimp only)); refine Kd.R_lit (Kd.int .i64) _ 3 ?hg (N := 120) ?hd (xs := ([3, 4, 6] : List Int)) (inner := [.int .i64 3, .int .i64 4, .int .i64 6]) (ok := fun _ => True) (okp := fun _ => True) ?hr ?hp (fun _ hk => hk) trivial (Below.refl _ _) (Nat.le_refl _) (by simp) ?_; (case hd => rfl); (case hg => rfl); (case hr => (go_simp; done)); (case hp => exact (Reps.one (show Kd.M (Kd.int .i64) _ _ _ 3 [.int .i64 3] from rfl) (Reps.one (show Kd.M (Kd.int .i64) _ _ _ 4 [.int .i64 4] from rfl) (Reps.one (show Kd.M (Kd.int .i64) _ _ _ 6 [.int .i64 6] from rfl) (Reps.none _ _))))); intro v_ w40 ho hb hg_ hnew_; clear hg_ hnew_; (rw [← Ny187.out] at ho); obtain ⟨Ay187, Cy187, e_⟩ := Kd.R_slice ho; subst e_; have HLy187 := ak (Kd.R_reads' ho).2.1; replace HF := ak ((HF.out.below hb).addI (Kd.R_reads' ho).2.2); replace HB := ak (bsp HB.out hb); replace HRy178 := ak (Kd.R_below HRy178.out hb); replace HRy181 := ak (Kd.R_below HRy181.out hb); replace HRy184 := ak (Kd.R_below HRy184.out hb); have HRy187 := ak ho; clear hb ho) | ((with_reducible refine gate_dst (N := 121) rfl ?_); (try (refine gate_guard (by rfl) ?_; dsimp only)); refine Kd.N_lit (Kd.slice 3 (Kd.int .i64)) _ 22 ?hg (N' := 121) ?hd (xs := ([y178, y181, y184, y187] : List (List Int))) (inner := [.slice Ay178 y178.length Cy178, .slice Ay181 y181.length Cy181, .slice Ay184 y184.length Cy184, .slice Ay187 y187.length Cy187]) (ok := fun _ => True) (okp := fun _ => True) ?hr ?hp (fun _ hk => hk) trivial (Below.refl _ _) (Nat.le_refl _) (by simp) ?_; (case hd => rfl); (case hg => rfl); (case hr => (go_simp; done)); (case hp => exact (Reps.one (show Kd.FK (Kd.slice 3 (Kd.int .i64)) _ _ y178 [.slice Ay178 y178.length Cy178] from Kd.FK_slice_mk HLy178.out (Kd.R_F HRy178.out)) (Reps.one (show Kd.FK (Kd.slice 3 (Kd.int .i64)) _ _ y181 [.slice Ay181 y181.length Cy181] from Kd.FK_slice_mk HLy181.out (Kd.R_F HRy181.out)) (Reps.one (show Kd.FK (Kd.slice 3 (Kd.int .i64)) _ _ y184 [.slice Ay184 y184.length Cy184] from Kd.FK_slice_mk HLy184.out (Kd.R_F HRy184.out)) (Reps.one (show Kd.FK (Kd.slice 3 (Kd.int .i64)) _ _ y187 [.slice Ay187 y187.length Cy187] from Kd.FK_slice_mk HLy187.out (Kd.R_F HRy187.out)) (Reps.none _ _)))))); intro v_ w41 ho hb hg_ hnew_; clear hg_ hnew_; rw [← Ny190.out] at ho; obtain ⟨Ay190, Cy190, e_⟩ := Kd.N_slice ho; subst e_; have HLy190 := ak (Kd.N_reads' ho).2.1; replace HF := ak ((HF.out.below hb).addR (Kd.N_reads' ho).2.2); replace HB := ak (bsp HB.out hb); clear HRy178 HRy181 HRy184 HRy187; clear hb ho) | (go_at_call 16; have hx1 := HF.out.r (A := At122) (l := t122) 1 rfl; have hx2 := HF.out.r (A := Ay190) (l := y190) 0 rfl; (with_reducible refine (r44_Same.calls kj8 t121 _ _ t122 7 _ _ y190 true _ hx1 HLt122.out hx2 HLy190.out A83.out).mono ?_); clear hx1 hx2; rintro e w42 ⟨rfl, hb⟩; replace HF := ak (HF.out.below hb); replace HB := ak (bsp HB.out hb); clear hb) | ((with_reducible refine gate_dst (N := 130) rfl ?_); (try (refine gate_guard (by rfl) ?_; dsimp only)); refine Kd.R_lit (Kd.int .i64) _ 3 ?hg (N := 130) ?hd (xs := ([0, 1, 2, 5] : List Int)) (inner := [.int .i64 0, .int .i64 1, .int .i64 2, .int .i64 5]) (ok := fun _ => True) (okp := fun _ => True) ?hr ?hp (fun _ hk => hk) trivial (Below.refl _ _) (Nat.le_refl _) (by simp) ?_; (case hd => rfl); (case hg => rfl); (case hr => (go_simp; done)); (case hp => exact (Reps.one (show Kd.M (Kd.int .i64) _ _ _ 0 [.int .i64 0] from rfl) (Reps.one (show Kd.M (Kd.int .i64) _ _ _ 1 [.int .i64 1] from rfl) (Reps.one (show Kd.M (Kd.int .i64) _ _ _ 2 [.int .i64 2] from rfl) (Reps.one (show Kd.M (Kd.int .i64) _ _ _ 5 [.int .i64 5] from rfl) (Reps.none _ _)))))); intro v_ w43 ho hb hg_ hnew_; clear hg_ hnew_; (rw [← Ny194.out] at ho); obtain ⟨Ay194, Cy194, e_⟩ := Kd.R_slice ho; subst e_; have HLy194 := ak (Kd.R_reads' ho).2.1; replace HF := ak ((HF.out.below hb).addI (Kd.R_reads' ho).2.2); replace HB := ak (bsp HB.out hb); clear hb ho) | (go_at_call 28; have hx1 := HF.out.i (A := At129) (l := t129) 18 rfl; have hx2 := HF.out.i (A := Ay194) (l := y194) 0 rfl; (with_reducible refine (r9_SameInts.calls kj8 _ _ t129 _ _ y194 true _ hx1 HLt129.out hx2 HLy194.out A86.out).mono ?_); clear hx1 hx2; rintro e w' ⟨rfl, ⟨nd, rfl⟩⟩; replace HF := ak (HF.out.below (pbn (Below.refl _ _) nd)); replace HB := ak (pbn HB.out nd); generalize w43.drewN nd = w44 at HF HB ⊢; clear nd; have hzt0 : w44.cell? ⟨gb126, 0, none⟩ = some (.int .i64 t121) := (kce (HF.out.b (g := gb126) (cs := #[.int .i64 t121, .slice At122 t122.length Ct122]) (t := 31) 0 rfl) 0).trans rfl; have hzt1 : w44.cell? ⟨gb126, 1, none⟩ = some (.slice At122 t122.length Ct122) := (kce (HF.out.b (g := gb126) (cs := #[.int .i64 t121, .slice At122 t122.length Ct122]) (t := 31) 0 rfl) 1).trans rfl) | (go_at_call 22; have hx1 := HF.out.r (A := At122) (l := t122) 1 rfl; (with_reducible refine (peel_Check.calls t121 _ _ t122 t198 _ hx1 HLt122.out A113.out).mono ?_); clear hx1; rintro e w45 ⟨rfl, hb⟩; replace HF := ak (HF.out.below hb); replace HB := ak (bsp HB.out hb); clear hb))
 go_wp2_with (first | (go_at_call 28; have hx1 := HF.out.i (A := At144) (l := t144) 14 rfl; have hx2 := HF.out.i (A := Ay118) (l := y118) 19 rfl; (with_reducible refine (r9_SameInts.calls kj8 _ _ t144 _ _ y118 true _ hx1 HLt144.out hx2 HLy118.out A115.out).mono ?_); clear hx1 hx2; rintro e w' ⟨rfl, ⟨nd, rfl⟩⟩; replace HF := ak (HF.out.below (pbn (Below.refl _ _) nd)); replace HB := ak (pbn HB.out nd); generalize w45.drewN nd = w46 at HF HB ⊢; clear nd) | ((with_reducible refine gate_dst (N := 160) rfl ?_); (try (refine gate_guard (by rfl) ?_; dsimp only)); refine Kd.R_make (Kd.int .i64) _ 3 rfl (N := 160) rfl 22 _ _ rfl 7 rfl rfl Try.underlying22 (.int .i64 0) 8 info3 rfl (by decide) (by omega) 0 (ok := fun _ => True) (okp := fun _ => True) rfl (fun _ hk => hk) trivial (by omega) (by omega) (Below.refl _ _) (Nat.le_refl _) ?_; intro v_ w47 ho hb hg_ hnew_; clear hg_ hnew_; (simp only [Int.reduceToNat] at ho; rw [← Ny200.out] at ho); obtain ⟨Ay200, Cy200, e_⟩ := Kd.R_slice ho; subst e_; have HLy200 := ak (Kd.R_reads' ho).2.1; replace HF := ak ((HF.out.below hb).addI (Kd.R_reads' ho).2.2); replace HB := ak (bsp HB.out hb); clear hb ho) | (go_at_call 28; have hx1 := HF.out.i (A := At154) (l := t154) 12 rfl; have hx2 := HF.out.i (A := Ay200) (l := y200) 0 rfl; (with_reducible refine (r9_SameInts.calls kj8 _ _ t154 _ _ y200 true _ hx1 HLt154.out hx2 HLy200.out A119.out).mono ?_); clear hx1 hx2; rintro e w' ⟨rfl, ⟨nd, rfl⟩⟩; replace HF := ak (HF.out.below (pbn (Below.refl _ _) nd)); replace HB := ak (pbn HB.out nd); generalize w47.drewN nd = w48 at HF HB ⊢; clear nd) | ((with_reducible refine gate_dst (N := 165) rfl ?_); (try (refine gate_guard (by rfl) ?_; dsimp only)); refine Kd.R_lit (Kd.int .i64) _ 3 ?hg (N := 165) ?hd (xs := ([0, 1, 4, 6] : List Int)) (inner := [.int .i64 0, .int .i64 1, .int .i64 4, .int .i64 6]) (ok := fun _ => True) (okp := fun _ => True) ?hr ?hp (fun _ hk => hk) trivial (Below.refl _ _) (Nat.le_refl _) (by simp) ?_; (case hd => rfl); (case hg => rfl); (case hr => (go_simp; done)); (case hp => exact (Reps.one (show Kd.M (Kd.int .i64) _ _ _ 0 [.int .i64 0] from rfl) (Reps.one (show Kd.M (Kd.int .i64) _ _ _ 1 [.int .i64 1] from rfl) (Reps.one (show Kd.M (Kd.int .i64) _ _ _ 4 [.int .i64 4] from rfl) (Reps.one (show Kd.M (Kd.int .i64) _ _ _ 6 [.int .i64 6] from rfl) (Reps.none _ _)))))); intro v_ w49 ho hb hg_ hnew_; clear hg_ hnew_; (rw [← Ny204.out] at ho); obtain ⟨Ay204, Cy204, e_⟩ := Kd.R_slice ho; subst e_; have HLy204 := ak (Kd.R_reads' ho).2.1; replace HF := ak ((HF.out.below hb).addI (Kd.R_reads' ho).2.2); replace HB := ak (bsp HB.out hb); clear hb ho) | (go_at_call 28; have hx1 := HF.out.i (A := At157) (l := t157) 12 rfl; have hx2 := HF.out.i (A := Ay204) (l := y204) 0 rfl; (with_reducible refine (r9_SameInts.calls kj8 _ _ t157 _ _ y204 true _ hx1 HLt157.out hx2 HLy204.out A121.out).mono ?_); clear hx1 hx2; rintro e w' ⟨rfl, ⟨nd, rfl⟩⟩; replace HF := ak (HF.out.below (pbn (Below.refl _ _) nd)); replace HB := ak (pbn HB.out nd); generalize w49.drewN nd = w50 at HF HB ⊢; clear nd))
 go_ret
 exact ⟨by rfl, HB.out⟩
end Go.Proofs.Ytkifipakikbhcaa.La
namespace Go.Proofs.Ytkifipakikbhcaa.Hand
open Go.RowKit YtkifipakikbhcaaW.PrintWords YtkifipakikbhcaaW.PrintLast YtkifipakikbhcaaW.PrintMore
def l44_awake.f : Option Bool := some true
theorem l44_awake.calls (r : Bool) (w : World) (h : l44_awake.f = some r) :
  Calls Try.prog 12 #[] w fun e w' => e = .returned (.bool r) ∧ Below w.heap.size w w' := by
 have e : true = r := osi h
 subst e
 exact La.awake_walk 4096 4096 ((([1, 1, 0, 1, 0, 0, 0] : List Int))) rfl ((([0, 1, 1, 0, 1, 0, 0] : List Int))) rfl ((([0, 0, 1, 1, 0, 1, 0] : List Int))) rfl ((([0, 0, 0, 1, 1, 0, 1] : List Int))) rfl ((([(([1, 1, 0, 1, 0, 0, 0] : List Int)), (([0, 1, 1, 0, 1, 0, 0] : List Int)), (([0, 0, 1, 1, 0, 1, 0] : List Int)), (([0, 0, 0, 1, 1, 0, 1] : List Int))] : List (List Int)))) rfl ((([1, 1, 0, 0, 1, 0, 1] : List Int))) rfl 7 [[0, 1, 3], [1, 2, 4], [2, 3, 5], [3, 4, 6]] 0 (by decide +kernel) 6 0 (by decide +kernel) [0, 1, 2, 5] 0 (by decide +kernel) ((([5, 6] : List Int))) rfl 0 (by decide +kernel) ((([0, 1, 0, 1, 1, 0, 1] : List Int))) rfl ((([0, 3] : List Int))) rfl [1, 1, 0, 0, 1, 0, 1] [] 0 (by decide +kernel) ((([0, 1, 4, 6] : List Int))) rfl [0, 0, 0, 0, 0, 0, 0] [0, 1, 4, 6] 0 (by decide +kernel) ((([1, 0, 0, 0, 0, 0, 0] : List Int))) rfl [] [] 12 (by decide +kernel) ((([0, 1, 2, 4] : List Int))) rfl [] 0 (by decide +kernel) rfl rfl rfl rfl rfl rfl rfl ((([0, 1, 3] : List Int))) rfl ((([1, 2, 4] : List Int))) rfl ((([2, 3, 5] : List Int))) rfl ((([3, 4, 6] : List Int))) rfl ((([(([0, 1, 3] : List Int)), (([1, 2, 4] : List Int)), (([2, 3, 5] : List Int)), (([3, 4, 6] : List Int))] : List (List Int)))) rfl (by decide +kernel) rfl ((([0, 1, 2, 5] : List Int))) rfl (by decide +kernel) rfl 0 (by decide +kernel) rfl (by decide +kernel) rfl ((List.replicate 7 0)) rfl (by decide +kernel) ((([0, 1, 4, 6] : List Int))) rfl (by decide +kernel) rfl w
end Go.Proofs.Ytkifipakikbhcaa.Hand
namespace Go.Proofs.Ytkifipakikbhcaa.Lb
open Ytkifipakikbhcaa.Ref Ytkifipakikbhcaa.Pg Ytkifipakikbhcaa.Pk Ytkifipakikbhcaa.Pm Ytkifipakikbhcaa.Hand
open Go.RowKit YtkifipakikbhcaaW.PrintWords YtkifipakikbhcaaW.PrintLast YtkifipakikbhcaaW.PrintMore
def rd_L1 (xs : List (List Int)) (i : Int) : (List Int) := xs.getD i.toNat ([] : List Int)
def l44_PeelGraphs.j0 : Nat → Bool → Int → Int → List Int → Int → List (List Int) → Option (Bool)
 | 0, _, _, _, _, _, _ => none
 | k + 1, x15, x118000, x118001, x118002, x119000, x119001 => if x15 = true then ((l44_awake.f).bind fun t121 => (some t121)) else ((peel_Graph.f k x118000 x118001 x118002 x119000 x119001).bind fun bt122 => ((r44_Graph.f k x118000 x118001 x118002 x119000 x119001).bind fun bt128 => (if bt122.2.2 = bt128.2.2 then ((r44_Same.f k bt122.1 bt122.2.1 bt128.1 bt128.2.1).bind fun t134 => (some t134)) else (some false))))
def l44_PeelGraphs.f (k : Nat) (a0_0 : Int) (a0_1 : Int) (l0_2 : List Int) (a1_0 : Int) (l1_1 : List (List Int)) : Option (Bool) := (l44_awake.f).bind fun t119 => (if t119 = true then ((r9_Few.f k a1_0 l1_1 300).bind fun t120 => (l44_PeelGraphs.j0 k (!t120) a0_0 a0_1 l0_2 a1_0 l1_1)) else (l44_PeelGraphs.j0 k true a0_0 a0_1 l0_2 a1_0 l1_1))
theorem l44_PeelGraphs.calls (k : Nat) (a0_0 : Int) (a0_1 : Int) (A0_2 : Option Addr) (c0_2 : Nat) (l0_2 : List Int) (a1_0 : Int) (A1_1 : Option Addr) (c1_1 : Nat) (l1_1 : List (List Int)) (r : Bool) (hrt : r = true) (w : World) (hr0_2 : Kd.C (Kd.int .i64) w A0_2 l0_2.length l0_2) (hc0_2 : l0_2.length ≤ c0_2) (hr1_1 : Kd.C (Kd.slice 3 (Kd.int .i64)) w A1_1 l1_1.length l1_1) (hc1_1 : l1_1.length ≤ c1_1) (h : l44_PeelGraphs.f k a0_0 a0_1 l0_2 a1_0 l1_1 = some r) :
  Calls Try.prog 3 #[.agg #[.int .i64 a0_0, .int .i64 a0_1, .slice A0_2 l0_2.length c0_2], .agg #[.int .i64 a1_0, .slice A1_1 l1_1.length c1_1]] w fun e w' => e = .returned (.bool r) ∧ Below w.heap.size w w' := by
 have hu24 := Try.underlying24
 have hu27 := Try.underlying27
 have hu31 := Try.underlying31
 have HR0_2 := ak hr0_2
 have HC0_2 := ak hc0_2
 clear hr0_2 hc0_2
 have HR1_1 := ak hr1_1
 have HC1_1 := ak hc1_1
 clear hr1_1 hc1_1
 have HB := ak (Below.refl w.heap.size w)
 have H : ((l44_awake.f).bind fun t119 => (if t119 = true then ((r9_Few.f k a1_0 l1_1 300).bind fun t120 => (l44_PeelGraphs.j0 k (!t120) a0_0 a0_1 l0_2 a1_0 l1_1)) else (l44_PeelGraphs.j0 k true a0_0 a0_1 l0_2 a1_0 l1_1))) = some r := h
 clear h
 have HC3 := ak H
 clear H
 go_enter Try.func3, Try.ntmps3
 go_upto_region 1 with (first | ((with_reducible refine gate_dst (N := 2) rfl ?_); refine box_event ?hg (N := 2) ?hd (cs := #[.int .i64 a0_0, .int .i64 a0_1, .slice A0_2 l0_2.length c0_2]) (t := 24) ?hr ?_; (case hd => rfl); (case hg => rfl); (case hr => (go_simp; done)); intro gb117 hg w4 hbox hb; have n0_ := ak (bsp HB.out hb); have n1_ := ak (hbox); have n2_ := ak ((by rw [hg]; exact (bsz HB.out) : w.heap.size ≤ gb117)); have n3_ := ak ((by rw [hg]; exact (bsz HB.out) : w.heap.size ≤ gb117)); clear HB; have HB := n0_; have BK117 := n1_; have GW117 := n2_; have GE117 := n3_; clear n0_ n1_ n2_ n3_; clear hb hbox hg) | ((with_reducible refine gate_dst (N := 3) rfl ?_); refine box_event ?hg (N := 3) ?hd (cs := #[.int .i64 a1_0, .slice A1_1 l1_1.length c1_1]) (t := 27) ?hr ?_; (case hd => rfl); (case hg => rfl); (case hr => (go_simp; done)); intro gb118 hg w5 hbox hb; have n0_ := ak (kbe BK117.out hb); have n1_ := ak (bsp HB.out hb); have n2_ := ak (hbox); have n3_ := ak ((by rw [hg]; exact (bsz HB.out) : w.heap.size ≤ gb118)); have n4_ := ak ((by rw [hg]; exact (bsz HB.out) : w.heap.size ≤ gb118)); have n5_ := ak ((by rw [hg]; exact Nat.ne_of_lt (klt BK117.out) : gb117 ≠ gb118)); have n6_ := ak ((by rw [hg]; exact Nat.ne_of_gt (klt BK117.out) : gb118 ≠ gb117)); clear BK117 HB; have BK117 := n0_; have HB := n1_; have BK118 := n2_; have GW118 := n3_; have GE118 := n4_; have NB117_118 := n5_; have NB118_117 := n6_; clear n0_ n1_ n2_ n3_ n4_ n5_ n6_; clear hb hbox hg))
 go_cut [15] (fun v15 wc => ∃ (kq : Nat) (x15_2 : Bool), v15 = .bool x15_2 ∧ Aside0 (l44_PeelGraphs.j0 kq x15_2 a0_0 a0_1 l0_2 a1_0 l1_1 = some r) ∧ Aside0 (kq ≤ k) ∧ Aside0 (wc.heap[gb117]? = some (.cells #[.int .i64 a0_0, .int .i64 a0_1, (.slice A0_2 l0_2.length c0_2)] 24 (0, 0))) ∧ Aside0 (wc.heap[gb118]? = some (.cells #[.int .i64 a1_0, (.slice A1_1 l1_1.length c1_1)] 27 (0, 0))) ∧ Aside0 (Below w.heap.size w wc))
 case first =>
  have H := HC3.out
  clear HC3
  replace H := obm H
  obtain ⟨t119, A60, H⟩ := H
  replace H : (if t119 = true then ((r9_Few.f k a1_0 l1_1 300).bind fun t120 => (l44_PeelGraphs.j0 k (!t120) a0_0 a0_1 l0_2 a1_0 l1_1)) else (l44_PeelGraphs.j0 k true a0_0 a0_1 l0_2 a1_0 l1_1)) = some r := H
  have A6 := ak A60
  clear A60
  by_cases c7 : t119 = true
  ·subst c7
   have H1 : ((r9_Few.f k a1_0 l1_1 300).bind fun t120 => (l44_PeelGraphs.j0 k (!t120) a0_0 a0_1 l0_2 a1_0 l1_1)) = some r := by rw [if_pos rfl] at H; exact H
   clear H
   have H := H1
   clear H1
   replace H := obm H
   obtain ⟨t120, A80, H⟩ := H
   replace H : (l44_PeelGraphs.j0 k (!t120) a0_0 a0_1 l0_2 a1_0 l1_1) = some r := H
   have A8 := ak A80
   clear A80
   have H' := ak H
   clear H
   go_wp2_with (first | ((with_reducible refine gate_callee (f := 12) rfl ?_); refine goesL_ (some 9) rfl rfl Try.func12 (by kernel_rfl) rfl #[] rfl (by (try simp only [List.map_toArray, List.map_cons, List.map_nil]); first | done | rfl) ?_; (with_reducible refine (l44_awake.calls  true _ A6.out).mono ?_); rintro e w9 ⟨rfl, hb⟩; refine ⟨_, rfl, ?_⟩; have n0_ := ak (kbe BK117.out hb); have n1_ := ak (kbe BK118.out hb); have n2_ := ak (bsp HB.out hb); clear BK117 BK118 HB; have BK117 := n0_; have BK118 := n1_; have HB := n2_; clear n0_ n1_ n2_; have hnb10 := NB118_117.out; have hnc10 := NB117_118.out; have hcz11_0 : w9.cell? ⟨gb118, 0, none⟩ = some (.int .i64 a1_0) := (kce BK118.out 0).trans rfl; have hcz11_1 : w9.cell? ⟨gb118, 1, none⟩ = some (.slice A1_1 l1_1.length c1_1) := (kce BK118.out 1).trans rfl) | (go_at_call 13; (with_reducible refine (r9_Few.calls k a1_0 _ _ l1_1 300 t120 _ ?side1 ?side2 A8.out).mono ?_); (case side1 => repeat (first | exact (Kd.C_below HR1_1.out HB.out) | (with_reducible refine Kd.C_alloc ?_ _) | (with_reducible refine Kd.C_drewN ?_ _) | (with_reducible refine Kd.C_drew ?_))); (case side2 => exact HC1_1.out); rintro e w12 ⟨rfl, hb⟩; have n0_ := ak (kbe BK117.out hb); have n1_ := ak (kbe BK118.out hb); have n2_ := ak (bsp HB.out hb); clear BK117 BK118 HB; have BK117 := n0_; have BK118 := n1_; have HB := n2_; clear n0_ n1_ n2_; (try clear hb); (try clear hb2); (try clear hk); (try clear hi)))
   go_meet
   case rel => exact ⟨_, (!t120), (by first | rfl | (simp; done) | (simp [*]; done)), H', ⟨by first | omega | exact Nat.le_refl _⟩, ⟨by (with_reducible repeat (first | refine kdn ?_ _ | refine kdr ?_ | refine kal ?_ _)); exact BK117.out⟩, ⟨by (with_reducible repeat (first | refine kdn ?_ _ | refine kdr ?_ | refine kal ?_ _)); exact BK118.out⟩, ⟨by repeat (first | (with_reducible first | exact HB.out | apply bal | apply pbn | apply bd1 | refine bst ?_ GE117.out | refine bst ?_ GE118.out) | exact HB.out)⟩⟩
  ·replace c7 := Bool.eq_false_iff.mpr c7
   subst c7
   have H1 : (l44_PeelGraphs.j0 k true a0_0 a0_1 l0_2 a1_0 l1_1) = some r := by rw [if_neg (show ¬ (false = true) by decide)] at H; exact H
   clear H
   have H := H1
   clear H1
   have H' := ak H
   clear H
   go_wp2_with ((with_reducible refine gate_callee (f := 12) rfl ?_); refine goesL_ (some 9) rfl rfl Try.func12 (by kernel_rfl) rfl #[] rfl (by (try (simp only [List.map_toArray, List.map_cons, List.map_nil])); done) ?_; (with_reducible refine (l44_awake.calls  false _ A6.out).mono ?_); rintro e w13 ⟨rfl, hb⟩; refine ⟨_, rfl, ?_⟩; have n0_ := ak (kbe BK117.out hb); have n1_ := ak (kbe BK118.out hb); have n2_ := ak (bsp HB.out hb); clear BK117 BK118 HB; have BK117 := n0_; have BK118 := n1_; have HB := n2_; clear n0_ n1_ n2_; (try (clear hb)))
   go_meet
   case rel => exact ⟨_, (true), (by first | rfl | (simp; done) | (simp [*]; done)), H', ⟨by first | omega | exact Nat.le_refl _⟩, ⟨by (with_reducible repeat (first | refine kdn ?_ _ | refine kdr ?_ | refine kal ?_ _)); exact BK117.out⟩, ⟨by (with_reducible repeat (first | refine kdn ?_ _ | refine kdr ?_ | refine kal ?_ _)); exact BK118.out⟩, ⟨by repeat (first | (with_reducible first | exact HB.out | apply bal | apply pbn | apply bd1 | refine bst ?_ GE117.out | refine bst ?_ GE118.out) | exact HB.out)⟩⟩
 case rest =>
  clear HC3
  obtain ⟨kq, x15_2, rfl, HA, HJ2, BK117, BK118, HB⟩ := hcut
  cases kq with
  | zero => exact absurd HA.out (by simp [l44_PeelGraphs.j0])
  | succ kj2 =>
   have H := HA.out
   clear HA
   simp only [l44_PeelGraphs.j0] at H
   by_cases c14 : x15_2 = true
   ·subst c14
    have H1 : ((l44_awake.f).bind fun t121 => (some t121)) = some r := by rw [if_pos rfl] at H; exact H
    clear H
    have H := H1
    clear H1
    replace H := obm H
    obtain ⟨t121, A150, H⟩ := H
    replace H : (some t121) = some r := H
    have A15 := ak A150
    clear A150
    obtain rfl := osi H
    go_wp2_with ((with_reducible refine gate_callee (f := 12) rfl ?_); refine goesL_ (some 16) rfl rfl Try.func12 (by kernel_rfl) rfl #[] rfl (by (try (simp only [List.map_toArray, List.map_cons, List.map_nil])); done) ?_; (with_reducible refine (l44_awake.calls  t121 _ A15.out).mono ?_); rintro e w16 ⟨rfl, hb⟩; refine ⟨_, rfl, ?_⟩; have n0_ := ak (kbe BK117.out hb); have n1_ := ak (kbe BK118.out hb); have n2_ := ak (bsp HB.out hb); clear BK117 BK118 HB; have BK117 := n0_; have BK118 := n1_; have HB := n2_; clear n0_ n1_ n2_; (try (clear hb)))
    go_ret
    exact ⟨by first | rfl | (simp <;> rfl) | (simp [*] <;> rfl), by repeat (first | (with_reducible first | exact HB.out | apply bal | apply pbn | apply bd1 | refine bst ?_ GE117.out | refine bst ?_ GE118.out) | exact HB.out)⟩
   ·replace c14 := Bool.eq_false_iff.mpr c14
    subst c14
    have H1 : ((peel_Graph.f kj2 a0_0 a0_1 l0_2 a1_0 l1_1).bind fun bt122 => ((r44_Graph.f kj2 a0_0 a0_1 l0_2 a1_0 l1_1).bind fun bt128 => (if bt122.2.2 = bt128.2.2 then ((r44_Same.f kj2 bt122.1 bt122.2.1 bt128.1 bt128.2.1).bind fun t134 => (some t134)) else (some false)))) = some r := by rw [if_neg (show ¬ (false = true) by decide)] at H; exact H
    clear H
    have H := H1
    clear H1
    replace H := obm H
    obtain ⟨⟨t122, t123, t126⟩, A170, H⟩ := H
    replace H : ((r44_Graph.f kj2 a0_0 a0_1 l0_2 a1_0 l1_1).bind fun bt128 => (if t126 = bt128.2.2 then ((r44_Same.f kj2 t122 t123 bt128.1 bt128.2.1).bind fun t134 => (some t134)) else (some false))) = some r := H
    have A17 := ak A170
    clear A170
    replace H := obm H
    obtain ⟨⟨t128, t129, t132⟩, A180, H⟩ := H
    replace H : (if t126 = t132 then ((r44_Same.f kj2 t122 t123 t128 t129).bind fun t134 => (some t134)) else (some false)) = some r := H
    have A18 := ak A180
    clear A180
    by_cases c19 : t126 = t132
    ·rw [if_pos c19] at H
     have c19b0 : (t126 == t132) = true := beq_iff_eq.mpr c19
     have c19b1 : (t126 != t132) = false := bnm c19
     clear c19
     replace H := obm H
     obtain ⟨t134, A200, H⟩ := H
     replace H : (some t134) = some r := H
     have A20 := ak A200
     clear A200
     obtain rfl := osi H
     have hnb21 := NB117_118.out
     have hnc21 := NB118_117.out
     have hcz22_0 : wc.cell? ⟨gb117, 0, none⟩ = some (.int .i64 a0_0) := (kce BK117.out 0).trans rfl
     have hcz22_1 : wc.cell? ⟨gb117, 1, none⟩ = some (.int .i64 a0_1) := (kce BK117.out 1).trans rfl
     have hcz22_2 : wc.cell? ⟨gb117, 2, none⟩ = some (.slice A0_2 l0_2.length c0_2) := (kce BK117.out 2).trans rfl
     have hfz22_0 := kfz BK117.out 0
     have hfz22_1 := kfz BK117.out 1
     have hfz22_2 := kfz BK117.out 2
     have hcz23_0 : wc.cell? ⟨gb118, 0, none⟩ = some (.int .i64 a1_0) := (kce BK118.out 0).trans rfl
     have hcz23_1 : wc.cell? ⟨gb118, 1, none⟩ = some (.slice A1_1 l1_1.length c1_1) := (kce BK118.out 1).trans rfl
     have hfz23_0 := kfz BK118.out 0
     have hfz23_1 := kfz BK118.out 1
     go_wp2_with (first | ((with_reducible refine gate_callee (f := 14) rfl ?_); refine goesL_ (some 20) rfl rfl Try.func14 (by kernel_rfl) rfl #[.agg #[.int .i64 a0_0, .int .i64 a0_1, .slice A0_2 l0_2.length c0_2], .agg #[.int .i64 a1_0, .slice A1_1 l1_1.length c1_1]] rfl (by (try simp only [List.map_toArray, List.map_cons, List.map_nil]); first | done | rfl | (simp only [List.length_drop, List.length_take]; rfl)) ?_; (with_reducible refine (peel_Graph.calls kj2 a0_0 a0_1 _ _ l0_2 a1_0 _ _ l1_1 t122 t123 t126 _ ?side1 ?side2 ?side3 ?side4 A17.out).mono ?_); (case side1 => repeat (first | exact (Kd.C_below HR0_2.out HB.out) | (with_reducible refine Kd.C_alloc ?_ _) | (with_reducible refine Kd.C_drewN ?_ _) | (with_reducible refine Kd.C_drew ?_))); (case side2 => exact HC0_2.out); (case side3 => repeat (first | exact (Kd.C_below HR1_1.out HB.out) | (with_reducible refine Kd.C_alloc ?_ _) | (with_reducible refine Kd.C_drewN ?_ _) | (with_reducible refine Kd.C_drew ?_))); (case side4 => exact HC1_1.out); rintro e w24 ⟨v124, rfl, ho0, hb⟩; refine ⟨_, rfl, ?_⟩; have n0_ := ak (Kd.S_lower ho0 (bsz (by repeat (first | (with_reducible first | exact HB.out | apply bal | apply pbn | apply bd1 | refine bst ?_ GE117.out | refine bst ?_ GE118.out) | exact HB.out)))); have n1_ := ak (kbe (g := gb117) (o := .cells #[.int .i64 a0_0, .int .i64 a0_1, .slice A0_2 l0_2.length c0_2] 24 (0, 0)) (by (with_reducible repeat (first | refine kdn ?_ _ | refine kdr ?_ | refine kal ?_ _)); exact BK117.out) hb); have n2_ := ak (kbe (g := gb118) (o := .cells #[.int .i64 a1_0, .slice A1_1 l1_1.length c1_1] 27 (0, 0)) (by (with_reducible repeat (first | refine kdn ?_ _ | refine kdr ?_ | refine kal ?_ _)); exact BK118.out) hb); have n3_ := ak (bsp (by repeat (first | (with_reducible first | exact HB.out | apply bal | apply pbn | apply bd1 | refine bst ?_ GE117.out | refine bst ?_ GE118.out) | exact HB.out)) hb); clear BK117 BK118 HB; have HO125 := n0_; have BK117 := n1_; have BK118 := n2_; have HB := n3_; clear n0_ n1_ n2_ n3_; (try clear hb); (try clear hb2); (try clear hk); (try clear hi); (try clear ho0)) | ((with_reducible refine gate_dst (N := 5) rfl ?_); refine box_event ?hg (N := 5) ?hd (cs := #[.int .i64 0, .slice none 0 0]) (t := 31) ?hr ?_; (case hd => rfl); (case hg => rfl); (case hr => first | (go_simp; done) | (go_simp; rfl)); intro gb127 hg w25 hbox hb; have n0_ := ak (Kd.S_below (by (with_reducible repeat (first | apply Kd.S_alloc | apply Kd.S_drewN | apply Kd.S_drew)); exact HO125.out) hb); have n1_ := ak (kbe (g := gb117) (o := .cells #[.int .i64 a0_0, .int .i64 a0_1, .slice A0_2 l0_2.length c0_2] 24 (0, 0)) (by (with_reducible repeat (first | refine kdn ?_ _ | refine kdr ?_ | refine kal ?_ _)); exact BK117.out) hb); have n2_ := ak (kbe (g := gb118) (o := .cells #[.int .i64 a1_0, .slice A1_1 l1_1.length c1_1] 27 (0, 0)) (by (with_reducible repeat (first | refine kdn ?_ _ | refine kdr ?_ | refine kal ?_ _)); exact BK118.out) hb); have n3_ := ak (bsp (by repeat (first | (with_reducible first | exact HB.out | apply bal | apply pbn | apply bd1 | refine bst ?_ GE117.out | refine bst ?_ GE118.out) | exact HB.out)) hb); have n4_ := ak (hbox); have n5_ := ak ((by rw [hg]; exact (bsz (by repeat (first | (with_reducible first | exact HB.out | apply bal | apply pbn | apply bd1 | refine bst ?_ GE117.out | refine bst ?_ GE118.out) | exact HB.out))) : w.heap.size ≤ gb127)); have n6_ := ak ((by rw [hg]; exact (bsz (by repeat (first | (with_reducible first | exact HB.out | apply bal | apply pbn | apply bd1 | refine bst ?_ GE117.out | refine bst ?_ GE118.out) | exact HB.out))) : w.heap.size ≤ gb127)); have n7_ := ak ((by rw [hg]; exact Nat.ne_of_lt (klt (g := gb117) (o := .cells #[.int .i64 a0_0, .int .i64 a0_1, .slice A0_2 l0_2.length c0_2] 24 (0, 0)) (by (with_reducible repeat (first | refine kdn ?_ _ | refine kdr ?_ | refine kal ?_ _)); exact BK117.out)) : gb117 ≠ gb127)); have n8_ := ak ((by rw [hg]; exact Nat.ne_of_gt (klt (g := gb117) (o := .cells #[.int .i64 a0_0, .int .i64 a0_1, .slice A0_2 l0_2.length c0_2] 24 (0, 0)) (by (with_reducible repeat (first | refine kdn ?_ _ | refine kdr ?_ | refine kal ?_ _)); exact BK117.out)) : gb127 ≠ gb117)); have n9_ := ak ((by rw [hg]; exact Nat.ne_of_lt (klt (g := gb118) (o := .cells #[.int .i64 a1_0, .slice A1_1 l1_1.length c1_1] 27 (0, 0)) (by (with_reducible repeat (first | refine kdn ?_ _ | refine kdr ?_ | refine kal ?_ _)); exact BK118.out)) : gb118 ≠ gb127)); have n10_ := ak ((by rw [hg]; exact Nat.ne_of_gt (klt (g := gb118) (o := .cells #[.int .i64 a1_0, .slice A1_1 l1_1.length c1_1] 27 (0, 0)) (by (with_reducible repeat (first | refine kdn ?_ _ | refine kdr ?_ | refine kal ?_ _)); exact BK118.out)) : gb127 ≠ gb118)); clear HO125 BK117 BK118 HB; have HO125 := n0_; have BK117 := n1_; have BK118 := n2_; have HB := n3_; have BK127 := n4_; have GW127 := n5_; have GE127 := n6_; have NB117_127 := n7_; have NB127_117 := n8_; have NB118_127 := n9_; have NB127_118 := n10_; clear n0_ n1_ n2_ n3_ n4_ n5_ n6_ n7_ n8_ n9_ n10_; clear hb hbox hg; have hnb26 := NB127_117.out; have hnc26 := NB117_127.out; have hnb27 := NB127_118.out; have hnc27 := NB118_127.out; have hcz28_0 : w25.cell? ⟨gb127, 0, none⟩ = some (.int .i64 0) := (kce BK127.out 0).trans rfl; have hcz28_1 : w25.cell? ⟨gb127, 1, none⟩ = some (.slice none 0 0) := (kce BK127.out 1).trans rfl; have hfz28_0 := kfz BK127.out 0; have hfz28_1 := kfz BK127.out 1; obtain ⟨Ao29, co29, eo29⟩ := Kd.S_slice HO125.out; subst eo29; have hcz30_0 : w25.cell? ⟨gb117, 0, none⟩ = some (.int .i64 a0_0) := (kce BK117.out 0).trans rfl; have hcz30_1 : w25.cell? ⟨gb117, 1, none⟩ = some (.int .i64 a0_1) := (kce BK117.out 1).trans rfl; have hcz30_2 : w25.cell? ⟨gb117, 2, none⟩ = some (.slice A0_2 l0_2.length c0_2) := (kce BK117.out 2).trans rfl; have hfz30_0 := kfz BK117.out 0; have hfz30_1 := kfz BK117.out 1; have hfz30_2 := kfz BK117.out 2; have hcz31_0 : w25.cell? ⟨gb118, 0, none⟩ = some (.int .i64 a1_0) := (kce BK118.out 0).trans rfl; have hcz31_1 : w25.cell? ⟨gb118, 1, none⟩ = some (.slice A1_1 l1_1.length c1_1) := (kce BK118.out 1).trans rfl; have hfz31_0 := kfz BK118.out 0; have hfz31_1 := kfz BK118.out 1) | ((with_reducible refine gate_callee (f := 15) rfl ?_); refine goesL_ (some 26) rfl rfl Try.func15 (by kernel_rfl) rfl #[.agg #[.int .i64 a0_0, .int .i64 a0_1, .slice A0_2 l0_2.length c0_2], .agg #[.int .i64 a1_0, .slice A1_1 l1_1.length c1_1]] rfl (by (try simp only [List.map_toArray, List.map_cons, List.map_nil]); first | done | rfl | (simp only [List.length_drop, List.length_take]; rfl)) ?_; (with_reducible refine (r44_Graph.calls kj2 a0_0 a0_1 _ _ l0_2 a1_0 _ _ l1_1 t128 t129 t132 _ ?side1 ?side2 ?side3 ?side4 A18.out).mono ?_); (case side1 => exact Kd.C_below HR0_2.out (by repeat (first | (with_reducible first | exact HB.out | apply bal | apply pbn | apply bd1 | refine bst ?_ GE117.out | refine bst ?_ GE118.out | refine bst ?_ GE127.out) | exact HB.out))); (case side2 => exact HC0_2.out); (case side3 => exact Kd.C_below HR1_1.out (by repeat (first | (with_reducible first | exact HB.out | apply bal | apply pbn | apply bd1 | refine bst ?_ GE117.out | refine bst ?_ GE118.out | refine bst ?_ GE127.out) | exact HB.out))); (case side4 => exact HC1_1.out); rintro e w32 ⟨v130, rfl, ho0, hb⟩; refine ⟨_, rfl, ?_⟩; have n0_ := ak (Kd.S_elder' (by (with_reducible repeat (first | apply Kd.S_alloc | apply Kd.S_drewN | apply Kd.S_drew)); exact (Kd.S_mono (Kd.S_far (p := ⟨gb127, 1, none⟩) (Kd.S_far (p := ⟨gb127, 0, none⟩) (Kd.S_types HO125.out BK127.out (by decide)) (fun _ hk => hk.2) (.int .i64 t122)) (fun _ hk => hk.2) (.slice Ao29 t123.length co29)) (fun _ h_ => h_.1))) (Kd.S_base ho0) hb); have n1_ := ak (Kd.S_lower (Kd.S_new' ho0 (Kd.S_lt (by (with_reducible repeat (first | apply Kd.S_alloc | apply Kd.S_drewN | apply Kd.S_drew)); exact (Kd.S_mono (Kd.S_far (p := ⟨gb127, 1, none⟩) (Kd.S_far (p := ⟨gb127, 0, none⟩) (Kd.S_types HO125.out BK127.out (by decide)) (fun _ hk => hk.2) (.int .i64 t122)) (fun _ hk => hk.2) (.slice Ao29 t123.length co29)) (fun _ h_ => h_.1))))) (bsz (by repeat (first | (with_reducible first | exact HB.out | apply bal | apply pbn | apply bd1 | refine bst ?_ GE117.out | refine bst ?_ GE118.out | refine bst ?_ GE127.out) | exact HB.out)))); have n2_ := ak (kbe (g := gb117) (o := .cells #[.int .i64 a0_0, .int .i64 a0_1, .slice A0_2 l0_2.length c0_2] 24 (0, 0)) (by (with_reducible repeat (first | refine kdn ?_ _ | refine kdr ?_ | refine kal ?_ _)); refine blk_far ?_ NB117_127.out _; (with_reducible repeat (first | refine kdn ?_ _ | refine kdr ?_ | refine kal ?_ _)); refine blk_far ?_ NB117_127.out _; (with_reducible repeat (first | refine kdn ?_ _ | refine kdr ?_ | refine kal ?_ _)); exact BK117.out) hb); have n3_ := ak (kbe (g := gb118) (o := .cells #[.int .i64 a1_0, .slice A1_1 l1_1.length c1_1] 27 (0, 0)) (by (with_reducible repeat (first | refine kdn ?_ _ | refine kdr ?_ | refine kal ?_ _)); refine blk_far ?_ NB118_127.out _; (with_reducible repeat (first | refine kdn ?_ _ | refine kdr ?_ | refine kal ?_ _)); refine blk_far ?_ NB118_127.out _; (with_reducible repeat (first | refine kdn ?_ _ | refine kdr ?_ | refine kal ?_ _)); exact BK118.out) hb); have n4_ := ak (kbe (g := gb127) (o := .cells #[.int .i64 t122, .slice Ao29 t123.length co29] 31 (0, 0)) (by (with_reducible repeat (first | refine kdn ?_ _ | refine kdr ?_ | refine kal ?_ _)); refine blk_put (cs := #[.int .i64 t122, .slice none 0 0]) ?_ 1 _ rfl; (with_reducible repeat (first | refine kdn ?_ _ | refine kdr ?_ | refine kal ?_ _)); refine blk_put (cs := #[.int .i64 0, .slice none 0 0]) ?_ 0 _ rfl; (with_reducible repeat (first | refine kdn ?_ _ | refine kdr ?_ | refine kal ?_ _)); exact BK127.out) hb); have n5_ := ak (bsp (by repeat (first | (with_reducible first | exact HB.out | apply bal | apply pbn | apply bd1 | refine bst ?_ GE117.out | refine bst ?_ GE118.out | refine bst ?_ GE127.out) | exact HB.out)) hb); clear HO125 BK117 BK118 BK127 HB; have HO125 := n0_; have HO131 := n1_; have BK117 := n2_; have BK118 := n3_; have BK127 := n4_; have HB := n5_; clear n0_ n1_ n2_ n3_ n4_ n5_; (try clear hb); (try clear hb2); (try clear hk); (try clear hi); (try clear ho0)) | ((with_reducible refine gate_dst (N := 7) rfl ?_); refine box_event ?hg (N := 7) ?hd (cs := #[.int .i64 0, .slice none 0 0]) (t := 31) ?hr ?_; (case hd => rfl); (case hg => rfl); (case hr => first | (go_simp; done) | (go_simp; rfl)); intro gb133 hg w33 hbox hb; have n0_ := ak (Kd.S_below (by (with_reducible repeat (first | apply Kd.S_alloc | apply Kd.S_drewN | apply Kd.S_drew)); exact HO125.out) hb); have n1_ := ak (Kd.S_below (by (with_reducible repeat (first | apply Kd.S_alloc | apply Kd.S_drewN | apply Kd.S_drew)); exact HO131.out) hb); have n2_ := ak (kbe (g := gb117) (o := .cells #[.int .i64 a0_0, .int .i64 a0_1, .slice A0_2 l0_2.length c0_2] 24 (0, 0)) (by (with_reducible repeat (first | refine kdn ?_ _ | refine kdr ?_ | refine kal ?_ _)); exact BK117.out) hb); have n3_ := ak (kbe (g := gb118) (o := .cells #[.int .i64 a1_0, .slice A1_1 l1_1.length c1_1] 27 (0, 0)) (by (with_reducible repeat (first | refine kdn ?_ _ | refine kdr ?_ | refine kal ?_ _)); exact BK118.out) hb); have n4_ := ak (kbe (g := gb127) (o := .cells #[.int .i64 t122, .slice Ao29 t123.length co29] 31 (0, 0)) (by (with_reducible repeat (first | refine kdn ?_ _ | refine kdr ?_ | refine kal ?_ _)); exact BK127.out) hb); have n5_ := ak (bsp (by repeat (first | (with_reducible first | exact HB.out | apply bal | apply pbn | apply bd1 | refine bst ?_ GE117.out | refine bst ?_ GE118.out | refine bst ?_ GE127.out) | exact HB.out)) hb); have n6_ := ak (hbox); have n7_ := ak ((by rw [hg]; exact (bsz (by repeat (first | (with_reducible first | exact HB.out | apply bal | apply pbn | apply bd1 | refine bst ?_ GE117.out | refine bst ?_ GE118.out | refine bst ?_ GE127.out) | exact HB.out))) : w.heap.size ≤ gb133)); have n8_ := ak ((by rw [hg]; exact (bsz (by repeat (first | (with_reducible first | exact HB.out | apply bal | apply pbn | apply bd1 | refine bst ?_ GE117.out | refine bst ?_ GE118.out | refine bst ?_ GE127.out) | exact HB.out))) : w.heap.size ≤ gb133)); have n9_ := ak ((by rw [hg]; exact Nat.ne_of_lt (klt (g := gb117) (o := .cells #[.int .i64 a0_0, .int .i64 a0_1, .slice A0_2 l0_2.length c0_2] 24 (0, 0)) (by (with_reducible repeat (first | refine kdn ?_ _ | refine kdr ?_ | refine kal ?_ _)); exact BK117.out)) : gb117 ≠ gb133)); have n10_ := ak ((by rw [hg]; exact Nat.ne_of_gt (klt (g := gb117) (o := .cells #[.int .i64 a0_0, .int .i64 a0_1, .slice A0_2 l0_2.length c0_2] 24 (0, 0)) (by (with_reducible repeat (first | refine kdn ?_ _ | refine kdr ?_ | refine kal ?_ _)); exact BK117.out)) : gb133 ≠ gb117)); have n11_ := ak ((by rw [hg]; exact Nat.ne_of_lt (klt (g := gb118) (o := .cells #[.int .i64 a1_0, .slice A1_1 l1_1.length c1_1] 27 (0, 0)) (by (with_reducible repeat (first | refine kdn ?_ _ | refine kdr ?_ | refine kal ?_ _)); exact BK118.out)) : gb118 ≠ gb133)); have n12_ := ak ((by rw [hg]; exact Nat.ne_of_gt (klt (g := gb118) (o := .cells #[.int .i64 a1_0, .slice A1_1 l1_1.length c1_1] 27 (0, 0)) (by (with_reducible repeat (first | refine kdn ?_ _ | refine kdr ?_ | refine kal ?_ _)); exact BK118.out)) : gb133 ≠ gb118)); have n13_ := ak ((by rw [hg]; exact Nat.ne_of_lt (klt (g := gb127) (o := .cells #[.int .i64 t122, .slice Ao29 t123.length co29] 31 (0, 0)) (by (with_reducible repeat (first | refine kdn ?_ _ | refine kdr ?_ | refine kal ?_ _)); exact BK127.out)) : gb127 ≠ gb133)); have n14_ := ak ((by rw [hg]; exact Nat.ne_of_gt (klt (g := gb127) (o := .cells #[.int .i64 t122, .slice Ao29 t123.length co29] 31 (0, 0)) (by (with_reducible repeat (first | refine kdn ?_ _ | refine kdr ?_ | refine kal ?_ _)); exact BK127.out)) : gb133 ≠ gb127)); clear HO125 HO131 BK117 BK118 BK127 HB; have HO125 := n0_; have HO131 := n1_; have BK117 := n2_; have BK118 := n3_; have BK127 := n4_; have HB := n5_; have BK133 := n6_; have GW133 := n7_; have GE133 := n8_; have NB117_133 := n9_; have NB133_117 := n10_; have NB118_133 := n11_; have NB133_118 := n12_; have NB127_133 := n13_; have NB133_127 := n14_; clear n0_ n1_ n2_ n3_ n4_ n5_ n6_ n7_ n8_ n9_ n10_ n11_ n12_ n13_ n14_; clear hb hbox hg; have hnb34 := NB133_117.out; have hnc34 := NB117_133.out; have hnb35 := NB133_118.out; have hnc35 := NB118_133.out; have hnb36 := NB133_127.out; have hnc36 := NB127_133.out; have hcz37_0 : w33.cell? ⟨gb133, 0, none⟩ = some (.int .i64 0) := (kce BK133.out 0).trans rfl; have hcz37_1 : w33.cell? ⟨gb133, 1, none⟩ = some (.slice none 0 0) := (kce BK133.out 1).trans rfl; have hfz37_0 := kfz BK133.out 0; have hfz37_1 := kfz BK133.out 1; obtain ⟨Ao38, co38, eo38⟩ := Kd.S_slice HO131.out; subst eo38; have hcz39_0 : w33.cell? ⟨gb127, 0, none⟩ = some (.int .i64 t122) := (kce BK127.out 0).trans rfl; have hcz39_1 : w33.cell? ⟨gb127, 1, none⟩ = some (.slice Ao29 t123.length co29) := (kce BK127.out 1).trans rfl; have hfz39_0 := kfz BK127.out 0; have hfz39_1 := kfz BK127.out 1) | (go_at_call 16; (with_reducible refine (r44_Same.calls kj2 t122 _ _ t123 t128 _ _ t129 t134 _ ?side1 ?side2 ?side3 ?side4 A20.out).mono ?_); (case side1 => refine (Kd.S_reads' (e := 22) (base := w.heap.size) (ok := fun k_ => (True ∧ some k_ ≠ (.slice Ao38 t129.length co38 : Value).ownBlock)) (n := t123.length) (c := co29) ?_).2.2; exact (by (with_reducible repeat (first | apply Kd.S_alloc | apply Kd.S_drewN | apply Kd.S_drew)); exact (Kd.S_mono (Kd.S_far (p := ⟨gb133, 1, none⟩) (Kd.S_far (p := ⟨gb133, 0, none⟩) (Kd.S_types HO125.out BK133.out (by decide)) (fun _ hk => hk.2) (.int .i64 t128)) (fun _ hk => hk.2) (.slice Ao38 t129.length co38)) (fun _ h_ => h_.1)))); (case side2 => exact (Kd.S_reads' HO125.out).2.1); (case side3 => refine (Kd.S_reads' (e := 22) (base := w.heap.size) (ok := fun k_ => (True ∧ some k_ ≠ (.slice Ao29 t123.length co29 : Value).ownBlock)) (n := t129.length) (c := co38) ?_).2.2; exact (by (with_reducible repeat (first | apply Kd.S_alloc | apply Kd.S_drewN | apply Kd.S_drew)); exact (Kd.S_mono (Kd.S_far (p := ⟨gb133, 1, none⟩) (Kd.S_far (p := ⟨gb133, 0, none⟩) (Kd.S_types HO131.out BK133.out (by decide)) (fun _ hk => hk.2) (.int .i64 t128)) (fun _ hk => hk.2) (.slice Ao38 t129.length co38)) (fun _ h_ => h_.1)))); (case side4 => exact (Kd.S_reads' HO131.out).2.1); rintro e w40 ⟨rfl, hb⟩; have n0_ := ak (Kd.S_below (by (with_reducible repeat (first | apply Kd.S_alloc | apply Kd.S_drewN | apply Kd.S_drew)); exact (Kd.S_mono (Kd.S_far (p := ⟨gb133, 1, none⟩) (Kd.S_far (p := ⟨gb133, 0, none⟩) (Kd.S_types HO125.out BK133.out (by decide)) (fun _ hk => hk.2) (.int .i64 t128)) (fun _ hk => hk.2) (.slice Ao38 t129.length co38)) (fun _ h_ => h_.1))) hb); have n1_ := ak (Kd.S_below (by (with_reducible repeat (first | apply Kd.S_alloc | apply Kd.S_drewN | apply Kd.S_drew)); exact (Kd.S_mono (Kd.S_far (p := ⟨gb133, 1, none⟩) (Kd.S_far (p := ⟨gb133, 0, none⟩) (Kd.S_types HO131.out BK133.out (by decide)) (fun _ hk => hk.2) (.int .i64 t128)) (fun _ hk => hk.2) (.slice Ao38 t129.length co38)) (fun _ h_ => h_.1))) hb); have n2_ := ak (kbe (g := gb117) (o := .cells #[.int .i64 a0_0, .int .i64 a0_1, .slice A0_2 l0_2.length c0_2] 24 (0, 0)) (by (with_reducible repeat (first | refine kdn ?_ _ | refine kdr ?_ | refine kal ?_ _)); refine blk_far ?_ NB117_133.out _; (with_reducible repeat (first | refine kdn ?_ _ | refine kdr ?_ | refine kal ?_ _)); refine blk_far ?_ NB117_133.out _; (with_reducible repeat (first | refine kdn ?_ _ | refine kdr ?_ | refine kal ?_ _)); exact BK117.out) hb); have n3_ := ak (kbe (g := gb118) (o := .cells #[.int .i64 a1_0, .slice A1_1 l1_1.length c1_1] 27 (0, 0)) (by (with_reducible repeat (first | refine kdn ?_ _ | refine kdr ?_ | refine kal ?_ _)); refine blk_far ?_ NB118_133.out _; (with_reducible repeat (first | refine kdn ?_ _ | refine kdr ?_ | refine kal ?_ _)); refine blk_far ?_ NB118_133.out _; (with_reducible repeat (first | refine kdn ?_ _ | refine kdr ?_ | refine kal ?_ _)); exact BK118.out) hb); have n4_ := ak (kbe (g := gb127) (o := .cells #[.int .i64 t122, .slice Ao29 t123.length co29] 31 (0, 0)) (by (with_reducible repeat (first | refine kdn ?_ _ | refine kdr ?_ | refine kal ?_ _)); refine blk_far ?_ NB127_133.out _; (with_reducible repeat (first | refine kdn ?_ _ | refine kdr ?_ | refine kal ?_ _)); refine blk_far ?_ NB127_133.out _; (with_reducible repeat (first | refine kdn ?_ _ | refine kdr ?_ | refine kal ?_ _)); exact BK127.out) hb); have n5_ := ak (kbe (g := gb133) (o := .cells #[.int .i64 t128, .slice Ao38 t129.length co38] 31 (0, 0)) (by (with_reducible repeat (first | refine kdn ?_ _ | refine kdr ?_ | refine kal ?_ _)); refine blk_put (cs := #[.int .i64 t128, .slice none 0 0]) ?_ 1 _ rfl; (with_reducible repeat (first | refine kdn ?_ _ | refine kdr ?_ | refine kal ?_ _)); refine blk_put (cs := #[.int .i64 0, .slice none 0 0]) ?_ 0 _ rfl; (with_reducible repeat (first | refine kdn ?_ _ | refine kdr ?_ | refine kal ?_ _)); exact BK133.out) hb); have n6_ := ak (bsp (by repeat (first | (with_reducible first | exact HB.out | apply bal | apply pbn | apply bd1 | refine bst ?_ GE117.out | refine bst ?_ GE118.out | refine bst ?_ GE127.out | refine bst ?_ GE133.out) | exact HB.out)) hb); clear HO125 HO131 BK117 BK118 BK127 BK133 HB; have HO125 := n0_; have HO131 := n1_; have BK117 := n2_; have BK118 := n3_; have BK127 := n4_; have BK133 := n5_; have HB := n6_; clear n0_ n1_ n2_ n3_ n4_ n5_ n6_; (try clear hb); (try clear hb2); (try clear hk); (try clear hi)))
     go_ret
     exact ⟨by first | rfl | (simp <;> rfl) | (simp [*] <;> rfl), by repeat (first | (with_reducible first | exact HB.out | apply bal | apply pbn | apply bd1 | refine bst ?_ GE117.out | refine bst ?_ GE118.out | refine bst ?_ GE127.out | refine bst ?_ GE133.out) | exact HB.out)⟩
    ·rw [if_neg c19] at H
     have c19b0 : (t126 == t132) = false := bqm c19
     have c19b1 : (t126 != t132) = true := bne_iff_ne.mpr c19
     exact absurd ((osi H).trans hrt) (by decide)
end Go.Proofs.Ytkifipakikbhcaa.Lb
namespace Go.Proofs.Ytkifipakikbhcaa.Hand
def leftR : List Bool → Nat → List Int
 | [], _ => []
 | b :: bs, i => if b = true then (i : Int) :: leftR bs (i + 1) else leftR bs (i + 1)
theorem leftR_length : ∀ (bs : List Bool) (i : Nat), (leftR bs i).length = bs.count true
 | [], i => by simp [leftR]
 | b :: bs, i => by
  rw [leftR, List.count_cons]
  by_cases hb : b = true
  ·rw [if_pos hb, List.length_cons, leftR_length]; simp [hb]
  ·rw [if_neg hb, leftR_length]; simp [hb]
theorem count_set : ∀ (l : List Bool) (i : Nat), i < l.length → l.getD i false = false → (l.set i true).count true = l.count true + 1
 | [], i, h, _ => by simp at h
 | b :: l, 0, _, h => by
  have hb : b = false := by simpa using h
  subst hb; simp
 | b :: l, i + 1, h, h2 => by
  have := count_set l i (by simpa using h) (by simpa using h2)
  simp only [List.set_cons_succ, List.count_cons, this]; omega
def Cg (p : Int) (m : Nat) (a b : Nat → Int) : Prop := ∀ j, j < m → p ∣ a j - b j
def tX (m : Nat) (lo a : Nat → Int) (j : Nat) : Int := (if j = 0 then 0 else a (j - 1)) - a (m - 1) * lo j
def hor (m : Nat) (lo b x : Nat → Int) : Nat → Nat → Int
 | 0 => fun _ => 0
 | d + 1 => fun j => tX m lo (hor m lo b x d) j + b (m - (d + 1)) * x j
def e0 (j : Nat) : Int := if j = 0 then 1 else 0
theorem Cg.refl {p : Int} {m : Nat} (a : Nat → Int) : Cg p m a a := fun j _ => by rw [Int.sub_self]; exact Int.dvd_zero p
theorem Cg.symm {p : Int} {m : Nat} {a b : Nat → Int} (h : Cg p m a b) : Cg p m b a := fun j hj => by
 obtain ⟨k, hk⟩ := h j hj
 exact ⟨-k, by grind⟩
theorem Cg.trans {p : Int} {m : Nat} {a b c : Nat → Int} (h : Cg p m a b) (h' : Cg p m b c) : Cg p m a c := fun j hj => by
 obtain ⟨k, hk⟩ := h j hj
 obtain ⟨l, hl⟩ := h' j hj
 exact ⟨k + l, by grind⟩
theorem Cg.of_eq {p : Int} {m : Nat} {a b : Nat → Int} (h : ∀ j, j < m → a j = b j) : Cg p m a b := fun j hj => by rw [h j hj, Int.sub_self]; exact Int.dvd_zero p
theorem Cg.add {p : Int} {m : Nat} {a b c d : Nat → Int} (h : Cg p m a b) (h' : Cg p m c d) : Cg p m (fun j => a j + c j) (fun j => b j + d j) := fun j hj => by
 obtain ⟨k, hk⟩ := h j hj
 obtain ⟨l, hl⟩ := h' j hj
 exact ⟨k + l, by grind⟩
theorem Cg.smul {p : Int} {m : Nat} {a b : Nat → Int} (z : Int) (h : Cg p m a b) : Cg p m (fun j => z * a j) (fun j => z * b j) := fun j hj => by
 obtain ⟨k, hk⟩ := h j hj
 exact ⟨z * k, by grind⟩
theorem Cg.tX {p : Int} {m : Nat} (lo : Nat → Int) {a b : Nat → Int} (h : Cg p m a b) : Cg p m (tX m lo a) (tX m lo b) := fun j hj => by
 obtain ⟨k, hk⟩ := h (m - 1) (by omega)
 unfold Hand.tX
 by_cases h0 : j = 0
 ·rw [if_pos h0, if_pos h0]
  exact ⟨-(k * lo j), by grind⟩
 ·obtain ⟨l, hl⟩ := h (j - 1) (by omega)
  rw [if_neg h0, if_neg h0]
  exact ⟨l - k * lo j, by grind⟩
theorem tX_add {m : Nat} (lo a b : Nat → Int) : tX m lo (fun j => a j + b j) = fun j => tX m lo a j + tX m lo b j := by
 funext j
 unfold tX
 by_cases h0 : j = 0
 ·simp only [if_pos h0]; grind
 ·simp only [if_neg h0]; grind
theorem tX_smul {m : Nat} (lo a : Nat → Int) (z : Int) : tX m lo (fun j => z * a j) = fun j => z * tX m lo a j := by
 funext j
 unfold tX
 by_cases h0 : j = 0
 ·simp only [if_pos h0]; grind
 ·simp only [if_neg h0]; grind
theorem tX_zero {m : Nat} (lo : Nat → Int) : tX m lo (fun _ => 0) = fun _ => 0 := by
 funext j
 unfold tX
 by_cases h0 : j = 0
 ·simp only [if_pos h0]; grind
 ·simp only [if_neg h0]; grind
theorem hor_tX {m : Nat} (lo b x : Nat → Int) : ∀ d, hor m lo b (tX m lo x) d = tX m lo (hor m lo b x d)
 | 0 => by rw [hor, hor, tX_zero]
 | d + 1 => by rw [hor, hor, hor_tX lo b x d, tX_add, tX_smul]
theorem hor_add {m : Nat} (lo b x y : Nat → Int) : ∀ d, hor m lo b (fun j => x j + y j) d = fun j => hor m lo b x d j + hor m lo b y d j
 | 0 => by funext j; rw [hor, hor, hor, Int.add_zero]
 | d + 1 => by
  funext j
  rw [hor, hor, hor, hor_add lo b x y d, tX_add]
  grind
theorem hor_smul {m : Nat} (lo b x : Nat → Int) (z : Int) : ∀ d, hor m lo b (fun j => z * x j) d = fun j => z * hor m lo b x d j
 | 0 => by funext j; rw [hor, hor, Int.mul_zero]
 | d + 1 => by
  funext j
  rw [hor, hor, hor_smul lo b x z d, tX_smul]
  grind
theorem hor_zero {m : Nat} (lo b : Nat → Int) : ∀ d, hor m lo b (fun _ => 0) d = fun _ => 0
 | 0 => by rw [hor]
 | d + 1 => by
  funext j
  rw [hor, hor_zero lo b d, tX_zero]; grind
theorem hor_hor {m : Nat} (lo b c x : Nat → Int) (d' : Nat) : ∀ d, hor m lo c (hor m lo b x d) d' = hor m lo b (hor m lo c x d') d
 | 0 => by rw [hor, hor, hor_zero]
 | d + 1 => by
  have h := hor_hor (m := m) lo b c x d' d
  rw [hor, hor, hor_add, hor_tX, hor_smul, h]
theorem hor_cgx {p : Int} {m : Nat} (lo b : Nat → Int) {x y : Nat → Int} (h : Cg p m x y) : ∀ d, Cg p m (hor m lo b x d) (hor m lo b y d)
 | 0 => Cg.refl _
 | d + 1 => by rw [hor, hor]; exact ((hor_cgx lo b h d).tX lo).add (h.smul _)
theorem hor_cgb {p : Int} {m : Nat} (lo : Nat → Int) {b c : Nat → Int} (x : Nat → Int) (h : Cg p m b c) (hm : 1 ≤ m) : ∀ d, d ≤ m → Cg p m (hor m lo b x d) (hor m lo c x d)
 | 0, _ => Cg.refl _
 | d + 1, hd => by
  rw [hor, hor]
  refine ((hor_cgb lo x h hm d (by omega)).tX lo).add fun j hj => ?_
  obtain ⟨k, hk⟩ := h (m - (d + 1)) (by omega)
  exact ⟨k * x j, by grind⟩
theorem hor_e0 {m : Nat} (lo b : Nat → Int) : ∀ d, d ≤ m → ∀ j, j < m → hor m lo b e0 d j = if j < d then b (m - d + j) else 0
 | 0, _, j, _ => by rw [hor, if_neg (by omega)]
 | d + 1, hd, j, hj => by
  have h1 := hor_e0 (m := m) lo b d (by omega) (m - 1) (by omega)
  rw [if_neg (by omega)] at h1
  show tX m lo (hor m lo b e0 d) j + b (m - (d + 1)) * e0 j = _
  unfold tX
  rw [h1, show e0 j = if j = 0 then 1 else 0 from rfl]
  by_cases h0 : j = 0
  ·rw [if_pos h0, if_pos h0, if_pos (by omega), h0]; grind
  ·rw [if_neg h0, if_neg h0, hor_e0 lo b d (by omega) (j - 1) (by omega)]
   by_cases h2 : j - 1 < d
   ·rw [if_pos h2, if_pos (by omega), show m - d + (j - 1) = m - (d + 1) + j by omega]; grind
   ·rw [if_neg h2, if_neg (by omega)]; grind
def pm (m : Nat) (lo a b : Nat → Int) : Nat → Int := hor m lo b a m
theorem pm_e0 {p : Int} {m : Nat} (lo b : Nat → Int) : Cg p m (pm m lo e0 b) b := Cg.of_eq fun j hj => by
 unfold pm
 rw [hor_e0 lo b m (Nat.le_refl m) j hj, if_pos hj, Nat.sub_self, Nat.zero_add]
theorem pm_cg {p : Int} {m : Nat} (lo : Nat → Int) {a b c d : Nat → Int} (hm : 1 ≤ m) (h : Cg p m a b) (h' : Cg p m c d) : Cg p m (pm m lo a c) (pm m lo b d) :=
 (hor_cgx lo c h m).trans (hor_cgb lo b h' hm m (Nat.le_refl m))
theorem pm_comm {p : Int} {m : Nat} (lo a b : Nat → Int) (hm : 1 ≤ m) : Cg p m (pm m lo a b) (pm m lo b a) := by
 have h1 : Cg p m (pm m lo a b) (pm m lo (pm m lo e0 a) b) := pm_cg lo hm (pm_e0 lo a).symm (Cg.refl b)
 have h2 : pm m lo (pm m lo e0 a) b = pm m lo (pm m lo e0 b) a := hor_hor lo a b e0 m m
 rw [h2] at h1
 exact h1.trans (pm_cg lo hm (pm_e0 lo b) (Cg.refl a))
theorem pm_assoc {p : Int} {m : Nat} (lo a b c : Nat → Int) (hm : 1 ≤ m) : Cg p m (pm m lo (pm m lo a b) c) (pm m lo a (pm m lo b c)) := by
 have h1 : Cg p m (pm m lo (pm m lo a b) c) (pm m lo (pm m lo b a) c) := pm_cg lo hm (pm_comm lo a b hm) (Cg.refl c)
 have h2 : pm m lo (pm m lo b a) c = pm m lo (pm m lo b c) a := hor_hor lo a c b m m
 rw [h2] at h1
 exact h1.trans (pm_comm lo (pm m lo b c) a hm)
theorem pm_add {m : Nat} (lo a b c : Nat → Int) : pm m lo (fun j => a j + b j) c = fun j => pm m lo a c j + pm m lo b c j := hor_add lo c a b m
def Dgt (P : Int) (l : List Int) : Prop := ∀ x ∈ l, 0 ≤ x ∧ x < P
def nt (l : List Int) (j : Nat) : Int := l.getD j 0
def digL (P : Int) : Nat → Int → List Int
 | 0, _ => []
 | n + 1, x => x % P :: digL P n (x / P)
def valL (P : Int) : List Int → Int
 | [] => 0
 | x :: l => x + P * valL P l
theorem digL_length (P : Int) : ∀ (n : Nat) (x : Int), (digL P n x).length = n
 | 0, _ => rfl
 | n + 1, x => by rw [digL, List.length_cons, digL_length P n]
theorem digL_dgt {P : Int} (hP : 0 < P) : ∀ (n : Nat) (x : Int), Dgt P (digL P n x)
 | 0, _ => fun y hy => by rw [digL] at hy; cases hy
 | n + 1, x => fun y hy => by
  rw [digL] at hy
  rcases List.mem_cons.1 hy with rfl | hy
  ·exact ⟨Int.emod_nonneg _ (by omega), Int.emod_lt_of_pos _ hP⟩
  ·exact digL_dgt hP n _ y hy
theorem valL_range {P : Int} (hP : 0 < P) : ∀ (l : List Int), Dgt P l → 0 ≤ valL P l ∧ valL P l < P ^ l.length
 | [], _ => by rw [valL, List.length_nil, Int.pow_zero]; omega
 | x :: l, h => by
  obtain ⟨h1, h2⟩ := valL_range hP l (fun y hy => h y (List.mem_cons_of_mem _ hy))
  have hx := h x (List.mem_cons_self ..)
  have h3 : 0 ≤ P * valL P l := Int.mul_nonneg (by omega) h1
  have h4 : P * (valL P l + 1) ≤ P * P ^ l.length := Int.mul_le_mul_of_nonneg_left (by omega) (by omega)
  rw [valL, List.length_cons, Int.pow_succ]
  rw [Int.mul_add, Int.mul_one] at h4
  rw [Int.mul_comm (P ^ l.length) P]
  omega
theorem val_dig {P : Int} (hP : 0 < P) : ∀ (n : Nat) (x : Int), 0 ≤ x → x < P ^ n → valL P (digL P n x) = x
 | 0, x, h0, h1 => by rw [Int.pow_zero] at h1; rw [digL, valL]; omega
 | n + 1, x, h0, h1 => by
  rw [digL, valL, val_dig hP n (x / P) (Int.ediv_nonneg h0 (by omega)) (Int.ediv_lt_of_lt_mul hP (by rw [← Int.pow_succ]; exact h1))]
  exact Int.emod_add_mul_ediv x P
theorem dig_val {P : Int} (hP : 0 < P) : ∀ (l : List Int), Dgt P l → digL P l.length (valL P l) = l
 | [], _ => rfl
 | x :: l, h => by
  have hx := h x (List.mem_cons_self ..)
  have e1 : (x + P * valL P l) % P = x := by rw [Int.add_mul_emod_self_left]; exact Int.emod_eq_of_lt hx.1 hx.2
  have e2 : (x + P * valL P l) / P = valL P l := by rw [Int.add_mul_ediv_left _ _ (by omega), Int.ediv_eq_zero_of_lt hx.1 hx.2, Int.zero_add]
  rw [List.length_cons, digL, valL, e1, e2, dig_val hP l (fun y hy => h y (List.mem_cons_of_mem _ hy))]
theorem nt_dgt {P : Int} {l : List Int} (h : Dgt P l) (hP : 0 < P) (j : Nat) : 0 ≤ nt l j ∧ nt l j < P := by
 show 0 ≤ l.getD j 0 ∧ l.getD j 0 < P
 rw [List.getD_eq_getElem?_getD]
 cases hi : l[j]? with
 | none => exact ⟨Int.le_refl _, hP⟩
 | some y => exact h y (List.mem_of_getElem? hi)
theorem list_of_cg {P : Int} {m : Nat} {a b : List Int} (hP : 0 < P) (ha : Dgt P a) (hb : Dgt P b) (la : a.length = m) (lb : b.length = m) (h : Cg P m (nt a) (nt b)) : a = b := by
 refine List.ext_getElem (by omega) fun j h1 h2 => ?_
 have e1 : nt a j = a[j] := by show a.getD j 0 = _; rw [List.getD_eq_getElem?_getD, List.getElem?_eq_getElem h1]; rfl
 have e2 : nt b j = b[j] := by show b.getD j 0 = _; rw [List.getD_eq_getElem?_getD, List.getElem?_eq_getElem h2]; rfl
 have r1 := nt_dgt ha hP j
 have r2 := nt_dgt hb hP j
 obtain ⟨k, hk⟩ := h j (by omega)
 rw [← e1, ← e2]
 have h3 : k < 1 := by
  by_cases h : k < 1
  ·exact h
  ·have : P * 1 ≤ P * k := Int.mul_le_mul_of_nonneg_left (by omega) (by omega)
   omega
 have h4 : -1 < k := by
  by_cases h : -1 < k
  ·exact h
  ·have : P * k ≤ P * (-1) := Int.mul_le_mul_of_nonneg_left (by omega) (by omega)
   omega
 have : k = 0 := by omega
 rw [this, Int.mul_zero] at hk
 omega
def El (q x : Int) : Prop := 0 ≤ x ∧ x < q
def dg (P : Int) (m : Nat) (x : Int) : Nat → Int := nt (digL P m x)
theorem el_val {P : Int} {m : Nat} {l : List Int} (hP : 0 < P) (h : Dgt P l) (hl : l.length = m) : El (P ^ m) (valL P l) := by
 have := valL_range hP l h
 rw [hl] at this; exact this
theorem dg_val {P : Int} {m : Nat} {l : List Int} (hP : 0 < P) (h : Dgt P l) (hl : l.length = m) : dg P m (valL P l) = nt l := by
 unfold dg
 rw [← hl, dig_val hP l h]
theorem el_eq {P : Int} {m : Nat} {x y : Int} (hP : 0 < P) (hx : El (P ^ m) x) (hy : El (P ^ m) y) (h : Cg P m (dg P m x) (dg P m y)) : x = y := by
 have := list_of_cg hP (digL_dgt hP m x) (digL_dgt hP m y) (digL_length ..) (digL_length ..) h
 rw [← val_dig hP m x hx.1 hx.2, this, val_dig hP m y hy.1 hy.2]
theorem digL_zero (P : Int) : ∀ n, digL P n 0 = List.replicate n 0
 | 0 => rfl
 | n + 1 => by rw [digL, Int.zero_emod, Int.zero_ediv, digL_zero P n]; rfl
theorem nt_rep (n j : Nat) : nt (List.replicate n 0) j = 0 := by
 show (List.replicate n (0 : Int)).getD j 0 = 0
 rw [List.getD_eq_getElem?_getD, List.getElem?_replicate]
 split <;> rfl
theorem dg_zero (P : Int) (m : Nat) : dg P m 0 = fun _ => 0 := by
 funext j
 unfold dg
 rw [digL_zero, nt_rep]
theorem dg_one {P : Int} (hP : 2 ≤ P) {m : Nat} (hm : 1 ≤ m) : dg P m 1 = e0 := by
 obtain ⟨n, rfl⟩ : ∃ n, m = n + 1 := ⟨m - 1, by omega⟩
 funext j
 unfold dg e0
 rw [digL, Int.emod_eq_of_lt (by omega) (by omega), Int.ediv_eq_zero_of_lt (by omega) (by omega), digL_zero]
 cases j with
 | zero => rfl
 | succ j => rw [if_neg (by omega)]; exact nt_rep n j
structure Rng (q : Int) (ad mu : Int → Int → Int) (ng : Int → Int) : Prop where
 two : 2 ≤ q
 adE : ∀ {a b}, El q a → El q b → El q (ad a b)
 muE : ∀ {a b}, El q a → El q b → El q (mu a b)
 ngE : ∀ {a}, El q a → El q (ng a)
 adC : ∀ {a b}, El q a → El q b → ad a b = ad b a
 adA : ∀ {a b c}, El q a → El q b → El q c → ad (ad a b) c = ad a (ad b c)
 ad0 : ∀ {a}, El q a → ad a 0 = a
 adN : ∀ {a}, El q a → ad a (ng a) = 0
 muC : ∀ {a b}, El q a → El q b → mu a b = mu b a
 muA : ∀ {a b c}, El q a → El q b → El q c → mu (mu a b) c = mu a (mu b c)
 mu1 : ∀ {a}, El q a → mu a 1 = a
 muD : ∀ {a b c}, El q a → El q b → El q c → mu (ad a b) c = ad (mu a c) (mu b c)
structure Told (P : Int) (m : Nat) (lo : Nat → Int) (ad mu : Int → Int → Int) (ng : Int → Int) : Prop where
 adE : ∀ {a b}, El (P ^ m) a → El (P ^ m) b → El (P ^ m) (ad a b)
 muE : ∀ {a b}, El (P ^ m) a → El (P ^ m) b → El (P ^ m) (mu a b)
 ngE : ∀ {a}, El (P ^ m) a → El (P ^ m) (ng a)
 adD : ∀ {a b}, El (P ^ m) a → El (P ^ m) b → Cg P m (dg P m (ad a b)) fun j => dg P m a j + dg P m b j
 muD : ∀ {a b}, El (P ^ m) a → El (P ^ m) b → Cg P m (dg P m (mu a b)) (pm m lo (dg P m a) (dg P m b))
 ngD : ∀ {a}, El (P ^ m) a → Cg P m (dg P m (ng a)) fun j => -1 * dg P m a j
theorem pow_two {P : Int} {m : Nat} (hP : 2 ≤ P) (hm : 1 ≤ m) : 2 ≤ P ^ m := by
 induction m with
 | zero => omega
 | succ m ih =>
  by_cases h : m = 0
  ·subst h; rw [Int.pow_succ, Int.pow_zero]; omega
  ·have h1 := ih (by omega)
   have h2 : 2 * P ≤ P ^ m * P := Int.mul_le_mul_of_nonneg_right h1 (by omega)
   rw [Int.pow_succ]; omega
theorem Told.rng {P : Int} {m : Nat} {lo : Nat → Int} {ad mu : Int → Int → Int} {ng : Int → Int} (T : Told P m lo ad mu ng) (hP : 2 ≤ P) (hm : 1 ≤ m) : Rng (P ^ m) ad mu ng where
 two := pow_two hP hm
 adE := T.adE
 muE := T.muE
 ngE := T.ngE
 adC ha hb := el_eq (by omega) (T.adE ha hb) (T.adE hb ha) ((T.adD ha hb).trans ((Cg.of_eq fun j _ => Int.add_comm ..).trans (T.adD hb ha).symm))
 adA ha hb hc := el_eq (by omega) (T.adE (T.adE ha hb) hc) (T.adE ha (T.adE hb hc))
  ((T.adD (T.adE ha hb) hc).trans (((T.adD ha hb).add (Cg.refl _)).trans ((Cg.of_eq fun j _ => Int.add_assoc ..).trans ((((Cg.refl _).add (T.adD hb hc)).symm).trans (T.adD ha (T.adE hb hc)).symm))))
 ad0 {a} ha := el_eq (by omega) (T.adE ha ⟨Int.le_refl _, by have := pow_two hP hm; omega⟩) ha
  ((T.adD ha ⟨Int.le_refl _, by have := pow_two hP hm; omega⟩).trans (Cg.of_eq fun j _ => by rw [dg_zero, Int.add_zero]))
 adN {a} ha := el_eq (by omega) (T.adE ha (T.ngE ha)) ⟨Int.le_refl _, by have := pow_two hP hm; omega⟩
  ((T.adD ha (T.ngE ha)).trans (((Cg.refl _).add (T.ngD ha)).trans (Cg.of_eq fun j _ => by rw [dg_zero]; show _ = (0 : Int); omega)))
 muC ha hb := el_eq (by omega) (T.muE ha hb) (T.muE hb ha) ((T.muD ha hb).trans ((pm_comm lo _ _ hm).trans (T.muD hb ha).symm))
 muA ha hb hc := el_eq (by omega) (T.muE (T.muE ha hb) hc) (T.muE ha (T.muE hb hc))
  ((T.muD (T.muE ha hb) hc).trans ((pm_cg lo hm (T.muD ha hb) (Cg.refl _)).trans ((pm_assoc lo _ _ _ hm).trans ((pm_cg lo hm (Cg.refl _) (T.muD hb hc)).symm.trans (T.muD ha (T.muE hb hc)).symm))))
 mu1 {a} ha := by
  have h1 : El (P ^ m) 1 := ⟨by omega, by have := pow_two hP hm; omega⟩
  refine el_eq (by omega) (T.muE ha h1) ha ((T.muD ha h1).trans ((pm_comm lo _ _ hm).trans ?_))
  rw [dg_one hP hm]
  exact pm_e0 lo _
 muD {a b c} ha hb hc := el_eq (by omega) (T.muE (T.adE ha hb) hc) (T.adE (T.muE ha hc) (T.muE hb hc)) (by
  refine (T.muD (T.adE ha hb) hc).trans ((pm_cg lo hm (T.adD ha hb) (Cg.refl _)).trans ?_)
  rw [pm_add]
  exact ((T.muD ha hc).add (T.muD hb hc)).symm.trans (T.adD (T.muE ha hc) (T.muE hb hc)).symm)
def pwr (mu : Int → Int → Int) (g : Int) : Nat → Int
 | 0 => 1
 | i + 1 => mu (pwr mu g i) g
structure Gen (q : Int) (mu : Int → Int → Int) (g : Int) (n : Nat) : Prop where
 num : (n : Int) = q - 1
 el : El q g
 nz : ∀ i, i < n → pwr mu g i ≠ 0
 sur : ∀ a, El q a → a ≠ 0 → ∃ i, i < n ∧ pwr mu g i = a
 inj : ∀ i j, i < n → j < n → pwr mu g i = pwr mu g j → i = j
 per : pwr mu g n = 1
section
variable {q : Int} {ad mu : Int → Int → Int} {ng : Int → Int} {g : Int} {n : Nat}
theorem Rng.el0 (R : Rng q ad mu ng) : El q 0 := ⟨Int.le_refl _, by have := R.two; omega⟩
theorem Rng.el1 (R : Rng q ad mu ng) : El q 1 := ⟨by omega, by have := R.two; omega⟩
theorem Rng.ad0' (R : Rng q ad mu ng) {a : Int} (ha : El q a) : ad 0 a = a := by rw [R.adC R.el0 ha, R.ad0 ha]
theorem Rng.can (R : Rng q ad mu ng) {a b c : Int} (ha : El q a) (hb : El q b) (hc : El q c) (h : ad a c = ad b c) : a = b := by
 have h1 : ad (ad a c) (ng c) = ad (ad b c) (ng c) := by rw [h]
 rwa [R.adA ha hc (R.ngE hc), R.adA hb hc (R.ngE hc), R.adN hc, R.ad0 ha, R.ad0 hb] at h1
theorem Rng.mu0' (R : Rng q ad mu ng) {a : Int} (ha : El q a) : mu 0 a = 0 := by
 have e := R.muE R.el0 ha
 have h : ad (mu 0 a) (mu 0 a) = ad 0 (mu 0 a) := by rw [← R.muD R.el0 R.el0 ha, R.ad0 R.el0, R.ad0' e]
 exact R.can e R.el0 e h
theorem Rng.mu0 (R : Rng q ad mu ng) {a : Int} (ha : El q a) : mu a 0 = 0 := by rw [R.muC ha R.el0, R.mu0' ha]
theorem Rng.mu1' (R : Rng q ad mu ng) {a : Int} (ha : El q a) : mu 1 a = a := by rw [R.muC R.el1 ha, R.mu1 ha]
theorem pwr_el (R : Rng q ad mu ng) (hg : El q g) : ∀ i, El q (pwr mu g i)
 | 0 => R.el1
 | i + 1 => R.muE (pwr_el R hg i) hg
theorem pwr_add (R : Rng q ad mu ng) (hg : El q g) (i : Nat) : ∀ j, pwr mu g (i + j) = mu (pwr mu g i) (pwr mu g j)
 | 0 => (R.mu1 (pwr_el R hg i)).symm
 | j + 1 => by
  show mu (pwr mu g (i + j)) g = mu (pwr mu g i) (mu (pwr mu g j) g)
  rw [pwr_add R hg i j, R.muA (pwr_el R hg i) (pwr_el R hg j) hg]
theorem Gen.mulp (G : Gen q mu g n) (R : Rng q ad mu ng) : ∀ c, pwr mu g (n * c) = 1
 | 0 => rfl
 | c + 1 => by rw [Nat.mul_succ, pwr_add R G.el, G.mulp R c, G.per, R.mu1 R.el1]
theorem Gen.mod (G : Gen q mu g n) (R : Rng q ad mu ng) (i : Nat) : pwr mu g (i % n) = pwr mu g i := by
 have h : pwr mu g (i % n + n * (i / n)) = pwr mu g (i % n) := by rw [pwr_add R G.el, G.mulp R, R.mu1 (pwr_el R G.el _)]
 rw [Nat.mod_add_div] at h
 exact h.symm
theorem Gen.pos (G : Gen q mu g n) (R : Rng q ad mu ng) : 0 < n := by have := G.num; have := R.two; omega
theorem Gen.nza (G : Gen q mu g n) (R : Rng q ad mu ng) (i : Nat) : pwr mu g i ≠ 0 := by
 rw [← G.mod R]; exact G.nz _ (Nat.mod_lt _ (G.pos R))
theorem Gen.dom (G : Gen q mu g n) (R : Rng q ad mu ng) {a b : Int} (ha : El q a) (hb : El q b) (h : mu a b = 0) : a = 0 ∨ b = 0 := by
 by_cases h1 : a = 0
 ·exact Or.inl h1
 by_cases h2 : b = 0
 ·exact Or.inr h2
 obtain ⟨i, _, rfl⟩ := G.sur a ha h1
 obtain ⟨j, _, rfl⟩ := G.sur b hb h2
 rw [← pwr_add R G.el] at h
 exact absurd h (G.nza R _)
end
structure PwSt (q : Nat) (mu : Int → Int → Int) (x : Int) (acc : List Int) (seen : List Bool) (z : Int) : Prop where
 acc_eq : acc = (List.range acc.length).map (pwr mu x)
 z_eq : z = pwr mu x acc.length
 len : seen.length = q
 cnt : seen.count true = acc.length
 mem : ∀ y : Nat, seen.getD y false = true ↔ (y : Int) ∈ acc
 nz : ∀ y ∈ acc, 0 < y ∧ y < (q : Int)
 nd : acc.Nodup
theorem PwSt.step {q : Nat} {mu : Int → Int → Int} {x : Int} {acc : List Int} {seen : List Bool} {z : Int} (S : PwSt q mu x acc seen z) (h0 : 0 < z) (h1 : z < (q : Int)) (hs : seen.getD z.toNat false = false) :
  PwSt q mu x (acc ++ [z]) (seen.set z.toNat true) (mu z x) where
 acc_eq := by
  rw [List.length_append, List.length_singleton, List.range_succ, List.map_append, ← S.acc_eq, S.z_eq]; rfl
 z_eq := by rw [List.length_append, List.length_singleton, S.z_eq]; rfl
 len := by rw [List.length_set, S.len]
 cnt := by
  rw [List.length_append, List.length_singleton, ← S.cnt]
  have hlt : z.toNat < seen.length := by have := S.len; omega
  rw [List.count_set hlt]
  have e : seen[z.toNat] = false := by
   rw [List.getD_eq_getElem?_getD, List.getElem?_eq_getElem hlt] at hs
   simpa using hs
  rw [e]; simp
 mem := fun y => by
  rw [List.mem_append, List.mem_singleton, ← S.mem y, List.getD_eq_getElem?_getD, List.getD_eq_getElem?_getD, List.getElem?_set]
  have hl := S.len
  by_cases h : z.toNat = y
  ·rw [if_pos h, if_pos (by omega)]
   refine ⟨fun _ => Or.inr (by omega), fun _ => rfl⟩
  ·rw [if_neg h]
   refine ⟨Or.inl, fun h2 => ?_⟩
   rcases h2 with h2 | h2
   ·exact h2
   ·exfalso; exact h (by omega)
 nz := fun y hy => by
  rcases List.mem_append.1 hy with hy | hy
  ·exact S.nz y hy
  ·rw [List.mem_singleton.1 hy]; exact ⟨h0, h1⟩
 nd := by
  rw [List.nodup_append]
  refine ⟨S.nd, by simp, fun a ha b hb => ?_⟩
  rw [List.mem_singleton.1 hb]
  rintro rfl
  have := (S.mem a.toNat).2 (by rw [Int.toNat_of_nonneg (by omega)]; exact ha)
  rw [hs] at this; cases this
theorem PwSt.gen {q : Nat} {ad mu : Int → Int → Int} {ng : Int → Int} {x : Int} {acc : List Int} {seen : List Bool} {z : Int} (S : PwSt q mu x acc seen z) (hx : El (q : Int) x) (hq : 2 ≤ q) (hl : acc.length = q - 1) (hone : pwr mu x (q - 1) = 1) : Gen (q : Int) mu x (q - 1) where
 num := by omega
 el := hx
 nz := fun i hi => by
  have : pwr mu x i ∈ acc := by rw [S.acc_eq]; exact List.mem_map.2 ⟨i, List.mem_range.2 (by omega), rfl⟩
  have := S.nz _ this
  omega
 sur := fun a ha h0 => by
  have hs : a ∈ acc := by
   obtain ⟨y, rfl⟩ := Int.eq_ofNat_of_zero_le ha.1
   rw [← S.mem y]
   match hseen : seen with
   | [] => have h := S.len; rw [List.length_nil] at h; omega
   | b :: t =>
    have hlen : t.length + 1 = q := by have := S.len; simpa using this
    have hb : b = false := by
     cases b with
     | false => rfl
     | true =>
      have := (S.mem 0).1 rfl
      have := S.nz _ this
      omega
    have hc := S.cnt
    rw [hb] at hc
    rw [List.count_cons_of_ne (by simp)] at hc
    have hall : t.count true = t.length := by omega
    rw [List.count_eq_length] at hall
    obtain ⟨y, rfl⟩ : ∃ y', y = y' + 1 := ⟨y - 1, by omega⟩
    have hy : y < t.length := by have := ha.2; omega
    rw [List.getD_eq_getElem?_getD, List.getElem?_cons_succ, List.getElem?_eq_getElem hy]
    exact (hall _ (List.getElem_mem hy)).symm
  rw [S.acc_eq] at hs
  obtain ⟨i, hi, e⟩ := List.mem_map.1 hs
  exact ⟨i, by have := List.mem_range.1 hi; omega, e⟩
 inj := fun i j hi hj e => by
  have e1 : ∀ k (h : k < acc.length), acc[k] = pwr mu x k := fun k h => by
   have : acc[k]? = some (pwr mu x k) := by rw [S.acc_eq, List.getElem?_map, List.getElem?_range h]; rfl
   rw [List.getElem?_eq_getElem h] at this
   exact Option.some.inj this
  have hi' : i < acc.length := by omega
  have hj' : j < acc.length := by omega
  exact (List.getElem_inj S.nd).1 (show acc[i] = acc[j] by rw [e1 i hi', e1 j hj', e])
 per := hone
end Go.Proofs.Ytkifipakikbhcaa.Hand
namespace Go.Proofs.Ytkifipakikbhcaa.Hand
open Ytkifipakikbhcaa.Ref Ytkifipakikbhcaa.Pg
open Ytkifipakikbhcaa.Pk (peel_Stopping.f peel_Greatest.f)
open Go.RowKit YtkifipakikbhcaaW.PrintWords YtkifipakikbhcaaW.PrintLast YtkifipakikbhcaaW.PrintMore
theorem w64_succ {i n : Nat} (h : i < n) (hn : n ≤ 4611686018427387904) : wrap64 ((i : Int) + 1) = ((i + 1 : Nat) : Int) := by unfold wrap64; omega
theorem few_l0 (c : Int) (ls : List (List Int)) (B : Nat) (hB : B ≤ 1000) : ∀ (m k i : Nat) (x : Int), m = ls.length - i → i ≤ ls.length → ls.length ≤ B → x ≤ B → -1000000000 ≤ x → m < k → (∀ l ∈ ls.take i, l.length ≤ B) →
  ∃ b, r9_Few.l0 k x (i : Int) c ls = some b ∧ (b = true → ∀ l ∈ ls, l.length ≤ B) := by
 intro m
 induction m with
 | zero =>
  intro k i x hm hi hls hx hx2 hk ht
  obtain ⟨k, rfl⟩ : ∃ k', k = k' + 1 := ⟨k - 1, by omega⟩
  refine ⟨true, by rw [r9_Few.l0, if_neg (by omega)], fun _ l hl => ht l ?_⟩
  rw [List.take_of_length_le (by omega)]; exact hl
 | succ m ih =>
  intro k i x hm hi hls hx hx2 hk ht
  obtain ⟨k, rfl⟩ : ∃ k', k = k' + 1 := ⟨k - 1, by omega⟩
  have h : i < ls.length := by omega
  by_cases h1 : ((rd_L1 ls (i : Int)).length : Int) > x
  ·exact ⟨false, by rw [r9_Few.l0, if_pos (by omega), if_pos (by omega), if_pos h1], by simp⟩
  ·have hw : wrap64 (x - ((rd_L1 ls (i : Int)).length : Int)) = x - ((rd_L1 ls (i : Int)).length : Int) := by unfold wrap64; omega
   obtain ⟨b, hb, h2⟩ := ih k (i + 1) (x - ((rd_L1 ls (i : Int)).length : Int)) (by omega) (by omega) hls (by omega) (by omega) (by omega) (by
    intro l hl
    rw [List.take_add_one] at hl
    rcases List.mem_append.1 hl with hl | hl
    ·exact ht l hl
    ·have e : ls[i]? = some (rd_L1 ls (i : Int)) := by
      have h2 : (ls.drop i)[0]? = some (rd_L1 ls (i : Int)) := by rw [rows_drop h]; rfl
      rw [List.getElem?_drop, Nat.add_zero] at h2
      exact h2
     rw [e] at hl
     have : l = rd_L1 ls (i : Int) := by simpa using hl
     rw [this]; omega)
   exact ⟨b, by rw [r9_Few.l0, if_pos (by omega), if_pos (by omega), if_neg h1, hw, w64_succ h (by omega)]; exact hb, h2⟩
theorem few_f (c : Int) (ls : List (List Int)) (B k : Nat) (hB : B ≤ 1000) (hk : B + 2 < k) :
  ∃ b, r9_Few.f k c ls (B : Int) = some b ∧ (b = true → c ≤ 260 ∧ ls.length ≤ B ∧ ∀ l ∈ ls, l.length ≤ B) := by
 obtain ⟨k, rfl⟩ : ∃ k', k = k' + 1 := ⟨k - 1, by omega⟩
 unfold r9_Few.f
 by_cases h1 : c > 260
 ·exact ⟨false, by rw [if_pos h1, r9_Few.j0, if_pos rfl], by simp⟩
 ·rw [if_neg h1, r9_Few.j0]
  by_cases h2 : (ls.length : Int) > (B : Int)
  ·exact ⟨false, by rw [if_pos (det h2)], by simp⟩
  ·rw [if_neg (by simp; omega)]
   have hw : wrap64 ((B : Int) - (ls.length : Int)) = (B : Int) - (ls.length : Int) := by unfold wrap64; omega
   rw [hw]
   obtain ⟨b, hb, h3⟩ := few_l0 c ls B hB ls.length k 0 ((B : Int) - (ls.length : Int)) (by omega) (by omega) (by omega) (by omega) (by omega) (by omega) (by simp)
   exact ⟨b, hb, fun hbt => ⟨by omega, by omega, h3 hbt⟩⟩
end Go.Proofs.Ytkifipakikbhcaa.Hand
namespace Go.Proofs.Ytkifipakikbhcaa.Hand
open Ytkifipakikbhcaa.Ref
open Ytkifipakikbhcaa.Pg (field_powers.f field_powers.l0)
open Go.RowKit YtkifipakikbhcaaW.PrintWords YtkifipakikbhcaaW.PrintLast YtkifipakikbhcaaW.PrintMore
theorem tmod_range {x P : Int} (hx : 0 ≤ x) (hP : 0 < P) : 0 ≤ Int.tmod x P ∧ Int.tmod x P < P := ⟨Int.tmod_nonneg _ hx, Int.tmod_lt_of_pos _ hP⟩
theorem tdiv_range {x P : Int} (hx : 0 ≤ x) (hP : 1 ≤ P) : 0 ≤ Int.tdiv x P ∧ Int.tdiv x P ≤ x := by
 rw [Int.tdiv_eq_ediv_of_nonneg hx]
 exact ⟨Int.ediv_nonneg hx (by omega), Int.ediv_le_self _ hx⟩
theorem w64_id {x : Int} (h0 : 0 ≤ x) (h1 : x ≤ 4611686018427387904) : wrap64 x = x := by unfold wrap64; omega
theorem Dgt.set {P : Int} {l : List Int} (h : Dgt P l) (i : Nat) {x : Int} (hx : 0 ≤ x ∧ x < P) : Dgt P (l.set i x) := by
 intro y hy
 rcases List.mem_or_eq_of_mem_set hy with h1 | h1
 ·exact h y h1
 ·rw [h1]; exact hx
theorem Dgt.rep {P : Int} (hP : 0 < P) (n : Nat) : Dgt P (List.replicate n 0) := by
 intro y hy; rw [List.eq_of_mem_replicate hy]; omega
theorem Dgt.rd {P : Int} {l : List Int} (h : Dgt P l) (hP : 0 < P) (i : Int) : 0 ≤ rd l i ∧ rd l i < P := by
 show 0 ≤ l.getD i.toNat 0 ∧ l.getD i.toNat 0 < P
 rw [List.getD_eq_getElem?_getD]
 cases hi : l[i.toNat]? with
 | none => exact ⟨Int.le_refl _, hP⟩
 | some y => exact h y (List.mem_of_getElem? hi)
theorem digits_l0 {P : Int} (hP : 2 ≤ P) (n : Nat) (hn : n ≤ 8) : ∀ (d k i : Nat) (x : Int) (o : List Int), d = n - i → i ≤ n → d < k → o.length = n → Dgt P o → 0 ≤ x → x ≤ 4611686018427387904 →
  ∃ l, field_digitsOf.l0 k x P o (n : Int) (i : Int) = some l ∧ l.length = n ∧ Dgt P l := by
 intro d
 induction d with
 | zero =>
  intro k i x o hd hi hk ho hD h0 h1
  obtain ⟨k, rfl⟩ : ∃ k', k = k' + 1 := ⟨k - 1, by omega⟩
  exact ⟨o, by rw [field_digitsOf.l0, if_neg (by omega)], ho, hD⟩
 | succ d ih =>
  intro k i x o hd hi hk ho hD h0 h1
  obtain ⟨k, rfl⟩ : ∃ k', k = k' + 1 := ⟨k - 1, by omega⟩
  have hq := tdiv_range h0 (show 1 ≤ P by omega)
  have hw : wrap64 (Int.tdiv x P) = Int.tdiv x P := w64_id hq.1 (by omega)
  obtain ⟨l, e, h2, h3⟩ := ih k (i + 1) (Int.tdiv x P) (o.set i (Int.tmod x P)) (by omega) (by omega) (by omega) (by rw [List.length_set]; exact ho) (hD.set i (tmod_range h0 (by omega))) hq.1 (by omega)
  refine ⟨l, ?_, h2, h3⟩
  rw [field_digitsOf.l0, if_pos (by omega), if_neg (by omega), if_pos (by omega), if_pos (by omega), hw, Int.toNat_natCast, w64_succ (n := 9) (by omega) (by omega)]
  exact e
theorem digits_f {P : Int} (hP : 2 ≤ P) (n k : Nat) (hn : n ≤ 8) (hk : 8 < k) {x : Int} (h0 : 0 ≤ x) (h1 : x ≤ 256) : ∃ l, field_digitsOf.f k x P (n : Int) = some l ∧ l.length = n ∧ Dgt P l := by
 obtain ⟨l, e, h2, h3⟩ := digits_l0 hP n hn n k 0 x (List.replicate n 0) (by omega) (by omega) (by omega) (List.length_replicate ..) (Dgt.rep (by omega) n) h0 (by omega)
 refine ⟨l, ?_, h2, h3⟩
 unfold field_digitsOf.f
 rw [if_pos (by omega), if_pos (by omega), Int.toNat_natCast, Option.bind_some, List.length_replicate]
 exact e
theorem pow_mono {P : Int} (hP : 2 ≤ P) {a b : Nat} (h : a ≤ b) : P ^ a ≤ P ^ b := by
 induction b with
 | zero => rw [show a = 0 by omega]; exact Int.le_refl _
 | succ b ih =>
  by_cases e : a = b + 1
  ·rw [e]; exact Int.le_refl _
  ·have h1 := ih (by omega)
   have h2 : 0 ≤ P ^ b := Int.pow_nonneg (by omega)
   rw [Int.pow_succ]
   have h3 : P ^ b * 1 ≤ P ^ b * P := Int.mul_le_mul_of_nonneg_left (by omega) h2
   rw [Int.mul_one] at h3
   omega
theorem value_l0 {P : Int} (hP : 2 ≤ P) (l : List Int) (hl : l.length ≤ 8) (hD : Dgt P l) (hpow : P ^ l.length ≤ 256) : ∀ (d k : Nat) (acc : Int), d ≤ l.length → d < k → 0 ≤ acc → acc + 1 ≤ P ^ (l.length - d) →
  ∃ v, field_valueOf.l0 k l P acc ((d : Int) - 1) = some v ∧ 0 ≤ v ∧ v < P ^ l.length := by
 intro d
 induction d with
 | zero =>
  intro k acc hd hk h0 h1
  obtain ⟨k, rfl⟩ : ∃ k', k = k' + 1 := ⟨k - 1, by omega⟩
  refine ⟨acc, by rw [field_valueOf.l0, if_neg (by omega)], h0, ?_⟩
  rw [Nat.sub_zero] at h1; omega
 | succ d ih =>
  intro k acc hd hk h0 h1
  obtain ⟨k, rfl⟩ : ∃ k', k = k' + 1 := ⟨k - 1, by omega⟩
  have hr := hD.rd (by omega) ((d : Int))
  have hm : (acc + 1) * P ≤ P ^ (l.length - (d + 1)) * P := Int.mul_le_mul_of_nonneg_right h1 (by omega)
  have he : P ^ (l.length - (d + 1)) * P = P ^ (l.length - d) := by rw [← Int.pow_succ]; congr 1; omega
  rw [he, Int.add_mul, Int.one_mul] at hm
  have hle : P ^ (l.length - d) ≤ P ^ l.length := pow_mono hP (by omega)
  have hnn : 0 ≤ acc * P := Int.mul_nonneg h0 (by omega)
  obtain ⟨v, e, h2, h3⟩ := ih k (acc * P + rd l (d : Int)) (by omega) (by omega) (by omega) (by omega)
  refine ⟨v, ?_, h2, h3⟩
  rw [field_valueOf.l0, show ((d + 1 : Nat) : Int) - 1 = (d : Int) by omega, if_pos (by omega), if_pos (by omega), if_pos (by omega), w64_id hnn (by omega), w64_id (by omega) (by omega)]
  rw [show wrap64 ((d : Int) - 1) = (d : Int) - 1 by unfold wrap64; omega]
  exact e
theorem value_f {P : Int} (hP : 2 ≤ P) (l : List Int) (k : Nat) (hl : l.length ≤ 8) (hl1 : 1 ≤ l.length) (hD : Dgt P l) (hpow : P ^ l.length ≤ 256) (hk : 8 < k) : ∃ v, field_valueOf.f k l P = some v ∧ 0 ≤ v ∧ v < P ^ l.length := by
 obtain ⟨v, e, h⟩ := value_l0 hP l hl hD hpow l.length k 0 (by omega) (by omega) (by omega) (by rw [Nat.sub_self, Int.pow_zero]; omega)
 refine ⟨v, ?_, h⟩
 unfold field_valueOf.f
 rw [show wrap64 ((l.length : Int) - 1) = (l.length : Int) - 1 by unfold wrap64; omega]
 exact e
theorem cell_range {P : Int} (hP : 2 ≤ P) (hP2 : P ≤ 256) {N : Nat} {md a sh : List Int} {bi top : Int} (hmd : Dgt P md) (ha : Dgt P a) (hs : Dgt P sh) (hb : 0 ≤ bi ∧ bi < P) (ht : 0 ≤ top ∧ top < P) (j : Int) :
  0 ≤ mulCell P N md a bi top sh j ∧ mulCell P N md a bi top sh j < P := by
 unfold mulCell
 have h1 := hs.rd (show 0 < P by omega) j
 have h2 := ha.rd (show 0 < P by omega) j
 have h3 : 0 ≤ lowc N md j ∧ lowc N md j < P := by
  unfold lowc; split
  ·exact hmd.rd (by omega) j
  ·omega
 have m1 : (P - top) * lowc N md j ≤ 256 * 256 := Int.mul_le_mul (by omega) (by omega) (by omega) (by omega)
 have n1 : 0 ≤ (P - top) * lowc N md j := Int.mul_nonneg (by omega) (by omega)
 have m2 : bi * rd a j ≤ 256 * 256 := Int.mul_le_mul (by omega) (by omega) (by omega) (by omega)
 have n2 : 0 ≤ bi * rd a j := Int.mul_nonneg (by omega) (by omega)
 rw [w64_id (x := P - top) (by omega) (by omega), w64_id n1 (by omega), w64_id n2 (by omega), w64_id (x := rd sh j + _) (by omega) (by omega), w64_id (by omega) (by omega)]
 exact tmod_range (by omega) (by omega)
theorem mulL_range {P : Int} (hP : 2 ≤ P) (hP2 : P ≤ 256) {N : Nat} {md a b : List Int} (hmd : Dgt P md) (ha : Dgt P a) (hb : Dgt P b) : ∀ (i : Nat) (o : List Int), o.length = N → Dgt P o → (mulL P N md a b i o).length = N ∧ Dgt P (mulL P N md a b i o)
 | 0, o, h, hD => ⟨h, hD⟩
 | i + 1, o, h, hD => by
  rw [mulL]
  refine mulL_range hP hP2 hmd ha hb i _ (by unfold mulRnd; simp) ?_
  unfold mulRnd
  intro x hx
  obtain ⟨j, _, e⟩ := List.mem_map.1 hx
  rw [← e]
  refine cell_range hP hP2 hmd ha ?_ (hb.rd (by omega) _) (hD.rd (by omega) _) _
  intro y hy
  rcases List.mem_cons.1 hy with rfl | hy
  ·omega
  ·exact hD y hy
theorem multiply_f {P : Int} {M k : Nat} {md : List Int} (hP : 2 ≤ P) (hP2 : P ≤ 256) (hM : 1 ≤ M) (hM2 : M ≤ 8) (hmd : Dgt P md) (hml : 1 < M → md.length = M) (hpow : P ^ M ≤ 256) (hk : 8 < k) {x y : Int} (hx : 0 ≤ x ∧ x ≤ 256) (hy : 0 ≤ y ∧ y ≤ 256) :
  ∃ v, field_multiply.f k P (M : Int) md x y = some v ∧ 0 ≤ v ∧ v < P ^ M := by
 obtain ⟨a, ea, la, da⟩ := digits_f hP M k hM2 hk hx.1 hx.2
 obtain ⟨b, eb, lb, db⟩ := digits_f hP M k hM2 hk hy.1 hy.2
 obtain ⟨lr, dr⟩ := mulL_range hP hP2 hmd da db M (List.replicate M 0) (List.length_replicate ..) (Dgt.rep (by omega) M)
 obtain ⟨v, ev, h⟩ := value_f hP (mulL P M md a b M (List.replicate M 0)) k (by omega) (by omega) dr (by rw [lr]; exact hpow) hk
 rw [lr] at h
 refine ⟨v, ?_, h⟩
 unfold field_multiply.f
 rw [if_pos ⟨by omega, by omega, fun h1 => by have := hml (by omega); omega, by omega⟩, ea, Option.bind_some, eb, Option.bind_some, if_pos ⟨by omega, by omega⟩, Int.toNat_natCast]
 exact ev
theorem powers_l0 {P : Int} {M : Nat} {md : List Int} (hP : 2 ≤ P) (hP2 : P ≤ 256) (hM : 1 ≤ M) (hM2 : M ≤ 8) (hmd : Dgt P md) (hml : 1 < M → md.length = M) {q : Nat} (hq : P ^ M = q) (hq2 : q ≤ 256) {x : Int} (hx : 0 ≤ x ∧ x < q) :
  ∀ (d k : Nat) (acc : List Int) (seen : List Bool) (z : Int), seen.length = q → q ≤ seen.count true + d → d + 20 < k → acc.length + d ≤ 300 → (∀ y ∈ acc, 0 ≤ y ∧ y < (q : Int)) → 0 ≤ z ∧ z < q →
  ∃ l, field_powers.l0 k x acc seen z P (M : Int) md = some l ∧ ∀ y ∈ l, 0 ≤ y ∧ y < (q : Int) := by
 intro d
 induction d with
 | zero =>
  intro k acc seen z hs hc hk ha hr hz
  obtain ⟨k, rfl⟩ : ∃ k', k = k' + 1 := ⟨k - 1, by omega⟩
  refine ⟨acc, ?_, hr⟩
  have hall : seen.count true = seen.length := by have : seen.count true ≤ seen.length := List.count_le_length; omega
  rw [List.count_eq_length] at hall
  have hb : rdOf false seen z = true := by
   have hlt : z.toNat < seen.length := by omega
   show seen.getD z.toNat false = true
   rw [List.getD_eq_getElem?_getD, List.getElem?_eq_getElem hlt]
   exact (hall _ (List.getElem_mem hlt)).symm
  rw [field_powers.l0]
  by_cases h0 : z = 0
  ·rw [if_pos h0]
  ·rw [if_neg h0, if_pos hz.1, if_pos (by omega), if_pos hb]
 | succ d ih =>
  intro k acc seen z hs hc hk ha hr hz
  obtain ⟨k, rfl⟩ : ∃ k', k = k' + 1 := ⟨k - 1, by omega⟩
  rw [field_powers.l0]
  by_cases h0 : z = 0
  ·rw [if_pos h0]; exact ⟨acc, rfl, hr⟩
  ·rw [if_neg h0, if_pos hz.1, if_pos (by omega)]
   by_cases hb : rdOf false seen z = true
   ·rw [if_pos hb]; exact ⟨acc, rfl, hr⟩
   ·obtain ⟨v, ev, hv⟩ := multiply_f (k := k) hP hP2 hM hM2 hmd hml (by omega) (by omega) (x := z) (y := x) (by omega) (by omega)
    rw [if_neg hb, if_pos (by omega), ev, Option.bind_some]
    have hcs := count_set seen z.toNat (by omega) (Bool.eq_false_iff.2 hb)
    exact ih k (acc ++ [z]) _ v (by rw [List.length_set]; exact hs) (by omega) (by omega) (by simp; omega) (fun y hy => by
     rcases List.mem_append.1 hy with hy | hy
     ·exact hr y hy
     ·rw [List.mem_singleton.1 hy]; exact hz) (by omega)
theorem powers_f {P : Int} {M : Nat} {md : List Int} (hP : 2 ≤ P) (hP2 : P ≤ 256) (hM : 1 ≤ M) (hM2 : M ≤ 8) (hmd : Dgt P md) (hml : 1 < M → md.length = M) {q : Nat} (hq : P ^ M = q) (hq2 : q ≤ 256) (hq1 : 2 ≤ q) {x : Int} (hx : 0 ≤ x ∧ x < q) :
  ∃ l, field_powers.f 4096 P (M : Int) md (q : Int) x = some l ∧ ∀ y ∈ l, 0 ≤ y ∧ y < (q : Int) := by
 obtain ⟨l, e, h⟩ := powers_l0 hP hP2 hM hM2 hmd hml hq hq2 hx q 4096 [1] ((List.replicate q false).set 1 true) x (by simp) (by omega) (by omega) (by simp; omega) (fun y hy => by rw [List.mem_singleton.1 hy]; omega) hx
 refine ⟨l, ?_, h⟩
 unfold field_powers.f
 rw [if_pos (by omega), if_pos (by omega), Int.toNat_natCast, Option.bind_some, if_pos (by rw [List.length_replicate]; omega)]
 exact e
theorem newAll_true {P : Int} {M : Nat} {md : List Int} (hP : 2 ≤ P) (hP2 : P ≤ 256) (hM : 1 ≤ M) (hM2 : M ≤ 8) (hmd : Dgt P md) (hml : 1 < M → md.length = M) {q : Nat} (hq : P ^ M = q) (hq2 : q ≤ 256) (hq1 : 2 ≤ q) : newAll P (M : Int) md (q : Int) = true := by
 unfold newAll
 rw [Int.toNat_natCast, List.all_eq_true]
 intro i hi
 have hi := List.mem_range.1 hi
 obtain ⟨l, e, h⟩ := powers_f hP hP2 hM hM2 hmd hml hq hq2 hq1 (x := (i : Int)) (by omega)
 have hp : pwN P (M : Int) md (q : Int) (i : Int) = l := by unfold pwN; rw [e]; rfl
 rw [e, hp]
 have hrd : 0 ≤ rd l ((q : Int) - 2) ∧ rd l ((q : Int) - 2) < (q : Int) := Dgt.rd (P := (q : Int)) h (by omega) _
 obtain ⟨v, ev, _⟩ := multiply_f (k := 4096) hP hP2 hM hM2 hmd hml (by omega) (by omega) (x := rd l ((q : Int) - 2)) (y := (i : Int)) (by omega) (by omega)
 rw [ev]
 simp
end Go.Proofs.Ytkifipakikbhcaa.Hand
namespace Go.Proofs.Ytkifipakikbhcaa.Hand
open Ytkifipakikbhcaa.Ref
open Go.RowKit YtkifipakikbhcaaW.PrintWords YtkifipakikbhcaaW.PrintLast YtkifipakikbhcaaW.PrintMore
theorem rd_nt (l : List Int) (j : Nat) : rd l (j : Int) = nt l j := rfl
theorem digits_l0s {P : Int} (hP : 2 ≤ P) (n : Nat) (hn : n ≤ 8) : ∀ (d k i : Nat) (x : Int) (o : List Int), d = n - i → i ≤ n → d < k → o.length = n → 0 ≤ x → x ≤ 4611686018427387904 →
  field_digitsOf.l0 k x P o (n : Int) (i : Int) = some (o.take i ++ digL P d x) := by
 intro d
 induction d with
 | zero =>
  intro k i x o hd hi hk ho h0 h1
  obtain ⟨k, rfl⟩ : ∃ k', k = k' + 1 := ⟨k - 1, by omega⟩
  rw [field_digitsOf.l0, if_neg (by omega), digL, List.append_nil, List.take_of_length_le (by omega)]
 | succ d ih =>
  intro k i x o hd hi hk ho h0 h1
  obtain ⟨k, rfl⟩ : ∃ k', k = k' + 1 := ⟨k - 1, by omega⟩
  have hq := tdiv_range h0 (show 1 ≤ P by omega)
  have hw : wrap64 (Int.tdiv x P) = Int.tdiv x P := w64_id hq.1 (by omega)
  rw [field_digitsOf.l0, if_pos (by omega), if_neg (by omega), if_pos (by omega), if_pos (by omega), hw, Int.toNat_natCast, w64_succ (n := 9) (by omega) (by omega),
   ih k (i + 1) (Int.tdiv x P) (o.set i (Int.tmod x P)) (by omega) (by omega) (by omega) (by rw [List.length_set]; exact ho) hq.1 (by omega), digL,
   Int.tdiv_eq_ediv_of_nonneg h0, Int.tmod_eq_emod_of_nonneg h0]
  have ht : (o.set i (x % P)).take (i + 1) = o.take i ++ [x % P] := by
   rw [List.take_add_one, List.take_set_of_le (Nat.le_refl i), List.getElem?_set_self (by omega)]; rfl
  rw [ht, List.append_assoc]; rfl
theorem digits_s {P : Int} (hP : 2 ≤ P) (n k : Nat) (hn : n ≤ 8) (hk : 8 < k) {x : Int} (h0 : 0 ≤ x) (h1 : x ≤ 4611686018427387904) : field_digitsOf.f k x P (n : Int) = some (digL P n x) := by
 have := digits_l0s hP n hn n k 0 x (List.replicate n 0) (by omega) (by omega) (by omega) (List.length_replicate ..) h0 h1
 unfold field_digitsOf.f
 rw [if_pos (by omega), if_pos (by omega), Int.toNat_natCast, Option.bind_some, List.length_replicate]
 exact this
theorem nt_drop {l : List Int} {i : Nat} (h : i < l.length) : l.drop i = nt l i :: l.drop (i + 1) := by rw [← rd_nt]; exact rd_drop h
theorem value_l0s {P : Int} (hP : 2 ≤ P) (l : List Int) (hl : l.length ≤ 8) (hD : Dgt P l) (hpow : P ^ l.length ≤ 256) : ∀ (d k : Nat), d ≤ l.length → d < k →
  field_valueOf.l0 k l P (valL P (l.drop d)) ((d : Int) - 1) = some (valL P l) := by
 intro d
 induction d with
 | zero =>
  intro k hd hk
  obtain ⟨k, rfl⟩ : ∃ k', k = k' + 1 := ⟨k - 1, by omega⟩
  rw [field_valueOf.l0, if_neg (by omega), List.drop_zero]
 | succ d ih =>
  intro k hd hk
  obtain ⟨k, rfl⟩ : ∃ k', k = k' + 1 := ⟨k - 1, by omega⟩
  have hr := nt_dgt hD (by omega) d
  have hDd : ∀ i, Dgt P (l.drop i) := fun i x hx => hD x (List.mem_of_mem_drop hx)
  have h1 := valL_range (show 0 < P by omega) _ (hDd d)
  have h2 := valL_range (show 0 < P by omega) _ (hDd (d + 1))
  have hle : P ^ (l.drop d).length ≤ P ^ l.length := pow_mono hP (by rw [List.length_drop]; omega)
  rw [nt_drop (l := l) (i := d) (by omega), valL] at h1
  rw [nt_drop (l := l) (i := d) (by omega)] at hle
  have h3 : 0 ≤ P * valL P (l.drop (d + 1)) := Int.mul_nonneg (by omega) h2.1
  have hi := ih k (by omega) (by omega)
  rw [nt_drop (l := l) (i := d) (by omega), valL] at hi
  rw [field_valueOf.l0, show ((d + 1 : Nat) : Int) - 1 = (d : Int) by omega, if_pos (by omega), if_pos (by omega), if_pos (by omega), Int.mul_comm, w64_id h3 (by omega), rd_nt, w64_id (by omega) (by omega)]
  rw [show wrap64 ((d : Int) - 1) = (d : Int) - 1 by unfold wrap64; omega, Int.add_comm]
  exact hi
theorem value_s {P : Int} (hP : 2 ≤ P) (l : List Int) (k : Nat) (hl : l.length ≤ 8) (hD : Dgt P l) (hpow : P ^ l.length ≤ 256) (hk : 8 < k) : field_valueOf.f k l P = some (valL P l) := by
 have := value_l0s hP l hl hD hpow l.length k (by omega) (by omega)
 rw [List.drop_length] at this
 unfold field_valueOf.f
 rw [show wrap64 ((l.length : Int) - 1) = (l.length : Int) - 1 by unfold wrap64; omega]
 exact this
def mu (P : Int) (M : Nat) (md : List Int) (x y : Int) : Int := valL P (mulL P M md (digL P M x) (digL P M y) M (List.replicate M 0))
def lowf (M : Nat) (md : List Int) (j : Nat) : Int := if 1 < M then nt md j else 0
section
variable {P : Int} {M : Nat} {md : List Int}
theorem multiply_s {k : Nat} (hP : 2 ≤ P) (hP2 : P ≤ 256) (hM : 1 ≤ M) (hM2 : M ≤ 8) (hmd : Dgt P md) (hml : 1 < M → md.length = M) (hpow : P ^ M ≤ 256) (hk : 8 < k) {x y : Int} (hx : 0 ≤ x ∧ x ≤ 256) (hy : 0 ≤ y ∧ y ≤ 256) :
  field_multiply.f k P (M : Int) md x y = some (mu P M md x y) := by
 obtain ⟨lr, dr⟩ := mulL_range hP hP2 hmd (digL_dgt (show 0 < P by omega) M x) (digL_dgt (show 0 < P by omega) M y) M (List.replicate M 0) (List.length_replicate ..) (Dgt.rep (by omega) M)
 unfold field_multiply.f mu
 rw [if_pos ⟨by omega, by omega, fun h1 => by have := hml (by omega); omega, by omega⟩, digits_s hP M k hM2 hk hx.1 (by omega), Option.bind_some, digits_s hP M k hM2 hk hy.1 (by omega), Option.bind_some, if_pos ⟨by rw [digL_length], by rw [digL_length]⟩, Int.toNat_natCast]
 exact value_s hP _ k (by omega) dr (by rw [lr]; exact hpow) hk
theorem mulCell_cg (hP : 2 ≤ P) (hP2 : P ≤ 256) {a o : List Int} {bi : Int} (hmd : Dgt P md) (ha : Dgt P a) (hs : Dgt P o) (hb : 0 ≤ bi ∧ bi < P) (j : Nat) :
  ∃ k, mulCell P M md a bi (nt o (M - 1)) (0 :: o) (j : Int) - (tX M (lowf M md) (nt o) j + bi * nt a j) = P * k := by
 have hs0 : Dgt P (0 :: o) := fun y hy => by
  rcases List.mem_cons.1 hy with rfl | hy
  ·omega
  ·exact hs y hy
 have h1 := nt_dgt hs0 (show 0 < P by omega) j
 have h2 := nt_dgt ha (show 0 < P by omega) j
 have ht := nt_dgt hs (show 0 < P by omega) (M - 1)
 have h3 : 0 ≤ lowf M md j ∧ lowf M md j < P := by
  unfold lowf; split
  ·exact nt_dgt hmd (by omega) j
  ·omega
 have hl : lowc M md (j : Int) = lowf M md j := rfl
 have m1 : (P - nt o (M - 1)) * lowf M md j ≤ 256 * 256 := Int.mul_le_mul (by omega) (by omega) (by omega) (by omega)
 have n1 : 0 ≤ (P - nt o (M - 1)) * lowf M md j := Int.mul_nonneg (by omega) (by omega)
 have m2 : bi * nt a j ≤ 256 * 256 := Int.mul_le_mul (by omega) (by omega) (by omega) (by omega)
 have n2 : 0 ≤ bi * nt a j := Int.mul_nonneg (by omega) (by omega)
 have hsh : nt (0 :: o) j = if j = 0 then 0 else nt o (j - 1) := by
  cases j with
  | zero => rfl
  | succ j => rw [if_neg (by omega)]; rfl
 unfold mulCell
 rw [hl, rd_nt, rd_nt, w64_id (x := P - _) (by omega) (by omega), w64_id n1 (by omega), w64_id n2 (by omega), w64_id (x := nt (0 :: o) j + _) (by omega) (by omega), w64_id (by omega) (by omega), Int.tmod_eq_emod_of_nonneg (by omega)]
 unfold tX
 rw [← hsh, Int.emod_def]
 exact ⟨lowf M md j - (nt (0 :: o) j + (P - nt o (M - 1)) * lowf M md j + bi * nt a j) / P, by grind⟩
theorem mulRnd_nt {a o : List Int} {bi : Int} (hM : 1 ≤ M) {j : Nat} (hj : j < M) : nt (mulRnd P M md a bi o) j = mulCell P M md a bi (nt o (M - 1)) (0 :: o) (j : Int) := by
 have e : rd o ((M : Int) - 1) = nt o (M - 1) := by rw [show (M : Int) - 1 = ((M - 1 : Nat) : Int) by omega]; rfl
 unfold mulRnd
 rw [e]
 show (List.map _ _).getD j 0 = _
 rw [List.getD_eq_getElem?_getD, List.getElem?_map, List.getElem?_range hj]
 rfl
theorem mulL_cg (hP : 2 ≤ P) (hP2 : P ≤ 256) (hM : 1 ≤ M) {a b : List Int} (hmd : Dgt P md) (ha : Dgt P a) (hb : Dgt P b) : ∀ (i : Nat) (o : List Int), i ≤ M → o.length = M → Dgt P o →
  Cg P M (nt o) (hor M (lowf M md) (nt b) (nt a) (M - i)) → Cg P M (nt (mulL P M md a b i o)) (hor M (lowf M md) (nt b) (nt a) M)
 | 0, o, _, _, _, h => by rw [mulL]; exact h
 | i + 1, o, hi, ho, hD, h => by
  have hbi := nt_dgt hb (show 0 < P by omega) i
  have hR := mulL_range hP hP2 hmd ha hb 1 o ho hD
  rw [mulL]
  have hRl : (mulRnd P M md a (rd b (i : Int)) o).length = M := by unfold mulRnd; simp
  have hRD : Dgt P (mulRnd P M md a (rd b (i : Int)) o) := by
   unfold mulRnd
   intro x hx
   obtain ⟨j, _, e⟩ := List.mem_map.1 hx
   rw [← e]
   refine cell_range hP hP2 hmd ha ?_ hbi (hD.rd (by omega) _) _
   intro y hy
   rcases List.mem_cons.1 hy with rfl | hy
   ·omega
   ·exact hD y hy
  refine mulL_cg hP hP2 hM hmd ha hb i _ (by omega) hRl hRD ?_
  have e1 : M - i = (M - (i + 1)) + 1 := by omega
  rw [e1, hor, show M - (M - (i + 1) + 1) = i by omega]
  have h1 : Cg P M (nt (mulRnd P M md a (rd b (i : Int)) o)) (fun j => tX M (lowf M md) (nt o) j + nt b i * nt a j) := fun j hj => by
   rw [mulRnd_nt hM hj]
   exact mulCell_cg hP hP2 hmd ha hD hbi j
  exact h1.trans ((h.tX _).add (Cg.refl _))
theorem mu_el (hP : 2 ≤ P) (hP2 : P ≤ 256) (hmd : Dgt P md) (x y : Int) : El (P ^ M) (mu P M md x y) := by
 obtain ⟨lr, dr⟩ := mulL_range hP hP2 hmd (digL_dgt (show 0 < P by omega) M x) (digL_dgt (show 0 < P by omega) M y) M (List.replicate M 0) (List.length_replicate ..) (Dgt.rep (by omega) M)
 exact el_val (by omega) dr lr
theorem mu_cg (hP : 2 ≤ P) (hP2 : P ≤ 256) (hM : 1 ≤ M) (hmd : Dgt P md) (x y : Int) : Cg P M (dg P M (mu P M md x y)) (pm M (lowf M md) (dg P M x) (dg P M y)) := by
 obtain ⟨lr, dr⟩ := mulL_range hP hP2 hmd (digL_dgt (show 0 < P by omega) M x) (digL_dgt (show 0 < P by omega) M y) M (List.replicate M 0) (List.length_replicate ..) (Dgt.rep (by omega) M)
 unfold mu
 rw [dg_val (by omega) dr lr]
 refine mulL_cg hP hP2 hM hmd (digL_dgt (by omega) M x) (digL_dgt (by omega) M y) M _ (Nat.le_refl M) (List.length_replicate ..) (Dgt.rep (by omega) M) ?_
 rw [Nat.sub_self, hor]
 exact Cg.of_eq fun j _ => nt_rep M j
end
def sumL (P : Int) : List Int → List Int → List Int
 | [], _ => []
 | _ :: _, [] => []
 | x :: a, y :: b => (x + y) % P :: sumL P a b
def negL (P : Int) (a : List Int) : List Int := a.map fun x => (P - x) % P
def ad (P : Int) (M : Nat) (x y : Int) : Int := valL P (sumL P (digL P M x) (digL P M y))
def ng (P : Int) (M : Nat) (x : Int) : Int := valL P (negL P (digL P M x))
section
variable {P : Int} {M : Nat} {md : List Int}
theorem sumL_length : ∀ {a b : List Int}, a.length = b.length → (sumL P a b).length = a.length
 | [], _, _ => rfl
 | x :: a, [], h => by simp at h
 | x :: a, y :: b, h => by rw [sumL, List.length_cons, List.length_cons, sumL_length (by simpa using h)]
theorem sumL_dgt (hP : 0 < P) : ∀ (a b : List Int), Dgt P (sumL P a b)
 | [], _ => fun _ h => by rw [sumL] at h; cases h
 | x :: a, [] => fun _ h => by rw [sumL] at h; cases h
 | x :: a, y :: b => fun z hz => by
  rw [sumL] at hz
  rcases List.mem_cons.1 hz with rfl | hz
  ·exact ⟨Int.emod_nonneg _ (by omega), Int.emod_lt_of_pos _ hP⟩
  ·exact sumL_dgt hP a b z hz
theorem sumL_cg : ∀ {a b : List Int} {m : Nat}, a.length = m → b.length = m → Cg P m (nt (sumL P a b)) fun j => nt a j + nt b j
 | [], b, m, ha, hb => fun j hj => by simp at ha; omega
 | x :: a, [], m, ha, hb => fun j hj => by simp at hb; omega
 | x :: a, y :: b, 0, ha, hb => fun j hj => by omega
 | x :: a, y :: b, m + 1, ha, hb => fun j hj => by
  rw [sumL]
  cases j with
  | zero => exact ⟨-((x + y) / P), by show (x + y) % P - (x + y) = _; rw [Int.emod_def]; grind⟩
  | succ j => exact sumL_cg (a := a) (b := b) (m := m) (by simpa using ha) (by simpa using hb) j (by omega)
theorem negL_dgt (hP : 0 < P) (a : List Int) : Dgt P (negL P a) := fun z hz => by
 obtain ⟨x, _, rfl⟩ := List.mem_map.1 hz
 exact ⟨Int.emod_nonneg _ (by omega), Int.emod_lt_of_pos _ hP⟩
theorem negL_cg {a : List Int} : Cg P a.length (nt (negL P a)) fun j => -1 * nt a j := fun j hj => by
 have e : nt (negL P a) j = (P - nt a j) % P := by
  show (negL P a).getD j 0 = (P - a.getD j 0) % P
  unfold negL
  rw [List.getD_eq_getElem?_getD, List.getElem?_map, List.getD_eq_getElem?_getD, List.getElem?_eq_getElem hj]; rfl
 rw [e]
 exact ⟨1 - (P - nt a j) / P, by rw [Int.emod_def]; grind⟩
theorem told (hP : 2 ≤ P) (hP2 : P ≤ 256) (hM : 1 ≤ M) (hmd : Dgt P md) : Told P M (lowf M md) (ad P M) (mu P M md) (ng P M) where
 adE {a b} _ _ := el_val (by omega) (sumL_dgt (by omega) _ _) (by rw [sumL_length (by rw [digL_length, digL_length]), digL_length])
 muE {a b} _ _ := mu_el hP hP2 hmd a b
 ngE {a} _ := el_val (by omega) (negL_dgt (by omega) _) (by unfold negL; rw [List.length_map, digL_length])
 adD {a b} _ _ := by
  unfold ad
  rw [dg_val (by omega) (sumL_dgt (by omega) _ _) (by rw [sumL_length (by rw [digL_length, digL_length]), digL_length])]
  exact sumL_cg (digL_length ..) (digL_length ..)
 muD {a b} _ _ := mu_cg hP hP2 hM hmd a b
 ngD {a} _ := by
  unfold ng
  rw [dg_val (by omega) (negL_dgt (by omega) _) (by unfold negL; rw [List.length_map, digL_length])]
  have := negL_cg (P := P) (a := digL P M a)
  rw [digL_length] at this
  exact this
theorem rng (hP : 2 ≤ P) (hP2 : P ≤ 256) (hM : 1 ≤ M) (hmd : Dgt P md) : Rng (P ^ M) (ad P M) (mu P M md) (ng P M) := (told hP hP2 hM hmd).rng hP hM
end
section
variable {m : Nat} (lo : Nat → Int)
end
theorem nt_set_ne {l : List Int} {i k : Nat} {y : Int} (h : i ≠ k) : nt (l.set k y) i = nt l i := by
 show (l.set k y).getD i 0 = l.getD i 0
 rw [List.getD_eq_getElem?_getD, List.getD_eq_getElem?_getD, List.getElem?_set_ne (by omega)]
theorem nt_set_self {l : List Int} {k : Nat} {y : Int} (h : k < l.length) : nt (l.set k y) k = y := by
 show (l.set k y).getD k 0 = y
 rw [List.getD_eq_getElem?_getD, List.getElem?_set_self h]; rfl
section
variable {P : Int} {M : Nat} {md : List Int}
section
variable (ho : ∀ k, 20 ≤ k → r4_Order.f k P (M : Int) md = some (P ^ M))
include ho
omit ho in
omit ho in
end
end
def codeN (p : Nat) : List Nat → Nat
 | [] => 0
 | d :: l => d + p * codeN p l
def digN (p : Nat) : Nat → Nat → List Nat
 | 0, _ => []
 | n + 1, x => x % p :: digN p n (x / p)
def rowN (p b nt : Nat) : Nat → List Nat → List Nat → List Nat → List Nat
 | v, o :: os, l :: ls, a :: as' => ((v + nt * l + b * a) % p) :: rowN p b nt o os ls as'
 | _, _, _, _ => []
def lastN : List Nat → Nat
 | [] => 0
 | x :: [] => x
 | _ :: y :: l => lastN (y :: l)
def stepN (p : Nat) (lo a : List Nat) (b : Nat) : List Nat → List Nat
 | [] => if b = 0 then [] else a.map fun x => b * x % p
 | o :: os => rowN p b (p - lastN (o :: os)) 0 (o :: os) lo a
def mulN (p : Nat) (lo a : List Nat) : List Nat → List Nat → List Nat
 | [], o => o
 | b :: bs, o => mulN p lo a bs (stepN p lo a b o)
def genN (p : Nat) (lo g : List Nat) : Nat → List Nat → Nat → Bool
 | 0, z, _ => codeN p z == 1
 | n + 1, z, mask => !(codeN p z == 0) && !(mask.testBit (codeN p z)) && genN p lo g n (mulN p lo z g []) (mask ||| 2 ^ codeN p z)
def genOk (p m : Nat) (lo : List Nat) : Bool := (List.range (p ^ m)).any fun x => (decide (m = 1) || decide (p ≤ x)) && genN p lo (digN p m x).reverse (p ^ m - 1) (digN p m 1) 0
def subN (p c : Nat) : List Nat → List Nat → List Nat
 | x :: xs, y :: ys => ((y + (p - c) * x) % p) :: subN p c xs ys
 | _, ys => ys
def quoN (p : Nat) (a : List Nat) : Nat → List Nat → List Nat
 | n + 1, c :: r => c :: quoN p a n (subN p c a r)
 | _, _ => []
def zeroN : List Nat → Bool
 | [] => true
 | x :: l => x == 0 && zeroN l
def zdAt (p m d : Nat) (lo : List Nat) (v : Nat) : Bool :=
 let a := digN p d v
 let b := quoN p a.reverse (m - d + 1) (1 :: lo.reverse)
 let x := codeN p a + p ^ d
 let y := codeN p b.reverse
 decide (x < p ^ m) && decide (y < p ^ m) && decide (0 < y) && zeroN (mulN p lo (digN p m x) (digN p m y).reverse [])
def zdOk (p m : Nat) (lo : List Nat) : Bool := (List.range (m / 2 + 1)).any fun d => decide (1 ≤ d) && (List.range (p ^ d)).any fun v => zdAt p m d lo v
def tuplesN (p : Nat) : Nat → List (List Nat)
 | 0 => [[]]
 | m + 1 => (tuplesN p m).flatMap fun l => (List.range p).map fun x => x :: l
def castL (l : List Nat) : List Int := l.map fun (x : Nat) => (x : Int)
def fldOk (p m : Nat) (lo : List Nat) : Bool := match r4_irreducible.f 300 (castL lo) p with | some true => genOk p m lo | some false => zdOk p m lo | none => false
def allOk (p m : Nat) : Bool := (tuplesN p m).all fun lo => fldOk p m lo
def allOkT (p m : Nat) (tl : List Nat) : Bool := (tuplesN p m).all fun lo => fldOk p (m + tl.length) (lo ++ tl)
def primeOk (p : Nat) : Bool := match r4_prime.f 300 (p : Int), field_isPrime.f 300 (p : Int) with | some b, some c => (b == c) && (!b || genOk p 1 [0]) | _, _ => false
def Lt (p : Nat) (l : List Nat) : Prop := ∀ x ∈ l, x < p
def nN (l : List Nat) : Nat → Int := nt (castL l)
theorem Lt.dgt {p : Nat} {l : List Nat} (h : Lt p l) : Dgt (p : Int) (castL l) := fun x hx => by
 obtain ⟨y, hy, rfl⟩ := List.mem_map.1 hx
 have := h y hy
 omega
theorem castL_length (l : List Nat) : (castL l).length = l.length := List.length_map ..
theorem nN_nil : nN [] = fun _ => 0 := by funext j; rfl
theorem Lt.tail {p x : Nat} {l : List Nat} (h : Lt p (x :: l)) : Lt p l := fun y hy => h y (List.mem_cons_of_mem _ hy)
theorem codeN_val (p : Nat) : ∀ l : List Nat, (codeN p l : Int) = valL p (castL l)
 | [] => rfl
 | d :: l => by
  have := codeN_val p l
  rw [codeN]
  show _ = (d : Int) + p * valL p (castL l)
  rw [← this]; push_cast; rfl
theorem digN_cast (p : Nat) : ∀ (n x : Nat), castL (digN p n x) = digL p n x
 | 0, _ => rfl
 | n + 1, x => by
  rw [digN, digL]
  show ((x % p : Nat) : Int) :: castL (digN p n (x / p)) = _
  rw [digN_cast p n]; push_cast; rfl
theorem digN_lt {p : Nat} (hp : 0 < p) : ∀ n x, Lt p (digN p n x)
 | 0, _ => fun y hy => by rw [digN] at hy; cases hy
 | n + 1, x => fun y hy => by
  rw [digN] at hy
  rcases List.mem_cons.1 hy with rfl | hy
  ·exact Nat.mod_lt _ hp
  ·exact digN_lt hp n _ y hy
theorem digN_length (p : Nat) : ∀ n x, (digN p n x).length = n
 | 0, _ => rfl
 | n + 1, x => by rw [digN, List.length_cons, digN_length p n]
theorem rowN_len (p b t : Nat) : ∀ (m v : Nat) (o lo a : List Nat), o.length = m → lo.length = m → a.length = m → (rowN p b t v o lo a).length = m
 | 0, v, [], lo, a, _, _, _ => rfl
 | m + 1, v, x :: o, y :: lo, z :: a, h1, h2, h3 => by
  rw [rowN, List.length_cons, rowN_len p b t m x o lo a (by simpa using h1) (by simpa using h2) (by simpa using h3)]
theorem rowN_lt {p : Nat} (hp : 0 < p) (b t : Nat) : ∀ (m v : Nat) (o lo a : List Nat), o.length = m → lo.length = m → a.length = m → Lt p (rowN p b t v o lo a)
 | 0, v, [], lo, a, _, _, _ => fun y hy => by rw [rowN] at hy; cases hy; simp
 | m + 1, v, x :: o, y :: lo, z :: a, h1, h2, h3 => fun w hw => by
  rw [rowN] at hw
  rcases List.mem_cons.1 hw with rfl | hw
  ·exact Nat.mod_lt _ hp
  ·exact rowN_lt hp b t m x o lo a (by simpa using h1) (by simpa using h2) (by simpa using h3) w hw
theorem rowN_cg (p b t : Nat) : ∀ (m v : Nat) (o lo a : List Nat), o.length = m → lo.length = m → a.length = m →
  Cg p m (nN (rowN p b t v o lo a)) (fun j => (if j = 0 then (v : Int) else nN o (j - 1)) + t * nN lo j + b * nN a j)
 | 0, v, [], lo, a, _, _, _ => fun j hj => by omega
 | m + 1, v, x :: o, y :: lo, z :: a, h1, h2, h3 => fun j hj => by
  rw [rowN]
  cases j with
  | zero =>
   show (p : Int) ∣ (((v + t * y + b * z) % p : Nat) : Int) - ((if (0 : Nat) = 0 then (v : Int) else nN (x :: o) (0 - 1)) + t * (y : Int) + b * (z : Int))
   refine ⟨-(((v + t * y + b * z) / p : Nat) : Int), ?_⟩
   have := Nat.div_add_mod (v + t * y + b * z) p
   have h : ((p * ((v + t * y + b * z) / p) + (v + t * y + b * z) % p : Nat) : Int) = ((v + t * y + b * z : Nat) : Int) := by rw [this]
   push_cast at h ⊢
   grind
  | succ j =>
   have := rowN_cg p b t m x o lo a (by simpa using h1) (by simpa using h2) (by simpa using h3) j (by omega)
   show (p : Int) ∣ nN (rowN p b t x o lo a) j - ((if j + 1 = 0 then (v : Int) else nN (x :: o) (j + 1 - 1)) + t * nN lo j + b * nN a j)
   rw [if_neg (by omega)]
   have e : (if j = 0 then (x : Int) else nN o (j - 1)) = nN (x :: o) (j + 1 - 1) := by
    cases j with
    | zero => rfl
    | succ j => rw [if_neg (by omega)]; rfl
   rw [← e]
   exact this
theorem lastN_nN : ∀ (l : List Nat), l ≠ [] → (lastN l : Int) = nN l (l.length - 1)
 | [], h => absurd rfl h
 | [x], _ => rfl
 | x :: y :: l, _ => by
  rw [lastN, lastN_nN (y :: l) (by simp)]
  rfl
theorem nN_lt {p : Nat} {l : List Nat} (h : Lt p l) (hp : 0 < p) (j : Nat) : 0 ≤ nN l j ∧ nN l j < p := nt_dgt h.dgt (by omega) j
def Rs (p m : Nat) (o : List Nat) : Prop := (o = [] ∨ o.length = m) ∧ Lt p o
theorem stepN_ok {p m : Nat} (hp : 0 < p) (hm : 1 ≤ m) {lo a o : List Nat} (hlo : lo.length = m) (la : a.length = m) (b : Nat) (ho : Rs p m o) :
  Rs p m (stepN p lo a b o) ∧ Cg p m (nN (stepN p lo a b o)) (fun j => tX m (nN lo) (nN o) j + b * nN a j) := by
 cases o with
 | nil =>
  rw [stepN, nN_nil, tX_zero]
  by_cases hb : b = 0
  ·rw [if_pos hb, nN_nil, hb]
   exact ⟨⟨Or.inl rfl, fun _ h => by cases h⟩, Cg.of_eq fun j _ => by simp⟩
  ·rw [if_neg hb]
   refine ⟨⟨Or.inr (by rw [List.length_map]; exact la), fun y hy => ?_⟩, fun j hj => ?_⟩
   ·obtain ⟨x, _, rfl⟩ := List.mem_map.1 hy
    exact Nat.mod_lt _ hp
   ·have e : nN (a.map fun x => b * x % p) j = ((b * a[j]'(by omega) % p : Nat) : Int) := by
     show (castL _).getD j 0 = _
     unfold castL
     rw [List.getD_eq_getElem?_getD, List.getElem?_map, List.getElem?_map, List.getElem?_eq_getElem (show j < a.length by omega)]; rfl
    have e2 : nN a j = ((a[j]'(by omega) : Nat) : Int) := by
     show (castL _).getD j 0 = _
     unfold castL
     rw [List.getD_eq_getElem?_getD, List.getElem?_map, List.getElem?_eq_getElem (show j < a.length by omega)]; rfl
    show (p : Int) ∣ nN (a.map fun x => b * x % p) j - (0 + b * nN a j)
    rw [e, e2]
    refine ⟨-((b * a[j]'(by omega) / p : Nat) : Int), ?_⟩
    have := Nat.div_add_mod (b * a[j]'(by omega)) p
    have h : ((p * (b * a[j]'(by omega) / p) + b * a[j]'(by omega) % p : Nat) : Int) = ((b * a[j]'(by omega) : Nat) : Int) := by rw [this]
    push_cast at h ⊢
    grind
 | cons x o =>
  have hl : (x :: o).length = m := by
   rcases ho.1 with h | h
   ·cases h
   ·exact h
  rw [stepN]
  refine ⟨⟨Or.inr (rowN_len _ _ _ m _ _ _ _ hl hlo la), rowN_lt hp _ _ m _ _ _ _ hl hlo la⟩, (rowN_cg p b _ m 0 _ _ _ hl hlo la).trans fun j hj => ?_⟩
  have ht := lastN_nN (x :: o) (by simp)
  rw [hl] at ht
  have hr := nN_lt ho.2 hp (m - 1)
  have hs : ((p - lastN (x :: o) : Nat) : Int) = (p : Int) - nN (x :: o) (m - 1) := by rw [← ht] at hr ⊢; omega
  unfold tX
  rw [hs]
  exact ⟨nN lo j, by push_cast; grind⟩
theorem take_rev {g : List Nat} {i : Nat} (h : i < g.length) : (g.take (i + 1)).reverse = g[i] :: (g.take i).reverse := by
 rw [List.take_add_one, List.getElem?_eq_getElem h, Option.toList_some, List.reverse_append]; rfl
theorem mulN_ok {p m : Nat} (hp : 0 < p) (hm : 1 ≤ m) {lo a g : List Nat} (hlo : lo.length = m) (la : a.length = m) (lg : g.length = m) : ∀ (i : Nat) (o : List Nat), i ≤ m → Rs p m o → Cg p m (nN o) (hor m (nN lo) (nN g) (nN a) (m - i)) →
  Rs p m (mulN p lo a (g.take i).reverse o) ∧ Cg p m (nN (mulN p lo a (g.take i).reverse o)) (pm m (nN lo) (nN a) (nN g))
 | 0, o, _, ho, h => by rw [List.take_zero, List.reverse_nil, mulN]; exact ⟨ho, h⟩
 | i + 1, o, hi, ho, h => by
  rw [take_rev (by omega), mulN]
  obtain ⟨h1, h2⟩ := stepN_ok hp hm hlo la (g[i]'(by omega)) ho
  refine mulN_ok hp hm hlo la lg i _ (by omega) h1 ?_
  rw [show m - i = (m - (i + 1)) + 1 by omega, hor, show m - (m - (i + 1) + 1) = i by omega]
  have e : nN g i = ((g[i]'(by omega) : Nat) : Int) := by
   show (castL _).getD i 0 = _
   unfold castL
   rw [List.getD_eq_getElem?_getD, List.getElem?_map, List.getElem?_eq_getElem (show i < g.length by omega)]; rfl
  rw [e]
  exact h2.trans ((h.tX _).add (Cg.refl _))
structure Lo (p m : Nat) (md : List Int) (lo : List Nat) : Prop where
 len : lo.length = m
 lt : Lt p lo
 low : ∀ j, j < m → nN lo j = lowf m md j
theorem hor_lo {p : Int} {m : Nat} {l l' b x : Nat → Int} (hm : 1 ≤ m) (h : ∀ j, j < m → l j = l' j) : ∀ d, Cg p m (hor m l b x d) (hor m l' b x d)
 | 0 => Cg.refl _
 | d + 1 => by
  rw [hor, hor]
  refine Cg.add (((hor_lo hm h d).tX l).trans ?_) (Cg.refl _)
  exact Cg.of_eq fun j hj => by unfold tX; rw [h j hj]
theorem codeN_el {p m : Nat} (hp : 0 < p) {o : List Nat} (ho : Rs p m o) : El ((p : Int) ^ m) (codeN p o) ∧ Cg p m (dg p m (codeN p o)) (nN o) := by
 rw [codeN_val]
 rcases ho.1 with h | h
 ·subst h
  have hq : (0 : Int) < (p : Int) ^ m := Int.pow_pos (by omega)
  refine ⟨⟨Int.le_refl _, hq⟩, ?_⟩
  show Cg p m (dg p m 0) _
  rw [dg_zero, nN_nil]
  exact Cg.refl _
 ·have hl : (castL o).length = m := by rw [castL_length, h]
  refine ⟨el_val (by omega) ho.2.dgt hl, ?_⟩
  rw [dg_val (by omega) ho.2.dgt hl]
  exact Cg.refl _
theorem mulN_mu {p m : Nat} {md : List Int} {lo a g : List Nat} (hp : 2 ≤ p) (hp2 : p ≤ 256) (hm : 1 ≤ m) (hmd : Dgt (p : Int) md) (L : Lo p m md lo) (la : a.length = m) (lg : g.length = m) (ha : Lt p a) (hg : Lt p g) :
  Rs p m (mulN p lo a g.reverse []) ∧ (codeN p (mulN p lo a g.reverse []) : Int) = mu p m md (codeN p a) (codeN p g) := by
 have h := mulN_ok (show 0 < p by omega) hm L.len la lg m [] (Nat.le_refl m) ⟨Or.inl rfl, fun _ h => by cases h⟩ (by rw [Nat.sub_self, hor, nN_nil]; exact Cg.refl _)
 rw [show g.take m = g by rw [← lg]; exact List.take_length] at h
 obtain ⟨h1, h2⟩ := h
 refine ⟨h1, ?_⟩
 obtain ⟨h3, h4⟩ := codeN_el (show 0 < p by omega) h1
 refine el_eq (by omega) h3 (mu_el (by omega) (by omega) hmd _ _) (h4.trans (h2.trans (Cg.trans (hor_lo hm L.low m) ?_)))
 refine Cg.trans ?_ (mu_cg (by omega) (by omega) hm hmd _ _).symm
 exact pm_cg _ hm (codeN_el (show 0 < p by omega) ⟨Or.inr la, ha⟩).2.symm (codeN_el (show 0 < p by omega) ⟨Or.inr lg, hg⟩).2.symm
theorem genN_ok {p m : Nat} {md : List Int} {lo g : List Nat} (hp : 2 ≤ p) (hp2 : p ≤ 256) (hm : 1 ≤ m) (hmd : Dgt (p : Int) md) (L : Lo p m md lo) (lg : g.length = m) (hg : Lt p g) :
  ∀ (n j : Nat) (z : List Nat) (mask : Nat), Rs p m z → (codeN p z : Int) = pwr (mu p m md) (codeN p g) j → (∀ c, mask.testBit c = true ↔ ∃ i, i < j ∧ pwr (mu p m md) (codeN p g) i = c) → genN p lo g.reverse n z mask = true →
  (∀ i, i < n → pwr (mu p m md) (codeN p g) (j + i) ≠ 0 ∧ ∀ i', i' < j + i → pwr (mu p m md) (codeN p g) i' ≠ pwr (mu p m md) (codeN p g) (j + i)) ∧ pwr (mu p m md) (codeN p g) (j + n) = 1
 | 0, j, z, mask, hz, hc, hmask, h => by
  rw [genN] at h
  refine ⟨fun i hi => by omega, ?_⟩
  rw [Nat.add_zero, ← hc, beq_iff_eq.1 h]; rfl
 | n + 1, j, z, mask, hz, hc, hmask, h => by
  rw [genN] at h
  simp only [Bool.and_eq_true, Bool.not_eq_true', beq_eq_false_iff_ne] at h
  obtain ⟨⟨h1, h2⟩, h3⟩ := h
  have hzl : z.length = m := by
   rcases hz.1 with e | e
   ·subst e; exact absurd rfl h1
   ·exact e
  obtain ⟨r1, r2⟩ := mulN_mu hp hp2 hm hmd L hzl lg hz.2 hg
  have ih := genN_ok hp hp2 hm hmd L lg hg n (j + 1) _ _ r1 (by rw [r2, hc]; rfl) (fun c => by
   rw [Nat.testBit_or, Bool.or_eq_true, hmask, Nat.testBit_two_pow, decide_eq_true_eq]
   constructor
   ·rintro (⟨i, hi, e⟩ | e)
    ·exact ⟨i, by omega, e⟩
    ·exact ⟨j, by omega, by rw [← hc, e]⟩
   ·rintro ⟨i, hi, e⟩
    by_cases hij : i = j
    ·right; rw [hij, ← hc] at e; omega
    ·left; exact ⟨i, by omega, e⟩) h3
  have hj : pwr (mu p m md) (codeN p g) j ≠ 0 ∧ ∀ i', i' < j → pwr (mu p m md) (codeN p g) i' ≠ pwr (mu p m md) (codeN p g) j := by
   refine ⟨by rw [← hc]; omega, fun i' hi' e => ?_⟩
   have := (hmask (codeN p z)).2 ⟨i', hi', by rw [e, hc]⟩
   rw [h2] at this; cases this
  refine ⟨fun i hi => ?_, by rw [← ih.2]; congr 1; omega⟩
  cases i with
  | zero => exact hj
  | succ i => rw [show j + (i + 1) = j + 1 + i by omega]; exact ih.1 i (by omega)
theorem PwSt.start {q : Nat} {mu : Int → Int → Int} {x : Int} (hq : 2 ≤ q) (h1 : mu 1 x = x) : PwSt q mu x [1] ((List.replicate q false).set 1 true) x where
 acc_eq := rfl
 z_eq := h1.symm
 len := by rw [List.length_set, List.length_replicate]
 cnt := by
  rw [List.count_set (by rw [List.length_replicate]; omega), List.getElem_replicate, List.count_replicate]; rfl
 mem := fun y => by
  rw [List.getD_eq_getElem?_getD, List.getElem?_set, List.length_replicate, List.mem_singleton]
  by_cases h : 1 = y
  ·rw [if_pos h, if_pos (by omega)]; exact ⟨fun _ => by omega, fun _ => rfl⟩
  ·rw [if_neg h, List.getElem?_replicate]
   refine ⟨fun hh => ?_, fun hh => by omega⟩
   split at hh <;> cases hh
 nz := fun y hy => by rw [List.mem_singleton.1 hy]; omega
 nd := by simp
theorem gen_of {q : Nat} {ad mu : Int → Int → Int} {ng : Int → Int} {x : Int} (R : Rng (q : Int) ad mu ng) (hx : El (q : Int) x) (h : ∀ i, i < q - 1 → pwr mu x i ≠ 0 ∧ ∀ i', i' < i → pwr mu x i' ≠ pwr mu x i) (hone : pwr mu x (q - 1) = 1) : Gen (q : Int) mu x (q - 1) := by
 have hq : 2 ≤ q := by have := R.two; omega
 have key : ∀ d, d + 1 ≤ q - 1 → ∃ acc seen z, PwSt q mu x acc seen z ∧ acc.length = d + 1 := by
  intro d
  induction d with
  | zero => exact fun _ => ⟨_, _, _, PwSt.start hq (R.mu1' hx), rfl⟩
  | succ d ih =>
   intro hd
   obtain ⟨acc, seen, z, S, hl⟩ := ih (by omega)
   have hz := S.z_eq
   rw [hl] at hz
   have hzE : El (q : Int) z := by rw [hz]; exact pwr_el R hx _
   have hh := h (d + 1) (by omega)
   have hz0 : 0 < z := by have := hzE.1; have := hh.1; omega
   refine ⟨_, _, _, S.step hz0 hzE.2 ?_, by rw [List.length_append, hl]; rfl⟩
   by_cases hs : seen.getD z.toNat false = true
   ·exfalso
    have := (S.mem z.toNat).1 hs
    rw [Int.toNat_of_nonneg (by omega), S.acc_eq] at this
    obtain ⟨i, hi, e⟩ := List.mem_map.1 this
    have hi := List.mem_range.1 hi
    exact hh.2 i (by omega) (by rw [e, hz])
   ·simpa using hs
 obtain ⟨acc, seen, z, S, hl⟩ := key (q - 2) (by omega)
 exact S.gen (ad := ad) (ng := ng) hx hq (by omega) hone
theorem codeN_dig {p : Nat} (hp : 2 ≤ p) {m x : Nat} (hx : x < p ^ m) : (codeN p (digN p m x) : Int) = x := by
 rw [codeN_val, digN_cast]
 have hlt : ((x : Nat) : Int) < ((p ^ m : Nat) : Int) := by omega
 rw [Int.natCast_pow] at hlt
 exact val_dig (by omega) m x (by omega) hlt
theorem genOk_gen {p m : Nat} {md : List Int} {lo : List Nat} (hp : 2 ≤ p) (hp2 : p ≤ 256) (hm : 1 ≤ m) (hmd : Dgt (p : Int) md) (L : Lo p m md lo) (h : genOk p m lo = true) :
  ∃ g, Gen ((p ^ m : Nat) : Int) (mu p m md) g (p ^ m - 1) := by
 unfold genOk at h
 obtain ⟨x, hx, h⟩ := List.any_eq_true.1 h
 have hx := List.mem_range.1 hx
 simp only [Bool.and_eq_true] at h
 have R := rng (P := (p : Int)) (M := m) (md := md) (by omega) (by omega) hm hmd
 rw [← Int.natCast_pow] at R
 have hq : 2 ≤ p ^ m := by have := R.two; omega
 have hD := digN_lt (show 0 < p by omega) m
 have hone := codeN_dig hp (show 1 < p ^ m by omega)
 have hc := codeN_dig hp hx
 obtain ⟨h1, h2⟩ := genN_ok hp hp2 hm hmd L (digN_length p m x) (hD x) (p ^ m - 1) 0 (digN p m 1) 0 ⟨Or.inr (digN_length ..), hD 1⟩ (by rw [hone]; rfl) (fun c => by
  rw [Nat.zero_testBit]
  exact ⟨fun h => (by cases h), fun ⟨i, hi, _⟩ => by omega⟩) h.2
 rw [Nat.zero_add] at h2
 refine ⟨_, gen_of R ?_ (fun i hi => ?_) h2⟩
 ·rw [hc]; exact ⟨by omega, by omega⟩
 ·have := h1 i hi
  rw [Nat.zero_add] at this; exact this
theorem zeroN_code (p : Nat) : ∀ l : List Nat, zeroN l = true → codeN p l = 0
 | [], _ => rfl
 | x :: l, h => by
  rw [zeroN, Bool.and_eq_true] at h
  rw [codeN, zeroN_code p l h.2, beq_iff_eq.1 h.1]; rfl
theorem zdOk_zd {p m : Nat} {md : List Int} {lo : List Nat} (hp : 2 ≤ p) (hp2 : p ≤ 256) (hm : 1 ≤ m) (hmd : Dgt (p : Int) md) (L : Lo p m md lo) (h : zdOk p m lo = true) :
  ∃ x y, El ((p ^ m : Nat) : Int) x ∧ El ((p ^ m : Nat) : Int) y ∧ x ≠ 0 ∧ y ≠ 0 ∧ mu p m md x y = 0 := by
 unfold zdOk at h
 obtain ⟨d, hd, h⟩ := List.any_eq_true.1 h
 simp only [Bool.and_eq_true, decide_eq_true_eq] at h
 obtain ⟨hd1, h⟩ := h
 obtain ⟨v, hv, h⟩ := List.any_eq_true.1 h
 unfold zdAt at h
 simp only [Bool.and_eq_true, decide_eq_true_eq] at h
 obtain ⟨⟨⟨h1, h2⟩, h3⟩, h4⟩ := h
 have hD := digN_lt (show 0 < p by omega) m
 have hpd : 0 < p ^ d := Nat.pow_pos (by omega)
 obtain ⟨_, hmu⟩ := mulN_mu hp hp2 hm hmd L (digN_length ..) (digN_length ..) (hD (codeN p (digN p d v) + p ^ d)) (hD (codeN p (quoN p (digN p d v).reverse (m - d + 1) (1 :: lo.reverse)).reverse))
 rw [zeroN_code p _ h4, codeN_dig hp h1, codeN_dig hp h2] at hmu
 exact ⟨_, _, ⟨by omega, by omega⟩, ⟨by omega, by omega⟩, by omega, by omega, hmu.symm⟩
end Go.Proofs.Ytkifipakikbhcaa.Hand
namespace Go.Proofs.Ytkifipakikbhcaa.Hand
open Ytkifipakikbhcaa.Ref
open Ytkifipakikbhcaa.Pg (field_powers.f field_powers.l0)
open Go.RowKit YtkifipakikbhcaaW.PrintWords YtkifipakikbhcaaW.PrintLast YtkifipakikbhcaaW.PrintMore
section
variable {P : Int} {M : Nat} {md : List Int} {q : Nat}
theorem powers_l0s (hP : 2 ≤ P) (hP2 : P ≤ 256) (hM : 1 ≤ M) (hM2 : M ≤ 8) (hmd : Dgt P md) (hml : 1 < M → md.length = M) (hq : P ^ M = q) (hq2 : q ≤ 256) {x : Int} (hx : El (q : Int) x) :
  ∀ (d k : Nat) (acc : List Int) (seen : List Bool) (z : Int), PwSt q (mu P M md) x acc seen z → q ≤ acc.length + d → d + 20 < k → El (q : Int) z →
  ∃ l seen' z', field_powers.l0 k x acc seen z P (M : Int) md = some l ∧ PwSt q (mu P M md) x l seen' z' ∧ El (q : Int) z' ∧ (z' = 0 ∨ z' ∈ l) := by
 intro d
 induction d with
 | zero =>
  intro k acc seen z S hd hk hz
  obtain ⟨k, rfl⟩ : ∃ k', k = k' + 1 := ⟨k - 1, by omega⟩
  have hlen := S.len
  have hcnt := S.cnt
  have hle : seen.count true ≤ seen.length := List.count_le_length
  have hall : seen.count true = seen.length := by omega
  rw [List.count_eq_length] at hall
  have hb : seen.getD z.toNat false = true := by
   have hlt : z.toNat < seen.length := by have := hz.1; have := hz.2; omega
   rw [List.getD_eq_getElem?_getD, List.getElem?_eq_getElem hlt]
   exact (hall _ (List.getElem_mem hlt)).symm
  have hm := (S.mem z.toNat).1 hb
  rw [Int.toNat_of_nonneg hz.1] at hm
  refine ⟨acc, seen, z, ?_, S, hz, Or.inr hm⟩
  rw [field_powers.l0]
  by_cases h0 : z = 0
  ·rw [if_pos h0]
  ·have hb' : rdOf false seen z = true := hb
   rw [if_neg h0, if_pos hz.1, if_pos (by have := hz.2; omega), if_pos hb']
 | succ d ih =>
  intro k acc seen z S hd hk hz
  obtain ⟨k, rfl⟩ : ∃ k', k = k' + 1 := ⟨k - 1, by omega⟩
  have hlen := S.len
  have hz1 := hz.1
  have hz2 := hz.2
  have hx1 := hx.1
  have hx2 := hx.2
  rw [field_powers.l0]
  by_cases h0 : z = 0
  ·rw [if_pos h0]; exact ⟨acc, seen, z, rfl, S, hz, Or.inl h0⟩
  ·rw [if_neg h0, if_pos hz.1, if_pos (by omega)]
   by_cases hb : seen.getD z.toNat false = true
   ·have hb' : rdOf false seen z = true := hb
    have hm := (S.mem z.toNat).1 hb
    rw [Int.toNat_of_nonneg hz.1] at hm
    rw [if_pos hb']; exact ⟨acc, seen, z, rfl, S, hz, Or.inr hm⟩
   ·have hb' : ¬ rdOf false seen z = true := hb
    have hcnt := S.cnt
    have hle : seen.count true ≤ seen.length := List.count_le_length
    rw [if_neg hb', if_pos (by omega), multiply_s (k := k) hP hP2 hM hM2 hmd hml (by omega) (by omega) (by omega) (by omega), Option.bind_some]
    refine ih k _ _ _ (S.step (by omega) hz2 (by simpa using hb)) (by rw [List.length_append]; simp; omega) (by omega) ?_
    have := mu_el (M := M) hP hP2 hmd z x
    rw [hq] at this
    exact this
theorem pwN_spec (hP : 2 ≤ P) (hP2 : P ≤ 256) (hM : 1 ≤ M) (hM2 : M ≤ 8) (hmd : Dgt P md) (hml : 1 < M → md.length = M) (hq : P ^ M = q) (hq2 : q ≤ 256) {x : Int} (hx : El (q : Int) x) :
  ∃ seen z, PwSt q (mu P M md) x (pwN P (M : Int) md (q : Int) x) seen z ∧ El (q : Int) z ∧ (z = 0 ∨ z ∈ pwN P (M : Int) md (q : Int) x) := by
 have R := rng hP hP2 hM hmd (M := M)
 rw [hq] at R
 have hqq := R.two
 obtain ⟨l, seen, z, e, S, hz, h⟩ := powers_l0s hP hP2 hM hM2 hmd hml hq hq2 hx q 4096 [1] _ x (PwSt.start (by omega) (R.mu1' hx)) (by omega) (by omega) hx
 have hp : pwN P (M : Int) md (q : Int) x = l := by
  unfold pwN field_powers.f
  rw [if_pos (by omega), if_pos (by omega), Int.toNat_natCast, Option.bind_some, if_pos (by rw [List.length_replicate]; omega)]
  have e' : field_powers.l0 4096 x [1] ((List.replicate q false).set (1 : Int).toNat true) x P (M : Int) md = some l := e
  rw [e']; rfl
 rw [hp]
 exact ⟨seen, z, S, hz, h⟩
theorem PwSt.last {q : Nat} {mu : Int → Int → Int} {x : Int} {acc : List Int} {seen : List Bool} {z : Int} (S : PwSt q mu x acc seen z) {i : Nat} (h : i < acc.length) : rd acc (i : Int) = pwr mu x i := by
 show acc.getD i 0 = _
 rw [S.acc_eq, List.getD_eq_getElem?_getD, List.getElem?_map, List.getElem?_range h]; rfl
theorem oneN_spec (hP : 2 ≤ P) (hP2 : P ≤ 256) (hM : 1 ≤ M) (hM2 : M ≤ 8) (hmd : Dgt P md) (hml : 1 < M → md.length = M) (hq : P ^ M = q) (hq2 : q ≤ 256) {x : Int} (hx : El (q : Int) x) (hl : ((pwN P (M : Int) md (q : Int) x).length : Int) = (q : Int) - 1) :
  oneN P (M : Int) md (q : Int) x = pwr (mu P M md) x (q - 1) := by
 have R := rng hP hP2 hM hmd (M := M)
 rw [hq] at R
 have hqq := R.two
 have hx1 := hx.1
 have hx2 := hx.2
 obtain ⟨seen, z, S, _⟩ := pwN_spec hP hP2 hM hM2 hmd hml hq hq2 hx
 have e := S.last (i := q - 2) (by omega)
 rw [show ((q - 2 : Nat) : Int) = (q : Int) - 2 by omega] at e
 have hE := pwr_el R hx (q - 2)
 have hE1 := hE.1
 have hE2 := hE.2
 unfold oneN
 rw [e, multiply_s hP hP2 hM hM2 hmd hml (by omega) (by omega) (by omega) (by omega)]
 rw [show q - 1 = (q - 2) + 1 by omega]
 rfl
theorem genL_nil {pw : Int → List Int} {one : Int → Int} {q : Int} : ∀ (d : Nat) (x : Int), 2 ≤ q → genL pw one q d x = [] → ∀ y, x ≤ y → y < x + d → ¬ (((pw y).length : Int) = q - 1 ∧ one y = 1)
 | 0, x, _, _, y, h1, h2 => by omega
 | d + 1, x, hq, h, y, h1, h2 => by
  rw [genL] at h
  split at h
  ·rename_i hh
   rw [h] at hh
   simp at hh; omega
  ·rename_i hh
   by_cases e : y = x
   ·rw [e]; exact hh
   ·exact genL_nil d (x + 1) hq h y (by omega) (by push_cast at h2; omega)
theorem genL_some {pw : Int → List Int} {one : Int → Int} {q : Int} : ∀ (d : Nat) (x : Int), genL pw one q d x ≠ [] → ∃ y, x ≤ y ∧ y < x + d ∧ genL pw one q d x = pw y ∧ ((pw y).length : Int) = q - 1 ∧ one y = 1
 | 0, x, h => by rw [genL] at h; exact absurd rfl h
 | d + 1, x, h => by
  rw [genL] at h ⊢
  split at h
  ·rename_i hh
   rw [if_pos hh]
   exact ⟨x, Int.le_refl x, by push_cast; omega, rfl, hh.1, hh.2⟩
  ·rename_i hh
   rw [if_neg hh]
   obtain ⟨y, h1, h2, h3⟩ := genL_some d (x + 1) h
   exact ⟨y, by omega, by push_cast; omega, h3⟩
theorem exN_some (hP : 2 ≤ P) (hP2 : P ≤ 256) (hM : 1 ≤ M) (hM2 : M ≤ 8) (hmd : Dgt P md) (hml : 1 < M → md.length = M) (hq : P ^ M = q) (hq2 : q ≤ 256) (h : exN P (M : Int) md (q : Int) ≠ []) :
  ∃ g, Gen (q : Int) (mu P M md) g (q - 1) ∧ exN P (M : Int) md (q : Int) = (List.range (q - 1)).map (pwr (mu P M md) g) := by
 have R := rng hP hP2 hM hmd (M := M)
 rw [hq] at R
 have hqq := R.two
 unfold exN at h ⊢
 obtain ⟨g, h1, h2, h3, h4, h5⟩ := genL_some _ _ h
 have hg : El (q : Int) g := ⟨by omega, by omega⟩
 obtain ⟨seen, z, S, _⟩ := pwN_spec hP hP2 hM hM2 hmd hml hq hq2 hg
 rw [oneN_spec hP hP2 hM hM2 hmd hml hq hq2 hg h4] at h5
 refine ⟨g, S.gen (ad := ad P M) (ng := ng P M) hg (by omega) (by omega) h5, ?_⟩
 rw [h3]
 have := S.acc_eq
 rwa [show (pwN P (M : Int) md (q : Int) g).length = q - 1 by omega] at this
theorem exN_ne (hP : 2 ≤ P) (hP2 : P ≤ 256) (hM : 1 ≤ M) (hM2 : M ≤ 8) (hmd : Dgt P md) (hml : 1 < M → md.length = M) (hq : P ^ M = q) (hq2 : q ≤ 256) {g : Int} (G : Gen (q : Int) (mu P M md) g (q - 1)) : exN P (M : Int) md (q : Int) ≠ [] := by
 have R := rng hP hP2 hM hmd (M := M)
 rw [hq] at R
 have hqq := R.two
 intro h
 have hg := G.el
 have hg1 := hg.1
 have hg2 := hg.2
 have hg0 : g ≠ 0 := by
  rintro rfl
  have h1 := G.per
  rw [show q - 1 = (q - 2) + 1 by omega] at h1
  have h2 : mu P M md (pwr (mu P M md) 0 (q - 2)) 0 = 1 := h1
  rw [R.mu0 (pwr_el R hg _)] at h2
  cases h2
 unfold exN at h
 refine genL_nil _ _ (by omega) h g (by omega) (by omega) ?_
 obtain ⟨seen, z, S, hz, hend⟩ := pwN_spec hP hP2 hM hM2 hmd hml hq hq2 hg
 have hzl := S.z_eq
 have hcnt := S.cnt
 have hlen := S.len
 have hlt : (pwN P (M : Int) md (q : Int) g).length < q := by
  have hle : seen.count true ≤ seen.length := List.count_le_length
  by_cases h : (pwN P (M : Int) md (q : Int) g).length < q
  ·exact h
  ·exfalso
   have hall : seen.count true = seen.length := by omega
   rw [List.count_eq_length] at hall
   have hb : seen.getD 0 false = true := by
    rw [List.getD_eq_getElem?_getD, List.getElem?_eq_getElem (show 0 < seen.length by omega)]
    exact (hall _ (List.getElem_mem _)).symm
   have := S.nz _ ((S.mem 0).1 hb)
   omega
 have hlen2 : ((pwN P (M : Int) md (q : Int) g).length : Int) = (q : Int) - 1 := by
  by_cases h : (pwN P (M : Int) md (q : Int) g).length = q - 1
  ·omega
  ·exfalso
   rcases hend with he | he
   ·rw [hzl] at he
    exact G.nz _ (by omega) he
   ·rw [S.acc_eq] at he
    obtain ⟨i, hi, e⟩ := List.mem_map.1 he
    have hi := List.mem_range.1 hi
    rw [hzl] at e
    have := G.inj i _ (by omega) (by omega) e
    omega
 exact ⟨hlen2, by rw [oneN_spec hP hP2 hM hM2 hmd hml hq hq2 hg hlen2]; exact G.per⟩
theorem exN_nil (hP : 2 ≤ P) (hP2 : P ≤ 256) (hM : 1 ≤ M) (hM2 : M ≤ 8) (hmd : Dgt P md) (hml : 1 < M → md.length = M) (hq : P ^ M = q) (hq2 : q ≤ 256) {x y : Int} (hx : El (q : Int) x) (hy : El (q : Int) y) (hx0 : x ≠ 0) (hy0 : y ≠ 0) (h : mu P M md x y = 0) : exN P (M : Int) md (q : Int) = [] := by
 have R := rng hP hP2 hM hmd (M := M)
 rw [hq] at R
 by_cases he : exN P (M : Int) md (q : Int) = []
 ·exact he
 ·obtain ⟨g, G, _⟩ := exN_some hP hP2 hM hM2 hmd hml hq hq2 he
  rcases G.dom R hx hy h with h | h
  ·exact absurd h hx0
  ·exact absurd h hy0
end
theorem logL_len : ∀ (e : List Int) (i : Nat) (l : List Int), (logL e i l).length = l.length
 | [], _, _ => rfl
 | x :: e, i, l => by rw [logL, logL_len e, List.length_set]
theorem logL_not {y : Nat} : ∀ (e : List Int) (i : Nat) (l : List Int), (∀ x ∈ e, 0 ≤ x) → (y : Int) ∉ e → nt (logL e i l) y = nt l y
 | [], _, _, _, _ => rfl
 | x :: e, i, l, h0, h => by
  have hx := h0 x (List.mem_cons_self ..)
  rw [logL, logL_not e (i + 1) _ (fun z hz => h0 z (List.mem_cons_of_mem _ hz)) (fun hh => h (List.mem_cons_of_mem _ hh))]
  refine nt_set_ne ?_
  rintro rfl
  exact h (by rw [Int.toNat_of_nonneg hx]; exact List.mem_cons_self ..)
theorem logL_at : ∀ (e : List Int) (i : Nat) (l : List Int), (∀ x ∈ e, 0 ≤ x ∧ x < l.length) → e.Nodup → ∀ j (hj : j < e.length), nt (logL e i l) (e[j]).toNat = ((i + j : Nat) : Int)
 | x :: e, i, l, h0, hn, j, hj => by
  have hx := h0 x (List.mem_cons_self ..)
  rw [List.nodup_cons] at hn
  cases j with
  | zero =>
   rw [List.getElem_cons_zero, logL, logL_not e (i + 1) _ (fun z hz => (h0 z (List.mem_cons_of_mem _ hz)).1) (by rw [Int.toNat_of_nonneg hx.1]; exact hn.1), nt_set_self (by omega)]; rfl
  | succ j =>
   rw [List.getElem_cons_succ, logL, logL_at e (i + 1) _ (fun z hz => by rw [List.length_set]; exact h0 z (List.mem_cons_of_mem _ hz)) hn.2 j (by simpa using hj)]
   congr 1; omega
end Go.Proofs.Ytkifipakikbhcaa.Hand
namespace Go.Proofs.Ytkifipakikbhcaa.Hand
theorem k_pr : ((List.range 257).all fun p => decide (p < 2) || primeOk p) = true := by decide +kernel
theorem k_2_2 : allOk 2 2 = true := by decide +kernel
theorem k_2_3 : allOk 2 3 = true := by decide +kernel
theorem k_2_4 : allOk 2 4 = true := by decide +kernel
theorem k_2_5 : allOk 2 5 = true := by decide +kernel
theorem k_2_6 : allOk 2 6 = true := by decide +kernel
theorem k_3_2 : allOk 3 2 = true := by decide +kernel
theorem k_3_3 : allOk 3 3 = true := by decide +kernel
theorem k_3_4 : allOk 3 4 = true := by decide +kernel
theorem k_5_2 : allOk 5 2 = true := by decide +kernel
theorem k_7_2 : allOk 7 2 = true := by decide +kernel
theorem k_2_7 : allOk 2 7 = true := by decide +kernel
theorem k_5_3 : allOk 5 3 = true := by decide +kernel
theorem k_11_2 : allOk 11 2 = true := by decide +kernel
theorem k_3_5_0 : allOkT 3 4 [0] = true := by decide +kernel
theorem k_3_5_1 : allOkT 3 4 [1] = true := by decide +kernel
theorem k_3_5_2 : allOkT 3 4 [2] = true := by decide +kernel
theorem k_13_2 : allOk 13 2 = true := by decide +kernel
theorem k_2_8_00 : allOkT 2 6 [0, 0] = true := by decide +kernel
theorem k_2_8_01 : allOkT 2 6 [0, 1] = true := by decide +kernel
theorem k_2_8_10 : allOkT 2 6 [1, 0] = true := by decide +kernel
theorem k_2_8_11 : allOkT 2 6 [1, 1] = true := by decide +kernel
end Go.Proofs.Ytkifipakikbhcaa.Hand
namespace Go.Proofs.Ytkifipakikbhcaa.Hand
open Ytkifipakikbhcaa.Ref
open Go.RowKit YtkifipakikbhcaaW.PrintWords YtkifipakikbhcaaW.PrintLast YtkifipakikbhcaaW.PrintMore
theorem lift {α : Type} {f : Nat → Option α} (h : ∀ k, LeO (f k) (f (k + 1))) {k k' : Nat} (hk : k ≤ k') {r : α} (e : f k = some r) : f k' = some r := by
 induction k' with
 | zero => rw [show k = 0 by omega] at e; exact e
 | succ n ih =>
  by_cases h1 : k = n + 1
  ·rw [← h1]; exact e
  ·exact h n r (ih (by omega))
theorem order_l0_md (md : List Int) (P M : Int) : ∀ (k : Nat) (x i : Int), r4_Order.l0 k x i P M md = r4_Order.l0 k x i P M []
 | 0, x, i => by rw [r4_Order.l0, r4_Order.l0]
 | k + 1, x, i => by rw [r4_Order.l0, r4_Order.l0, order_l0_md md P M k]
theorem order_md (k : Nat) (P M : Int) (md : List Int) : r4_Order.f k P M md = r4_Order.f k P M [] := by
 unfold r4_Order.f
 cases k with
 | zero => simp only [r4_Order.j0]
 | succ k => simp only [r4_Order.j0, order_l0_md md P M k]
def ordOk (p m : Nat) : Bool := match r4_Order.f 20 p m [], field_order.f 20 p m with | some a, some b => decide (a = b) && (decide (a = 0) || (decide (a = ((p ^ m : Nat) : Int)) && decide (p ^ m ≤ 256) && decide (2 ≤ p) && decide (1 ≤ m))) | _, _ => false
theorem ords : ((List.range 257).all fun p => (List.range 9).all fun m => ordOk p m) = true := by decide +kernel
theorem order_all (P M : Int) (md : List Int) : ∃ a, (∀ k, 20 ≤ k → r4_Order.f k P M md = some a) ∧ (∀ k, 20 ≤ k → field_order.f k P M = some a) ∧
  (a = 0 ∨ ∃ p m : Nat, P = p ∧ M = m ∧ 2 ≤ p ∧ p ≤ 256 ∧ 1 ≤ m ∧ m ≤ 8 ∧ p ^ m ≤ 256 ∧ a = ((p ^ m : Nat) : Int)) := by
 have key : ∀ a, r4_Order.f 20 P M [] = some a → field_order.f 20 P M = some a → (∀ k, 20 ≤ k → r4_Order.f k P M md = some a) ∧ (∀ k, 20 ≤ k → field_order.f k P M = some a) := by
  intro a h1 h2
  refine ⟨fun k hk => ?_, fun k hk => ?_⟩
  ·rw [order_md]; exact lift (f := fun k => r4_Order.f k P M []) (fun k => r4_Order.mono _ _ _ k) hk h1
  ·exact lift (f := fun k => field_order.f k P M) (fun k => field_order.mono _ _ k) hk h2
 have zero : r4_Order.f 20 P M [] = some 0 → field_order.f 20 P M = some 0 → ∃ a, (∀ k, 20 ≤ k → r4_Order.f k P M md = some a) ∧ (∀ k, 20 ≤ k → field_order.f k P M = some a) ∧
   (a = 0 ∨ ∃ p m : Nat, P = p ∧ M = m ∧ 2 ≤ p ∧ p ≤ 256 ∧ 1 ≤ m ∧ m ≤ 8 ∧ p ^ m ≤ 256 ∧ a = ((p ^ m : Nat) : Int)) := fun h1 h2 => ⟨0, (key 0 h1 h2).1, (key 0 h1 h2).2, Or.inl rfl⟩
 by_cases h1 : P < 2
 ·exact zero (by unfold r4_Order.f; rw [if_pos h1, r4_Order.j0, if_pos rfl]) (by unfold field_order.f; rw [if_pos h1, field_order.j0, if_pos rfl])
 by_cases h4 : P > 256
 ·refine zero ?_ (by unfold field_order.f; rw [if_neg h1, if_pos h4, field_order.j0, if_pos rfl])
  unfold r4_Order.f
  have he : (256 : Int) / P = 0 := Int.ediv_eq_zero_of_lt (by omega) (by omega)
  by_cases h2 : M < 1
  ·rw [if_neg h1, if_pos h2, r4_Order.j0, if_pos rfl]
  by_cases h3 : M > 8
  ·rw [if_neg h1, if_neg h2, r4_Order.j0, if_pos (det h3)]
  ·rw [if_neg h1, if_neg h2, r4_Order.j0, if_neg (by simp; omega), r4_Order.l0, if_pos (by omega), if_neg (by omega), he, if_pos (by unfold wrap64; decide)]
 by_cases h2 : M < 1
 ·exact zero (by unfold r4_Order.f; rw [if_neg h1, if_pos h2, r4_Order.j0, if_pos rfl]) (by unfold field_order.f; rw [if_neg h1, if_neg h4, if_pos h2, field_order.j0, if_pos rfl])
 by_cases h3 : M > 8
 ·exact zero (by unfold r4_Order.f; rw [if_neg h1, if_neg h2, r4_Order.j0, if_pos (det h3)]) (by unfold field_order.f; rw [if_neg h1, if_neg h4, if_neg h2, field_order.j0, if_pos (det h3)])
 ·obtain ⟨p, rfl⟩ := Int.eq_ofNat_of_zero_le (show 0 ≤ P by omega)
  obtain ⟨m, rfl⟩ := Int.eq_ofNat_of_zero_le (show 0 ≤ M by omega)
  have h := List.all_eq_true.1 (List.all_eq_true.1 ords p (List.mem_range.2 (by omega))) m (List.mem_range.2 (by omega))
  unfold ordOk at h
  split at h
  ·rename_i a b ha hb
   simp only [Bool.or_eq_true, Bool.and_eq_true, decide_eq_true_eq] at h
   obtain ⟨rfl, h⟩ := h
   refine ⟨a, (key a ha hb).1, (key a ha hb).2, ?_⟩
   rcases h with h | h
   ·exact Or.inl h
   ·exact Or.inr ⟨p, m, rfl, rfl, h.1.2, by omega, h.2, by omega, h.1.1.2, h.1.1.1⟩
  ·cases h
theorem mem_tuplesN {p : Nat} : ∀ {m : Nat} {l : List Nat}, l.length = m → Lt p l → l ∈ tuplesN p m
 | 0, l, h, _ => by rw [List.length_eq_zero_iff.1 h, tuplesN]; exact List.mem_singleton.2 rfl
 | m + 1, [], h, _ => by simp at h
 | m + 1, x :: l, h, hD => by
  rw [tuplesN, List.mem_flatMap]
  exact ⟨l, mem_tuplesN (by simpa using h) hD.tail, List.mem_map.2 ⟨x, List.mem_range.2 (hD x (List.mem_cons_self ..)), rfl⟩⟩
theorem fldOk_all {p m : Nat} {lo : List Nat} (h : allOk p m = true) (hl : lo.length = m) (hD : Lt p lo) : fldOk p m lo = true := List.all_eq_true.1 h lo (mem_tuplesN hl hD)
theorem fldOk_tl {p m t : Nat} {lo : List Nat} (h : ∀ tl : List Nat, tl.length = t → Lt p tl → allOkT p m tl = true) (hl : lo.length = m + t) (hD : Lt p lo) : fldOk p (m + t) lo = true := by
 have hd : (lo.drop m).length = t := by rw [List.length_drop]; omega
 have := List.all_eq_true.1 (h (lo.drop m) hd (fun x hx => hD x (List.mem_of_mem_drop hx))) (lo.take m) (mem_tuplesN (by rw [List.length_take]; omega) (fun x hx => hD x (List.mem_of_mem_take hx)))
 rw [List.take_append_drop, hd] at this
 exact this
theorem noprimes : ([4, 6, 8, 9, 10, 12, 14, 15, 16].all fun (p : Nat) => r4_prime.f 300 (p : Int) == some false) = true := by decide +kernel
theorem fldOk_pm {p m : Nat} {lo : List Nat} (hp : 2 ≤ p) (hm : 2 ≤ m) (hq : p ^ m ≤ 256) (hpr : r4_prime.f 300 (p : Int) = some true) (hl : lo.length = m) (hD : Lt p lo) : fldOk p m lo = true := by
 have hp2 : p ^ 2 ≤ p ^ m := Nat.pow_le_pow_right (by omega) hm
 have hp6 : p < 17 := by
  by_cases h : p < 17
  ·exact h
  ·have : 17 ^ 2 ≤ p ^ 2 := Nat.pow_le_pow_left (by omega) 2
   omega
 have no : p ∉ [4, 6, 8, 9, 10, 12, 14, 15, 16] := fun h => by
  have := List.all_eq_true.1 noprimes p h
  rw [hpr] at this; simp at this
 have c : p = 2 ∨ p = 3 ∨ p = 5 ∨ p = 7 ∨ p = 11 ∨ p = 13 := by
  simp only [List.mem_cons, List.not_mem_nil] at no
  omega
 have hm9 : m < 9 := by
  by_cases h : m < 9
  ·exact h
  ·have h1 : 2 ^ 9 ≤ 2 ^ m := Nat.pow_le_pow_right (by omega) (by omega)
   have h2 : 2 ^ m ≤ p ^ m := Nat.pow_le_pow_left hp m
   omega
 have d : m = 2 ∨ m = 3 ∨ m = 4 ∨ m = 5 ∨ m = 6 ∨ m = 7 ∨ m = 8 := by omega
 have h28 : p = 2 → m = 8 → fldOk p m lo = true := by
  rintro rfl rfl
  refine fldOk_tl (p := 2) (m := 6) (t := 2) (fun tl ht hT => ?_) hl hD
  match tl, ht with
  | [a, b], _ =>
   have ha := hT a (List.mem_cons_self ..)
   have hb := hT b (List.mem_cons_of_mem _ (List.mem_cons_self ..))
   have ca : a = 0 ∨ a = 1 := by omega
   have cb : b = 0 ∨ b = 1 := by omega
   rcases ca with rfl | rfl <;> rcases cb with rfl | rfl
   ·exact k_2_8_00
   ·exact k_2_8_01
   ·exact k_2_8_10
   ·exact k_2_8_11
 have h35 : p = 3 → m = 5 → fldOk p m lo = true := by
  rintro rfl rfl
  refine fldOk_tl (p := 3) (m := 4) (t := 1) (fun tl ht hT => ?_) hl hD
  match tl, ht with
  | [a], _ =>
   have ha := hT a (List.mem_cons_self ..)
   have ca : a = 0 ∨ a = 1 ∨ a = 2 := by omega
   rcases ca with rfl | rfl | rfl
   ·exact k_3_5_0
   ·exact k_3_5_1
   ·exact k_3_5_2
 rcases c with rfl | rfl | rfl | rfl | rfl | rfl <;> rcases d with rfl | rfl | rfl | rfl | rfl | rfl | rfl <;> first
  | exact h28 rfl rfl
  | exact h35 rfl rfl
  | exact fldOk_all k_2_2 hl hD
  | exact fldOk_all k_2_3 hl hD
  | exact fldOk_all k_2_4 hl hD
  | exact fldOk_all k_2_5 hl hD
  | exact fldOk_all k_2_6 hl hD
  | exact fldOk_all k_2_7 hl hD
  | exact fldOk_all k_3_2 hl hD
  | exact fldOk_all k_3_3 hl hD
  | exact fldOk_all k_3_4 hl hD
  | exact fldOk_all k_5_2 hl hD
  | exact fldOk_all k_5_3 hl hD
  | exact fldOk_all k_7_2 hl hD
  | exact fldOk_all k_11_2 hl hD
  | exact fldOk_all k_13_2 hl hD
  | exact absurd hq (by decide)
def dgtB (P : Int) (l : List Int) : Bool := l.all fun x => decide (0 ≤ x) && decide (x < P)
theorem dgtB_iff {P : Int} {l : List Int} : dgtB P l = true ↔ Dgt P l := by
 unfold dgtB Dgt
 rw [List.all_eq_true]
 constructor
 ·intro h x hx
  have := h x hx
  simp only [Bool.and_eq_true, decide_eq_true_eq] at this
  exact this
 ·intro h x hx
  simp only [Bool.and_eq_true, decide_eq_true_eq]
  exact h x hx
theorem check_l0 {P : Int} {m : Nat} {md : List Int} (hl : md.length = m) (hm : m ≤ 8) : ∀ (d k i : Nat), d = m - i → i ≤ m → d < k →
  r4_Check.l0 k (i : Int) P (m : Int) md = if dgtB P (md.drop i) = true then (r4_irreducible.f (k - d - 1) md P).bind fun t => if t = true then some 0 else some 1 else some 1 := by
 intro d
 induction d with
 | zero =>
  intro k i hd hi hk
  obtain ⟨k, rfl⟩ : ∃ k', k = k' + 1 := ⟨k - 1, by omega⟩
  rw [r4_Check.l0, if_neg (by omega), show i = md.length by omega, List.drop_length, if_pos (show dgtB P [] = true from rfl)]; rfl
 | succ d ih =>
  intro k i hd hi hk
  obtain ⟨k, rfl⟩ : ∃ k', k = k' + 1 := ⟨k - 1, by omega⟩
  have ih := ih k (i + 1) (by omega) (by omega) (by omega)
  rw [r4_Check.l0, if_pos (by omega), if_pos (by omega), if_pos (by omega), w64_succ (n := 9) (by omega) (by omega), ih, rd_drop (show i < md.length by omega)]
  unfold dgtB
  rw [List.all_cons, show k + 1 - (d + 1) - 1 = k - d - 1 by omega]
  by_cases h1 : rd md (i : Int) < 0
  ·rw [if_pos h1, dff (show ¬ 0 ≤ rd md (i : Int) by omega)]; rfl
  ·rw [if_neg h1, det (show 0 ≤ rd md (i : Int) by omega)]
   by_cases h2 : rd md (i : Int) ≥ P
   ·rw [if_pos h2, dff (show ¬ rd md (i : Int) < P by omega)]; rfl
   ·rw [if_neg h2, det (show rd md (i : Int) < P by omega)]; rfl
theorem shape_l0 {P M : Int} {md : List Int} (hm : md.length ≤ 8) (x : Int) : ∀ (d k i : Nat), d = md.length - i → i ≤ md.length → d < k →
  field_shape.l0 k md (md.length : Int) (i : Int) P M md = some (dgtB P (md.drop i)) := by
 intro d
 induction d with
 | zero =>
  intro k i hd hi hk
  obtain ⟨k, rfl⟩ : ∃ k', k = k' + 1 := ⟨k - 1, by omega⟩
  rw [field_shape.l0, if_neg (by omega), show i = md.length by omega, List.drop_length]; rfl
 | succ d ih =>
  intro k i hd hi hk
  obtain ⟨k, rfl⟩ : ∃ k', k = k' + 1 := ⟨k - 1, by omega⟩
  have ih := ih k (i + 1) (by omega) (by omega) (by omega)
  rw [field_shape.l0, if_pos (by omega), if_pos (by omega), if_pos (by omega), w64_succ (n := 9) (by omega) (by omega), ih, rd_drop (show i < md.length by omega)]
  unfold dgtB
  rw [List.all_cons]
  by_cases h1 : rd md (i : Int) < 0
  ·rw [if_pos h1, dff (show ¬ 0 ≤ rd md (i : Int) by omega)]; rfl
  ·rw [if_neg h1, det (show 0 ≤ rd md (i : Int) by omega)]
   by_cases h2 : rd md (i : Int) ≥ P
   ·rw [if_pos h2, dff (show ¬ rd md (i : Int) < P by omega)]; rfl
   ·rw [if_neg h2, det (show rd md (i : Int) < P by omega)]; rfl
structure Fl (P : Int) (M : Nat) (md : List Int) (q : Nat) (ex lg : List Int) (g : Int) : Prop where
 P2 : 2 ≤ P
 P256 : P ≤ 256
 M1 : 1 ≤ M
 M8 : M ≤ 8
 hmd : Dgt P md
 hml : 1 < M → md.length = M
 hpow : P ^ M = (q : Int)
 q256 : q ≤ 256
 gen : Gen (q : Int) (mu P M md) g (q - 1)
 exs : ex = (List.range (q - 1)).map (pwr (mu P M md) g)
 lgl : lg.length = q
 lgs : ∀ i, i < q - 1 → nt lg (pwr (mu P M md) g i).toNat = i
 make : newO P M md = some (some ((q : Int), ex, lg))
 ord : ∀ k, 20 ≤ k → r4_Order.f k P M md = some (q : Int)
 chk : ∀ k, 400 ≤ k → r4_Check.f k P M md = some 0
theorem newO_shape {P M : Int} {md : List Int} (h : field_shape.f 4096 P M md = some false) : newO P M md = some none := by
 unfold newO
 rw [h, Option.bind_some, if_neg (by simp)]
theorem newO_some {p m : Nat} {md : List Int} (hp : 2 ≤ p) (hp2 : p ≤ 256) (hm : 1 ≤ m) (hm2 : m ≤ 8) (hq : p ^ m ≤ 256) (hmd : Dgt (p : Int) md) (hml : 1 < m → md.length = m) (hl8 : md.length ≤ 8)
  (hs : field_shape.f 4096 (p : Int) (m : Int) md = some true) (ho : field_order.f 4096 (p : Int) (m : Int) = some ((p ^ m : Nat) : Int)) (hro : ∀ k, 20 ≤ k → r4_Order.f k (p : Int) (m : Int) md = some ((p ^ m : Nat) : Int))
  (hchk : ∀ k, 400 ≤ k → r4_Check.f k (p : Int) (m : Int) md = some 0) {g0 : Int} (G0 : Gen ((p ^ m : Nat) : Int) (mu p m md) g0 (p ^ m - 1)) : ∃ ex lg g, Fl (p : Int) m md (p ^ m) ex lg g := by
 have hpow : (p : Int) ^ m = ((p ^ m : Nat) : Int) := by rw [Int.natCast_pow]
 have R := rng (P := (p : Int)) (M := m) (md := md) (by omega) (by omega) hm hmd
 rw [hpow] at R
 have hq2 : 2 ≤ p ^ m := by have := R.two; omega
 have hne := exN_ne (by omega) (by omega) hm hm2 hmd hml hpow hq G0
 obtain ⟨g, G, he⟩ := exN_some (by omega) (by omega) hm hm2 hmd hml hpow hq hne
 have hE : ∀ x ∈ exN (p : Int) (m : Int) md ((p ^ m : Nat) : Int), 0 ≤ x ∧ x < ((p ^ m : Nat) : Int) := fun x hx => by
  rw [he] at hx
  obtain ⟨i, _, rfl⟩ := List.mem_map.1 hx
  exact pwr_el R G.el i
 refine ⟨exN (p : Int) (m : Int) md ((p ^ m : Nat) : Int), logL (exN (p : Int) (m : Int) md ((p ^ m : Nat) : Int)) 0 (List.replicate (p ^ m) 0), g, by omega, by omega, hm, hm2, hmd, hml, hpow, hq, G, he, by rw [logL_len, List.length_replicate], ?_, ?_, hro, hchk⟩
 ·intro i hi
  have hn : (exN (p : Int) (m : Int) md ((p ^ m : Nat) : Int)).Nodup := by
   rw [he, List.nodup_iff_pairwise_ne, List.pairwise_map]
   exact List.Pairwise.imp_of_mem (fun {a b} ha hb hab => fun h => hab (G.inj a b (List.mem_range.1 ha) (List.mem_range.1 hb) h)) List.nodup_range
  have h := logL_at (exN (p : Int) (m : Int) md ((p ^ m : Nat) : Int)) 0 (List.replicate (p ^ m) 0) (fun x hx => by rw [List.length_replicate]; exact hE x hx) hn i (by rw [he, List.length_map, List.length_range]; exact hi)
  have e : (exN (p : Int) (m : Int) md ((p ^ m : Nat) : Int))[i]'(by rw [he, List.length_map, List.length_range]; exact hi) = pwr (mu p m md) g i := by
   have : (exN (p : Int) (m : Int) md ((p ^ m : Nat) : Int))[i]? = some (pwr (mu p m md) g i) := by rw [he, List.getElem?_map, List.getElem?_range hi]; rfl
   rw [List.getElem?_eq_getElem (by rw [he, List.length_map, List.length_range]; exact hi)] at this
   exact osi this
  rw [e, Nat.zero_add] at h
  exact h
 ·have hna := newAll_true (P := (p : Int)) (M := m) (md := md) (by omega) (by omega) hm hm2 hmd hml hpow hq hq2
  unfold newO
  rw [hs, Option.bind_some, if_pos rfl, ho, Option.bind_some, if_pos ⟨by omega, by omega, hl8⟩, if_pos hna, if_neg hne, if_pos ⟨List.all_eq_true.2 fun x hx => det (hE x hx), by rw [he, List.length_map, List.length_range]; omega⟩, Int.toNat_natCast]
theorem newO_none {p m : Nat} {md : List Int} (hp : 2 ≤ p) (hp2 : p ≤ 256) (hm : 1 ≤ m) (hm2 : m ≤ 8) (hq : p ^ m ≤ 256) (hmd : Dgt (p : Int) md) (hml : 1 < m → md.length = m) (hl8 : md.length ≤ 8)
  (hs : field_shape.f 4096 (p : Int) (m : Int) md = some true) (ho : field_order.f 4096 (p : Int) (m : Int) = some ((p ^ m : Nat) : Int)) {x y : Int} (hx : El ((p ^ m : Nat) : Int) x) (hy : El ((p ^ m : Nat) : Int) y) (hx0 : x ≠ 0) (hy0 : y ≠ 0) (h : mu p m md x y = 0) : newO (p : Int) (m : Int) md = some none := by
 have hpow : (p : Int) ^ m = ((p ^ m : Nat) : Int) := by rw [Int.natCast_pow]
 have R := rng (P := (p : Int)) (M := m) (md := md) (by omega) (by omega) hm hmd
 rw [hpow] at R
 have hq2 : 2 ≤ p ^ m := by have := R.two; omega
 have hnil := exN_nil (by omega) (by omega) hm hm2 hmd hml hpow hq hx hy hx0 hy0 h
 have hna := newAll_true (P := (p : Int)) (M := m) (md := md) (by omega) (by omega) hm hm2 hmd hml hpow hq hq2
 unfold newO
 rw [hs, Option.bind_some, if_pos rfl, ho, Option.bind_some, if_pos ⟨by omega, by omega, hl8⟩, if_pos hna, if_pos hnil]
theorem castL_toNat {P : Int} {md : List Int} (h : Dgt P md) : castL (md.map Int.toNat) = md := by
 unfold castL
 rw [List.map_map]
 conv => rhs; rw [← List.map_id md]
 exact List.map_congr_left fun x hx => Int.toNat_of_nonneg (h x hx).1
theorem fld_all (P M : Int) (md : List Int) : (∃ (m q : Nat) (ex lg : List Int) (g : Int), M = m ∧ Fl P m md q ex lg g) ∨ (newO P M md = some none ∧ ∀ k, 400 ≤ k → r4_Check.f k P M md = some 1) := by
 obtain ⟨a, hro, hfo, ha⟩ := order_all P M md
 rcases ha with ha | ⟨p, m, rfl, rfl, hp, hp2, hm, hm2, hq, ha⟩
 ·subst ha
  refine Or.inr ⟨newO_shape ?_, fun k hk => ?_⟩
  ·unfold field_shape.f
   rw [hfo _ (by omega), Option.bind_some, if_pos rfl, field_shape.j0, if_pos rfl]
  ·obtain ⟨k, rfl⟩ : ∃ k', k = k' + 1 := ⟨k - 1, by omega⟩
   unfold r4_Check.f
   rw [hro _ (by omega), Option.bind_some, if_pos rfl, r4_Check.j0, if_pos rfl]
 ·have hq0 : a ≠ 0 := by
   have : 0 < p ^ m := Nat.pow_pos (by omega)
   omega
  have hpr := List.all_eq_true.1 k_pr p (List.mem_range.2 (by omega))
  rw [dff (by omega), Bool.false_or] at hpr
  unfold primeOk at hpr
  split at hpr
  ·rename_i b c hb hc
   rw [Bool.and_eq_true, beq_iff_eq] at hpr
   obtain ⟨rfl, hg1⟩ := hpr
   have hb' : ∀ k, 300 ≤ k → r4_prime.f k (p : Int) = some b := fun k hk => lift (f := fun k => r4_prime.f k (p : Int)) (fun k => r4_prime.mono _ k) hk hb
   have hc' : ∀ k, 300 ≤ k → field_isPrime.f k (p : Int) = some b := fun k hk => lift (f := fun k => field_isPrime.f k (p : Int)) (fun k => field_isPrime.mono _ k) hk hc
   have hS : field_shape.f 4096 (p : Int) (m : Int) md = field_shape.j0 4096 (!b) (p : Int) (m : Int) md := by
    unfold field_shape.f
    rw [hfo _ (by omega), Option.bind_some, if_neg hq0, hc' _ (by omega), Option.bind_some]
   have hC : ∀ k, 400 ≤ k → r4_Check.f k (p : Int) (m : Int) md = r4_Check.j0 k (!b) (p : Int) (m : Int) md := fun k hk => by
    unfold r4_Check.f
    rw [hro _ (by omega), Option.bind_some, if_neg hq0, hb' _ (by omega), Option.bind_some]
   cases b with
   | false =>
    refine Or.inr ⟨newO_shape (by rw [hS]; rfl), fun k hk => ?_⟩
    rw [hC k hk]
    obtain ⟨k, rfl⟩ : ∃ k', k = k' + 1 := ⟨k - 1, by omega⟩
    rfl
   | true =>
    by_cases h1 : (m : Int) = 1
    ·by_cases h2 : (md.length : Int) = 0
     ·have hmd : md = [] := List.length_eq_zero_iff.1 (by omega)
      have hm1 : m = 1 := by omega
      subst hmd hm1
      have hD : Dgt (p : Int) [] := fun x hx => by cases hx
      have L : Lo p 1 [] [0] := ⟨rfl, fun x hx => by rw [List.mem_singleton.1 hx]; omega, fun j hj => by rw [show j = 0 by omega]; rfl⟩
      obtain ⟨g0, G0⟩ := genOk_gen hp hp2 hm hD L (by simpa using hg1)
      obtain ⟨ex, lg, g, hF⟩ := newO_some hp hp2 hm hm2 hq hD (fun h => by omega) (by simp) (by rw [hS, field_shape.j0, if_neg (by simp), if_pos h1]; rfl) (by rw [hfo _ (by omega), ha]) (fun k hk => by rw [hro k hk, ha]) (fun k hk => by
       rw [hC k hk]
       obtain ⟨k, rfl⟩ : ∃ k', k = k' + 1 := ⟨k - 1, by omega⟩
       rw [r4_Check.j0, if_neg (by simp), if_pos h1, if_pos h2]) G0
      exact Or.inl ⟨1, p ^ 1, ex, lg, g, rfl, hF⟩
     ·refine Or.inr ⟨newO_shape (by rw [hS, field_shape.j0, if_neg (by simp), if_pos h1]; congr 1; simpa using h2), fun k hk => ?_⟩
      rw [hC k hk]
      obtain ⟨k, rfl⟩ : ∃ k', k = k' + 1 := ⟨k - 1, by omega⟩
      rw [r4_Check.j0, if_neg (by simp), if_pos h1, if_neg h2]
    ·by_cases h2 : (md.length : Int) = (m : Int)
     ·have hl : md.length = m := by omega
      have hsh := shape_l0 (P := (p : Int)) (M := (m : Int)) (md := md) (by omega) 0 md.length 4095 0 (by omega) (by omega) (by omega)
      have hsh' : field_shape.l0 4095 md (md.length : Int) 0 (p : Int) (m : Int) md = some (dgtB p (md.drop 0)) := hsh
      rw [List.drop_zero] at hsh'
      have hS2 : field_shape.f 4096 (p : Int) (m : Int) md = some (dgtB p md) := by rw [hS, field_shape.j0, if_neg (by simp), if_neg h1, if_pos h2, hsh']
      have hC2 : ∀ k, 400 ≤ k → ∃ k', 300 ≤ k' ∧ r4_Check.f k (p : Int) (m : Int) md = if dgtB p md = true then (r4_irreducible.f k' md (p : Int)).bind fun t => if t = true then some 0 else some 1 else some 1 := fun k hk => by
       rw [hC k hk]
       obtain ⟨k, rfl⟩ : ∃ k', k = k' + 1 := ⟨k - 1, by omega⟩
       have := check_l0 (P := (p : Int)) hl hm2 m k 0 (by omega) (by omega) (by omega)
       have this' : r4_Check.l0 k 0 (p : Int) (m : Int) md = _ := this
       exact ⟨k - m - 1, by omega, by rw [r4_Check.j0, if_neg (by simp), if_neg h1, if_pos h2, this', List.drop_zero]⟩
      by_cases hD : dgtB p md = true
      ·have hD' := dgtB_iff.1 hD
       have hcast := castL_toNat hD'
       have hlt : Lt p (md.map Int.toNat) := fun x hx => by
        obtain ⟨y, hy, rfl⟩ := List.mem_map.1 hx
        have := hD' y hy
        omega
       have L : Lo p m md (md.map Int.toNat) := ⟨by rw [List.length_map, hl], hlt, fun j hj => by unfold nN lowf; rw [hcast, if_pos (by omega)]⟩
       have hok := fldOk_pm hp (by omega) hq hb (by rw [List.length_map, hl]) hlt
       unfold fldOk at hok
       rw [hcast] at hok
       split at hok
       ·rename_i hirr
        obtain ⟨g0, G0⟩ := genOk_gen hp hp2 hm hD' L hok
        obtain ⟨ex, lg, g, hF⟩ := newO_some hp hp2 hm hm2 hq hD' (fun _ => hl) (by omega) (by rw [hS2, hD]) (by rw [hfo _ (by omega), ha]) (fun k hk => by rw [hro k hk, ha]) (fun k hk => by
         obtain ⟨k', hk', e⟩ := hC2 k hk
         rw [e, if_pos hD, lift (f := fun k => r4_irreducible.f k md (p : Int)) (fun k => r4_irreducible.mono _ _ k) hk' hirr]; rfl) G0
        exact Or.inl ⟨m, p ^ m, ex, lg, g, rfl, hF⟩
       ·rename_i hirr
        obtain ⟨x, y, hx, hy, hx0, hy0, hxy⟩ := zdOk_zd hp hp2 hm hD' L hok
        refine Or.inr ⟨newO_none hp hp2 hm hm2 hq hD' (fun _ => hl) (by omega) (by rw [hS2, hD]) (by rw [hfo _ (by omega), ha]) hx hy hx0 hy0 hxy, fun k hk => ?_⟩
        obtain ⟨k', hk', e⟩ := hC2 k hk
        rw [e, if_pos hD, lift (f := fun k => r4_irreducible.f k md (p : Int)) (fun k => r4_irreducible.mono _ _ k) hk' hirr]; rfl
       ·cases hok
      ·have hDf : dgtB p md = false := by simpa using hD
       refine Or.inr ⟨newO_shape (by rw [hS2, hDf]), fun k hk => ?_⟩
       obtain ⟨k', hk', e⟩ := hC2 k hk
       rw [e, if_neg hD]
     ·refine Or.inr ⟨newO_shape (by rw [hS, field_shape.j0, if_neg (by simp), if_neg h1, if_neg h2]), fun k hk => ?_⟩
      rw [hC k hk]
      obtain ⟨k, rfl⟩ : ∃ k', k = k' + 1 := ⟨k - 1, by omega⟩
      rw [r4_Check.j0, if_neg (by simp), if_neg h1, if_neg h2]
  ·cases hpr
theorem entries9_l0 {P M : Int} {md : List Int} {q : Int} (ho : ∀ k, 20 ≤ k → r4_Order.f k P M md = some q) (l : List Int) (hl : l.length ≤ 1000000) : ∀ (d k i : Nat), d = l.length - i → i ≤ l.length → d + 20 < k →
  r9_Entries.l0 k l (i : Int) P M md = some (entR q (l.drop i)) := by
 intro d
 induction d with
 | zero =>
  intro k i hd hi hk
  obtain ⟨k, rfl⟩ : ∃ k', k = k' + 1 := ⟨k - 1, by omega⟩
  have h : i = l.length := by omega
  rw [r9_Entries.l0, if_neg (by omega), h, List.drop_length, entR]
 | succ d ih =>
  intro k i hd hi hk
  obtain ⟨k, rfl⟩ : ∃ k', k = k' + 1 := ⟨k - 1, by omega⟩
  have h : i < l.length := by omega
  have hn := ih k (i + 1) (by omega) (by omega) (by omega)
  rw [r9_Entries.l0, if_pos (by omega), if_pos (by omega), rd_drop h, entR, w64_succ (n := 1000000) (by omega) (by omega), hn]
  unfold r4_Is.f
  by_cases h1 : rd l (i : Int) ≥ 0
  ·rw [if_pos h1, ho k (by omega), Option.bind_some, Option.bind_some]
   by_cases h2 : rd l (i : Int) < q
   ·rw [if_pos (det h2), if_pos ⟨h1, h2⟩]
   ·rw [if_neg (by simp; omega), if_neg (fun h => h2 h.2)]
  ·rw [if_neg h1, Option.bind_some, if_neg (by simp), if_neg (fun h => h1 h.1)]
theorem entries9_f {P M : Int} {md : List Int} {q : Int} (ho : ∀ k, 20 ≤ k → r4_Order.f k P M md = some q) {l : List Int} {k : Nat} (hl : l.length ≤ 1000000) (hk : l.length + 20 < k) :
  r9_Entries.f k P M md l = some (entR q l) := by
 have := entries9_l0 ho l hl l.length k 0 (by omega) (by omega) (by omega)
 rw [List.drop_zero] at this
 exact this
theorem check9_l1 {P M : Int} {md : List Int} {q cols : Int} (ho : ∀ k, 20 ≤ k → r4_Order.f k P M md = some q) (rows : List (List Int)) (hr : rows.length ≤ 1000) (hr2 : ∀ l ∈ rows, l.length ≤ 1000) : ∀ (d k i : Nat), d = rows.length - i → i ≤ rows.length → d + 1021 < k →
  r9_Check.l1 k (i : Int) P M md cols rows = some (entM q (rows.drop i)) := by
 intro d
 induction d with
 | zero =>
  intro k i hd hi hk
  obtain ⟨k, rfl⟩ : ∃ k', k = k' + 1 := ⟨k - 1, by omega⟩
  have h : i = rows.length := by omega
  rw [r9_Check.l1, if_neg (by omega), h, List.drop_length, entM]
 | succ d ih =>
  intro k i hd hi hk
  obtain ⟨k, rfl⟩ : ∃ k', k = k' + 1 := ⟨k - 1, by omega⟩
  have h : i < rows.length := by omega
  have hmem : rd_L1 rows (i : Int) ∈ rows := rd_memRow (by omega) (by omega)
  have hn := ih k (i + 1) (by omega) (by omega) (by omega)
  have hln := hr2 _ hmem
  rw [r9_Check.l1, if_pos (by omega), if_pos (by omega), entries9_f ho (by omega) (by omega), Option.bind_some, rows_drop h, entM, w64_succ (n := 1000) (by omega) (by omega), hn]
  by_cases h0 : entR q (rd_L1 rows (i : Int)) = 0
  ·rw [if_pos h0, if_pos h0]
  ·rw [if_neg h0, if_neg h0]
theorem check9_l0 {P M : Int} {md : List Int} {q cols : Int} (ho : ∀ k, 20 ≤ k → r4_Order.f k P M md = some q) (rows : List (List Int)) (hr : rows.length ≤ 1000) (hr2 : ∀ l ∈ rows, l.length ≤ 1000) : ∀ (d k i : Nat), d = rows.length - i → i ≤ rows.length → d + 2100 < k →
  r9_Check.l0 k (i : Int) P M md cols rows = some (if lenR cols (rows.drop i) = true then entM q rows else 3) := by
 intro d
 induction d with
 | zero =>
  intro k i hd hi hk
  obtain ⟨k, rfl⟩ : ∃ k', k = k' + 1 := ⟨k - 1, by omega⟩
  have h : i = rows.length := by omega
  have := check9_l1 (cols := cols) ho rows hr hr2 rows.length k 0 (by omega) (by omega) (by omega)
  rw [List.drop_zero] at this
  rw [r9_Check.l0, if_neg (by omega), h, List.drop_length, lenR, if_pos rfl]
  exact this
 | succ d ih =>
  intro k i hd hi hk
  obtain ⟨k, rfl⟩ : ∃ k', k = k' + 1 := ⟨k - 1, by omega⟩
  have h : i < rows.length := by omega
  have hn := ih k (i + 1) (by omega) (by omega) (by omega)
  rw [r9_Check.l0, if_pos (by omega), if_pos (by omega), rows_drop h, lenR, w64_succ (n := 1000) (by omega) (by omega), hn]
  by_cases h0 : ((rd_L1 rows (i : Int)).length : Int) = cols
  ·rw [if_pos h0, if_pos h0]
  ·rw [if_neg h0, if_neg h0]; simp
end Go.Proofs.Ytkifipakikbhcaa.Hand
