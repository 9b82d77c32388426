/- Proposers: the program's functions. -/
import Derived.Test.YtopcklnnkpjanaaWRef2
import Derived.Test.YtopcklnnkpjanaaWChain
namespace Go.Proofs.Ytopcklnnkpjanaa.Abs
open Go Go.RowKit
set_option linter.unusedVariables false
set_option linter.unusedSimpArgs false
set_option maxHeartbeats 4000000
structure PrS where
  n : Int
  v : V2
  r : Int
  acks : List Int
  dec : Bool
abbrev encPr (p : PrS) : List Cell := [cI p.n, encV p.v, cI p.r, encIs p.acks, cB p.dec]
structure PrOk (p : PrS) : Prop where
  v : Val p.v
  vl : p.v.length < 1000000000
  asc : AscN p.acks
  al : p.acks.length < 10000000000
  r : 0 ≤ p.r ∧ p.r < 1000000000000
theorem merge_nil {v : V2} (h : Val v) : mergeI true v [] = v := by
  have m := mrg_is true h val_nil
  refine ext_cnt m.val h fun a => ?_
  rw [m.cnt, bndT]
  have := (cnt_range (a := a) h.1).1
  show (if cnt v a ≤ 0 then (0 : Int) else cnt v a) = cnt v a
  split <;> omega
theorem rjoin_merge {a b : V2} (ha : Val a) (hb : Val b) : rjoinI a b = mergeI true a b := by
  obtain ⟨h1, h2⟩ := rjoin_law b a ha hb
  have m := mrg_is true ha hb
  exact ext_cnt h1 m.val fun x => by rw [h2, m.cnt]
def newS (n : Int) (v : V2) : PrS := ⟨n, v, 1, [], false⟩
def nextS (p : PrS) (v : V2) : PrS := ⟨p.n, mergeI true p.v v, p.r + 1, [], false⟩
def recvS (p : PrS) (a r : Int) (v : V2) : PrS × Bool :=
  if p.dec = true ∨ r ≠ p.r ∨ a < 0 ∨ a ≥ p.n then (p, false)
  else if leI v p.v = true then (⟨p.n, p.v, p.r, insN p.acks a, decide (2 * ((insN p.acks a).length : Int) > p.n)⟩, false)
  else (nextS p v, true)
def propS (p : PrS) (v : V2) : PrS := if p.dec = true then nextS p v else p
theorem insN_len (l : List Int) (a : Int) : (insN l a).length ≤ l.length + 1 := by
  unfold insN
  split
  · omega
  · rw [List.length_append, List.length_cons, List.length_take, List.length_drop]
    omega
theorem nil_cell (k : Nat) : LeC (.sc (.slice none 0 0)) (.row k false []) := .nil k
theorem add_one (r : Int) (h : 0 ≤ r ∧ r < 1000000000000) : IntKind.i64.wrap (r + 1) = r + 1 := by rw [IntKind.wrap_i64]; omega
theorem joinN_pure {v : V2} (h : Val v) (hl : v.length < 10000000000) : Pure Try.prog 72 [.c (encV v), .c (.sc (.slice none 0 0))] (.c (encV v)) := by
  have := (join_pure v [] (by simp; omega)).le (.cons (.refl _) (.cons (.c (.nil 2)) .nil)) (.refl _)
  rwa [merge_nil h] at this
theorem pnew_pure (n : Int) {v : V2} (h : Val v) (hl : v.length < 10000000000) : Pure Try.prog 30 [.c (cI n), .c (encV v)] (.agg (encPr (newS n v))) := by
  refine pure_le teOk Try.func30 (by kernel_rfl) (c := _) rfl (N := 9) rfl (rs := [Go.ResultVar.cell 4 54]) rfl (by simp) fun base A w0 hA => ?_
  refine AW.st teOk [] (by simp [-Option.some.injEq] <;> rfl) trivial ?_
  refine AW.st teOk [.fz (.c (encV v))] (by simp [-Option.some.injEq] <;> rfl) ?_ ?_
  · exact joinN_pure h hl
  refine AW.ret ⟨.inr rfl, _, _, Weak.refl _, by simp <;> rfl, ?_⟩
  exact .aggs (.cons (.refl _) (.cons (.refl _) (.cons (.refl _) (.cons (nil_cell 1) (.cons (.refl _) .nil)))))
theorem pclone_pure {p : PrS} (h : PrOk p) : Pure Try.prog 74 [.agg (encPr p)] (.agg (encPr p)) := by
  obtain ⟨n, v, r, acks, dec⟩ := p
  have hv := h.v
  have hvl := h.vl
  have hal := h.al
  dsimp only at hv hvl hal
  refine pure_of teOk Try.func74 (by kernel_rfl) (c := _) rfl (N := 12) rfl (rs := [Go.ResultVar.cell 2 54]) rfl (by simp) fun base A w0 hA => ?_
  refine AW.st teOk [] (by simp [-Option.some.injEq] <;> rfl) trivial ?_
  refine AW.st teOk [.fz (.c (encV v))] (by simp [-Option.some.injEq] <;> rfl) ?_ ?_
  · exact joinN_pure hv (by omega)
  refine AW.st teOk [.fz (.c (encIs acks))] (by simp [-Option.some.injEq] <;> rfl) ?_ ?_
  · exact cloneN_pure acks (by omega)
  refine AW.st teOk [] (by simp [-Option.some.injEq] <;> rfl) trivial ?_
  refine AW.ret ⟨.inr rfl, _, Weak.refl _, ?_⟩
  simp
theorem pnext_pure {p : PrS} (h : PrOk p) {v : V2} (hl : v.length < 10000000000) : Pure Try.prog 75 [.agg (encPr p), .c (encV v)] (.agg (encPr (nextS p v))) := by
  obtain ⟨n, pv, r, acks, dec⟩ := p
  have hvl := h.vl
  have hr := add_one r h.r
  dsimp only at hvl
  refine pure_le teOk Try.func75 (by kernel_rfl) (c := _) rfl (N := 15) rfl (rs := [Go.ResultVar.cell 4 54]) rfl (by simp) fun base A w0 hA => ?_
  refine AW.st teOk [] (by simp [-Option.some.injEq] <;> rfl) trivial ?_
  refine AW.dr mixed teOk [.c (encV (mergeI true pv v))] (by simp [hr, -Option.some.injEq] <;> rfl) (by kernel_rfl) (by kernel_rfl) ?_ ?_
  · simp [allP]
    exact join_pure pv v (by omega)
  refine AW.ret ⟨.inr rfl, _, _, Weak.refl _, by simp <;> rfl, ?_⟩
  exact .aggs (.cons (.refl _) (.cons (.refl _) (.cons (.refl _) (.cons (nil_cell 1) (.cons (.refl _) .nil)))))
theorem pprop_pure {p : PrS} (h : PrOk p) {v : V2} (hl : v.length < 10000000000) : Pure Try.prog 32 [.agg (encPr p), .c (encV v)] (.agg (encPr (propS p v))) := by
  have p1 := pclone_pure h
  have p2 := pnext_pure h hl
  obtain ⟨n, pv, r, acks, dec⟩ := p
  refine pure_of teOk Try.func32 (by kernel_rfl) (c := _) rfl (N := 13) rfl (rs := [Go.ResultVar.cell 4 54]) rfl (by simp) fun base A w0 hA => ?_
  refine AW.st teOk [] (by simp [-Option.some.injEq] <;> rfl) trivial ?_
  refine AW.seq ?_
  refine AW.st teOk [] (by simp [-Option.some.injEq] <;> rfl) trivial ?_
  cases dec with
  | false =>
    refine AW.iff true (by simp) (fun _ => ?_) (fun h => by cases h)
    refine AW.st teOk [.fz (.agg (encPr ⟨n, pv, r, acks, false⟩))] (by simp [-Option.some.injEq] <;> rfl) ?_ ?_
    · exact p1
    refine AW.ret ⟨.inr rfl, _, Weak.refl _, ?_⟩
    simp
    simp [propS]
  | true =>
    refine AW.iff false (by simp) (fun h => by cases h) (fun _ => AW.skip ?_)
    obtain ⟨x, hx⟩ : ∃ x, x = nextS ⟨n, pv, r, acks, true⟩ v := ⟨_, rfl⟩
    rw [show propS ⟨n, pv, r, acks, true⟩ v = x by rw [hx]; rfl]
    rw [← hx] at p2
    obtain ⟨n', pv', r', acks', dec'⟩ := x
    refine AW.st teOk [.fz (.agg (encPr ⟨n', pv', r', acks', dec'⟩))] (by simp [-Option.some.injEq] <;> rfl) ?_ ?_
    · exact p2
    refine AW.ret ⟨.inr rfl, _, Weak.refl _, ?_⟩
    simp
end Go.Proofs.Ytopcklnnkpjanaa.Abs
