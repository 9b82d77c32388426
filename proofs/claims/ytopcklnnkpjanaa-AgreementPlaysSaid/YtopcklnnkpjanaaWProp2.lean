/- Proposers: a reply, by the program and by the reference. -/
import Derived.Test.YtopcklnnkpjanaaWProp
namespace Go.Proofs.Ytopcklnnkpjanaa.Abs
open Go Go.RowKit
set_option linter.unusedVariables false
set_option linter.unusedSimpArgs false
set_option maxHeartbeats 4000000
abbrev zPr : List Cell := [cI 0, .sc (.slice none 0 0), cI 0, .sc (.slice none 0 0), cB false]
theorem two_len (n : Nat) (h : n < 1000000000000) : IntKind.i64.wrap (2 * (n : Int)) = 2 * (n : Int) := by rw [IntKind.wrap_i64]; omega
theorem precv_pure {p : PrS} (h : PrOk p) (a r : Int) {v : V2} (hl : v.length < 10000000000) : Pure Try.prog 34 [.agg (encPr p), .c (cI a), .c (cI r), .c (encV v)] (.tup [.agg (encPr (recvS p a r v).1), .c (cB (recvS p a r v).2)]) := by
  have p1 := pclone_pure h
  have p2 := pnext_pure h hl
  have hasc := h.asc
  have hal := h.al
  have hvl := h.vl
  have hva := h.v.2
  obtain ⟨n, pv, pr, acks, dec⟩ := p
  dsimp only at hasc hal hvl hva
  refine pure_of teOk Try.func34 (by kernel_rfl) (c := _) rfl (N := 76) rfl (rs := [Go.ResultVar.cell 8 54, Go.ResultVar.tmp 9]) rfl (by simp) fun base A w0 hA => ?_
  refine AW.st teOk [] (by simp [-Option.some.injEq] <;> rfl) trivial ?_
  refine AW.mid (fun s => ¬ (dec = true ∨ r ≠ pr ∨ a < 0 ∨ a ≥ n) ∧ s = ⟨[(1, .c (cI a)), (3, .c (encV v)), (4, .c (.ptr 0 0 0)), (8, .c (.ptr 1 0 0))], [(1, ⟨5, [zPr]⟩), (0, ⟨5, [encPr ⟨n, pv, pr, acks, dec⟩]⟩)], 2⟩) ?_ ?_
  · cases dec with
    | true =>
      refine AW.st teOk [] (by simp [-Option.some.injEq] <;> rfl) trivial ?_
      refine AW.iff true (by simp) (fun _ => ?_) (fun h => by cases h)
      refine AW.st teOk [.fz (.agg (encPr ⟨n, pv, pr, acks, true⟩))] (by simp [-Option.some.injEq] <;> rfl) ?_ ?_
      · exact p1
      refine AW.ret ⟨.inr rfl, _, Weak.refl _, ?_⟩
      simp [recvS]
    | false =>
      by_cases h1 : r = pr
      · subst h1
        by_cases h2 : a < 0
        · refine AW.st teOk [] (by simp [h2, -Option.some.injEq] <;> rfl) trivial ?_
          refine AW.iff true (by simp) (fun _ => ?_) (fun h => by cases h)
          refine AW.st teOk [.fz (.agg (encPr ⟨n, pv, r, acks, false⟩))] (by simp [-Option.some.injEq] <;> rfl) ?_ ?_
          · exact p1
          refine AW.ret ⟨.inr rfl, _, Weak.refl _, ?_⟩
          simp [recvS, h2]
        · by_cases h3 : a ≥ n
          · refine AW.st teOk [] (by simp [h2, h3, -Option.some.injEq] <;> rfl) trivial ?_
            refine AW.iff true (by simp) (fun _ => ?_) (fun h => by cases h)
            refine AW.st teOk [.fz (.agg (encPr ⟨n, pv, r, acks, false⟩))] (by simp [-Option.some.injEq] <;> rfl) ?_ ?_
            · exact p1
            refine AW.ret ⟨.inr rfl, _, Weak.refl _, ?_⟩
            simp [recvS, h3]
          · refine AW.st teOk [] (by simp [h2, h3, -Option.some.injEq] <;> rfl) trivial ?_
            refine AW.iff false (by simp) (fun h => by cases h) (fun _ => AW.skip ?_)
            exact ⟨_, Weak.normT hA [1, 3, 4, 8] [(4, 0), (8, 1)] [] 2 _ (by simp) (by simp) (by simp), by simp; omega, by simp⟩
      · have h1' : (r != pr) = true := by simpa using h1
        refine AW.st teOk [] (by simp [h1', -Option.some.injEq] <;> rfl) trivial ?_
        refine AW.iff true (by simp) (fun _ => ?_) (fun h => by cases h)
        refine AW.st teOk [.fz (.agg (encPr ⟨n, pv, pr, acks, false⟩))] (by simp [-Option.some.injEq] <;> rfl) ?_ ?_
        · exact p1
        refine AW.ret ⟨.inr rfl, _, Weak.refl _, ?_⟩
        simp [recvS, h1]
  rintro s ⟨hc, rfl⟩
  refine AW.seq ?_
  refine AW.st teOk [.fz (.c (cB (leI v pv)))] (by simp [-Option.some.injEq] <;> rfl) ?_ ?_
  · exact le_pure v pv hva (by omega) (by omega)
  cases hle : leI v pv with
  | false =>
    have hre : recvS ⟨n, pv, pr, acks, dec⟩ a r v = (nextS ⟨n, pv, pr, acks, dec⟩ v, true) := by
      unfold recvS
      rw [if_neg hc, if_neg (by simp [hle])]
    rw [hre]
    refine AW.iff true (by simp [hle]) (fun _ => ?_) (fun h => by cases h)
    obtain ⟨x, hx⟩ : ∃ x, x = nextS ⟨n, pv, pr, acks, dec⟩ v := ⟨_, rfl⟩
    rw [← hx] at p2 ⊢
    obtain ⟨n', pv', r', acks', dec'⟩ := x
    refine AW.st teOk [.fz (.agg (encPr ⟨n', pv', r', acks', dec'⟩))] (by simp [-Option.some.injEq] <;> rfl) ?_ ?_
    · exact p2
    refine AW.ret ⟨.inr rfl, _, Weak.refl _, ?_⟩
    simp
  | true =>
    have hre : recvS ⟨n, pv, pr, acks, dec⟩ a r v = (⟨n, pv, pr, insN acks a, decide (2 * ((insN acks a).length : Int) > n)⟩, false) := by
      unfold recvS
      rw [if_neg hc, if_pos hle]
    rw [hre]
    refine AW.iff false (by simp [hle]) (fun h => by cases h) (fun _ => AW.skip ?_)
    have hil := insN_len acks a
    refine AW.st teOk [.fz (.tup [.c (cI (posN acks a)), .c (cB (hasN acks a))])] (by simp [-Option.some.injEq] <;> rfl) ?_ ?_
    · exact bsN_pure acks a hasc (by omega)
    refine AW.st teOk [.fz (.agg (encPr ⟨n, pv, pr, acks, dec⟩))] (by simp [-Option.some.injEq] <;> rfl) ?_ ?_
    · exact p1
    refine AW.mid (fun s => s = ⟨[(4, .c (.ptr 0 0 0)), (8, .c (.ptr 1 0 0))], [(0, ⟨5, [encPr ⟨n, pv, pr, insN acks a, dec⟩]⟩), (1, ⟨5, [zPr]⟩)], 2⟩) ?_ ?_
    · refine AW.st teOk [] (by simp [-Option.some.injEq] <;> rfl) trivial ?_
      cases hh : hasN acks a with
      | true =>
        refine AW.iff false (by simp [hh]) (fun h => by cases h) (fun _ => AW.skip ?_)
        exact ⟨_, Weak.normT hA [4, 8] [(4, 0), (8, 1)] [] 2 _ (by simp) (by simp) (by simp), by simp [insN, hh]⟩
      | false =>
        refine AW.iff true (by simp [hh]) (fun _ => ?_) (fun h => by cases h)
        have hq : posN acks a ≤ acks.length := List.countP_le_length
        have hin : insN acks a = acks.take (posN acks a) ++ a :: acks.drop (posN acks a) := by rw [insN, hh, if_neg (by simp)]
        generalize posN acks a = q at *
        have e1 : (acks.map encn).drop q = (acks.drop q).map encn := List.map_drop.symm
        have e2 : (acks.map encn).take q = (acks.take q).map encn := List.map_take.symm
        have l1 : (acks.take q).length = q := by rw [List.length_take]; omega
        have l2 : (acks.drop q).length ≤ acks.length := by rw [List.length_drop]; omega
        rw [hin]
        generalize acks.drop q = rest at *
        generalize acks.take q = pre at *
        have ht1 : (pre.map encn ++ [[cI a]]).take (pre.length + 1) = pre.map encn ++ [[cI a]] := List.take_of_length_le (by simp)
        have ht2 : (pre.map encn ++ [cI a] :: rest.map encn).take (pre.length + 1 + rest.length) = pre.map encn ++ [cI a] :: rest.map encn := List.take_of_length_le (by simp; omega)
        have ht3 : pre.length + 1 + rest.length ≤ pre.length + (rest.length + 1) := by omega
        have hfl : flatO ⟨1, [cI a] :: rest.map encn⟩ = true := flat_encn (a :: rest)
        refine AW.st teOk [] (by simp [e1, -Option.some.injEq] <;> rfl) ?_ ?_
        · omega
        by_cases hr0 : rest = []
        · subst hr0
          refine AW.text teOk (ans := []) (by simp [e2, -Option.some.injEq] <;> rfl) ?_ ?_
          · simp [growOk]; omega
          exact ⟨_, (Weak.frzT 65 [0] _ (by simp <;> exact ⟨rfl, rfl, rfl⟩) (by simp <;> rfl) (by simp)).trans (Weak.normT hA [4, 8] [(4, 0), (8, 1)] [] 2 _ (by simp) (by simp) (by simp [ht1])), by simp [ht1]⟩
        · refine AW.text teOk (ans := []) (by simp [e2, hr0, -Option.some.injEq] <;> rfl) ?_ ?_
          · simp [growOk]; omega
          exact ⟨_, (Weak.frzT 65 [0] _ (by simp <;> exact ⟨rfl, rfl, rfl⟩) (by simp <;> rfl) (by simp [hfl])).trans (Weak.normT hA [4, 8] [(4, 0), (8, 1)] [] 2 _ (by simp) (by simp) (by simp [ht2, ht3])), by simp [ht2, ht3]⟩
    rintro s rfl
    have hw := two_len (insN acks a).length (by omega)
    generalize insN acks a = acks' at *
    refine AW.st teOk [] (by simp [hw, -Option.some.injEq] <;> rfl) trivial ?_
    refine AW.st teOk [] (by simp [-Option.some.injEq] <;> rfl) trivial ?_
    refine AW.ret ⟨.inr rfl, _, Weak.refl _, ?_⟩
    simp
end Go.Proofs.Ytopcklnnkpjanaa.Abs
