/- Proposers: the reference's functions; what a reply keeps. -/
import Derived.Test.YtopcklnnkpjanaaWProp2
namespace Go.Proofs.Ytopcklnnkpjanaa.Abs
open Go Go.RowKit
set_option linter.unusedVariables false
set_option linter.unusedSimpArgs false
set_option maxHeartbeats 4000000
theorem insN_asc {l : List Int} (h : AscN l) (a : Int) : AscN (insN l a) := by
  rw [← rins_is a l h]
  induction l with
  | nil => simp [rinsN, AscN]
  | cons e l ih =>
    obtain ⟨h1, h2⟩ := List.pairwise_cons.1 h
    rw [rinsN]
    by_cases hae : a ≤ e
    · have hl : ∀ x ∈ l, x ≠ a := fun x hx => by have := h1 x hx; omega
      rw [if_pos ⟨rfl, hae⟩, decide_eq_true hae, Bool.or_true, rinsN_true a l hl]
      by_cases he : e = a
      · subst he
        simpa using h
      · rw [if_neg he]
        refine List.pairwise_cons.2 ⟨fun x hx => ?_, h⟩
        rcases List.mem_cons.1 hx with rfl | hx
        · omega
        · have := h1 x hx; omega
    · rw [if_neg (by simp [hae]), if_neg (by omega), decide_eq_false hae, Bool.or_false]
      refine List.pairwise_cons.2 ⟨fun x hx => ?_, ih h2⟩
      have hx' : x ∈ insN l a := by rw [← rins_is a l h2]; exact hx
      unfold insN at hx'
      split at hx'
      · exact h1 x hx'
      · rcases List.mem_append.1 hx' with hx' | hx'
        · exact h1 x (List.mem_of_mem_take hx')
        · rcases List.mem_cons.1 hx' with rfl | hx'
          · omega
          · exact h1 x (List.mem_of_mem_drop hx')
structure PrB (p : PrS) (k : Nat) : Prop where
  v : Val p.v
  vl : p.v.length ≤ 20 * k
  asc : AscN p.acks
  al : p.acks.length ≤ k
  r : 1 ≤ p.r ∧ p.r ≤ k
theorem PrB.ok {p : PrS} {k : Nat} (h : PrB p k) (hk : k < 100000) : PrOk p := ⟨h.v, by have := h.vl; omega, h.asc, by have := h.al; omega, by have := h.r; omega⟩
theorem PrB.up {p : PrS} {k : Nat} (h : PrB p k) : PrB p (k + 1) := ⟨h.v, by have := h.vl; omega, h.asc, by have := h.al; omega, by have := h.r; omega⟩
theorem PrB.new (n : Int) {v : V2} (h : Val v) (hl : v.length ≤ 20) : PrB (newS n v) 1 := ⟨h, by simpa [newS] using hl, List.Pairwise.nil, Nat.zero_le _, by simp [newS]⟩
theorem PrB.next {p : PrS} {k : Nat} (h : PrB p k) {v : V2} (hv : Val v) (hl : v.length ≤ 20) : PrB (nextS p v) (k + 1) := by
  have hm := mergeI_length true p.v v
  have h1 := h.vl
  have h2 := h.r
  refine ⟨(mrg_is true h.v hv).val, ?_, List.Pairwise.nil, Nat.zero_le _, ?_⟩
  · show (mergeI true p.v v).length ≤ _
    omega
  · show 1 ≤ p.r + 1 ∧ p.r + 1 ≤ _
    omega
theorem PrB.recv {p : PrS} {k : Nat} (h : PrB p k) (a r : Int) {v : V2} (hv : Val v) (hl : v.length ≤ 20) : PrB (recvS p a r v).1 (k + 1) := by
  unfold recvS
  split
  · exact h.up
  · split
    · have := insN_len p.acks a
      have h3 := h.al
      exact ⟨h.v, by have := h.vl; show p.v.length ≤ _; omega, insN_asc h.asc a, by show (insN p.acks a).length ≤ _; omega, by have := h.r; show 1 ≤ p.r ∧ p.r ≤ _; omega⟩
    · exact h.next hv hl
theorem PrB.prop {p : PrS} {k : Nat} (h : PrB p k) {v : V2} (hv : Val v) (hl : v.length ≤ 20) : PrB (propS p v) (k + 1) := by
  unfold propS
  split
  · exact h.next hv hl
  · exact h.up
theorem rprop_pure {p : PrS} (h : PrOk p) {v : V2} (hv : Val v) (hl : v.length < 1000000000) : Pure Try.prog 33 [.agg (encPr p), .c (encV v)] (.agg (encPr (propS p v))) := by
  have hr := add_one p.r h.r
  have hj : Pure Try.prog 20 [.c (encV p.v), .c (encV v)] (.c (encV (mergeI true p.v v))) := by
    rw [← rjoin_merge h.v hv]
    exact rjoin_pure p.v v hv.1 (by have := h.vl; omega)
  obtain ⟨n, pv, r, acks, dec⟩ := p
  dsimp only at hr hj
  refine pure_le teOk Try.func33 (by kernel_rfl) (c := _) rfl (N := 21) rfl (rs := [Go.ResultVar.cell 4 56]) rfl (by simp) fun base A w0 hA => ?_
  refine AW.st teOk [] (by simp [-Option.some.injEq] <;> rfl) trivial ?_
  refine AW.seq ?_
  refine AW.st teOk [] (by simp [-Option.some.injEq] <;> rfl) trivial ?_
  cases dec with
  | false =>
    refine AW.iff true (by simp) (fun _ => ?_) (fun h => by cases h)
    refine AW.st teOk [] (by simp [-Option.some.injEq] <;> rfl) trivial ?_
    refine AW.ret ⟨.inr rfl, _, _, Weak.refl _, by simp <;> rfl, ?_⟩
    exact .refl _
  | true =>
    refine AW.iff false (by simp) (fun h => by cases h) (fun _ => AW.skip ?_)
    refine AW.st teOk [.fz (.c (encV (mergeI true pv v)))] (by simp [-Option.some.injEq] <;> rfl) ?_ ?_
    · exact hj
    refine AW.st teOk [] (by simp [hr, -Option.some.injEq] <;> rfl) trivial ?_
    refine AW.st teOk [] (by simp [-Option.some.injEq] <;> rfl) trivial ?_
    refine AW.st teOk [] (by simp [-Option.some.injEq] <;> rfl) trivial ?_
    refine AW.st teOk [] (by simp [-Option.some.injEq] <;> rfl) trivial ?_
    refine AW.ret ⟨.inr rfl, _, _, Weak.refl _, by simp <;> rfl, ?_⟩
    exact .aggs (.cons (.refl _) (.cons (.refl _) (.cons (.refl _) (.cons (nil_cell 1) (.cons (.refl _) .nil)))))
theorem rrecv_pure {p : PrS} (h : PrOk p) (a r : Int) {v : V2} (hv : Val v) (hl : v.length < 1000000000) : Pure Try.prog 35 [.agg (encPr p), .c (cI a), .c (cI r), .c (encV v)] (.tup [.agg (encPr (recvS p a r v).1), .c (cB (recvS p a r v).2)]) := by
  have hasc := h.asc
  have hal := h.al
  have hvl := h.vl
  have hr1 := add_one p.r h.r
  have hj : Pure Try.prog 20 [.c (encV p.v), .c (encV v)] (.c (encV (mergeI true p.v v))) := by
    rw [← rjoin_merge h.v hv]
    exact rjoin_pure p.v v hv.1 (by have := h.vl; omega)
  obtain ⟨n, pv, pr, acks, dec⟩ := p
  dsimp only at hasc hal hvl hr1 hj
  refine pure_le teOk Try.func35 (by kernel_rfl) (c := _) rfl (N := 59) rfl (rs := [Go.ResultVar.cell 8 56, Go.ResultVar.tmp 9]) rfl (by simp) fun base A w0 hA => ?_
  refine AW.st teOk [] (by simp [-Option.some.injEq] <;> rfl) trivial ?_
  refine AW.mid (fun s => ¬ (dec = true ∨ r ≠ pr ∨ a < 0 ∨ a ≥ n) ∧ s = ⟨[(1, .c (cI a)), (3, .c (encV v)), (4, .c (.ptr 0 0 0)), (8, .c (.ptr 1 0 0))], [(1, ⟨5, [zPr]⟩), (0, ⟨5, [encPr ⟨n, pv, pr, acks, dec⟩]⟩)], 2⟩) ?_ ?_
  · cases dec with
    | true =>
      refine AW.st teOk [] (by simp [-Option.some.injEq] <;> rfl) trivial ?_
      refine AW.iff true (by simp) (fun _ => ?_) (fun h => by cases h)
      refine AW.st teOk [] (by simp [-Option.some.injEq] <;> rfl) trivial ?_
      refine AW.ret ⟨.inr rfl, _, _, Weak.refl _, by simp <;> rfl, ?_⟩
      simp [recvS]
      exact .refl _
    | false =>
      by_cases h1 : r = pr
      · subst h1
        by_cases h2 : a < 0
        · refine AW.st teOk [] (by simp [h2, -Option.some.injEq] <;> rfl) trivial ?_
          refine AW.iff true (by simp) (fun _ => ?_) (fun h => by cases h)
          refine AW.st teOk [] (by simp [-Option.some.injEq] <;> rfl) trivial ?_
          refine AW.ret ⟨.inr rfl, _, _, Weak.refl _, by simp <;> rfl, ?_⟩
          simp [recvS, h2]
          exact .refl _
        · by_cases h3 : a ≥ n
          · refine AW.st teOk [] (by simp [h2, h3, -Option.some.injEq] <;> rfl) trivial ?_
            refine AW.iff true (by simp) (fun _ => ?_) (fun h => by cases h)
            refine AW.st teOk [] (by simp [-Option.some.injEq] <;> rfl) trivial ?_
            refine AW.ret ⟨.inr rfl, _, _, Weak.refl _, by simp <;> rfl, ?_⟩
            simp [recvS, h3]
            exact .refl _
          · refine AW.st teOk [] (by simp [h2, h3, -Option.some.injEq] <;> rfl) trivial ?_
            refine AW.iff false (by simp) (fun h => by cases h) (fun _ => AW.skip ?_)
            exact ⟨_, Weak.normT hA [1, 3, 4, 8] [(4, 0), (8, 1)] [] 2 _ (by simp) (by simp) (by simp), by simp; omega, by simp⟩
      · have h1' : (r != pr) = true := by simpa using h1
        refine AW.st teOk [] (by simp [h1', -Option.some.injEq] <;> rfl) trivial ?_
        refine AW.iff true (by simp) (fun _ => ?_) (fun h => by cases h)
        refine AW.st teOk [] (by simp [-Option.some.injEq] <;> rfl) trivial ?_
        refine AW.ret ⟨.inr rfl, _, _, Weak.refl _, by simp <;> rfl, ?_⟩
        simp [recvS, h1]
        exact .refl _
  rintro s ⟨hc, rfl⟩
  refine AW.seq ?_
  refine AW.st teOk [.fz (.c (cB (leI v pv)))] (by simp [-Option.some.injEq] <;> rfl) ?_ ?_
  · exact rle_pure v pv (by omega) (by omega)
  cases hle : leI v pv with
  | false =>
    have hre : recvS ⟨n, pv, pr, acks, dec⟩ a r v = (nextS ⟨n, pv, pr, acks, dec⟩ v, true) := by
      unfold recvS
      rw [if_neg hc, if_neg (by simp [hle])]
    have hdf : dec = false := by
      cases dec with
      | false => rfl
      | true => exact absurd (.inl rfl) hc
    subst hdf
    rw [hre]
    refine AW.iff true (by simp [hle]) (fun _ => ?_) (fun h => by cases h)
    refine AW.st teOk [.fz (.c (encV (mergeI true pv v)))] (by simp [-Option.some.injEq] <;> rfl) ?_ ?_
    · exact hj
    refine AW.st teOk [] (by simp [hr1, -Option.some.injEq] <;> rfl) trivial ?_
    refine AW.st teOk [] (by simp [-Option.some.injEq] <;> rfl) trivial ?_
    refine AW.st teOk [] (by simp [-Option.some.injEq] <;> rfl) trivial ?_
    refine AW.ret ⟨.inr rfl, _, _, Weak.refl _, by simp <;> rfl, ?_⟩
    exact .tups (.cons (.aggs (.cons (.refl _) (.cons (.refl _) (.cons (.refl _) (.cons (nil_cell 1) (.cons (.refl _) .nil)))))) (.cons (.refl _) .nil))
  | true =>
    have hre : recvS ⟨n, pv, pr, acks, dec⟩ a r v = (⟨n, pv, pr, insN acks a, decide (2 * ((insN acks a).length : Int) > n)⟩, false) := by
      unfold recvS
      rw [if_neg hc, if_pos hle]
    rw [hre]
    refine AW.iff false (by simp [hle]) (fun h => by cases h) (fun _ => AW.skip ?_)
    have hil := insN_len acks a
    have pi := rins_pure acks a hasc (by omega)
    have hw := two_len (insN acks a).length (by omega)
    generalize insN acks a = acks' at *
    refine AW.st teOk [.fz (.c (encIs acks'))] (by simp [-Option.some.injEq] <;> rfl) ?_ ?_
    · exact pi
    refine AW.st teOk [] (by simp [hw, -Option.some.injEq] <;> rfl) trivial ?_
    refine AW.st teOk [] (by simp [-Option.some.injEq] <;> rfl) trivial ?_
    refine AW.ret ⟨.inr rfl, _, _, Weak.refl _, by simp <;> rfl, ?_⟩
    exact .refl _
end Go.Proofs.Ytopcklnnkpjanaa.Abs
