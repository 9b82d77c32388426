/- Explore: a state copied; a canonical state. -/
import Derived.Test.YtphlhadgcfndhaaDoorJd9
import Derived.Test.YtphlhadgcfndhaaDoorJd6
namespace Go.Proofs.YtphlhadgcfndhaaDoor.Abs
open Go Go.RowKit
set_option linter.unusedVariables false
set_option linter.unusedSimpArgs false
set_option maxHeartbeats 4000000
theorem cloneA_new (es : List (List Cell)) (hk : ∀ e ∈ es, e.length = 1) (hf : flatO ⟨1, es⟩ = true) (hb : es.length < 1000000000) : New Tryd.prog 52 [.c (.row 1 false es)] (.c (.ref 0 0 es.length)) [(0, ⟨1, es⟩)] 1 := by
  refine new_of teOk Tryd.func52 (by kernel_rfl) (c := _) rfl (N := 8) rfl (rs := [Go.ResultVar.tmp 2]) rfl (by simp) fun base A w0 hA => ?_
  refine AW.st teOk [] (by simp [-Option.some.injEq] <;> rfl) trivial ?_
  refine AW.mid (fun s => s = ⟨[(0, .c (.row 1 false es))], [], 0⟩) ?_ ?_
  · by_cases he : es = []
    · subst he
      refine AW.st teOk [] (by simp [-Option.some.injEq] <;> rfl) trivial ?_
      refine AW.either (by simp) ?_ (AW.skip ⟨_, Weak.normT hA [0] [] [] 0 _ (by simp) (by simp) (by simp), by simp⟩)
      refine AW.st teOk [] (by simp [-Option.some.injEq] <;> rfl) trivial ?_
      refine AW.ret ⟨.inr rfl, _, (Weak.nil 2 1 _ (by simp <;> rfl)).trans (Weak.normT hA [2] [(2, 0)] [] 1 _ (by simp [putT]) (by simp [putT]) (by simp [putT])), ?_⟩
      simp [putT]
    · refine AW.st teOk [] (by simp [he, -Option.some.injEq] <;> rfl) trivial ?_
      refine AW.iff false (by simp) (fun h => by cases h) fun _ => AW.skip ⟨_, Weak.normT hA [0] [] [] 0 _ (by simp) (by simp) (by simp), by simp⟩
  · rintro s rfl
    refine AW.st teOk [] (by simp [-Option.some.injEq] <;> rfl) ?_ ?_
    · simp [growOk]
      exact ⟨by omega, hk⟩
    refine AW.ret ⟨.inr rfl, _, Weak.normT hA [2] [(2, 0)] [] 1 _ (by simp) (by simp) (by simp [hf]), ?_⟩
    simp
theorem cloneQ_new (es : List (List Cell)) (hk : ∀ e ∈ es, e.length = 5) (hf : flatO ⟨5, es⟩ = true) (hb : es.length < 1000000000) : New Tryd.prog 53 [.c (.row 5 false es)] (.c (.ref 0 0 es.length)) [(0, ⟨5, es⟩)] 1 := by
  refine new_of teOk Tryd.func53 (by kernel_rfl) (c := _) rfl (N := 8) rfl (rs := [Go.ResultVar.tmp 2]) rfl (by simp) fun base A w0 hA => ?_
  refine AW.st teOk [] (by simp [-Option.some.injEq] <;> rfl) trivial ?_
  refine AW.mid (fun s => s = ⟨[(0, .c (.row 5 false es))], [], 0⟩) ?_ ?_
  · by_cases he : es = []
    · subst he
      refine AW.st teOk [] (by simp [-Option.some.injEq] <;> rfl) trivial ?_
      refine AW.either (by simp) ?_ (AW.skip ⟨_, Weak.normT hA [0] [] [] 0 _ (by simp) (by simp) (by simp), by simp⟩)
      refine AW.st teOk [] (by simp [-Option.some.injEq] <;> rfl) trivial ?_
      refine AW.ret ⟨.inr rfl, _, (Weak.nil 2 5 _ (by simp <;> rfl)).trans (Weak.normT hA [2] [(2, 0)] [] 1 _ (by simp [putT]) (by simp [putT]) (by simp [putT])), ?_⟩
      simp [putT]
    · refine AW.st teOk [] (by simp [he, -Option.some.injEq] <;> rfl) trivial ?_
      refine AW.iff false (by simp) (fun h => by cases h) fun _ => AW.skip ⟨_, Weak.normT hA [0] [] [] 0 _ (by simp) (by simp) (by simp), by simp⟩
  · rintro s rfl
    refine AW.st teOk [] (by simp [-Option.some.injEq] <;> rfl) ?_ ?_
    · simp [growOk]
      exact ⟨by omega, hk⟩
    refine AW.ret ⟨.inr rfl, _, Weak.normT hA [2] [(2, 0)] [] 1 _ (by simp) (by simp) (by simp [hf]), ?_⟩
    simp
theorem cloneI_new (es : List (List Cell)) (hk : ∀ e ∈ es, e.length = 1) (hf : flatO ⟨1, es⟩ = true) (hb : es.length < 1000000000) : New Tryd.prog 55 [.c (.row 1 false es)] (.c (.ref 0 0 es.length)) [(0, ⟨1, es⟩)] 1 := by
  refine new_of teOk Tryd.func55 (by kernel_rfl) (c := _) rfl (N := 8) rfl (rs := [Go.ResultVar.tmp 2]) rfl (by simp) fun base A w0 hA => ?_
  refine AW.st teOk [] (by simp [-Option.some.injEq] <;> rfl) trivial ?_
  refine AW.mid (fun s => s = ⟨[(0, .c (.row 1 false es))], [], 0⟩) ?_ ?_
  · by_cases he : es = []
    · subst he
      refine AW.st teOk [] (by simp [-Option.some.injEq] <;> rfl) trivial ?_
      refine AW.either (by simp) ?_ (AW.skip ⟨_, Weak.normT hA [0] [] [] 0 _ (by simp) (by simp) (by simp), by simp⟩)
      refine AW.st teOk [] (by simp [-Option.some.injEq] <;> rfl) trivial ?_
      refine AW.ret ⟨.inr rfl, _, (Weak.nil 2 1 _ (by simp <;> rfl)).trans (Weak.normT hA [2] [(2, 0)] [] 1 _ (by simp [putT]) (by simp [putT]) (by simp [putT])), ?_⟩
      simp [putT]
    · refine AW.st teOk [] (by simp [he, -Option.some.injEq] <;> rfl) trivial ?_
      refine AW.iff false (by simp) (fun h => by cases h) fun _ => AW.skip ⟨_, Weak.normT hA [0] [] [] 0 _ (by simp) (by simp) (by simp), by simp⟩
  · rintro s rfl
    refine AW.st teOk [] (by simp [-Option.some.injEq] <;> rfl) ?_ ?_
    · simp [growOk]
      exact ⟨by omega, hk⟩
    refine AW.ret ⟨.inr rfl, _, Weak.normT hA [2] [(2, 0)] [] 1 _ (by simp) (by simp) (by simp [hf]), ?_⟩
    simp
theorem cloneW_new (es : List (List Cell)) (hk : ∀ e ∈ es, e.length = 1) (hf : flatO ⟨1, es⟩ = true) (hb : es.length < 1000000000) : New Tryd.prog 56 [.c (.row 1 false es)] (.c (.ref 0 0 es.length)) [(0, ⟨1, es⟩)] 1 := by
  refine new_of teOk Tryd.func56 (by kernel_rfl) (c := _) rfl (N := 8) rfl (rs := [Go.ResultVar.tmp 2]) rfl (by simp) fun base A w0 hA => ?_
  refine AW.st teOk [] (by simp [-Option.some.injEq] <;> rfl) trivial ?_
  refine AW.mid (fun s => s = ⟨[(0, .c (.row 1 false es))], [], 0⟩) ?_ ?_
  · by_cases he : es = []
    · subst he
      refine AW.st teOk [] (by simp [-Option.some.injEq] <;> rfl) trivial ?_
      refine AW.either (by simp) ?_ (AW.skip ⟨_, Weak.normT hA [0] [] [] 0 _ (by simp) (by simp) (by simp), by simp⟩)
      refine AW.st teOk [] (by simp [-Option.some.injEq] <;> rfl) trivial ?_
      refine AW.ret ⟨.inr rfl, _, (Weak.nil 2 1 _ (by simp <;> rfl)).trans (Weak.normT hA [2] [(2, 0)] [] 1 _ (by simp [putT]) (by simp [putT]) (by simp [putT])), ?_⟩
      simp [putT]
    · refine AW.st teOk [] (by simp [he, -Option.some.injEq] <;> rfl) trivial ?_
      refine AW.iff false (by simp) (fun h => by cases h) fun _ => AW.skip ⟨_, Weak.normT hA [0] [] [] 0 _ (by simp) (by simp) (by simp), by simp⟩
  · rintro s rfl
    refine AW.st teOk [] (by simp [-Option.some.injEq] <;> rfl) ?_ ?_
    · simp [growOk]
      exact ⟨by omega, hk⟩
    refine AW.ret ⟨.inr rfl, _, Weak.normT hA [2] [(2, 0)] [] 1 _ (by simp) (by simp) (by simp [hf]), ?_⟩
    simp
theorem encC1 (l : List V2) : ∀ e ∈ l.map encC, e.length = 1 := fun e he => by obtain ⟨x, _, rfl⟩ := List.mem_map.1 he; rfl
theorem encP5 (l : List PrS) : ∀ e ∈ l.map encPr', e.length = 5 := fun e he => by obtain ⟨x, _, rfl⟩ := List.mem_map.1 he; rfl
theorem encI1 (l : List (List V2)) : ∀ e ∈ l.map encIn, e.length = 1 := fun e he => by obtain ⟨x, _, rfl⟩ := List.mem_map.1 he; rfl
theorem cloneW_pure (l : List V2) (hl : l.length < 1000000000) : Pure Tryd.prog 56 [.c (encVs l)] (.c (encVs l)) := by
  have h := cloneW_new (l.map encC) (encC1 l) (by simp) (by simpa using hl)
  exact h.pure ⟨[(0, .c (encVs l))], [], 1⟩ (fun A => (Weak.freeze 0 ⟨1, l.map encC⟩ [] _ (by simp) (by simp)).be (by simp)) rfl rfl
structure XpB (s : XpS) : Prop where
  g : GrB s.g
@[simp] def refX (b : Nat) (s : XpS) : List Cell := [.ref b 0 s.g.accs.length, .row 5 false (s.g.props.map encPr'), .row 1 false (s.g.ins.map encIn), encIs s.g.nxt, .ref (b + 1) 0 s.g.pks.length, .ref (b + 2) 0 s.g.decs.length, cI s.g.steps, cI s.lo, cI s.am]
@[simp] def sigX (b : Nat) (s : XpS) : Sig := [(b, ⟨1, s.g.accs.map encC⟩), (b + 1, ⟨5, s.g.pks.map encPk⟩), (b + 2, ⟨4, s.g.decs.map encDe⟩)]
@[simp] def nilX : List Cell := nilG ++ [cI 0, cI 0]
theorem xclone_new (s : XpS) (hg : GrB s.g) : New Tryd.prog 34 [.agg (encXp s)] (.agg (refX 0 s)) (sigX 0 s) 3 := by
  obtain ⟨⟨accs, props, ins, nxt, pks, decs, steps⟩, lo, am⟩ := s
  obtain ⟨hal, hpl, hil, hnl, hkl, hdl, ha, hp, hi, hk, hd⟩ := hg
  dsimp only at *
  have c1 := cloneA_new (accs.map encC) (encC1 accs) (by simp) (by simp; omega)
  have c2 := cloneQ_new (props.map encPr') (encP5 props) (by simp) (by simp; omega)
  have c3 := cloneI_new (ins.map encIn) (encI1 ins) (by simp) (by simp; omega)
  have c5 := cloneP_new (pks.map encPk) (enc5 pks) (flat_encPk pks) (by simp; omega)
  have c6 := cloneD_new (decs.map encDe) (enc4 decs) (flat_encDe decs) (by simp; omega)
  rw [List.length_map] at c1 c2 c3 c5 c6
  refine new_drop teOk Tryd.func34 (by kernel_rfl) (c := _) rfl (N := 104) rfl (rs := [Go.ResultVar.cell 2 47]) rfl (by simp) fun base A w0 hA => ?_
  refine AW.st teOk [] (by simp [-Option.some.injEq] <;> rfl) trivial ?_
  refine AW.st teOk [] (by simp [-Option.some.injEq] <;> rfl) trivial ?_
  refine AW.dr mixed teOk [.tup [.c (.ref 0 0 accs.length), .c (.row 1 true (accs.map encC))], .tup [.c (.ref 0 0 props.length), .c (.row 5 true (props.map encPr'))]] (by simp [-Option.some.injEq] <;> rfl) (by kernel_rfl) (by kernel_rfl) ?_ ?_
  · simp [allP]
    exact ⟨c1, c2⟩
  refine AW.to (s2 := ⟨[(1, .c (.ptr 0 0 0)), (2, .c (.ptr 1 0 0)), (3, .c (.ptr 0 0 0))], [(0, ⟨9, [[.ref 2 0 accs.length, .ref 3 0 props.length, .row 1 false (ins.map encIn), encIs nxt, .row 5 false (pks.map encPk), .row 4 false (decs.map encDe), cI steps, cI lo, cI am]]⟩), (1, ⟨9, [nilX]⟩), (2, ⟨1, accs.map encC⟩), (3, ⟨5, props.map encPr'⟩)], 4⟩) (Weak.normS hA [1, 2, 3] [(1, 0), (2, 1)] [(10, 2), (15, 3)] [0] 4 _ (by simp [putA]) (by simp [putA]) (by simp [putA])) (by simp [putA]) ?_
  refine AW.seq ?_
  refine AW.st teOk [] (by simp [-Option.some.injEq] <;> rfl) trivial ?_
  refine AW.block (AW.loop (fun m s => ∃ j : Nat, m = props.length - j ∧ j ≤ props.length ∧ s = ⟨[(1, .c (.ptr 0 0 0)), (2, .c (.ptr 1 0 0)), (3, .c (.ptr 0 0 0)), (27, .c (cI props.length)), (28, .c (cI j))], [(0, ⟨9, [[.ref 2 0 accs.length, .ref 3 0 props.length, .row 1 false (ins.map encIn), encIs nxt, .row 5 false (pks.map encPk), .row 4 false (decs.map encDe), cI steps, cI lo, cI am]]⟩), (1, ⟨9, [nilX]⟩), (2, ⟨1, accs.map encC⟩), (3, ⟨5, props.map encPr'⟩)], 4⟩) _ (Weak.normS hA [1, 2, 3, 27, 28] [(1, 0), (2, 1)] [(2, 2), (3, 3)] [0] 4 _ (by simp) (by simp) (by simp)) ⟨0, rfl, Nat.zero_le _, by simp⟩ ?_)
  rintro m s ⟨j, rfl, hj, rfl⟩
  refine AW.st teOk [] (by simp [-Option.some.injEq] <;> rfl) trivial ?_
  refine AW.seq (AW.iff (decide (j < props.length)) (by simp) (fun h => AW.skip ?_) (fun h => AW.exit (x_then (x_then (blockA_exit ?_)))))
  · rw [decide_eq_true_eq] at h
    obtain ⟨x, hx⟩ : ∃ x, props[j]? = some x := ⟨_, List.getElem?_eq_getElem h⟩
    have hm : x ∈ props := List.mem_of_getElem? hx
    have hinc : IntKind.i64.wrap ((j : Int) + 1) = (j : Int) + 1 := wrap_s _ (by omega)
    have hset : (props.map encPr').set j (encPr' x) = props.map encPr' := by rw [set_enc, set_same hx]
    obtain ⟨hv, hak⟩ := hp _ hm
    obtain ⟨n, v, r, acks, dc⟩ := x
    simp only [encPr', encPr] at hset
    dsimp only at hv hak
    refine AW.seq (AW.block ?_)
    refine AW.st teOk [] (by simp [-Option.some.injEq] <;> rfl) trivial ?_
    refine AW.draw mixed teOk (ans := [.c (encIs acks)]) (by simp [hx, hset, -Option.some.injEq] <;> rfl) (by kernel_rfl) (by kernel_rfl) ?_ ?_
    · simp [allP]
      exact ⟨h, cloneN_pure acks (by omega), h⟩
    refine AW.text teOk (ans := []) (by simp [-Option.some.injEq] <;> rfl) ?_ ?_
    · trivial
    refine ⟨_, _, Weak.normS hA [1, 2, 3, 27, 28] [(1, 0), (2, 1)] [(2, 2), (3, 3)] [0] 4 _ (by simp) (by simp) (by simp), ?_, j + 1, rfl, h, ?_⟩
    · omega
    · simp [hinc]
  refine AW.to (s2 := ⟨[(1, .c (.ptr 0 0 0)), (2, .c (.ptr 1 0 0)), (3, .c (.ptr 0 0 0))], [(0, ⟨9, [[.ref 2 0 accs.length, .row 5 false (props.map encPr'), .row 1 false (ins.map encIn), encIs nxt, .row 5 false (pks.map encPk), .row 4 false (decs.map encDe), cI steps, cI lo, cI am]]⟩), (1, ⟨9, [nilX]⟩), (2, ⟨1, accs.map encC⟩)], 3⟩) ((Weak.freeze 3 ⟨5, props.map encPr'⟩ [0] _ (by simp) (by simp)).trans (Weak.normS hA [1, 2, 3] [(1, 0), (2, 1)] [(2, 2)] [0] 3 _ (by simp) (by simp) (by simp))) (by simp) ?_
  refine AW.dr mixed teOk [.tup [.c (.ref 0 0 ins.length), .c (.row 1 true (ins.map encIn))], .c (encIs nxt)] (by simp [-Option.some.injEq] <;> rfl) (by kernel_rfl) (by kernel_rfl) ?_ ?_
  · simp [allP]
    exact ⟨c3, cloneN_pure nxt (by omega)⟩
  refine AW.to (s2 := ⟨[(1, .c (.ptr 0 0 0)), (2, .c (.ptr 1 0 0)), (3, .c (.ptr 0 0 0))], [(0, ⟨9, [[.ref 2 0 accs.length, .row 5 false (props.map encPr'), .ref 3 0 ins.length, encIs nxt, .row 5 false (pks.map encPk), .row 4 false (decs.map encDe), cI steps, cI lo, cI am]]⟩), (1, ⟨9, [nilX]⟩), (2, ⟨1, accs.map encC⟩), (3, ⟨1, ins.map encIn⟩)], 4⟩) (Weak.normS hA [1, 2, 3] [(1, 0), (2, 1)] [(2, 2), (9, 3)] [0] 4 _ (by simp [putA]) (by simp [putA]) (by simp [putA])) (by simp [putA]) ?_
  refine AW.seq ?_
  refine AW.st teOk [] (by simp [-Option.some.injEq] <;> rfl) trivial ?_
  refine AW.block (AW.loop (fun m s => ∃ j : Nat, m = ins.length - j ∧ j ≤ ins.length ∧ s = ⟨[(1, .c (.ptr 0 0 0)), (2, .c (.ptr 1 0 0)), (3, .c (.ptr 0 0 0)), (68, .c (cI ins.length)), (69, .c (cI j))], [(0, ⟨9, [[.ref 2 0 accs.length, .row 5 false (props.map encPr'), .ref 3 0 ins.length, encIs nxt, .row 5 false (pks.map encPk), .row 4 false (decs.map encDe), cI steps, cI lo, cI am]]⟩), (1, ⟨9, [nilX]⟩), (2, ⟨1, accs.map encC⟩), (3, ⟨1, ins.map encIn⟩)], 4⟩) _ (Weak.normS hA [1, 2, 3, 68, 69] [(1, 0), (2, 1)] [(2, 2), (3, 3)] [0] 4 _ (by simp) (by simp) (by simp)) ⟨0, rfl, Nat.zero_le _, by simp⟩ ?_)
  rintro m s ⟨j, rfl, hj, rfl⟩
  refine AW.st teOk [] (by simp [-Option.some.injEq] <;> rfl) trivial ?_
  refine AW.seq (AW.iff (decide (j < ins.length)) (by simp) (fun h => AW.skip ?_) (fun h => AW.exit (x_then (x_then (blockA_exit ?_)))))
  · rw [decide_eq_true_eq] at h
    obtain ⟨x, hx⟩ : ∃ x, ins[j]? = some x := ⟨_, List.getElem?_eq_getElem h⟩
    have hm : x ∈ ins := List.mem_of_getElem? hx
    have hinc : IntKind.i64.wrap ((j : Int) + 1) = (j : Int) + 1 := wrap_s _ (by omega)
    have hset : (ins.map encIn).set j (encIn x) = ins.map encIn := by rw [set_enc, set_same hx]
    simp only [encIn] at hset
    refine AW.seq (AW.block ?_)
    refine AW.st teOk [] (by simp [-Option.some.injEq] <;> rfl) trivial ?_
    refine AW.draw mixed teOk (ans := [.c (encVs x)]) (by simp [hx, hset, -Option.some.injEq] <;> rfl) (by kernel_rfl) (by kernel_rfl) ?_ ?_
    · simp [allP]
      exact ⟨h, cloneW_pure x (hi x hm).1, h⟩
    refine AW.text teOk (ans := []) (by simp [-Option.some.injEq] <;> rfl) ?_ ?_
    · trivial
    refine ⟨_, _, Weak.normS hA [1, 2, 3, 68, 69] [(1, 0), (2, 1)] [(2, 2), (3, 3)] [0] 4 _ (by simp) (by simp) (by simp), ?_, j + 1, rfl, h, ?_⟩
    · omega
    · simp [hinc]
  refine AW.to (s2 := ⟨[(1, .c (.ptr 0 0 0)), (2, .c (.ptr 1 0 0)), (3, .c (.ptr 0 0 0))], [(0, ⟨9, [[.ref 2 0 accs.length, .row 5 false (props.map encPr'), .row 1 false (ins.map encIn), encIs nxt, .row 5 false (pks.map encPk), .row 4 false (decs.map encDe), cI steps, cI lo, cI am]]⟩), (1, ⟨9, [nilX]⟩), (2, ⟨1, accs.map encC⟩)], 3⟩) ((Weak.freeze 3 ⟨1, ins.map encIn⟩ [0] _ (by simp) (by simp)).trans (Weak.normS hA [1, 2, 3] [(1, 0), (2, 1)] [(2, 2)] [0] 3 _ (by simp) (by simp) (by simp))) (by simp) ?_
  refine AW.dr mixed teOk [.tup [.c (.ref 0 0 pks.length), .c (.row 5 true (pks.map encPk))], .tup [.c (.ref 0 0 decs.length), .c (.row 4 true (decs.map encDe))]] (by simp [-Option.some.injEq] <;> rfl) (by kernel_rfl) (by kernel_rfl) ?_ ?_
  · simp [allP]
    exact ⟨c5, c6⟩
  refine AW.st teOk [] (by simp [-Option.some.injEq] <;> rfl) trivial ?_
  refine AW.ret ⟨.inr rfl, _, _, Weak.normS hA [1, 2, 3] [(1, 0), (2, 1)] [(2, 2), (9, 3), (14, 4)] [0, 1] 5 _ (by simp [putA]) (by simp [putA]) (by simp [putA]), by simp [putA] <;> rfl, ?_⟩
  simp [putA]
  exact (Weak.normS hA [0] [] [(2, 0), (3, 1), (4, 2)] [0, 1] 3 _ (by simp) (by simp) (by simp)).be (by simp)
theorem clear_set (l : List DeS) (j : Nat) {d : DeS} (h : l[j]? = some d) : ((l.take j).map (fun d => ({ d with step := 0 } : DeS)) ++ l.drop j).set j { d with step := 0 } = (l.take (j + 1)).map (fun d => ({ d with step := 0 } : DeS)) ++ l.drop (j + 1) := by
  have hj := (List.getElem?_eq_some_iff.1 h).1
  have hd : l.drop j = d :: l.drop (j + 1) := by rw [List.drop_eq_getElem_cons hj, (List.getElem?_eq_some_iff.1 h).2]
  have hl : ((l.take j).map (fun d => ({ d with step := 0 } : DeS))).length = j := by rw [List.length_map, List.length_take]; omega
  rw [List.take_add_one, h, List.set_append_right _ _ (by omega), hl, hd, Nat.sub_self, List.map_append, List.append_assoc]
  rfl
theorem clear_get (l : List DeS) (j : Nat) {d : DeS} (h : l[j]? = some d) : ((l.take j).map (fun d => ({ d with step := 0 } : DeS)) ++ l.drop j)[j]? = some d := by
  have hj := (List.getElem?_eq_some_iff.1 h).1
  have hl : ((l.take j).map (fun d => ({ d with step := 0 } : DeS))).length = j := by rw [List.length_map, List.length_take]; omega
  rw [List.getElem?_append_right (by omega), hl, Nat.sub_self, List.getElem?_drop, Nat.add_zero, h]
theorem xcan_pure (s : XpS) (hg : GrB s.g) (hk : s.g.pks.length < 20) (hkv : ∀ k ∈ s.g.pks, k.v.length < 1000000) : Pure Tryd.prog 16 [.agg (encXp s)] (.agg (encXp (canX s))) := by
  have c0 := xclone_new s hg
  have c1 := sort_con s.g.pks hk hkv
  have hdl := hg.dl
  obtain ⟨⟨accs, props, ins, nxt, pks, decs, steps⟩, lo, am⟩ := s
  dsimp only at *
  refine pure_of teOk Tryd.func16 (by kernel_rfl) (c := _) rfl (N := 27) rfl (rs := [Go.ResultVar.cell 2 47]) rfl (by simp) fun base A w0 hA => ?_
  refine AW.st teOk [] (by simp [-Option.some.injEq] <;> rfl) trivial ?_
  refine AW.st teOk [.new (.agg (refX 0 ⟨⟨accs, props, ins, nxt, pks, decs, steps⟩, lo, am⟩)) (sigX 0 ⟨⟨accs, props, ins, nxt, pks, decs, steps⟩, lo, am⟩) 3] (by simp [-Option.some.injEq] <;> rfl) ?_ ?_
  · simpa using c0
  refine AW.to (s2 := ⟨[(1, .c (.ptr 0 0 0)), (2, .c (.ptr 1 0 0))], [(0, ⟨9, [[.ref 2 0 accs.length, .row 5 false (props.map encPr'), .row 1 false (ins.map encIn), encIs nxt, .ref 1000000 0 pks.length, .ref 3 0 decs.length, cI steps, cI lo, cI am]]⟩), (1, ⟨9, [nilX]⟩), (2, ⟨1, accs.map encC⟩), (3, ⟨4, decs.map encDe⟩), (1000000, ⟨5, pks.map encPk⟩)], 1000001⟩) (Weak.normS hA [1, 2] [(1, 0), (2, 1)] [(3, 2), (4, 1000000), (5, 3)] [0] 1000001 _ (by simp [putA]) (by simp [putA]) (by simp [putA])) (by simp [putA]) ?_
  refine AW.st teOk [.own (.tup []) [(1000000, ⟨5, (sortP pks).map encPk⟩)] 1000023] (by simp [-Option.some.injEq] <;> rfl) ?_ ?_
  · simpa using c1
  have htkp : (List.map encPk (sortP pks)).take pks.length = List.map encPk (sortP pks) := List.take_of_length_le (by rw [List.length_map, sortP_len]; exact Nat.le_refl _)
  refine AW.to (s2 := ⟨[(1, .c (.ptr 0 0 0)), (2, .c (.ptr 1 0 0))], [(0, ⟨9, [[.ref 2 0 accs.length, .row 5 false (props.map encPr'), .row 1 false (ins.map encIn), encIs nxt, .row 5 false ((sortP pks).map encPk), .ref 3 0 decs.length, cI steps, cI lo, cI am]]⟩), (1, ⟨9, [nilX]⟩), (2, ⟨1, accs.map encC⟩), (3, ⟨4, decs.map encDe⟩)], 4⟩) ((Weak.freeze 1000000 ⟨5, (sortP pks).map encPk⟩ [0] _ (by simp) (by simp)).trans (Weak.normS hA [1, 2] [(1, 0), (2, 1)] [(2, 2), (3, 3)] [0] 4 _ (by simp [sortP_len]) (by simp [sortP_len]) (by simp [sortP_len]))) (by simp [sortP_len, htkp]) ?_
  refine AW.st teOk [] (by simp [-Option.some.injEq] <;> rfl) trivial ?_
  refine AW.seq ?_
  refine AW.st teOk [] (by simp [-Option.some.injEq] <;> rfl) trivial ?_
  refine AW.block (AW.loop (fun m s => ∃ (j : Nat) (D : List DeS), m = decs.length - j ∧ j ≤ decs.length ∧ D = (decs.take j).map (fun d => ({ d with step := 0 } : DeS)) ++ decs.drop j ∧ s = ⟨[(1, .c (.ptr 0 0 0)), (2, .c (.ptr 1 0 0)), (15, .c (cI decs.length)), (16, .c (cI j))], [(0, ⟨9, [[.ref 2 0 accs.length, .row 5 false (props.map encPr'), .row 1 false (ins.map encIn), encIs nxt, .row 5 false ((sortP pks).map encPk), .ref 3 0 decs.length, cI 0, cI lo, cI am]]⟩), (1, ⟨9, [nilX]⟩), (2, ⟨1, accs.map encC⟩), (3, ⟨4, D.map encDe⟩)], 4⟩) _ (Weak.normS hA [1, 2, 15, 16] [(1, 0), (2, 1)] [(2, 2), (3, 3)] [0] 4 _ (by simp) (by simp) (by simp)) ⟨0, decs, rfl, Nat.zero_le _, rfl, by simp⟩ ?_)
  rintro m s ⟨j, D, rfl, hj, hD, rfl⟩
  refine AW.st teOk [] (by simp [-Option.some.injEq] <;> rfl) trivial ?_
  refine AW.seq (AW.iff (decide (j < decs.length)) (by simp) (fun h => AW.skip ?_) (fun h => AW.exit (x_then (x_then (blockA_exit ?_)))))
  · rw [decide_eq_true_eq] at h
    obtain ⟨d, hd⟩ : ∃ d, decs[j]? = some d := ⟨_, List.getElem?_eq_getElem h⟩
    have hinc : IntKind.i64.wrap ((j : Int) + 1) = (j : Int) + 1 := wrap_s _ (by omega)
    have hg := clear_get decs j hd
    have hs := clear_set decs j hd
    rw [← hD] at hg hs
    obtain ⟨D', hD'⟩ : ∃ D', D' = (decs.take (j + 1)).map (fun d => ({ d with step := 0 } : DeS)) ++ decs.drop (j + 1) := ⟨_, rfl⟩
    have hset : (D.map encDe).set j (encDe { d with step := 0 }) = D'.map encDe := by rw [set_enc, hs, hD']
    simp only [encDe] at hset
    refine AW.seq (AW.block ?_)
    refine AW.st teOk [] (by simp [-Option.some.injEq] <;> rfl) trivial ?_
    refine AW.text teOk (ans := []) (by simp [hg, hset, -Option.some.injEq] <;> rfl) ?_ ?_
    · first | trivial | omega | (simp [allP, growOk] <;> omega)
    refine AW.text teOk (ans := []) (by simp [-Option.some.injEq] <;> rfl) ?_ ?_
    · trivial
    refine ⟨_, _, Weak.normS hA [1, 2, 15, 16] [(1, 0), (2, 1)] [(2, 2), (3, 3)] [0] 4 _ (by simp) (by simp) (by simp), ?_, j + 1, D', rfl, h, hD', ?_⟩
    · omega
    · simp [hinc]
  rw [decide_eq_false_iff_not] at h
  rw [List.take_of_length_le (show decs.length ≤ j by omega), List.drop_eq_nil_of_le (show decs.length ≤ j by omega), List.append_nil] at hD
  have hDl : D.length = decs.length := by rw [hD, List.length_map]
  have htkd : (List.map encDe D).take decs.length = List.map encDe D := List.take_of_length_le (by rw [List.length_map]; omega)
  refine AW.to (s2 := ⟨[(1, .c (.ptr 0 0 0)), (2, .c (.ptr 1 0 0))], [(0, ⟨9, [[encVs accs, .row 5 false (props.map encPr'), .row 1 false (ins.map encIn), encIs nxt, .row 5 false ((sortP pks).map encPk), .row 4 false (D.map encDe), cI 0, cI lo, cI am]]⟩), (1, ⟨9, [nilX]⟩)], 2⟩) ((Weak.freeze 2 ⟨1, accs.map encC⟩ [0] _ (by simp) (by simp)).trans ((Weak.freeze 3 ⟨4, D.map encDe⟩ [0] _ (by simp) (by simp)).trans (Weak.normS hA [1, 2] [(1, 0), (2, 1)] [] [0] 2 _ (by simp [hDl, htkd]) (by simp [hDl, htkd]) (by simp [hDl, htkd])))) (by simp [hDl, htkd]) ?_
  refine AW.st teOk [] (by simp [-Option.some.injEq] <;> rfl) trivial ?_
  refine AW.ret ⟨.inr rfl, _, Weak.refl _, ?_⟩
  rw [hD]
  simp [canX, canG]
end Go.Proofs.YtphlhadgcfndhaaDoor.Abs
