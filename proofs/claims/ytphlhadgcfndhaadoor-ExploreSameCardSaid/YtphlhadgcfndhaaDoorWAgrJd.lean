/- Agreement: states; copies; a group in new memory. -/
import Derived.Test.YtphlhadgcfndhaaDoorJd3
namespace Go.Proofs.YtphlhadgcfndhaaDoor.Abs
open Go Go.RowKit
set_option linter.unusedVariables false
set_option linter.unusedSimpArgs false
set_option maxHeartbeats 4000000
structure PkS where
  reply : Bool
  prop : Int
  acc : Int
  round : Int
  v : V2
structure DeS where
  prop : Int
  input : Int
  v : V2
  step : Int
structure GrS where
  accs : List V2
  props : List PrS
  ins : List (List V2)
  nxt : List Int
  pks : List PkS
  decs : List DeS
  steps : Int
@[simp] def encPk (k : PkS) : List Cell := [cB k.reply, cI k.prop, cI k.acc, cI k.round, encV k.v]
@[simp] def encDe (d : DeS) : List Cell := [cI d.prop, cI d.input, encV d.v, cI d.step]
@[simp] def encIn (l : List V2) : List Cell := [encVs l]
@[simp] def encPr' (p : PrS) : List Cell := encPr p
abbrev encGr (g : GrS) : List Cell := [encVs g.accs, .row 5 false (g.props.map encPr'), .row 1 false (g.ins.map encIn), encIs g.nxt, .row 5 false (g.pks.map encPk), .row 4 false (g.decs.map encDe), cI g.steps]
@[simp] theorem flat_encPk (l : List PkS) : flatO ⟨5, l.map encPk⟩ = true := flatO_of fun e he => by
  obtain ⟨x, _, rfl⟩ := List.mem_map.1 he
  rfl
@[simp] theorem flat_encDe (l : List DeS) : flatO ⟨4, l.map encDe⟩ = true := flatO_of fun e he => by
  obtain ⟨x, _, rfl⟩ := List.mem_map.1 he
  rfl
@[simp] theorem flat_encIn (l : List (List V2)) : flatO ⟨1, l.map encIn⟩ = true := flatO_of fun e he => by
  obtain ⟨x, _, rfl⟩ := List.mem_map.1 he
  rfl
@[simp] theorem flat_encPr' (l : List PrS) : flatO ⟨5, l.map encPr'⟩ = true := flatO_of fun e he => by
  obtain ⟨x, _, rfl⟩ := List.mem_map.1 he
  rfl
theorem copy_pure (v : V2) (hb : v.length < 1000000000) : Pure Tryd.prog 45 [.c (encV v)] (.c (encV v)) := by
  refine pure_of teOk Tryd.func45 (by kernel_rfl) (c := _) rfl (N := 5) rfl (rs := [Go.ResultVar.tmp 2]) rfl (by simp) fun base A w0 hA => ?_
  refine AW.st teOk [] (by simp [-Option.some.injEq] <;> rfl) trivial ?_
  refine AW.st teOk [.fz (.c (encV v))] (by simp [-Option.some.injEq] <;> rfl) ?_ ?_
  · exact cloneV_pure (v.map encE) (fun e he => by obtain ⟨x, _, rfl⟩ := List.mem_map.1 he; rfl) (fun e he => by obtain ⟨x, _, rfl⟩ := List.mem_map.1 he; rfl) (by simp; omega)
  refine AW.ret ⟨.inr rfl, _, Weak.refl _, ?_⟩
  simp
theorem cloneN_new (es : List (List Cell)) (hk : ∀ e ∈ es, e.length = 1) (hf : flatO ⟨1, es⟩ = true) (hb : es.length < 1000000000) : New Tryd.prog 54 [.c (.row 1 false es)] (.c (.ref 0 0 es.length)) [(0, ⟨1, es⟩)] 1 := by
  refine new_of teOk Tryd.func54 (by kernel_rfl) (c := _) rfl (N := 8) rfl (rs := [Go.ResultVar.tmp 2]) rfl (by simp) fun base A w0 hA => ?_
  refine AW.st teOk [] (by simp [-Option.some.injEq] <;> rfl) trivial ?_
  refine AW.mid (fun s => s = ⟨[(0, .c (.row 1 false es))], [], 0⟩) ?_ ?_
  · by_cases he : es = []
    · subst he
      refine AW.st teOk [] (by simp [-Option.some.injEq] <;> rfl) trivial ?_
      refine AW.either (by simp) ?_ (AW.skip ⟨_, Weak.normT hA [0] [] [] 0 _ (by simp) (by simp) (by simp), by simp⟩)
      refine AW.st teOk [] (by simp [-Option.some.injEq] <;> rfl) trivial ?_
      refine AW.ret ⟨.inr rfl, _, (Weak.nil 2 1 _ (by simp <;> rfl)).trans (Weak.normT hA [2] [(2, 0)] [] 1 _ (by simp [putT]) (by simp [putT]) (by simp [putT])), ?_⟩
      simp [putT]
    · refine AW.st teOk [] (by simp [he, -Option.some.injEq] <;> rfl) trivial ?_
      refine AW.iff false (by simp) (fun h => by cases h) fun _ => AW.skip ⟨_, Weak.normT hA [0] [] [] 0 _ (by simp) (by simp) (by simp), by simp⟩
  · rintro s rfl
    refine AW.st teOk [] (by simp [-Option.some.injEq] <;> rfl) ?_ ?_
    · simp [growOk]
      exact ⟨by omega, hk⟩
    refine AW.ret ⟨.inr rfl, _, Weak.normT hA [2] [(2, 0)] [] 1 _ (by simp) (by simp) (by simp [hf]), ?_⟩
    simp
theorem cloneP_new (es : List (List Cell)) (hk : ∀ e ∈ es, e.length = 5) (hf : flatO ⟨5, es⟩ = true) (hb : es.length < 1000000000) : New Tryd.prog 57 [.c (.row 5 false es)] (.c (.ref 0 0 es.length)) [(0, ⟨5, es⟩)] 1 := by
  refine new_of teOk Tryd.func57 (by kernel_rfl) (c := _) rfl (N := 8) rfl (rs := [Go.ResultVar.tmp 2]) rfl (by simp) fun base A w0 hA => ?_
  refine AW.st teOk [] (by simp [-Option.some.injEq] <;> rfl) trivial ?_
  refine AW.mid (fun s => s = ⟨[(0, .c (.row 5 false es))], [], 0⟩) ?_ ?_
  · by_cases he : es = []
    · subst he
      refine AW.st teOk [] (by simp [-Option.some.injEq] <;> rfl) trivial ?_
      refine AW.either (by simp) ?_ (AW.skip ⟨_, Weak.normT hA [0] [] [] 0 _ (by simp) (by simp) (by simp), by simp⟩)
      refine AW.st teOk [] (by simp [-Option.some.injEq] <;> rfl) trivial ?_
      refine AW.ret ⟨.inr rfl, _, (Weak.nil 2 5 _ (by simp <;> rfl)).trans (Weak.normT hA [2] [(2, 0)] [] 1 _ (by simp [putT]) (by simp [putT]) (by simp [putT])), ?_⟩
      simp [putT]
    · refine AW.st teOk [] (by simp [he, -Option.some.injEq] <;> rfl) trivial ?_
      refine AW.iff false (by simp) (fun h => by cases h) fun _ => AW.skip ⟨_, Weak.normT hA [0] [] [] 0 _ (by simp) (by simp) (by simp), by simp⟩
  · rintro s rfl
    refine AW.st teOk [] (by simp [-Option.some.injEq] <;> rfl) ?_ ?_
    · simp [growOk]
      exact ⟨by omega, hk⟩
    refine AW.ret ⟨.inr rfl, _, Weak.normT hA [2] [(2, 0)] [] 1 _ (by simp) (by simp) (by simp [hf]), ?_⟩
    simp
theorem cloneD_new (es : List (List Cell)) (hk : ∀ e ∈ es, e.length = 4) (hf : flatO ⟨4, es⟩ = true) (hb : es.length < 1000000000) : New Tryd.prog 58 [.c (.row 4 false es)] (.c (.ref 0 0 es.length)) [(0, ⟨4, es⟩)] 1 := by
  refine new_of teOk Tryd.func58 (by kernel_rfl) (c := _) rfl (N := 8) rfl (rs := [Go.ResultVar.tmp 2]) rfl (by simp) fun base A w0 hA => ?_
  refine AW.st teOk [] (by simp [-Option.some.injEq] <;> rfl) trivial ?_
  refine AW.mid (fun s => s = ⟨[(0, .c (.row 4 false es))], [], 0⟩) ?_ ?_
  · by_cases he : es = []
    · subst he
      refine AW.st teOk [] (by simp [-Option.some.injEq] <;> rfl) trivial ?_
      refine AW.either (by simp) ?_ (AW.skip ⟨_, Weak.normT hA [0] [] [] 0 _ (by simp) (by simp) (by simp), by simp⟩)
      refine AW.st teOk [] (by simp [-Option.some.injEq] <;> rfl) trivial ?_
      refine AW.ret ⟨.inr rfl, _, (Weak.nil 2 4 _ (by simp <;> rfl)).trans (Weak.normT hA [2] [(2, 0)] [] 1 _ (by simp [putT]) (by simp [putT]) (by simp [putT])), ?_⟩
      simp [putT]
    · refine AW.st teOk [] (by simp [he, -Option.some.injEq] <;> rfl) trivial ?_
      refine AW.iff false (by simp) (fun h => by cases h) fun _ => AW.skip ⟨_, Weak.normT hA [0] [] [] 0 _ (by simp) (by simp) (by simp), by simp⟩
  · rintro s rfl
    refine AW.st teOk [] (by simp [-Option.some.injEq] <;> rfl) ?_ ?_
    · simp [growOk]
      exact ⟨by omega, hk⟩
    refine AW.ret ⟨.inr rfl, _, Weak.normT hA [2] [(2, 0)] [] 1 _ (by simp) (by simp) (by simp [hf]), ?_⟩
    simp
structure GrB (g : GrS) : Prop where
  al : g.accs.length < 1000000000
  pl : g.props.length < 1000000000
  il : g.ins.length < 1000000000
  nl : g.nxt.length < 1000000000
  kl : g.pks.length < 1000000000
  dl : g.decs.length < 1000000000
  a : ∀ v ∈ g.accs, v.length < 1000000000
  p : ∀ p ∈ g.props, p.v.length < 1000000000 ∧ p.acks.length < 10000000000
  i : ∀ l ∈ g.ins, l.length < 1000000000 ∧ ∀ v ∈ l, v.length < 1000000000
  k : ∀ k ∈ g.pks, k.v.length < 1000000000
  d : ∀ d ∈ g.decs, d.v.length < 1000000000
@[simp] def boxG (b a p i n k d : Nat) (st : Int) : List Cell := [.ref b 0 a, .ref (b + 1) 0 p, .ref (b + 2) 0 i, .ref (b + 3) 0 n, .ref (b + 4) 0 k, .ref (b + 5) 0 d, cI st]
@[simp] def nilG : List Cell := [.sc (.slice none 0 0), .sc (.slice none 0 0), .sc (.slice none 0 0), .sc (.slice none 0 0), .sc (.slice none 0 0), .sc (.slice none 0 0), cI 0]
abbrev sigG (b : Nat) (g : GrS) : Sig := [(b, ⟨1, g.accs.map encC⟩), (b + 1, ⟨5, g.props.map encPr'⟩), (b + 2, ⟨1, g.ins.map encIn⟩), (b + 3, ⟨1, g.nxt.map encn⟩), (b + 4, ⟨5, g.pks.map encPk⟩), (b + 5, ⟨4, g.decs.map encDe⟩)]
abbrev refG (b : Nat) (g : GrS) : List Cell := [.ref b 0 g.accs.length, .ref (b + 1) 0 g.props.length, .ref (b + 2) 0 g.ins.length, .ref (b + 3) 0 g.nxt.length, .ref (b + 4) 0 g.pks.length, .ref (b + 5) 0 g.decs.length, cI g.steps]
theorem Weak.be {A : Old} {s s1 s2 : St} (h : Weak A s s1) (e : s1 = s2) : Weak A s s2 := e ▸ h
theorem Weak.nilP {A : Old} (t j k : Nat) {id q : Nat} {cs : List Cell} (s : St) (ht : look t s.τ = some (.c (.ptr id 0 0))) (ho : look id s.σ = some ⟨q, [cs]⟩) (hj : cs[j]? = some (.sc (.slice none 0 0))) (hid : id < s.fr) : Weak A s ⟨s.τ, putA id ⟨q, [cs.set j (.ref s.fr 0 0)]⟩ (putA s.fr ⟨k, []⟩ s.σ), s.fr + 1⟩ := Weak.nilO id j k s ho hj hid
theorem enc1 : ∀ l : List Int, ∀ e ∈ l.map encn, e.length = 1 := fun l e he => by obtain ⟨x, _, rfl⟩ := List.mem_map.1 he; rfl
theorem enc5 : ∀ l : List PkS, ∀ e ∈ l.map encPk, e.length = 5 := fun l e he => by obtain ⟨x, _, rfl⟩ := List.mem_map.1 he; rfl
theorem enc4 : ∀ l : List DeS, ∀ e ∈ l.map encDe, e.length = 4 := fun l e he => by obtain ⟨x, _, rfl⟩ := List.mem_map.1 he; rfl
theorem set_same {α : Type} {l : List α} {j : Nat} {x : α} (h : l[j]? = some x) : l.set j x = l := by
  refine List.ext_getElem? fun i => ?_
  rw [List.getElem?_set]
  split
  · rename_i e
    subst e
    rw [h]
    have := (List.getElem?_eq_some_iff.1 h).1
    simp [this]
  · rfl
@[simp] def clS (g : GrS) (a : List V2) (p : List PrS) (i : List (List V2)) (k : List PkS) (d : List DeS) : Sig := [(0, ⟨7, [encGr g]⟩), (1, ⟨7, [nilG]⟩), (2, ⟨7, [boxG 3 a.length p.length i.length g.nxt.length k.length d.length g.steps]⟩), (3, ⟨1, a.map encC⟩), (4, ⟨5, p.map encPr'⟩), (5, ⟨1, i.map encIn⟩), (6, ⟨1, g.nxt.map encn⟩), (7, ⟨5, k.map encPk⟩), (8, ⟨4, d.map encDe⟩)]
theorem gclone_new (g : GrS) (hg : GrB g) : New Tryd.prog 65 [.agg (encGr g)] (.agg (refG 0 g)) (sigG 0 g) 6 := by
  obtain ⟨accs, props, ins, nxt, pks, decs, steps⟩ := g
  obtain ⟨hal, hpl, hil, hnl, hkl, hdl, ha, hp, hi, hk, hd⟩ := hg
  dsimp only at *
  have c1 := cloneN_new (nxt.map encn) (enc1 nxt) (flat_encn nxt) (by simp; omega)
  have c2 := cloneP_new (pks.map encPk) (enc5 pks) (flat_encPk pks) (by simp; omega)
  have c3 := cloneD_new (decs.map encDe) (enc4 decs) (flat_encDe decs) (by simp; omega)
  rw [List.length_map] at c1 c2 c3
  refine new_drop teOk Tryd.func65 (by kernel_rfl) (c := _) rfl (N := 131) rfl (rs := [Go.ResultVar.cell 2 45]) rfl (by simp) fun base A w0 hA => ?_
  refine AW.st teOk [] (by simp [-Option.some.injEq] <;> rfl) trivial ?_
  refine AW.dr mixed teOk [.tup [.c (.ref 0 0 nxt.length), .c (.row 1 true (nxt.map encn))], .tup [.c (.ref 0 0 pks.length), .c (.row 5 true (pks.map encPk))], .tup [.c (.ref 0 0 decs.length), .c (.row 4 true (decs.map encDe))]] (by simp [-Option.some.injEq] <;> rfl) (by kernel_rfl) (by kernel_rfl) ?_ ?_
  · simp [allP]
    exact ⟨c1, c2, c3⟩
  refine AW.to (s2 := ⟨[(1, .c (.ptr 0 0 0)), (2, .c (.ptr 1 0 0)), (3, .c (.ptr 2 0 0))], clS ⟨accs, props, ins, nxt, pks, decs, steps⟩ [] [] [] pks decs, 9⟩) (((Weak.nilP 3 0 1 _ (by simp <;> rfl) (by simp <;> exact ⟨rfl, rfl⟩) rfl (by simp)).trans ((Weak.nilP 3 1 5 _ (by simp <;> rfl) (by simp <;> exact ⟨rfl, rfl⟩) rfl (by simp)).trans (Weak.nilP 3 2 1 _ (by simp <;> rfl) (by simp <;> exact ⟨rfl, rfl⟩) rfl (by simp)))).trans (Weak.normS hA [1, 2, 3] [(1, 0), (2, 1), (3, 2)] [(16, 3), (17, 4), (18, 5), (4, 6), (7, 7), (10, 8)] [14] 9 _ (by simp [putA]) (by simp [putA]) (by simp [putA]))) (by simp [putA]) ?_
  refine AW.seq ?_
  refine AW.st teOk [] (by simp [-Option.some.injEq] <;> rfl) trivial ?_
  refine AW.block (AW.loop (fun m s => ∃ done rest, m = rest.length ∧ accs = done ++ rest ∧ s = ⟨[(1, .c (.ptr 0 0 0)), (2, .c (.ptr 1 0 0)), (3, .c (.ptr 2 0 0)), (28, .c (encVs accs)), (29, .c (cI accs.length)), (30, .c (cI done.length))], clS ⟨accs, props, ins, nxt, pks, decs, steps⟩ done [] [] pks decs, 9⟩) _ (Weak.normS hA [1, 2, 3, 28, 29, 30] [(1, 0), (2, 1), (3, 2)] [(3, 3), (4, 4), (5, 5), (6, 6), (7, 7), (8, 8)] [2] 9 _ (by simp) (by simp) (by simp)) ⟨[], accs, rfl, rfl, by simp⟩ ?_)
  rintro m s ⟨done, rest, rfl, hdr, rfl⟩
  have hlen : accs.length = done.length + rest.length := by rw [hdr, List.length_append]
  refine AW.st teOk [] (by simp [-Option.some.injEq] <;> rfl) trivial ?_
  refine AW.seq (AW.iff (decide (done.length < accs.length)) (by simp) (fun h => AW.skip ?_) (fun h => AW.exit (x_then (x_then (blockA_exit ?_)))))
  · rw [decide_eq_true_eq] at h
    cases rest with
    | nil => simp at hlen; omega
    | cons x rest =>
    have hx : accs[done.length]? = some x := by rw [hdr]; simp
    have hm : x ∈ accs := List.mem_of_getElem? hx
    have hinc : IntKind.i64.wrap ((done.length : Int) + 1) = (done.length : Int) + 1 := wrap_s _ (by omega)
    refine AW.seq (AW.block ?_)
    refine AW.st teOk [] (by simp [hx, -Option.some.injEq] <;> rfl) ?_ ?_
    · exact h
    refine AW.draw mixed teOk (ans := [.c (encV x)]) (by simp [-Option.some.injEq] <;> rfl) (by kernel_rfl) (by kernel_rfl) ?_ ?_
    · simp [allP, growOk]
      exact ⟨copy_pure x (ha x hm), by omega⟩
    refine AW.text teOk (ans := []) (by simp [-Option.some.injEq] <;> rfl) ?_ ?_
    · trivial
    refine ⟨_, _, Weak.normS hA [1, 2, 3, 28, 29, 30] [(1, 0), (2, 1), (3, 2)] [(20, 3), (4, 4), (5, 5), (6, 6), (7, 7), (8, 8)] [2] 9 _ (by simp) (by simp) (by simp), ?_, done ++ [x], rest, rfl, by rw [hdr, List.append_assoc]; rfl, ?_⟩
    · simp
    · simp [hinc]
  have hend : done = accs := by
    rw [decide_eq_false_iff_not] at h
    have : rest = [] := List.eq_nil_of_length_eq_zero (by omega)
    rw [hdr, this, List.append_nil]
  rw [hend]
  clear hend hdr hlen h done rest
  refine AW.to (s2 := ⟨[(1, .c (.ptr 0 0 0)), (2, .c (.ptr 1 0 0)), (3, .c (.ptr 2 0 0))], clS ⟨accs, props, ins, nxt, pks, decs, steps⟩ accs [] [] pks decs, 9⟩) (Weak.normS hA [1, 2, 3] [(1, 0), (2, 1), (3, 2)] [(3, 3), (4, 4), (5, 5), (6, 6), (7, 7), (8, 8)] [2] 9 _ (by simp) (by simp) (by simp)) (by simp) ?_
  refine AW.seq ?_
  refine AW.st teOk [] (by simp [-Option.some.injEq] <;> rfl) trivial ?_
  refine AW.block (AW.loop (fun m s => ∃ done rest, m = rest.length ∧ props = done ++ rest ∧ s = ⟨[(1, .c (.ptr 0 0 0)), (2, .c (.ptr 1 0 0)), (3, .c (.ptr 2 0 0)), (45, .c (.row 5 false (props.map encPr'))), (46, .c (cI props.length)), (47, .c (cI done.length))], clS ⟨accs, props, ins, nxt, pks, decs, steps⟩ accs done [] pks decs, 9⟩) _ (Weak.normS hA [1, 2, 3, 45, 46, 47] [(1, 0), (2, 1), (3, 2)] [(3, 3), (4, 4), (5, 5), (6, 6), (7, 7), (8, 8)] [2] 9 _ (by simp) (by simp) (by simp)) ⟨[], props, rfl, rfl, by simp⟩ ?_)
  rintro m s ⟨done, rest, rfl, hdr, rfl⟩
  have hlen : props.length = done.length + rest.length := by rw [hdr, List.length_append]
  refine AW.st teOk [] (by simp [-Option.some.injEq] <;> rfl) trivial ?_
  refine AW.seq (AW.iff (decide (done.length < props.length)) (by simp) (fun h => AW.skip ?_) (fun h => AW.exit (x_then (x_then (blockA_exit ?_)))))
  · rw [decide_eq_true_eq] at h
    cases rest with
    | nil => simp at hlen; omega
    | cons x rest =>
    have hx : props[done.length]? = some x := by rw [hdr]; simp
    have hm : x ∈ props := List.mem_of_getElem? hx
    have hinc : IntKind.i64.wrap ((done.length : Int) + 1) = (done.length : Int) + 1 := wrap_s _ (by omega)
    obtain ⟨n, v, r, acks, dc⟩ := x
    obtain ⟨hv, hak⟩ := hp _ hm
    dsimp only at hv hak
    refine AW.seq (AW.block ?_)
    refine AW.st teOk [] (by simp [hx, -Option.some.injEq] <;> rfl) ?_ ?_
    · exact h
    refine AW.dr mixed teOk [.c (encV v), .c (encIs acks)] (by simp [-Option.some.injEq] <;> rfl) (by kernel_rfl) (by kernel_rfl) ?_ ?_
    · simp [allP]
      exact ⟨copy_pure v hv, cloneN_pure acks (by omega)⟩
    refine AW.text teOk (ans := []) (by simp [-Option.some.injEq] <;> rfl) ?_ ?_
    · simp [growOk]
      omega
    refine AW.text teOk (ans := []) (by simp [-Option.some.injEq] <;> rfl) ?_ ?_
    · trivial
    refine ⟨_, _, Weak.normS hA [1, 2, 3, 45, 46, 47] [(1, 0), (2, 1), (3, 2)] [(3, 3), (26, 4), (5, 5), (6, 6), (7, 7), (8, 8)] [2] 9 _ (by simp) (by simp) (by simp), ?_, done ++ [⟨n, v, r, acks, dc⟩], rest, rfl, by rw [hdr, List.append_assoc]; rfl, ?_⟩
    · simp
    · simp [hinc]
  have hend : done = props := by
    rw [decide_eq_false_iff_not] at h
    have : rest = [] := List.eq_nil_of_length_eq_zero (by omega)
    rw [hdr, this, List.append_nil]
  rw [hend]
  clear hend hdr hlen h done rest
  refine AW.to (s2 := ⟨[(1, .c (.ptr 0 0 0)), (2, .c (.ptr 1 0 0)), (3, .c (.ptr 2 0 0))], clS ⟨accs, props, ins, nxt, pks, decs, steps⟩ accs props [] pks decs, 9⟩) (Weak.normS hA [1, 2, 3] [(1, 0), (2, 1), (3, 2)] [(3, 3), (4, 4), (5, 5), (6, 6), (7, 7), (8, 8)] [2] 9 _ (by simp) (by simp) (by simp)) (by simp) ?_
  refine AW.seq ?_
  refine AW.st teOk [] (by simp [-Option.some.injEq] <;> rfl) trivial ?_
  refine AW.block (AW.loop (fun m s => ∃ done rest, m = rest.length ∧ ins = done ++ rest ∧ s = ⟨[(1, .c (.ptr 0 0 0)), (2, .c (.ptr 1 0 0)), (3, .c (.ptr 2 0 0)), (67, .c (.row 1 false (ins.map encIn))), (68, .c (cI ins.length)), (69, .c (cI done.length))], clS ⟨accs, props, ins, nxt, pks, decs, steps⟩ accs props done pks decs, 9⟩) _ (Weak.normS hA [1, 2, 3, 67, 68, 69] [(1, 0), (2, 1), (3, 2)] [(3, 3), (4, 4), (5, 5), (6, 6), (7, 7), (8, 8)] [2] 9 _ (by simp) (by simp) (by simp)) ⟨[], ins, rfl, rfl, by simp⟩ ?_)
  rintro m s ⟨done, rest, rfl, hdr, rfl⟩
  have hlen : ins.length = done.length + rest.length := by rw [hdr, List.length_append]
  refine AW.st teOk [] (by simp [-Option.some.injEq] <;> rfl) trivial ?_
  refine AW.seq (AW.iff (decide (done.length < ins.length)) (by simp) (fun h => AW.skip ?_) (fun h => AW.exit (x_then (x_then (blockA_exit ?_)))))
  · rw [decide_eq_true_eq] at h
    cases rest with
    | nil => simp at hlen; omega
    | cons x rest =>
    have hx : ins[done.length]? = some x := by rw [hdr]; simp
    have hm : x ∈ ins := List.mem_of_getElem? hx
    have hinc : IntKind.i64.wrap ((done.length : Int) + 1) = (done.length : Int) + 1 := wrap_s _ (by omega)
    obtain ⟨hxl, hxs⟩ := hi x hm
    refine AW.seq (AW.block ?_)
    refine AW.st teOk [] (by simp [hx, -Option.some.injEq] <;> rfl) ?_ ?_
    · exact h
    refine AW.st teOk [] (by simp [-Option.some.injEq] <;> rfl) trivial ?_
    refine AW.weak (Weak.nil 10 1 _ (by simp <;> rfl)) (AW.seq ?_)
    refine AW.st teOk [] (by simp [-Option.some.injEq] <;> rfl) trivial ?_
    refine AW.block (AW.loop (fun m s => ∃ done2 rest2, m = rest2.length ∧ x = done2 ++ rest2 ∧ s = ⟨[(1, .c (.ptr 0 0 0)), (2, .c (.ptr 1 0 0)), (3, .c (.ptr 2 0 0)), (67, .c (.row 1 false (ins.map encIn))), (68, .c (cI ins.length)), (69, .c (cI done.length)), (10, .c (.ref 9 0 done2.length)), (73, .c (encVs x)), (74, .c (cI x.length)), (75, .c (cI done2.length))], clS ⟨accs, props, ins, nxt, pks, decs, steps⟩ accs props done pks decs ++ [(9, ⟨1, done2.map encC⟩)], 10⟩) _ (Weak.normS hA [1, 2, 3, 67, 68, 69, 10, 73, 74, 75] [(1, 0), (2, 1), (3, 2), (10, 9)] [(3, 3), (4, 4), (5, 5), (6, 6), (7, 7), (8, 8)] [2] 10 _ (by simp) (by simp) (by simp)) ⟨[], x, rfl, rfl, by simp⟩ ?_)
    rintro m s ⟨done2, rest2, rfl, hdr2, rfl⟩
    have hlen2 : x.length = done2.length + rest2.length := by rw [hdr2, List.length_append]
    refine AW.st teOk [] (by simp [-Option.some.injEq] <;> rfl) trivial ?_
    refine AW.seq (AW.iff (decide (done2.length < x.length)) (by simp) (fun h2 => AW.skip ?_) (fun h2 => AW.exit (x_then (x_then (blockA_exit ?_)))))
    · rw [decide_eq_true_eq] at h2
      cases rest2 with
      | nil => simp at hlen2; omega
      | cons y rest2 =>
      have hy : x[done2.length]? = some y := by rw [hdr2]; simp
      have hinc2 : IntKind.i64.wrap ((done2.length : Int) + 1) = (done2.length : Int) + 1 := wrap_s _ (by omega)
      refine AW.seq (AW.block ?_)
      refine AW.st teOk [] (by simp [hy, -Option.some.injEq] <;> rfl) ?_ ?_
      · exact h2
      refine AW.text teOk (ans := [.fz (.c (encV y))]) (by simp [-Option.some.injEq] <;> rfl) ?_ ?_
      · simp [growOk]
        exact ⟨copy_pure y (hxs y (List.mem_of_getElem? hy)), by omega⟩
      refine AW.text teOk (ans := []) (by simp [-Option.some.injEq] <;> rfl) ?_ ?_
      · trivial
      refine ⟨_, _, Weak.normS hA [1, 2, 3, 67, 68, 69, 10, 73, 74, 75] [(1, 0), (2, 1), (3, 2), (10, 9)] [(3, 3), (4, 4), (5, 5), (6, 6), (7, 7), (8, 8)] [2] 10 _ (by simp) (by simp) (by simp), ?_, done2 ++ [y], rest2, rfl, by rw [hdr2, List.append_assoc]; rfl, ?_⟩
      · simp
      · simp [hinc2]
    have hend : done2 = x := by
      rw [decide_eq_false_iff_not] at h2
      have : rest2 = [] := List.eq_nil_of_length_eq_zero (by omega)
      rw [hdr2, this, List.append_nil]
    rw [hend]
    clear hend hdr2 hlen2 h2 done2 rest2
    refine AW.to (s2 := ⟨[(1, .c (.ptr 0 0 0)), (2, .c (.ptr 1 0 0)), (3, .c (.ptr 2 0 0)), (67, .c (.row 1 false (ins.map encIn))), (68, .c (cI ins.length)), (69, .c (cI done.length)), (10, .c (encVs x))], clS ⟨accs, props, ins, nxt, pks, decs, steps⟩ accs props done pks decs, 9⟩) ((Weak.frzT 10 [] _ (by simp <;> exact ⟨rfl, rfl, rfl⟩) (by simp <;> rfl) (by simp)).trans (Weak.normS hA [1, 2, 3, 67, 68, 69, 10] [(1, 0), (2, 1), (3, 2)] [(3, 3), (4, 4), (5, 5), (6, 6), (7, 7), (8, 8)] [2] 9 _ (by simp) (by simp) (by simp))) (by simp) ?_
    refine AW.text teOk (ans := []) (by simp [-Option.some.injEq] <;> rfl) ?_ ?_
    · simp [growOk]
      omega
    refine AW.text teOk (ans := []) (by simp [-Option.some.injEq] <;> rfl) ?_ ?_
    · trivial
    refine ⟨_, _, Weak.normS hA [1, 2, 3, 67, 68, 69] [(1, 0), (2, 1), (3, 2)] [(3, 3), (4, 4), (13, 5), (6, 6), (7, 7), (8, 8)] [2] 9 _ (by simp) (by simp) (by simp), ?_, done ++ [x], rest, rfl, by rw [hdr, List.append_assoc]; rfl, ?_⟩
    · simp
    · simp [hinc]
  have hend : done = ins := by
    rw [decide_eq_false_iff_not] at h
    have : rest = [] := List.eq_nil_of_length_eq_zero (by omega)
    rw [hdr, this, List.append_nil]
  rw [hend]
  clear hend hdr hlen h done rest
  refine AW.to (s2 := ⟨[(1, .c (.ptr 0 0 0)), (2, .c (.ptr 1 0 0)), (3, .c (.ptr 2 0 0))], clS ⟨accs, props, ins, nxt, pks, decs, steps⟩ accs props ins pks decs, 9⟩) (Weak.normS hA [1, 2, 3] [(1, 0), (2, 1), (3, 2)] [(3, 3), (4, 4), (5, 5), (6, 6), (7, 7), (8, 8)] [2] 9 _ (by simp) (by simp) (by simp)) (by simp) ?_
  refine AW.seq ?_
  refine AW.st teOk [] (by simp [-Option.some.injEq] <;> rfl) trivial ?_
  refine AW.block (AW.loop (fun m s => ∃ j : Nat, m = pks.length - j ∧ j ≤ pks.length ∧ s = ⟨[(1, .c (.ptr 0 0 0)), (2, .c (.ptr 1 0 0)), (3, .c (.ptr 2 0 0)), (94, .c (cI pks.length)), (95, .c (cI j))], clS ⟨accs, props, ins, nxt, pks, decs, steps⟩ accs props ins pks decs, 9⟩) _ (Weak.normS hA [1, 2, 3, 94, 95] [(1, 0), (2, 1), (3, 2)] [(3, 3), (4, 4), (5, 5), (6, 6), (7, 7), (8, 8)] [2] 9 _ (by simp) (by simp) (by simp)) ⟨0, rfl, Nat.zero_le _, by simp⟩ ?_)
  rintro m s ⟨j, rfl, hj, rfl⟩
  refine AW.st teOk [] (by simp [-Option.some.injEq] <;> rfl) trivial ?_
  refine AW.seq (AW.iff (decide (j < pks.length)) (by simp) (fun h => AW.skip ?_) (fun h => AW.exit (x_then (x_then (blockA_exit ?_)))))
  · rw [decide_eq_true_eq] at h
    obtain ⟨x, hx⟩ : ∃ x, pks[j]? = some x := ⟨_, List.getElem?_eq_getElem h⟩
    have hm : x ∈ pks := List.mem_of_getElem? hx
    have hinc : IntKind.i64.wrap ((j : Int) + 1) = (j : Int) + 1 := wrap_s _ (by omega)
    obtain ⟨b, q1, q2, q3, v⟩ := x
    have hv := hk _ hm
    dsimp only at hv
    have hset : (pks.map encPk).set j [cB b, cI q1, cI q2, cI q3, encV v] = pks.map encPk := set_same (by rw [List.getElem?_map, hx]; rfl)
    refine AW.seq (AW.block ?_)
    refine AW.st teOk [] (by simp [-Option.some.injEq] <;> rfl) trivial ?_
    refine AW.draw mixed teOk (ans := [.c (encV v)]) (by simp [hx, -Option.some.injEq] <;> rfl) (by kernel_rfl) (by kernel_rfl) ?_ ?_
    · simp [allP]
      exact ⟨h, copy_pure v hv, h⟩
    refine AW.text teOk (ans := []) (by simp [-Option.some.injEq] <;> rfl) ?_ ?_
    · trivial
    refine ⟨_, _, Weak.normS hA [1, 2, 3, 94, 95] [(1, 0), (2, 1), (3, 2)] [(3, 3), (4, 4), (5, 5), (6, 6), (7, 7), (8, 8)] [2] 9 _ (by simp) (by simp) (by simp [hset]), ?_, j + 1, rfl, h, ?_⟩
    · omega
    · simp [hinc, hset]
  refine AW.to (s2 := ⟨[(1, .c (.ptr 0 0 0)), (2, .c (.ptr 1 0 0)), (3, .c (.ptr 2 0 0))], clS ⟨accs, props, ins, nxt, pks, decs, steps⟩ accs props ins pks decs, 9⟩) (Weak.normS hA [1, 2, 3] [(1, 0), (2, 1), (3, 2)] [(3, 3), (4, 4), (5, 5), (6, 6), (7, 7), (8, 8)] [2] 9 _ (by simp) (by simp) (by simp)) (by simp) ?_
  refine AW.seq ?_
  refine AW.st teOk [] (by simp [-Option.some.injEq] <;> rfl) trivial ?_
  refine AW.block (AW.loop (fun m s => ∃ j : Nat, m = decs.length - j ∧ j ≤ decs.length ∧ s = ⟨[(1, .c (.ptr 0 0 0)), (2, .c (.ptr 1 0 0)), (3, .c (.ptr 2 0 0)), (113, .c (cI decs.length)), (114, .c (cI j))], clS ⟨accs, props, ins, nxt, pks, decs, steps⟩ accs props ins pks decs, 9⟩) _ (Weak.normS hA [1, 2, 3, 113, 114] [(1, 0), (2, 1), (3, 2)] [(3, 3), (4, 4), (5, 5), (6, 6), (7, 7), (8, 8)] [2] 9 _ (by simp) (by simp) (by simp)) ⟨0, rfl, Nat.zero_le _, by simp⟩ ?_)
  rintro m s ⟨j, rfl, hj, rfl⟩
  refine AW.st teOk [] (by simp [-Option.some.injEq] <;> rfl) trivial ?_
  refine AW.seq (AW.iff (decide (j < decs.length)) (by simp) (fun h => AW.skip ?_) (fun h => AW.exit (x_then (x_then (blockA_exit ?_)))))
  · rw [decide_eq_true_eq] at h
    obtain ⟨x, hx⟩ : ∃ x, decs[j]? = some x := ⟨_, List.getElem?_eq_getElem h⟩
    have hm : x ∈ decs := List.mem_of_getElem? hx
    have hinc : IntKind.i64.wrap ((j : Int) + 1) = (j : Int) + 1 := wrap_s _ (by omega)
    obtain ⟨q1, q2, v, q3⟩ := x
    have hv := hd _ hm
    dsimp only at hv
    have hset : (decs.map encDe).set j [cI q1, cI q2, encV v, cI q3] = decs.map encDe := set_same (by rw [List.getElem?_map, hx]; rfl)
    refine AW.seq (AW.block ?_)
    refine AW.st teOk [] (by simp [-Option.some.injEq] <;> rfl) trivial ?_
    refine AW.draw mixed teOk (ans := [.c (encV v)]) (by simp [hx, -Option.some.injEq] <;> rfl) (by kernel_rfl) (by kernel_rfl) ?_ ?_
    · simp [allP]
      exact ⟨h, copy_pure v hv, h⟩
    refine AW.text teOk (ans := []) (by simp [-Option.some.injEq] <;> rfl) ?_ ?_
    · trivial
    refine ⟨_, _, Weak.normS hA [1, 2, 3, 113, 114] [(1, 0), (2, 1), (3, 2)] [(3, 3), (4, 4), (5, 5), (6, 6), (7, 7), (8, 8)] [2] 9 _ (by simp) (by simp) (by simp [hset]), ?_, j + 1, rfl, h, ?_⟩
    · omega
    · simp [hinc, hset]
  refine AW.to (s2 := ⟨[(1, .c (.ptr 0 0 0)), (2, .c (.ptr 1 0 0)), (3, .c (.ptr 2 0 0))], clS ⟨accs, props, ins, nxt, pks, decs, steps⟩ accs props ins pks decs, 9⟩) (Weak.normS hA [1, 2, 3] [(1, 0), (2, 1), (3, 2)] [(3, 3), (4, 4), (5, 5), (6, 6), (7, 7), (8, 8)] [2] 9 _ (by simp) (by simp) (by simp)) (by simp) ?_
  refine AW.st teOk [] (by simp [-Option.some.injEq] <;> rfl) trivial ?_
  refine AW.ret ⟨.inr rfl, _, _, Weak.refl _, by simp <;> rfl, ?_⟩
  exact Weak.be (Weak.normS hA [0] [] [(3, 0), (4, 1), (5, 2), (6, 3), (7, 4), (8, 5)] [] 6 _ (by simp) (by simp) (by simp)) (by simp)
end Go.Proofs.YtphlhadgcfndhaaDoor.Abs
