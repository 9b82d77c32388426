/- Joined for the claim: WAgr WProp2 WAgr3 -/
import Derived.Test.YtphlhadgcfndhaaGreatDoorJd2
section
namespace Go.Proofs.YtphlhadgcfndhaaGreatDoor.Abs
open Go Go.RowKit
set_option linter.unusedVariables false
set_option linter.unusedSimpArgs false
set_option maxHeartbeats 4000000
structure PkS where
  reply : Bool
  prop : Int
  acc : Int
  round : Int
  v : V2
structure DeS where
  prop : Int
  input : Int
  v : V2
  step : Int
structure GrS where
  accs : List V2
  props : List PrS
  ins : List (List V2)
  nxt : List Int
  pks : List PkS
  decs : List DeS
  steps : Int
@[simp] def encPk (k : PkS) : List Cell := [cB k.reply, cI k.prop, cI k.acc, cI k.round, encV k.v]
@[simp] def encDe (d : DeS) : List Cell := [cI d.prop, cI d.input, encV d.v, cI d.step]
@[simp] def encIn (l : List V2) : List Cell := [encVs l]
@[simp] def encPr' (p : PrS) : List Cell := encPr p
abbrev encGr (g : GrS) : List Cell := [encVs g.accs, .row 5 false (g.props.map encPr'), .row 1 false (g.ins.map encIn), encIs g.nxt, .row 5 false (g.pks.map encPk), .row 4 false (g.decs.map encDe), cI g.steps]
@[simp] theorem flat_encPk (l : List PkS) : flatO ⟨5, l.map encPk⟩ = true := flatO_of fun e he => by
  obtain ⟨x, _, rfl⟩ := List.mem_map.1 he
  rfl
@[simp] theorem flat_encDe (l : List DeS) : flatO ⟨4, l.map encDe⟩ = true := flatO_of fun e he => by
  obtain ⟨x, _, rfl⟩ := List.mem_map.1 he
  rfl
@[simp] theorem flat_encIn (l : List (List V2)) : flatO ⟨1, l.map encIn⟩ = true := flatO_of fun e he => by
  obtain ⟨x, _, rfl⟩ := List.mem_map.1 he
  rfl
@[simp] theorem flat_encPr' (l : List PrS) : flatO ⟨5, l.map encPr'⟩ = true := flatO_of fun e he => by
  obtain ⟨x, _, rfl⟩ := List.mem_map.1 he
  rfl
theorem copy_pure (v : V2) (hb : v.length < 1000000000) : Pure Tryz.prog 45 [.c (encV v)] (.c (encV v)) := by
  refine pure_of teOk Tryz.func45 (by kernel_rfl) (c := _) rfl (N := 5) rfl (rs := [Go.ResultVar.tmp 2]) rfl (by simp) fun base A w0 hA => ?_
  refine AW.st teOk [] (by simp [-Option.some.injEq] <;> rfl) trivial ?_
  refine AW.st teOk [.fz (.c (encV v))] (by simp [-Option.some.injEq] <;> rfl) ?_ ?_
  · exact cloneV_pure (v.map encE) (fun e he => by obtain ⟨x, _, rfl⟩ := List.mem_map.1 he; rfl) (fun e he => by obtain ⟨x, _, rfl⟩ := List.mem_map.1 he; rfl) (by simp; omega)
  refine AW.ret ⟨.inr rfl, _, Weak.refl _, ?_⟩
  simp
theorem cloneN_new (es : List (List Cell)) (hk : ∀ e ∈ es, e.length = 1) (hf : flatO ⟨1, es⟩ = true) (hb : es.length < 1000000000) : New Tryz.prog 54 [.c (.row 1 false es)] (.c (.ref 0 0 es.length)) [(0, ⟨1, es⟩)] 1 := by
  refine new_of teOk Tryz.func54 (by kernel_rfl) (c := _) rfl (N := 8) rfl (rs := [Go.ResultVar.tmp 2]) rfl (by simp) fun base A w0 hA => ?_
  refine AW.st teOk [] (by simp [-Option.some.injEq] <;> rfl) trivial ?_
  refine AW.mid (fun s => s = ⟨[(0, .c (.row 1 false es))], [], 0⟩) ?_ ?_
  · by_cases he : es = []
    · subst he
      refine AW.st teOk [] (by simp [-Option.some.injEq] <;> rfl) trivial ?_
      refine AW.either (by simp) ?_ (AW.skip ⟨_, Weak.normT hA [0] [] [] 0 _ (by simp) (by simp) (by simp), by simp⟩)
      refine AW.st teOk [] (by simp [-Option.some.injEq] <;> rfl) trivial ?_
      refine AW.ret ⟨.inr rfl, _, (Weak.nil 2 1 _ (by simp <;> rfl)).trans (Weak.normT hA [2] [(2, 0)] [] 1 _ (by simp [putT]) (by simp [putT]) (by simp [putT])), ?_⟩
      simp [putT]
    · refine AW.st teOk [] (by simp [he, -Option.some.injEq] <;> rfl) trivial ?_
      refine AW.iff false (by simp) (fun h => by cases h) fun _ => AW.skip ⟨_, Weak.normT hA [0] [] [] 0 _ (by simp) (by simp) (by simp), by simp⟩
  · rintro s rfl
    refine AW.st teOk [] (by simp [-Option.some.injEq] <;> rfl) ?_ ?_
    · simp [growOk]
      exact ⟨by omega, hk⟩
    refine AW.ret ⟨.inr rfl, _, Weak.normT hA [2] [(2, 0)] [] 1 _ (by simp) (by simp) (by simp [hf]), ?_⟩
    simp
theorem cloneP_new (es : List (List Cell)) (hk : ∀ e ∈ es, e.length = 5) (hf : flatO ⟨5, es⟩ = true) (hb : es.length < 1000000000) : New Tryz.prog 57 [.c (.row 5 false es)] (.c (.ref 0 0 es.length)) [(0, ⟨5, es⟩)] 1 := by
  refine new_of teOk Tryz.func57 (by kernel_rfl) (c := _) rfl (N := 8) rfl (rs := [Go.ResultVar.tmp 2]) rfl (by simp) fun base A w0 hA => ?_
  refine AW.st teOk [] (by simp [-Option.some.injEq] <;> rfl) trivial ?_
  refine AW.mid (fun s => s = ⟨[(0, .c (.row 5 false es))], [], 0⟩) ?_ ?_
  · by_cases he : es = []
    · subst he
      refine AW.st teOk [] (by simp [-Option.some.injEq] <;> rfl) trivial ?_
      refine AW.either (by simp) ?_ (AW.skip ⟨_, Weak.normT hA [0] [] [] 0 _ (by simp) (by simp) (by simp), by simp⟩)
      refine AW.st teOk [] (by simp [-Option.some.injEq] <;> rfl) trivial ?_
      refine AW.ret ⟨.inr rfl, _, (Weak.nil 2 5 _ (by simp <;> rfl)).trans (Weak.normT hA [2] [(2, 0)] [] 1 _ (by simp [putT]) (by simp [putT]) (by simp [putT])), ?_⟩
      simp [putT]
    · refine AW.st teOk [] (by simp [he, -Option.some.injEq] <;> rfl) trivial ?_
      refine AW.iff false (by simp) (fun h => by cases h) fun _ => AW.skip ⟨_, Weak.normT hA [0] [] [] 0 _ (by simp) (by simp) (by simp), by simp⟩
  · rintro s rfl
    refine AW.st teOk [] (by simp [-Option.some.injEq] <;> rfl) ?_ ?_
    · simp [growOk]
      exact ⟨by omega, hk⟩
    refine AW.ret ⟨.inr rfl, _, Weak.normT hA [2] [(2, 0)] [] 1 _ (by simp) (by simp) (by simp [hf]), ?_⟩
    simp
theorem cloneD_new (es : List (List Cell)) (hk : ∀ e ∈ es, e.length = 4) (hf : flatO ⟨4, es⟩ = true) (hb : es.length < 1000000000) : New Tryz.prog 58 [.c (.row 4 false es)] (.c (.ref 0 0 es.length)) [(0, ⟨4, es⟩)] 1 := by
  refine new_of teOk Tryz.func58 (by kernel_rfl) (c := _) rfl (N := 8) rfl (rs := [Go.ResultVar.tmp 2]) rfl (by simp) fun base A w0 hA => ?_
  refine AW.st teOk [] (by simp [-Option.some.injEq] <;> rfl) trivial ?_
  refine AW.mid (fun s => s = ⟨[(0, .c (.row 4 false es))], [], 0⟩) ?_ ?_
  · by_cases he : es = []
    · subst he
      refine AW.st teOk [] (by simp [-Option.some.injEq] <;> rfl) trivial ?_
      refine AW.either (by simp) ?_ (AW.skip ⟨_, Weak.normT hA [0] [] [] 0 _ (by simp) (by simp) (by simp), by simp⟩)
      refine AW.st teOk [] (by simp [-Option.some.injEq] <;> rfl) trivial ?_
      refine AW.ret ⟨.inr rfl, _, (Weak.nil 2 4 _ (by simp <;> rfl)).trans (Weak.normT hA [2] [(2, 0)] [] 1 _ (by simp [putT]) (by simp [putT]) (by simp [putT])), ?_⟩
      simp [putT]
    · refine AW.st teOk [] (by simp [he, -Option.some.injEq] <;> rfl) trivial ?_
      refine AW.iff false (by simp) (fun h => by cases h) fun _ => AW.skip ⟨_, Weak.normT hA [0] [] [] 0 _ (by simp) (by simp) (by simp), by simp⟩
  · rintro s rfl
    refine AW.st teOk [] (by simp [-Option.some.injEq] <;> rfl) ?_ ?_
    · simp [growOk]
      exact ⟨by omega, hk⟩
    refine AW.ret ⟨.inr rfl, _, Weak.normT hA [2] [(2, 0)] [] 1 _ (by simp) (by simp) (by simp [hf]), ?_⟩
    simp
structure GrB (g : GrS) : Prop where
  al : g.accs.length < 1000000000
  pl : g.props.length < 1000000000
  il : g.ins.length < 1000000000
  nl : g.nxt.length < 1000000000
  kl : g.pks.length < 1000000000
  dl : g.decs.length < 1000000000
  a : ∀ v ∈ g.accs, v.length < 1000000000
  p : ∀ p ∈ g.props, p.v.length < 1000000000 ∧ p.acks.length < 10000000000
  i : ∀ l ∈ g.ins, l.length < 1000000000 ∧ ∀ v ∈ l, v.length < 1000000000
  k : ∀ k ∈ g.pks, k.v.length < 1000000000
  d : ∀ d ∈ g.decs, d.v.length < 1000000000
@[simp] def boxG (b a p i n k d : Nat) (st : Int) : List Cell := [.ref b 0 a, .ref (b + 1) 0 p, .ref (b + 2) 0 i, .ref (b + 3) 0 n, .ref (b + 4) 0 k, .ref (b + 5) 0 d, cI st]
@[simp] def nilG : List Cell := [.sc (.slice none 0 0), .sc (.slice none 0 0), .sc (.slice none 0 0), .sc (.slice none 0 0), .sc (.slice none 0 0), .sc (.slice none 0 0), cI 0]
abbrev sigG (b : Nat) (g : GrS) : Sig := [(b, ⟨1, g.accs.map encC⟩), (b + 1, ⟨5, g.props.map encPr'⟩), (b + 2, ⟨1, g.ins.map encIn⟩), (b + 3, ⟨1, g.nxt.map encn⟩), (b + 4, ⟨5, g.pks.map encPk⟩), (b + 5, ⟨4, g.decs.map encDe⟩)]
abbrev refG (b : Nat) (g : GrS) : List Cell := [.ref b 0 g.accs.length, .ref (b + 1) 0 g.props.length, .ref (b + 2) 0 g.ins.length, .ref (b + 3) 0 g.nxt.length, .ref (b + 4) 0 g.pks.length, .ref (b + 5) 0 g.decs.length, cI g.steps]
theorem Weak.be {A : Old} {s s1 s2 : St} (h : Weak A s s1) (e : s1 = s2) : Weak A s s2 := e ▸ h
theorem Weak.nilP {A : Old} (t j k : Nat) {id q : Nat} {cs : List Cell} (s : St) (ht : look t s.τ = some (.c (.ptr id 0 0))) (ho : look id s.σ = some ⟨q, [cs]⟩) (hj : cs[j]? = some (.sc (.slice none 0 0))) (hid : id < s.fr) : Weak A s ⟨s.τ, putA id ⟨q, [cs.set j (.ref s.fr 0 0)]⟩ (putA s.fr ⟨k, []⟩ s.σ), s.fr + 1⟩ := Weak.nilO id j k s ho hj hid
theorem enc1 : ∀ l : List Int, ∀ e ∈ l.map encn, e.length = 1 := fun l e he => by obtain ⟨x, _, rfl⟩ := List.mem_map.1 he; rfl
theorem enc5 : ∀ l : List PkS, ∀ e ∈ l.map encPk, e.length = 5 := fun l e he => by obtain ⟨x, _, rfl⟩ := List.mem_map.1 he; rfl
theorem enc4 : ∀ l : List DeS, ∀ e ∈ l.map encDe, e.length = 4 := fun l e he => by obtain ⟨x, _, rfl⟩ := List.mem_map.1 he; rfl
theorem set_same {α : Type} {l : List α} {j : Nat} {x : α} (h : l[j]? = some x) : l.set j x = l := by
  refine List.ext_getElem? fun i => ?_
  rw [List.getElem?_set]
  split
  · rename_i e
    subst e
    rw [h]
    have := (List.getElem?_eq_some_iff.1 h).1
    simp [this]
  · rfl
@[simp] def clS (g : GrS) (a : List V2) (p : List PrS) (i : List (List V2)) (k : List PkS) (d : List DeS) : Sig := [(0, ⟨7, [encGr g]⟩), (1, ⟨7, [nilG]⟩), (2, ⟨7, [boxG 3 a.length p.length i.length g.nxt.length k.length d.length g.steps]⟩), (3, ⟨1, a.map encC⟩), (4, ⟨5, p.map encPr'⟩), (5, ⟨1, i.map encIn⟩), (6, ⟨1, g.nxt.map encn⟩), (7, ⟨5, k.map encPk⟩), (8, ⟨4, d.map encDe⟩)]
theorem gclone_new (g : GrS) (hg : GrB g) : New Tryz.prog 72 [.agg (encGr g)] (.agg (refG 0 g)) (sigG 0 g) 6 := by
  obtain ⟨accs, props, ins, nxt, pks, decs, steps⟩ := g
  obtain ⟨hal, hpl, hil, hnl, hkl, hdl, ha, hp, hi, hk, hd⟩ := hg
  dsimp only at *
  have c1 := cloneN_new (nxt.map encn) (enc1 nxt) (flat_encn nxt) (by simp; omega)
  have c2 := cloneP_new (pks.map encPk) (enc5 pks) (flat_encPk pks) (by simp; omega)
  have c3 := cloneD_new (decs.map encDe) (enc4 decs) (flat_encDe decs) (by simp; omega)
  rw [List.length_map] at c1 c2 c3
  refine new_drop teOk Tryz.func72 (by kernel_rfl) (c := _) rfl (N := 131) rfl (rs := [Go.ResultVar.cell 2 34]) rfl (by simp) fun base A w0 hA => ?_
  refine AW.st teOk [] (by simp [-Option.some.injEq] <;> rfl) trivial ?_
  refine AW.dr mixed teOk [.tup [.c (.ref 0 0 nxt.length), .c (.row 1 true (nxt.map encn))], .tup [.c (.ref 0 0 pks.length), .c (.row 5 true (pks.map encPk))], .tup [.c (.ref 0 0 decs.length), .c (.row 4 true (decs.map encDe))]] (by simp [-Option.some.injEq] <;> rfl) (by kernel_rfl) (by kernel_rfl) ?_ ?_
  · simp [allP]
    exact ⟨c1, c2, c3⟩
  refine AW.to (s2 := ⟨[(1, .c (.ptr 0 0 0)), (2, .c (.ptr 1 0 0)), (3, .c (.ptr 2 0 0))], clS ⟨accs, props, ins, nxt, pks, decs, steps⟩ [] [] [] pks decs, 9⟩) (((Weak.nilP 3 0 1 _ (by simp <;> rfl) (by simp <;> exact ⟨rfl, rfl⟩) rfl (by simp)).trans ((Weak.nilP 3 1 5 _ (by simp <;> rfl) (by simp <;> exact ⟨rfl, rfl⟩) rfl (by simp)).trans (Weak.nilP 3 2 1 _ (by simp <;> rfl) (by simp <;> exact ⟨rfl, rfl⟩) rfl (by simp)))).trans (Weak.normS hA [1, 2, 3] [(1, 0), (2, 1), (3, 2)] [(16, 3), (17, 4), (18, 5), (4, 6), (7, 7), (10, 8)] [14] 9 _ (by simp [putA]) (by simp [putA]) (by simp [putA]))) (by simp [putA]) ?_
  refine AW.seq ?_
  refine AW.st teOk [] (by simp [-Option.some.injEq] <;> rfl) trivial ?_
  refine AW.block (AW.loop (fun m s => ∃ done rest, m = rest.length ∧ accs = done ++ rest ∧ s = ⟨[(1, .c (.ptr 0 0 0)), (2, .c (.ptr 1 0 0)), (3, .c (.ptr 2 0 0)), (28, .c (encVs accs)), (29, .c (cI accs.length)), (30, .c (cI done.length))], clS ⟨accs, props, ins, nxt, pks, decs, steps⟩ done [] [] pks decs, 9⟩) _ (Weak.normS hA [1, 2, 3, 28, 29, 30] [(1, 0), (2, 1), (3, 2)] [(3, 3), (4, 4), (5, 5), (6, 6), (7, 7), (8, 8)] [2] 9 _ (by simp) (by simp) (by simp)) ⟨[], accs, rfl, rfl, by simp⟩ ?_)
  rintro m s ⟨done, rest, rfl, hdr, rfl⟩
  have hlen : accs.length = done.length + rest.length := by rw [hdr, List.length_append]
  refine AW.st teOk [] (by simp [-Option.some.injEq] <;> rfl) trivial ?_
  refine AW.seq (AW.iff (decide (done.length < accs.length)) (by simp) (fun h => AW.skip ?_) (fun h => AW.exit (x_then (x_then (blockA_exit ?_)))))
  · rw [decide_eq_true_eq] at h
    cases rest with
    | nil => simp at hlen; omega
    | cons x rest =>
    have hx : accs[done.length]? = some x := by rw [hdr]; simp
    have hm : x ∈ accs := List.mem_of_getElem? hx
    have hinc : IntKind.i64.wrap ((done.length : Int) + 1) = (done.length : Int) + 1 := wrap_s _ (by omega)
    refine AW.seq (AW.block ?_)
    refine AW.st teOk [] (by simp [hx, -Option.some.injEq] <;> rfl) ?_ ?_
    · exact h
    refine AW.draw mixed teOk (ans := [.c (encV x)]) (by simp [-Option.some.injEq] <;> rfl) (by kernel_rfl) (by kernel_rfl) ?_ ?_
    · simp [allP, growOk]
      exact ⟨copy_pure x (ha x hm), by omega⟩
    refine AW.text teOk (ans := []) (by simp [-Option.some.injEq] <;> rfl) ?_ ?_
    · trivial
    refine ⟨_, _, Weak.normS hA [1, 2, 3, 28, 29, 30] [(1, 0), (2, 1), (3, 2)] [(20, 3), (4, 4), (5, 5), (6, 6), (7, 7), (8, 8)] [2] 9 _ (by simp) (by simp) (by simp), ?_, done ++ [x], rest, rfl, by rw [hdr, List.append_assoc]; rfl, ?_⟩
    · simp
    · simp [hinc]
  have hend : done = accs := by
    rw [decide_eq_false_iff_not] at h
    have : rest = [] := List.eq_nil_of_length_eq_zero (by omega)
    rw [hdr, this, List.append_nil]
  rw [hend]
  clear hend hdr hlen h done rest
  refine AW.to (s2 := ⟨[(1, .c (.ptr 0 0 0)), (2, .c (.ptr 1 0 0)), (3, .c (.ptr 2 0 0))], clS ⟨accs, props, ins, nxt, pks, decs, steps⟩ accs [] [] pks decs, 9⟩) (Weak.normS hA [1, 2, 3] [(1, 0), (2, 1), (3, 2)] [(3, 3), (4, 4), (5, 5), (6, 6), (7, 7), (8, 8)] [2] 9 _ (by simp) (by simp) (by simp)) (by simp) ?_
  refine AW.seq ?_
  refine AW.st teOk [] (by simp [-Option.some.injEq] <;> rfl) trivial ?_
  refine AW.block (AW.loop (fun m s => ∃ done rest, m = rest.length ∧ props = done ++ rest ∧ s = ⟨[(1, .c (.ptr 0 0 0)), (2, .c (.ptr 1 0 0)), (3, .c (.ptr 2 0 0)), (45, .c (.row 5 false (props.map encPr'))), (46, .c (cI props.length)), (47, .c (cI done.length))], clS ⟨accs, props, ins, nxt, pks, decs, steps⟩ accs done [] pks decs, 9⟩) _ (Weak.normS hA [1, 2, 3, 45, 46, 47] [(1, 0), (2, 1), (3, 2)] [(3, 3), (4, 4), (5, 5), (6, 6), (7, 7), (8, 8)] [2] 9 _ (by simp) (by simp) (by simp)) ⟨[], props, rfl, rfl, by simp⟩ ?_)
  rintro m s ⟨done, rest, rfl, hdr, rfl⟩
  have hlen : props.length = done.length + rest.length := by rw [hdr, List.length_append]
  refine AW.st teOk [] (by simp [-Option.some.injEq] <;> rfl) trivial ?_
  refine AW.seq (AW.iff (decide (done.length < props.length)) (by simp) (fun h => AW.skip ?_) (fun h => AW.exit (x_then (x_then (blockA_exit ?_)))))
  · rw [decide_eq_true_eq] at h
    cases rest with
    | nil => simp at hlen; omega
    | cons x rest =>
    have hx : props[done.length]? = some x := by rw [hdr]; simp
    have hm : x ∈ props := List.mem_of_getElem? hx
    have hinc : IntKind.i64.wrap ((done.length : Int) + 1) = (done.length : Int) + 1 := wrap_s _ (by omega)
    obtain ⟨n, v, r, acks, dc⟩ := x
    obtain ⟨hv, hak⟩ := hp _ hm
    dsimp only at hv hak
    refine AW.seq (AW.block ?_)
    refine AW.st teOk [] (by simp [hx, -Option.some.injEq] <;> rfl) ?_ ?_
    · exact h
    refine AW.dr mixed teOk [.c (encV v), .c (encIs acks)] (by simp [-Option.some.injEq] <;> rfl) (by kernel_rfl) (by kernel_rfl) ?_ ?_
    · simp [allP]
      exact ⟨copy_pure v hv, cloneN_pure acks (by omega)⟩
    refine AW.text teOk (ans := []) (by simp [-Option.some.injEq] <;> rfl) ?_ ?_
    · simp [growOk]
      omega
    refine AW.text teOk (ans := []) (by simp [-Option.some.injEq] <;> rfl) ?_ ?_
    · trivial
    refine ⟨_, _, Weak.normS hA [1, 2, 3, 45, 46, 47] [(1, 0), (2, 1), (3, 2)] [(3, 3), (26, 4), (5, 5), (6, 6), (7, 7), (8, 8)] [2] 9 _ (by simp) (by simp) (by simp), ?_, done ++ [⟨n, v, r, acks, dc⟩], rest, rfl, by rw [hdr, List.append_assoc]; rfl, ?_⟩
    · simp
    · simp [hinc]
  have hend : done = props := by
    rw [decide_eq_false_iff_not] at h
    have : rest = [] := List.eq_nil_of_length_eq_zero (by omega)
    rw [hdr, this, List.append_nil]
  rw [hend]
  clear hend hdr hlen h done rest
  refine AW.to (s2 := ⟨[(1, .c (.ptr 0 0 0)), (2, .c (.ptr 1 0 0)), (3, .c (.ptr 2 0 0))], clS ⟨accs, props, ins, nxt, pks, decs, steps⟩ accs props [] pks decs, 9⟩) (Weak.normS hA [1, 2, 3] [(1, 0), (2, 1), (3, 2)] [(3, 3), (4, 4), (5, 5), (6, 6), (7, 7), (8, 8)] [2] 9 _ (by simp) (by simp) (by simp)) (by simp) ?_
  refine AW.seq ?_
  refine AW.st teOk [] (by simp [-Option.some.injEq] <;> rfl) trivial ?_
  refine AW.block (AW.loop (fun m s => ∃ done rest, m = rest.length ∧ ins = done ++ rest ∧ s = ⟨[(1, .c (.ptr 0 0 0)), (2, .c (.ptr 1 0 0)), (3, .c (.ptr 2 0 0)), (67, .c (.row 1 false (ins.map encIn))), (68, .c (cI ins.length)), (69, .c (cI done.length))], clS ⟨accs, props, ins, nxt, pks, decs, steps⟩ accs props done pks decs, 9⟩) _ (Weak.normS hA [1, 2, 3, 67, 68, 69] [(1, 0), (2, 1), (3, 2)] [(3, 3), (4, 4), (5, 5), (6, 6), (7, 7), (8, 8)] [2] 9 _ (by simp) (by simp) (by simp)) ⟨[], ins, rfl, rfl, by simp⟩ ?_)
  rintro m s ⟨done, rest, rfl, hdr, rfl⟩
  have hlen : ins.length = done.length + rest.length := by rw [hdr, List.length_append]
  refine AW.st teOk [] (by simp [-Option.some.injEq] <;> rfl) trivial ?_
  refine AW.seq (AW.iff (decide (done.length < ins.length)) (by simp) (fun h => AW.skip ?_) (fun h => AW.exit (x_then (x_then (blockA_exit ?_)))))
  · rw [decide_eq_true_eq] at h
    cases rest with
    | nil => simp at hlen; omega
    | cons x rest =>
    have hx : ins[done.length]? = some x := by rw [hdr]; simp
    have hm : x ∈ ins := List.mem_of_getElem? hx
    have hinc : IntKind.i64.wrap ((done.length : Int) + 1) = (done.length : Int) + 1 := wrap_s _ (by omega)
    obtain ⟨hxl, hxs⟩ := hi x hm
    refine AW.seq (AW.block ?_)
    refine AW.st teOk [] (by simp [hx, -Option.some.injEq] <;> rfl) ?_ ?_
    · exact h
    refine AW.st teOk [] (by simp [-Option.some.injEq] <;> rfl) trivial ?_
    refine AW.weak (Weak.nil 10 1 _ (by simp <;> rfl)) (AW.seq ?_)
    refine AW.st teOk [] (by simp [-Option.some.injEq] <;> rfl) trivial ?_
    refine AW.block (AW.loop (fun m s => ∃ done2 rest2, m = rest2.length ∧ x = done2 ++ rest2 ∧ s = ⟨[(1, .c (.ptr 0 0 0)), (2, .c (.ptr 1 0 0)), (3, .c (.ptr 2 0 0)), (67, .c (.row 1 false (ins.map encIn))), (68, .c (cI ins.length)), (69, .c (cI done.length)), (10, .c (.ref 9 0 done2.length)), (73, .c (encVs x)), (74, .c (cI x.length)), (75, .c (cI done2.length))], clS ⟨accs, props, ins, nxt, pks, decs, steps⟩ accs props done pks decs ++ [(9, ⟨1, done2.map encC⟩)], 10⟩) _ (Weak.normS hA [1, 2, 3, 67, 68, 69, 10, 73, 74, 75] [(1, 0), (2, 1), (3, 2), (10, 9)] [(3, 3), (4, 4), (5, 5), (6, 6), (7, 7), (8, 8)] [2] 10 _ (by simp) (by simp) (by simp)) ⟨[], x, rfl, rfl, by simp⟩ ?_)
    rintro m s ⟨done2, rest2, rfl, hdr2, rfl⟩
    have hlen2 : x.length = done2.length + rest2.length := by rw [hdr2, List.length_append]
    refine AW.st teOk [] (by simp [-Option.some.injEq] <;> rfl) trivial ?_
    refine AW.seq (AW.iff (decide (done2.length < x.length)) (by simp) (fun h2 => AW.skip ?_) (fun h2 => AW.exit (x_then (x_then (blockA_exit ?_)))))
    · rw [decide_eq_true_eq] at h2
      cases rest2 with
      | nil => simp at hlen2; omega
      | cons y rest2 =>
      have hy : x[done2.length]? = some y := by rw [hdr2]; simp
      have hinc2 : IntKind.i64.wrap ((done2.length : Int) + 1) = (done2.length : Int) + 1 := wrap_s _ (by omega)
      refine AW.seq (AW.block ?_)
      refine AW.st teOk [] (by simp [hy, -Option.some.injEq] <;> rfl) ?_ ?_
      · exact h2
      refine AW.text teOk (ans := [.fz (.c (encV y))]) (by simp [-Option.some.injEq] <;> rfl) ?_ ?_
      · simp [growOk]
        exact ⟨copy_pure y (hxs y (List.mem_of_getElem? hy)), by omega⟩
      refine AW.text teOk (ans := []) (by simp [-Option.some.injEq] <;> rfl) ?_ ?_
      · trivial
      refine ⟨_, _, Weak.normS hA [1, 2, 3, 67, 68, 69, 10, 73, 74, 75] [(1, 0), (2, 1), (3, 2), (10, 9)] [(3, 3), (4, 4), (5, 5), (6, 6), (7, 7), (8, 8)] [2] 10 _ (by simp) (by simp) (by simp), ?_, done2 ++ [y], rest2, rfl, by rw [hdr2, List.append_assoc]; rfl, ?_⟩
      · simp
      · simp [hinc2]
    have hend : done2 = x := by
      rw [decide_eq_false_iff_not] at h2
      have : rest2 = [] := List.eq_nil_of_length_eq_zero (by omega)
      rw [hdr2, this, List.append_nil]
    rw [hend]
    clear hend hdr2 hlen2 h2 done2 rest2
    refine AW.to (s2 := ⟨[(1, .c (.ptr 0 0 0)), (2, .c (.ptr 1 0 0)), (3, .c (.ptr 2 0 0)), (67, .c (.row 1 false (ins.map encIn))), (68, .c (cI ins.length)), (69, .c (cI done.length)), (10, .c (encVs x))], clS ⟨accs, props, ins, nxt, pks, decs, steps⟩ accs props done pks decs, 9⟩) ((Weak.frzT 10 [] _ (by simp <;> exact ⟨rfl, rfl, rfl⟩) (by simp <;> rfl) (by simp)).trans (Weak.normS hA [1, 2, 3, 67, 68, 69, 10] [(1, 0), (2, 1), (3, 2)] [(3, 3), (4, 4), (5, 5), (6, 6), (7, 7), (8, 8)] [2] 9 _ (by simp) (by simp) (by simp))) (by simp) ?_
    refine AW.text teOk (ans := []) (by simp [-Option.some.injEq] <;> rfl) ?_ ?_
    · simp [growOk]
      omega
    refine AW.text teOk (ans := []) (by simp [-Option.some.injEq] <;> rfl) ?_ ?_
    · trivial
    refine ⟨_, _, Weak.normS hA [1, 2, 3, 67, 68, 69] [(1, 0), (2, 1), (3, 2)] [(3, 3), (4, 4), (13, 5), (6, 6), (7, 7), (8, 8)] [2] 9 _ (by simp) (by simp) (by simp), ?_, done ++ [x], rest, rfl, by rw [hdr, List.append_assoc]; rfl, ?_⟩
    · simp
    · simp [hinc]
  have hend : done = ins := by
    rw [decide_eq_false_iff_not] at h
    have : rest = [] := List.eq_nil_of_length_eq_zero (by omega)
    rw [hdr, this, List.append_nil]
  rw [hend]
  clear hend hdr hlen h done rest
  refine AW.to (s2 := ⟨[(1, .c (.ptr 0 0 0)), (2, .c (.ptr 1 0 0)), (3, .c (.ptr 2 0 0))], clS ⟨accs, props, ins, nxt, pks, decs, steps⟩ accs props ins pks decs, 9⟩) (Weak.normS hA [1, 2, 3] [(1, 0), (2, 1), (3, 2)] [(3, 3), (4, 4), (5, 5), (6, 6), (7, 7), (8, 8)] [2] 9 _ (by simp) (by simp) (by simp)) (by simp) ?_
  refine AW.seq ?_
  refine AW.st teOk [] (by simp [-Option.some.injEq] <;> rfl) trivial ?_
  refine AW.block (AW.loop (fun m s => ∃ j : Nat, m = pks.length - j ∧ j ≤ pks.length ∧ s = ⟨[(1, .c (.ptr 0 0 0)), (2, .c (.ptr 1 0 0)), (3, .c (.ptr 2 0 0)), (94, .c (cI pks.length)), (95, .c (cI j))], clS ⟨accs, props, ins, nxt, pks, decs, steps⟩ accs props ins pks decs, 9⟩) _ (Weak.normS hA [1, 2, 3, 94, 95] [(1, 0), (2, 1), (3, 2)] [(3, 3), (4, 4), (5, 5), (6, 6), (7, 7), (8, 8)] [2] 9 _ (by simp) (by simp) (by simp)) ⟨0, rfl, Nat.zero_le _, by simp⟩ ?_)
  rintro m s ⟨j, rfl, hj, rfl⟩
  refine AW.st teOk [] (by simp [-Option.some.injEq] <;> rfl) trivial ?_
  refine AW.seq (AW.iff (decide (j < pks.length)) (by simp) (fun h => AW.skip ?_) (fun h => AW.exit (x_then (x_then (blockA_exit ?_)))))
  · rw [decide_eq_true_eq] at h
    obtain ⟨x, hx⟩ : ∃ x, pks[j]? = some x := ⟨_, List.getElem?_eq_getElem h⟩
    have hm : x ∈ pks := List.mem_of_getElem? hx
    have hinc : IntKind.i64.wrap ((j : Int) + 1) = (j : Int) + 1 := wrap_s _ (by omega)
    obtain ⟨b, q1, q2, q3, v⟩ := x
    have hv := hk _ hm
    dsimp only at hv
    have hset : (pks.map encPk).set j [cB b, cI q1, cI q2, cI q3, encV v] = pks.map encPk := set_same (by rw [List.getElem?_map, hx]; rfl)
    refine AW.seq (AW.block ?_)
    refine AW.st teOk [] (by simp [-Option.some.injEq] <;> rfl) trivial ?_
    refine AW.draw mixed teOk (ans := [.c (encV v)]) (by simp [hx, -Option.some.injEq] <;> rfl) (by kernel_rfl) (by kernel_rfl) ?_ ?_
    · simp [allP]
      exact ⟨h, copy_pure v hv, h⟩
    refine AW.text teOk (ans := []) (by simp [-Option.some.injEq] <;> rfl) ?_ ?_
    · trivial
    refine ⟨_, _, Weak.normS hA [1, 2, 3, 94, 95] [(1, 0), (2, 1), (3, 2)] [(3, 3), (4, 4), (5, 5), (6, 6), (7, 7), (8, 8)] [2] 9 _ (by simp) (by simp) (by simp [hset]), ?_, j + 1, rfl, h, ?_⟩
    · omega
    · simp [hinc, hset]
  refine AW.to (s2 := ⟨[(1, .c (.ptr 0 0 0)), (2, .c (.ptr 1 0 0)), (3, .c (.ptr 2 0 0))], clS ⟨accs, props, ins, nxt, pks, decs, steps⟩ accs props ins pks decs, 9⟩) (Weak.normS hA [1, 2, 3] [(1, 0), (2, 1), (3, 2)] [(3, 3), (4, 4), (5, 5), (6, 6), (7, 7), (8, 8)] [2] 9 _ (by simp) (by simp) (by simp)) (by simp) ?_
  refine AW.seq ?_
  refine AW.st teOk [] (by simp [-Option.some.injEq] <;> rfl) trivial ?_
  refine AW.block (AW.loop (fun m s => ∃ j : Nat, m = decs.length - j ∧ j ≤ decs.length ∧ s = ⟨[(1, .c (.ptr 0 0 0)), (2, .c (.ptr 1 0 0)), (3, .c (.ptr 2 0 0)), (113, .c (cI decs.length)), (114, .c (cI j))], clS ⟨accs, props, ins, nxt, pks, decs, steps⟩ accs props ins pks decs, 9⟩) _ (Weak.normS hA [1, 2, 3, 113, 114] [(1, 0), (2, 1), (3, 2)] [(3, 3), (4, 4), (5, 5), (6, 6), (7, 7), (8, 8)] [2] 9 _ (by simp) (by simp) (by simp)) ⟨0, rfl, Nat.zero_le _, by simp⟩ ?_)
  rintro m s ⟨j, rfl, hj, rfl⟩
  refine AW.st teOk [] (by simp [-Option.some.injEq] <;> rfl) trivial ?_
  refine AW.seq (AW.iff (decide (j < decs.length)) (by simp) (fun h => AW.skip ?_) (fun h => AW.exit (x_then (x_then (blockA_exit ?_)))))
  · rw [decide_eq_true_eq] at h
    obtain ⟨x, hx⟩ : ∃ x, decs[j]? = some x := ⟨_, List.getElem?_eq_getElem h⟩
    have hm : x ∈ decs := List.mem_of_getElem? hx
    have hinc : IntKind.i64.wrap ((j : Int) + 1) = (j : Int) + 1 := wrap_s _ (by omega)
    obtain ⟨q1, q2, v, q3⟩ := x
    have hv := hd _ hm
    dsimp only at hv
    have hset : (decs.map encDe).set j [cI q1, cI q2, encV v, cI q3] = decs.map encDe := set_same (by rw [List.getElem?_map, hx]; rfl)
    refine AW.seq (AW.block ?_)
    refine AW.st teOk [] (by simp [-Option.some.injEq] <;> rfl) trivial ?_
    refine AW.draw mixed teOk (ans := [.c (encV v)]) (by simp [hx, -Option.some.injEq] <;> rfl) (by kernel_rfl) (by kernel_rfl) ?_ ?_
    · simp [allP]
      exact ⟨h, copy_pure v hv, h⟩
    refine AW.text teOk (ans := []) (by simp [-Option.some.injEq] <;> rfl) ?_ ?_
    · trivial
    refine ⟨_, _, Weak.normS hA [1, 2, 3, 113, 114] [(1, 0), (2, 1), (3, 2)] [(3, 3), (4, 4), (5, 5), (6, 6), (7, 7), (8, 8)] [2] 9 _ (by simp) (by simp) (by simp [hset]), ?_, j + 1, rfl, h, ?_⟩
    · omega
    · simp [hinc, hset]
  refine AW.to (s2 := ⟨[(1, .c (.ptr 0 0 0)), (2, .c (.ptr 1 0 0)), (3, .c (.ptr 2 0 0))], clS ⟨accs, props, ins, nxt, pks, decs, steps⟩ accs props ins pks decs, 9⟩) (Weak.normS hA [1, 2, 3] [(1, 0), (2, 1), (3, 2)] [(3, 3), (4, 4), (5, 5), (6, 6), (7, 7), (8, 8)] [2] 9 _ (by simp) (by simp) (by simp)) (by simp) ?_
  refine AW.st teOk [] (by simp [-Option.some.injEq] <;> rfl) trivial ?_
  refine AW.ret ⟨.inr rfl, _, _, Weak.refl _, by simp <;> rfl, ?_⟩
  exact Weak.be (Weak.normS hA [0] [] [(3, 0), (4, 1), (5, 2), (6, 3), (7, 4), (8, 5)] [] 6 _ (by simp) (by simp) (by simp)) (by simp)
end Go.Proofs.YtphlhadgcfndhaaGreatDoor.Abs
end
section
namespace Go.Proofs.YtphlhadgcfndhaaGreatDoor.Abs
open Go Go.RowKit
set_option linter.unusedVariables false
set_option linter.unusedSimpArgs false
set_option maxHeartbeats 4000000
abbrev zPr : List Cell := [cI 0, .sc (.slice none 0 0), cI 0, .sc (.slice none 0 0), cB false]
theorem two_len (n : Nat) (h : n < 1000000000000) : IntKind.i64.wrap (2 * (n : Int)) = 2 * (n : Int) := by rw [IntKind.wrap_i64]; omega
theorem precv_pure {p : PrS} (h : PrOk p) (a r : Int) {v : V2} (hl : v.length < 10000000000) : Pure Tryz.prog 92 [.agg (encPr p), .c (cI a), .c (cI r), .c (encV v)] (.tup [.agg (encPr (recvS p a r v).1), .c (cB (recvS p a r v).2)]) := by
  have p1 := pclone_pure h
  have p2 := pnext_pure h hl
  have hasc := h.asc
  have hal := h.al
  have hvl := h.vl
  have hva := h.v.2
  obtain ⟨n, pv, pr, acks, dec⟩ := p
  dsimp only at hasc hal hvl hva
  refine pure_of teOk Tryz.func92 (by kernel_rfl) (c := _) rfl (N := 76) rfl (rs := [Go.ResultVar.cell 8 109, Go.ResultVar.tmp 9]) rfl (by simp) fun base A w0 hA => ?_
  refine AW.st teOk [] (by simp [-Option.some.injEq] <;> rfl) trivial ?_
  refine AW.mid (fun s => ¬ (dec = true ∨ r ≠ pr ∨ a < 0 ∨ a ≥ n) ∧ s = ⟨[(1, .c (cI a)), (3, .c (encV v)), (4, .c (.ptr 0 0 0)), (8, .c (.ptr 1 0 0))], [(1, ⟨5, [zPr]⟩), (0, ⟨5, [encPr ⟨n, pv, pr, acks, dec⟩]⟩)], 2⟩) ?_ ?_
  · cases dec with
    | true =>
      refine AW.st teOk [] (by simp [-Option.some.injEq] <;> rfl) trivial ?_
      refine AW.iff true (by simp) (fun _ => ?_) (fun h => by cases h)
      refine AW.st teOk [.fz (.agg (encPr ⟨n, pv, pr, acks, true⟩))] (by simp [-Option.some.injEq] <;> rfl) ?_ ?_
      · exact p1
      refine AW.ret ⟨.inr rfl, _, Weak.refl _, ?_⟩
      simp [recvS]
    | false =>
      by_cases h1 : r = pr
      · subst h1
        by_cases h2 : a < 0
        · refine AW.st teOk [] (by simp [h2, -Option.some.injEq] <;> rfl) trivial ?_
          refine AW.iff true (by simp) (fun _ => ?_) (fun h => by cases h)
          refine AW.st teOk [.fz (.agg (encPr ⟨n, pv, r, acks, false⟩))] (by simp [-Option.some.injEq] <;> rfl) ?_ ?_
          · exact p1
          refine AW.ret ⟨.inr rfl, _, Weak.refl _, ?_⟩
          simp [recvS, h2]
        · by_cases h3 : a ≥ n
          · refine AW.st teOk [] (by simp [h2, h3, -Option.some.injEq] <;> rfl) trivial ?_
            refine AW.iff true (by simp) (fun _ => ?_) (fun h => by cases h)
            refine AW.st teOk [.fz (.agg (encPr ⟨n, pv, r, acks, false⟩))] (by simp [-Option.some.injEq] <;> rfl) ?_ ?_
            · exact p1
            refine AW.ret ⟨.inr rfl, _, Weak.refl _, ?_⟩
            simp [recvS, h3]
          · refine AW.st teOk [] (by simp [h2, h3, -Option.some.injEq] <;> rfl) trivial ?_
            refine AW.iff false (by simp) (fun h => by cases h) (fun _ => AW.skip ?_)
            exact ⟨_, Weak.normT hA [1, 3, 4, 8] [(4, 0), (8, 1)] [] 2 _ (by simp) (by simp) (by simp), by simp; omega, by simp⟩
      · have h1' : (r != pr) = true := by simpa using h1
        refine AW.st teOk [] (by simp [h1', -Option.some.injEq] <;> rfl) trivial ?_
        refine AW.iff true (by simp) (fun _ => ?_) (fun h => by cases h)
        refine AW.st teOk [.fz (.agg (encPr ⟨n, pv, pr, acks, false⟩))] (by simp [-Option.some.injEq] <;> rfl) ?_ ?_
        · exact p1
        refine AW.ret ⟨.inr rfl, _, Weak.refl _, ?_⟩
        simp [recvS, h1]
  rintro s ⟨hc, rfl⟩
  refine AW.seq ?_
  refine AW.st teOk [.fz (.c (cB (leI v pv)))] (by simp [-Option.some.injEq] <;> rfl) ?_ ?_
  · exact le_pure v pv hva (by omega) (by omega)
  cases hle : leI v pv with
  | false =>
    have hre : recvS ⟨n, pv, pr, acks, dec⟩ a r v = (nextS ⟨n, pv, pr, acks, dec⟩ v, true) := by
      unfold recvS
      rw [if_neg hc, if_neg (by simp [hle])]
    rw [hre]
    refine AW.iff true (by simp [hle]) (fun _ => ?_) (fun h => by cases h)
    obtain ⟨x, hx⟩ : ∃ x, x = nextS ⟨n, pv, pr, acks, dec⟩ v := ⟨_, rfl⟩
    rw [← hx] at p2 ⊢
    obtain ⟨n', pv', r', acks', dec'⟩ := x
    refine AW.st teOk [.fz (.agg (encPr ⟨n', pv', r', acks', dec'⟩))] (by simp [-Option.some.injEq] <;> rfl) ?_ ?_
    · exact p2
    refine AW.ret ⟨.inr rfl, _, Weak.refl _, ?_⟩
    simp
  | true =>
    have hre : recvS ⟨n, pv, pr, acks, dec⟩ a r v = (⟨n, pv, pr, insN acks a, decide (2 * ((insN acks a).length : Int) > n)⟩, false) := by
      unfold recvS
      rw [if_neg hc, if_pos hle]
    rw [hre]
    refine AW.iff false (by simp [hle]) (fun h => by cases h) (fun _ => AW.skip ?_)
    have hil := insN_len acks a
    refine AW.st teOk [.fz (.tup [.c (cI (posN acks a)), .c (cB (hasN acks a))])] (by simp [-Option.some.injEq] <;> rfl) ?_ ?_
    · exact bsN_pure acks a hasc (by omega)
    refine AW.st teOk [.fz (.agg (encPr ⟨n, pv, pr, acks, dec⟩))] (by simp [-Option.some.injEq] <;> rfl) ?_ ?_
    · exact p1
    refine AW.mid (fun s => s = ⟨[(4, .c (.ptr 0 0 0)), (8, .c (.ptr 1 0 0))], [(0, ⟨5, [encPr ⟨n, pv, pr, insN acks a, dec⟩]⟩), (1, ⟨5, [zPr]⟩)], 2⟩) ?_ ?_
    · refine AW.st teOk [] (by simp [-Option.some.injEq] <;> rfl) trivial ?_
      cases hh : hasN acks a with
      | true =>
        refine AW.iff false (by simp [hh]) (fun h => by cases h) (fun _ => AW.skip ?_)
        exact ⟨_, Weak.normT hA [4, 8] [(4, 0), (8, 1)] [] 2 _ (by simp) (by simp) (by simp), by simp [insN, hh]⟩
      | false =>
        refine AW.iff true (by simp [hh]) (fun _ => ?_) (fun h => by cases h)
        have hq : posN acks a ≤ acks.length := List.countP_le_length
        have hin : insN acks a = acks.take (posN acks a) ++ a :: acks.drop (posN acks a) := by rw [insN, hh, if_neg (by simp)]
        generalize posN acks a = q at *
        have e1 : (acks.map encn).drop q = (acks.drop q).map encn := List.map_drop.symm
        have e2 : (acks.map encn).take q = (acks.take q).map encn := List.map_take.symm
        have l1 : (acks.take q).length = q := by rw [List.length_take]; omega
        have l2 : (acks.drop q).length ≤ acks.length := by rw [List.length_drop]; omega
        rw [hin]
        generalize acks.drop q = rest at *
        generalize acks.take q = pre at *
        have ht1 : (pre.map encn ++ [[cI a]]).take (pre.length + 1) = pre.map encn ++ [[cI a]] := List.take_of_length_le (by simp)
        have ht2 : (pre.map encn ++ [cI a] :: rest.map encn).take (pre.length + 1 + rest.length) = pre.map encn ++ [cI a] :: rest.map encn := List.take_of_length_le (by simp; omega)
        have ht3 : pre.length + 1 + rest.length ≤ pre.length + (rest.length + 1) := by omega
        have hfl : flatO ⟨1, [cI a] :: rest.map encn⟩ = true := flat_encn (a :: rest)
        refine AW.st teOk [] (by simp [e1, -Option.some.injEq] <;> rfl) ?_ ?_
        · omega
        by_cases hr0 : rest = []
        · subst hr0
          refine AW.text teOk (ans := []) (by simp [e2, -Option.some.injEq] <;> rfl) ?_ ?_
          · simp [growOk]; omega
          exact ⟨_, (Weak.frzT 65 [0] _ (by simp <;> exact ⟨rfl, rfl, rfl⟩) (by simp <;> rfl) (by simp)).trans (Weak.normT hA [4, 8] [(4, 0), (8, 1)] [] 2 _ (by simp) (by simp) (by simp [ht1])), by simp [ht1]⟩
        · refine AW.text teOk (ans := []) (by simp [e2, hr0, -Option.some.injEq] <;> rfl) ?_ ?_
          · simp [growOk]; omega
          exact ⟨_, (Weak.frzT 65 [0] _ (by simp <;> exact ⟨rfl, rfl, rfl⟩) (by simp <;> rfl) (by simp [hfl])).trans (Weak.normT hA [4, 8] [(4, 0), (8, 1)] [] 2 _ (by simp) (by simp) (by simp [ht2, ht3])), by simp [ht2, ht3]⟩
    rintro s rfl
    have hw := two_len (insN acks a).length (by omega)
    generalize insN acks a = acks' at *
    refine AW.st teOk [] (by simp [hw, -Option.some.injEq] <;> rfl) trivial ?_
    refine AW.st teOk [] (by simp [-Option.some.injEq] <;> rfl) trivial ?_
    refine AW.ret ⟨.inr rfl, _, Weak.refl _, ?_⟩
    simp
end Go.Proofs.YtphlhadgcfndhaaGreatDoor.Abs
end
section
namespace Go.Proofs.YtphlhadgcfndhaaGreatDoor.Abs
open Go Go.RowKit
set_option linter.unusedVariables false
set_option linter.unusedSimpArgs false
set_option maxHeartbeats 4000000
theorem drop_rest : ∀ {rest : Sig} (_ : ∀ i, (look i rest).isSome = true → i < LIM) (k : Nat) (_ : 1000000 ≤ k), drop k rest = rest
  | [], _, _, _ => rfl
  | (t, o) :: r, h, k, hk => by
    have h1 := h t (by simp [look])
    have hr : ∀ i, (look i r).isSome = true → i < LIM := fun i hi => h i (by
      rw [look]
      split
      · rfl
      · exact hi)
    unfold drop
    rw [if_neg (by unfold LIM at h1; omega), drop_rest hr k hk]
theorem Weak.sortC {A : Old} (s : St) : Weak A s ⟨s.τ, sortS (hiS s.σ) ++ loS s.σ, s.fr⟩ := Weak.order _ fun id => by
  rw [← look_hilo id s.σ, look_app, look_app, look_sortS]
theorem Weak.normCS {A : Old} {m : Nat} {rest : Sig} (hA : A.lim = m) (hrefs : ∀ i o, look i rest = some o → refsLt m o) (ks : List Nat) (rs fix : List (Nat × Nat)) (ids : List Nat) (K : Nat) (s : St) (hlo : loS s.σ = rest)
    (h1 : ((rhoOf s.τ rs ++ fix).all fun p => decide (LIM ≤ p.1) && decide (LIM ≤ p.2) && decide (p.2 < K) && (decide (m ≤ p.1) && decide (m ≤ p.2) || p.1 == p.2)) = true) (hK : (decide (LIM ≤ K) && decide (m ≤ K)) = true) (h2 : ((rhoOf s.τ rs ++ fix).map Prod.snd).Nodup)
    (h3 : ((hiS s.σ).all fun p => decide (m ≤ p.1) || look p.1 (rhoOf s.τ rs ++ fix) == some p.1) = true) (h4 : flatRest (rhoOf s.τ rs ++ fix) ids (hiS s.σ)) :
    Weak A s ⟨(normL ks (rhoOf s.τ rs ++ fix) ids K s).τ, sortS (hiS (normL ks (rhoOf s.τ rs ++ fix) ids K s).σ) ++ loS (normL ks (rhoOf s.τ rs ++ fix) ids K s).σ, K⟩ := (Weak.normC hA hrefs ks rs fix ids K s hlo h1 hK h2 h3 h4).trans (Weak.sortC _)
@[simp] def boxQ (q d : Nat) (g : GrS) : List Cell := [.ref 1000002 0 g.accs.length, .ref 1000003 0 g.props.length, .ref 1000004 0 g.ins.length, .ref 1000005 0 g.nxt.length, .ref q 0 g.pks.length, .ref d 0 g.decs.length, cI g.steps]
/-- A group that is written: its packets are named q. -/
@[simp] def conG (g : GrS) : Sig := [(1000000, ⟨7, [boxQ 1000001 1000006 g]⟩), (1000001, ⟨5, g.pks.map encPk⟩), (1000002, ⟨1, g.accs.map encC⟩), (1000003, ⟨5, g.props.map encPr'⟩), (1000004, ⟨1, g.ins.map encIn⟩), (1000005, ⟨1, g.nxt.map encn⟩), (1000006, ⟨4, g.decs.map encDe⟩)]
/-- The packets are another object now. -/
@[simp] def conK (g : GrS) : Sig := [(1000000, ⟨7, [boxQ 1000020 1000006 g]⟩), (1000002, ⟨1, g.accs.map encC⟩), (1000003, ⟨5, g.props.map encPr'⟩), (1000004, ⟨1, g.ins.map encIn⟩), (1000005, ⟨1, g.nxt.map encn⟩), (1000006, ⟨4, g.decs.map encDe⟩), (1000020, ⟨5, g.pks.map encPk⟩)]
def propsTo (i : Nat) (p : PrS) (n : Nat) : List PkS := (List.range n).map fun (a : Nat) => (⟨false, (i : Int), (a : Int), p.r, p.v⟩ : PkS)
def sendS (g : GrS) (i : Nat) (p : PrS) : GrS := { g with pks := g.pks ++ propsTo i p p.n.toNat }
theorem propsTo_succ (i : Nat) (p : PrS) (n : Nat) : propsTo i p (n + 1) = propsTo i p n ++ [⟨false, i, n, p.r, p.v⟩] := by
  unfold propsTo
  rw [List.range_succ, List.map_append]
  rfl
theorem propsTo_len (i : Nat) (p : PrS) (n : Nat) : (propsTo i p n).length = n := by simp [propsTo]
theorem send_con (g : GrS) (i : Nat) (p : PrS) (hp : g.props[i]? = some p) (hn : 0 < p.n ∧ p.n ≤ 12) (hv : p.v.length < 1000000000) (hkl : g.pks.length < 1000000000) : Con Tryz.prog 47 [.c (.ptr 1000000 0 0), .c (cI i)] (conG g) 1000020 (.tup []) (conK (sendS g i p)) 1000022 := by
  have hil := (List.getElem?_eq_some_iff.1 hp).1
  obtain ⟨n, hpn⟩ : ∃ n : Nat, p.n = n := ⟨p.n.toNat, by omega⟩
  have hg' : sendS g i p = { g with pks := g.pks ++ propsTo i p n } := by unfold sendS; rw [hpn]; rfl
  rw [hg']
  obtain ⟨accs, props, ins, nxt, pks, decs, steps⟩ := g
  obtain ⟨pn, v, r, acks, dc⟩ := p
  dsimp only at *
  subst hpn
  refine con_of teOk Tryz.func47 (by kernel_rfl) (c := _) rfl (N := 36) rfl (rs := []) rfl (by simp) fun base A w0 rest hrest hrefs hA => ?_
  have hh := hiS_low hrest
  have hl := loS_low hrest
  have hdr := fun k hk => drop_rest hrest k hk
  have hrn : ∀ (ρ : List (Nat × Nat)) (ids : List Nat), (ids.all fun i => decide (1000000 ≤ i)) = true → rnS 1000000 ρ ids rest = rest := fun ρ ids h => rnS_low h hrest
  refine AW.st teOk [] (by simp [hp, hdr, -Option.some.injEq] <;> rfl) ?_ ?_
  · exact hil
  refine AW.st teOk [] (by simp [hdr, -Option.some.injEq] <;> rfl) trivial ?_
  refine AW.block (AW.loop (fun m s => ∃ (j q : Nat), m = n - j ∧ j ≤ n ∧ (q = 1000001 ∧ j = 0 ∨ q = 1000020) ∧ s = ⟨[(0, .c (.ptr 1000000 0 0)), (1, .c (cI i)), (4, .c (.ptr 1000021 0 0)), (14, .c (cI n)), (15, .c (cI j))], insS q ⟨5, pks.map encPk ++ (propsTo i ⟨n, v, r, acks, dc⟩ j).map encPk⟩ [(1000000, ⟨7, [boxQ q 1000006 ⟨accs, props, ins, nxt, pks ++ propsTo i ⟨n, v, r, acks, dc⟩ j, decs, steps⟩]⟩), (1000002, ⟨1, accs.map encC⟩), (1000003, ⟨5, props.map encPr'⟩), (1000004, ⟨1, ins.map encIn⟩), (1000005, ⟨1, nxt.map encn⟩), (1000006, ⟨4, decs.map encDe⟩), (1000021, ⟨5, [encPr ⟨n, v, r, acks, dc⟩]⟩)] ++ rest, 1000022⟩) _ (Weak.normCS hA hrefs [0, 1, 4, 14, 15] [(0, 1000000), (4, 1000021)] [(1000001, 1000001), (1000002, 1000002), (1000003, 1000003), (1000004, 1000004), (1000005, 1000005), (1000006, 1000006)] [1000000] 1000022 _ (by simp [hl]) (by simp) (by simp) (by simp) (by simp [hh]) (by simp [hh])) ⟨0, 1000001, rfl, Nat.zero_le _, .inl ⟨rfl, rfl⟩, by simp [normL, hh, hl, hrn, propsTo]⟩ ?_)
  rintro m s ⟨j, q, rfl, hj, hq, rfl⟩
  have hpl := propsTo_len i ⟨n, v, r, acks, dc⟩ j
  have hsucc := propsTo_succ i ⟨n, v, r, acks, dc⟩ j
  have hinc : IntKind.i64.wrap ((j : Int) + 1) = (j : Int) + 1 := wrap_s _ (by omega)
  dsimp only at hsucc
  have one : ∀ q : Nat, (q = 1000001 ∧ j = 0 ∨ q = 1000020) → q = 1000001 ∨ q = 1000020 := fun q h => by rcases h with ⟨h, _⟩ | h <;> simp [h]
  by_cases hjn : j < n
  · have hbody := one q hq
    clear hq one
    generalize propsTo i ⟨n, v, r, acks, dc⟩ j = done at *
    rcases hbody with rfl | rfl
    all_goals
      refine AW.st teOk [] (by simp [hdr, -Option.some.injEq] <;> rfl) trivial ?_
      refine AW.seq (AW.iff true (by simp [hjn]) (fun _ => AW.skip ?_) (fun h => by cases h))
      refine AW.seq (AW.block ?_)
      refine AW.st teOk [] (by simp [hdr, -Option.some.injEq] <;> rfl) trivial ?_
      refine AW.draw mixed teOk (ans := [.c (encV v)]) (by simp [hdr, -Option.some.injEq] <;> rfl) (by kernel_rfl) (by kernel_rfl) ?_ ?_
      · simp [allP, growOk]
        exact ⟨copy_pure v hv, by omega⟩
      refine AW.text teOk (ans := []) (by simp [hdr, -Option.some.injEq] <;> rfl) ?_ ?_
      · trivial
      refine ⟨_, _, Weak.normCS hA hrefs [0, 1, 4, 14, 15] [(0, 1000000), (4, 1000021)] [(1000038, 1000020), (1000002, 1000002), (1000003, 1000003), (1000004, 1000004), (1000005, 1000005), (1000006, 1000006)] [1000000] 1000022 _ (by simp [hl]) (by simp) (by simp) (by simp) (by simp [hh]) (by simp [hh]), ?_, j + 1, 1000020, rfl, hjn, .inr rfl, ?_⟩
      · omega
      · simp [normL, hh, hl, hrn, hinc, hsucc, hpl]
        omega
  have hjn' : j = n := by omega
  subst hjn'
  have hq2 : q = 1000020 := by rcases hq with ⟨_, h⟩ | h <;> omega
  subst hq2
  refine AW.st teOk [] (by simp [hdr, -Option.some.injEq] <;> rfl) trivial ?_
  refine AW.seq (AW.iff false (by simp) (fun h => by cases h) (fun h => AW.exit (x_then (x_then (blockA_exit ?_)))))
  refine ⟨.inl rfl, _, Weak.normCS hA hrefs [0] [(0, 1000000)] [(1000020, 1000020), (1000002, 1000002), (1000003, 1000003), (1000004, 1000004), (1000005, 1000005), (1000006, 1000006)] [1000000] 1000022 _ (by simp [hl]) (by simp) (by simp) (by simp) (by simp [hh]) (by simp [hh]), by simp, by simp [normL, hh, hl, hrn, hpl], rfl⟩
def delL {α : Type} (l : List α) (i : Nat) : List α := l.take i ++ l.drop (i + 1)
theorem delL_map {α β : Type} (f : α → β) (l : List α) (i : Nat) : delL (l.map f) i = (delL l i).map f := by simp [delL, List.map_take, List.map_drop]
theorem delL_len {α : Type} (l : List α) (i : Nat) (h : i < l.length) : (delL l i).length = l.length - 1 := by simp [delL]; omega
def zeroK : List Cell := [cB false, cI 0, cI 0, cI 0, .sc (.slice none 0 0)]
theorem del_con (es : List (List Cell)) (hf : flatO ⟨5, es⟩ = true) (i : Nat) (hi : i < es.length) (hl : es.length < 1000000000) : Con Tryz.prog 73 [.c (.ref 1000001 0 es.length), .c (cI i), .c (cI ((i : Int) + 1))] [(1000001, ⟨5, es⟩)] 1000020 (.c (.ref 1000001 0 (es.length - 1))) [(1000001, ⟨5, delL es i ++ [zeroK]⟩)] 1000040 := by
  refine con_of teOk Tryz.func73 (by kernel_rfl) (c := _) rfl (N := 33) rfl (rs := [Go.ResultVar.tmp 6]) rfl (by simp) fun base A w0 rest hrest hrefs hA => ?_
  have hh := hiS_low hrest
  have hl' := loS_low hrest
  have hdr := fun k hk => drop_rest hrest k hk
  have hrn : ∀ (ρ : List (Nat × Nat)) (ids : List Nat), (ids.all fun i => decide (1000000 ≤ i)) = true → rnS 1000000 ρ ids rest = rest := fun ρ ids h => rnS_low h hrest
  have hrn0 : ∀ (ρ : List (Nat × Nat)), rnS 1000000 ρ [] rest = rest := fun ρ => hrn ρ [] rfl
  refine AW.st teOk [] (by simp [-Option.some.injEq] <;> rfl) trivial ?_
  refine AW.st teOk [] (by simp [hdr, -Option.some.injEq] <;> rfl) ?_ ?_
  · omega
  refine AW.seq ?_
  refine AW.st teOk [] (by simp [-Option.some.injEq] <;> rfl) trivial ?_
  refine AW.iff false (by simp; omega) (fun h => by cases h) (fun _ => AW.skip ?_)
  refine AW.st teOk [] (by simp [-Option.some.injEq] <;> rfl) trivial ?_
  have hfd : ∀ k, flatO ⟨5, es.drop k⟩ = true := fun k => by
    unfold flatO at hf ⊢
    rw [List.all_eq_true] at hf ⊢
    exact fun e he => hf e (List.mem_of_mem_drop he)
  have hft : ∀ k, flatO ⟨5, es.take k⟩ = true := fun k => by
    unfold flatO at hf ⊢
    rw [List.all_eq_true] at hf ⊢
    exact fun e he => hf e (List.mem_of_mem_take he)
  have hft2 : ∀ k m, flatO ⟨5, (es.drop m).take k⟩ = true := fun k m => by
    have := hfd m
    unfold flatO at this ⊢
    rw [List.all_eq_true] at this ⊢
    exact fun e he => this e (List.mem_of_mem_take he)
  obtain ⟨L, hL⟩ : ∃ L, L = es.drop (es.length - 1) := ⟨_, rfl⟩
  have hLl : L.length = 1 := by rw [hL, List.length_drop]; omega
  have hDl := delL_len es i hi
  obtain ⟨D, hD⟩ : ∃ D, D = delL es i := ⟨_, rfl⟩
  rw [← hD] at hDl ⊢
  refine AW.mid (fun s => s = ⟨[(0, .c (.ref 1000001 0 (es.length - 1))), (7, .c (cI es.length))], [(1000001, ⟨5, D ++ L⟩)] ++ rest, 1000034⟩) ?_ ?_
  · by_cases hlast : (i : Int) + 1 < es.length
    · refine AW.draw mixed teOk (ans := []) (by simp [hdr, hlast, -Option.some.injEq] <;> rfl) (by kernel_rfl) (by kernel_rfl) ?_ ?_
      · simp [allP]
        omega
      have e1 : es.take i ++ (es.drop (i + 1)).take (es.length - (i + 1)) ++ es.drop (i + (es.length - (i + 1))) = D ++ L := by
        rw [hD, hL, List.take_of_length_le (l := es.drop (i + 1)) (by rw [List.length_drop]; omega), delL, show i + (es.length - (i + 1)) = es.length - 1 from by omega]
      have e2 : i + (es.length - (i + 1)) = es.length - 1 := by omega
      exact ⟨_, Weak.normCS hA hrefs [0, 7] [(0, 1000001)] [] [] 1000034 _ (by simp [hl', hdr]) (by simp) (by simp) (by simp) (by simp [hh, hdr]) (by simp [hh, hdr, hft, hfd, hf, hft2]), by simp [normL, hh, hl', hrn0, hdr]; exact ⟨e2, by rw [← e1, List.append_assoc, e2]⟩⟩
    · have hi1 : i + 1 = es.length := by omega
      refine AW.draw mixed teOk (ans := []) (by simp [hdr, hlast, -Option.some.injEq] <;> rfl) (by kernel_rfl) (by kernel_rfl) ?_ ?_
      · simp [allP]
        omega
      have e1 : es = D ++ L := by
        rw [hD, hL, delL, List.drop_eq_nil_of_le (by omega), List.append_nil, show es.length - 1 = i from by omega, List.take_append_drop]
      have e2 : i = es.length - 1 := by omega
      exact ⟨_, Weak.normCS hA hrefs [0, 7] [(0, 1000001)] [] [] 1000034 _ (by simp [hl', hdr]) (by simp) (by simp) (by simp) (by simp [hh, hdr]) (by simp [hh, hdr, hft, hfd, hf, hft2]), by simp [normL, hh, hl', hrn0, hdr]; exact ⟨e2, e1⟩⟩
  rintro s rfl
  have hn1 : ((es.length - 1 : Nat) : Int) < es.length := by omega
  have hn2 : es.length - (es.length - 1) = 1 := by omega
  have hn3 : es.length - 1 + 1 = es.length := by omega
  generalize es.length - 1 = n1 at *
  refine AW.st teOk [] (by simp [hdr, hn1, hn2, -Option.some.injEq] <;> rfl) ?_ ?_
  · omega
  refine AW.st teOk [] (by simp [hdr, -Option.some.injEq] <;> rfl) trivial ?_
  have hz1 : (D ++ L).take n1 = D := by
    rw [List.take_append_of_le_length (by omega), List.take_of_length_le (by omega)]
  have hz2 : (D ++ L).drop (n1 + 1) = [] := List.drop_eq_nil_of_le (by rw [List.length_append]; omega)
  have hfD : flatO ⟨5, D⟩ = true := by
    rw [hD, delL, flatO_app, hft, hfd]
    rfl
  refine AW.ret ⟨.inr rfl, _, Weak.normCS hA hrefs [6] [(6, 1000001)] [] [] 1000040 _ (by simp [hl', hdr]) (by simp) (by simp) (by simp) (by simp [hh, hdr]) (by simp [hh, hdr, hz1, hz2, hfD]), by simp, ?_, rfl⟩
  simp [normL, hh, hl', hrn0, hdr, hz1, hz2, zeroK]
  done
/-- Proposers, inputs and places go together. -/
structure GrN (g : GrS) (n : Nat) : Prop where
  p : g.props.length = n
  i : g.ins.length = n
  x : g.nxt.length = n
  b : n < 1000000000
def validS (g : GrS) (i : Int) : Bool := decide (0 ≤ i) && match g.ins[i.toNat]? with
  | some l => decide (0 < l.length)
  | none => false
theorem gvalid_pure (g : GrS) {n : Nat} (hn : GrN g n) (i : Int) : Pure Tryz.prog 91 [.agg (encGr g), .c (cI i)] (.c (cB (validS g i))) := by
  obtain ⟨accs, props, ins, nxt, pks, decs, steps⟩ := g
  obtain ⟨h1, h2, h3, h4⟩ := hn
  dsimp only at *
  refine pure_of teOk Tryz.func91 (by kernel_rfl) (c := _) rfl (N := 37) rfl (rs := [Go.ResultVar.tmp 4]) rfl (by simp) fun base A w0 hA => ?_
  refine AW.st teOk [] (by simp [-Option.some.injEq] <;> rfl) trivial ?_
  by_cases hi0 : 0 ≤ i
  · obtain ⟨j, rfl⟩ : ∃ j : Nat, i = j := ⟨i.toNat, by omega⟩
    by_cases hij : j < n
    · obtain ⟨l, hl⟩ : ∃ l, ins[j]? = some l := ⟨_, List.getElem?_eq_getElem (by omega)⟩
      have hgl := (List.getElem?_eq_some_iff.1 hl).2
      refine AW.st teOk [] (by simp [h1, h2, h3, hij, hl, hgl, -Option.some.injEq] <;> rfl) trivial ?_
      refine AW.ret ⟨.inr rfl, _, Weak.refl _, ?_⟩
      simp [validS, hl, hgl]
    · refine AW.st teOk [] (by simp [h1, h2, h3, hij, -Option.some.injEq] <;> rfl) trivial ?_
      refine AW.ret ⟨.inr rfl, _, Weak.refl _, ?_⟩
      simp [validS, List.getElem?_eq_none (show ins.length ≤ j by omega)]
  · refine AW.st teOk [] (by simp [hi0, -Option.some.injEq] <;> rfl) trivial ?_
    refine AW.ret ⟨.inr rfl, _, Weak.refl _, ?_⟩
    simp [validS, hi0]
/-- What a reply leads to. -/
def phaseS (p p' : PrS) (again : Bool) : Int := if again = true then 1 else if p'.dec = true ∧ p.dec = false then 2 else 0
theorem set_enc {α : Type} (f : α → List Cell) (l : List α) (i : Nat) (x : α) : (l.map f).set i (f x) = (l.set i x).map f := by
  rw [List.map_set]
theorem recv_con (g : GrS) {n : Nat} (hn : GrN g n) (k : PkS) (i : Nat) (hi : k.prop = i) (p : PrS) (hp : g.props[i]? = some p) (l : List V2) (hl : g.ins[i]? = some l) (hl0 : 0 < l.length) (ok : PrOk p) (hv : k.v.length < 1000000000) : Con Tryz.prog 75 [.c (.ptr 1000000 0 0), .agg (encPk k)] (conG g) 1000020 (.c (cI (phaseS p (recvS p k.acc k.round k.v).1 (recvS p k.acc k.round k.v).2))) (conG { g with props := g.props.set i (recvS p k.acc k.round k.v).1 }) 1000100 := by
  have hil := (List.getElem?_eq_some_iff.1 hp).1
  have hvp := gvalid_pure g hn k.prop
  have hvs : validS g k.prop = true := by
    unfold validS
    rw [hi]
    simp [hl, hl0]
  rw [hvs] at hvp
  have hpr := precv_pure ok k.acc k.round (v := k.v) (by omega)
  obtain ⟨⟨p', again⟩, hr⟩ : ∃ r, r = recvS p k.acc k.round k.v := ⟨_, rfl⟩
  rw [← hr] at hpr ⊢
  obtain ⟨accs, props, ins, nxt, pks, decs, steps⟩ := g
  obtain ⟨kb, kp, ka, kr, kv⟩ := k
  obtain ⟨pn, pv, pr, acks, dc⟩ := p
  obtain ⟨pn', pv', pr', acks', dc'⟩ := p'
  dsimp only at *
  subst hi
  refine con_of teOk Tryz.func75 (by kernel_rfl) (c := _) rfl (N := 59) rfl (rs := [Go.ResultVar.tmp 4]) rfl (by simp) fun base A w0 rest hrest hrefs hA => ?_
  have hh := hiS_low hrest
  have hl' := loS_low hrest
  have hdr := fun k hk => drop_rest hrest k hk
  have hrn : ∀ (ρ : List (Nat × Nat)) (ids : List Nat), (ids.all fun i => decide (1000000 ≤ i)) = true → rnS 1000000 ρ ids rest = rest := fun ρ ids h => rnS_low h hrest
  refine AW.st teOk [] (by simp [hdr, -Option.some.injEq] <;> rfl) trivial ?_
  refine AW.seq ?_
  refine AW.dr mixed teOk [.c (cB true)] (by simp [hdr, -Option.some.injEq] <;> rfl) (by kernel_rfl) (by kernel_rfl) ?_ ?_
  · simp [allP, flatVs, flatV, flatCs, flatC, flatAt]
    exact hvp
  refine AW.iff false (by simp) (fun h => by cases h) (fun _ => AW.skip ?_)
  refine AW.dr mixed teOk [] (by simp [hdr, hp, -Option.some.injEq] <;> rfl) (by kernel_rfl) (by kernel_rfl) ?_ ?_
  · simp [allP]
    omega
  refine AW.dr mixed teOk [.tup [.agg (encPr ⟨pn', pv', pr', acks', dc'⟩), .c (cB again)]] (by simp [hdr, hp, -Option.some.injEq] <;> rfl) (by kernel_rfl) (by kernel_rfl) ?_ ?_
  · simp [allP]
    exact ⟨by omega, hpr⟩
  refine AW.dr mixed teOk [] (by simp [hdr, hp, -Option.some.injEq] <;> rfl) (by kernel_rfl) (by kernel_rfl) ?_ ?_
  · simp [allP]
    omega
  have hset : (props.map encPr').set i [cI pn', encV pv', cI pr', encIs acks', cB dc'] = (props.set i ⟨pn', pv', pr', acks', dc'⟩).map encPr' := set_enc encPr' props i ⟨pn', pv', pr', acks', dc'⟩
  have hfl : flatO ⟨5, (props.map encPr').set i [cI pn', encV pv', cI pr', encIs acks', cB dc']⟩ = true := by rw [hset]; exact flat_encPr' _
  refine AW.seq (AW.block ?_)
  refine AW.st teOk [] (by simp [hdr, -Option.some.injEq] <;> rfl) trivial ?_
  cases again with
  | true =>
    refine AW.iff true (by simp) (fun _ => ?_) (fun h => by cases h)
    refine AW.st teOk [] (by simp [hdr, -Option.some.injEq] <;> rfl) trivial ?_
    refine AW.ret ⟨.inr rfl, _, Weak.normCS hA hrefs [0, 4] [(0, 1000000)] [(1000001, 1000001), (1000002, 1000002), (1000003, 1000003), (1000004, 1000004), (1000005, 1000005), (1000006, 1000006)] [1000000] 1000100 _ (by simp [hl', hdr]) (by simp) (by simp) (by simp) (by simp [hh, hdr]) (by simp [hh, hdr, hfl]), by simp [normL, phaseS], by simp [normL, hh, hl', hrn, hdr], rfl⟩
  | false =>
    refine AW.iff false (by simp) (fun h => by cases h) (fun _ => ?_)
    cases dc' with
    | false =>
      refine AW.st teOk [] (by simp [hdr, -Option.some.injEq] <;> rfl) trivial ?_
      refine AW.iff false (by simp) (fun h => by cases h) (fun _ => AW.skip ?_)
      refine AW.st teOk [] (by simp [hdr, -Option.some.injEq] <;> rfl) trivial ?_
      refine AW.ret ⟨.inr rfl, _, Weak.normCS hA hrefs [0, 4] [(0, 1000000)] [(1000001, 1000001), (1000002, 1000002), (1000003, 1000003), (1000004, 1000004), (1000005, 1000005), (1000006, 1000006)] [1000000] 1000100 _ (by simp [hl', hdr]) (by simp) (by simp) (by simp) (by simp [hh, hdr]) (by simp [hh, hdr, hfl]), by simp [normL, phaseS], by simp [normL, hh, hl', hrn, hdr], rfl⟩
    | true =>
      refine AW.st teOk [] (by simp [hdr, -Option.some.injEq] <;> rfl) trivial ?_
      cases dc with
      | true =>
        refine AW.iff false (by simp) (fun h => by cases h) (fun _ => AW.skip ?_)
        refine AW.st teOk [] (by simp [hdr, -Option.some.injEq] <;> rfl) trivial ?_
        refine AW.ret ⟨.inr rfl, _, Weak.normCS hA hrefs [0, 4] [(0, 1000000)] [(1000001, 1000001), (1000002, 1000002), (1000003, 1000003), (1000004, 1000004), (1000005, 1000005), (1000006, 1000006)] [1000000] 1000100 _ (by simp [hl', hdr]) (by simp) (by simp) (by simp) (by simp [hh, hdr]) (by simp [hh, hdr, hfl]), by simp [normL, phaseS], by simp [normL, hh, hl', hrn, hdr], rfl⟩
      | false =>
        refine AW.iff true (by simp) (fun _ => ?_) (fun h => by cases h)
        refine AW.st teOk [] (by simp [hdr, -Option.some.injEq] <;> rfl) trivial ?_
        refine AW.ret ⟨.inr rfl, _, Weak.normCS hA hrefs [0, 4] [(0, 1000000)] [(1000001, 1000001), (1000002, 1000002), (1000003, 1000003), (1000004, 1000004), (1000005, 1000005), (1000006, 1000006)] [1000000] 1000100 _ (by simp [hl', hdr]) (by simp) (by simp) (by simp) (by simp [hh, hdr]) (by simp [hh, hdr, hfl]), by simp [normL, phaseS], by simp [normL, hh, hl', hrn, hdr], rfl⟩
/-- The decisions are another object now. -/
@[simp] def conD (g : GrS) : Sig := [(1000000, ⟨7, [boxQ 1000001 1000020 g]⟩), (1000001, ⟨5, g.pks.map encPk⟩), (1000002, ⟨1, g.accs.map encC⟩), (1000003, ⟨5, g.props.map encPr'⟩), (1000004, ⟨1, g.ins.map encIn⟩), (1000005, ⟨1, g.nxt.map encn⟩), (1000020, ⟨4, g.decs.map encDe⟩)]
def decS (g : GrS) (i : Nat) (x : Int) (p : PrS) : GrS := { g with decs := g.decs ++ [⟨i, x, p.v, g.steps⟩] }
def nextG (g : GrS) (i : Nat) (x : Int) (p : PrS) (v : V2) : GrS := { g with nxt := g.nxt.set i (x + 1), props := g.props.set i (propS p v) }
theorem decide_con (g : GrS) (i : Nat) (p : PrS) (hp : g.props[i]? = some p) (l : List V2) (hl : g.ins[i]? = some l) (x : Nat) (hx : g.nxt[i]? = some (x : Int)) (hxb : x < 1000000000) (hlb : l.length < 1000000000) (ok : PrOk p) (hdl : g.decs.length < 1000000000) (hvl : ∀ v ∈ l, v.length < 1000000000) : Con Tryz.prog 76 [.c (.ptr 1000000 0 0), .c (cI i)] (conG g) 1000020 (.c (cB (decide (x + 1 < l.length)))) (conD (match l[x + 1]? with | some v => nextG (decS g i x p) i x p v | none => decS g i x p)) 1000200 := by
  have hil := (List.getElem?_eq_some_iff.1 hp).1
  have hil2 := (List.getElem?_eq_some_iff.1 hl).1
  have hil3 := (List.getElem?_eq_some_iff.1 hx).1
  have hinc : IntKind.i64.wrap ((x : Int) + 1) = (x : Int) + 1 := wrap_s _ (by omega)
  have hgl := (List.getElem?_eq_some_iff.1 hl).2
  have hvb := ok.vl
  have pc := copy_pure p.v hvb
  obtain ⟨accs, props, ins, nxt, pks, decs, steps⟩ := g
  dsimp only at *
  have hpr := fun v hv => pprop_pure ok (v := v) hv
  obtain ⟨pn, pv, pr, acks, dc⟩ := p
  dsimp only at *
  refine con_of teOk Tryz.func76 (by kernel_rfl) (c := _) rfl (N := 90) rfl (rs := [Go.ResultVar.tmp 4]) rfl (by simp) fun base A w0 rest hrest hrefs hA => ?_
  have hh := hiS_low hrest
  have hl' := loS_low hrest
  have hdr := fun k hk => drop_rest hrest k hk
  have hrn : ∀ (ρ : List (Nat × Nat)) (ids : List Nat), (ids.all fun i => decide (1000000 ≤ i)) = true → rnS 1000000 ρ ids rest = rest := fun ρ ids h => rnS_low h hrest
  refine AW.st teOk [] (by simp [hdr, -Option.some.injEq] <;> rfl) trivial ?_
  refine AW.dr mixed teOk [.c (encV pv)] (by simp [hdr, hp, hx, -Option.some.injEq] <;> rfl) (by kernel_rfl) (by kernel_rfl) ?_ ?_
  · simp [allP, growOk]
    exact ⟨hil3, hil, pc, by omega⟩
  refine AW.st teOk [] (by simp [hdr, hx, hinc, -Option.some.injEq] <;> rfl) ?_ ?_
  · exact hil3
  have hx0 : ¬ ((x : Int) + 1 < 0) := by omega
  refine AW.seq ?_
  refine AW.st teOk [] (by simp [hdr, hl, hx0, hgl, -Option.some.injEq] <;> rfl) ?_ ?_
  · omega
  by_cases hc : x + 1 < l.length
  · obtain ⟨v, hv⟩ : ∃ v, l[x + 1]? = some v := ⟨_, List.getElem?_eq_getElem hc⟩
    have hvb2 := hvl v (List.mem_of_getElem? hv)
    refine AW.iff false (by simp; omega) (fun h => by cases h) (fun _ => AW.skip ?_)
    refine AW.st teOk [] (by simp [hdr, hx, -Option.some.injEq] <;> rfl) ?_ ?_
    · exact hil3
    obtain ⟨p', hp'⟩ : ∃ p', p' = propS ⟨pn, pv, pr, acks, dc⟩ v := ⟨_, rfl⟩
    have hpr' := hpr v (by omega)
    rw [← hp'] at hpr'
    have hcc : (x : Int) + 1 < l.length := by omega
    have hnn : ((x : Int) + 1).toNat = x + 1 := by omega
    obtain ⟨pn', pv', pr', acks', dc'⟩ := p'
    have hset : (props.map encPr').set i [cI pn', encV pv', cI pr', encIs acks', cB dc'] = (props.set i ⟨pn', pv', pr', acks', dc'⟩).map encPr' := set_enc encPr' props i ⟨pn', pv', pr', acks', dc'⟩
    have hfl : flatO ⟨5, (props.map encPr').set i [cI pn', encV pv', cI pr', encIs acks', cB dc']⟩ = true := by rw [hset]; exact flat_encPr' _
    have hset2 : (nxt.map encn).set i [cI ((x : Int) + 1)] = (nxt.set i ((x : Int) + 1)).map encn := set_enc encn nxt i _
    have hfl2 : flatO ⟨1, (nxt.map encn).set i [cI ((x : Int) + 1)]⟩ = true := by rw [hset2]; exact flat_encn _
    refine AW.dr mixed teOk [.agg (encPr ⟨pn', pv', pr', acks', dc'⟩)] (by simp [hdr, hp, hl, hv, hcc, hnn, hgl, -Option.some.injEq] <;> rfl) (by kernel_rfl) (by kernel_rfl) ?_ ?_
    · simp [allP]
      exact ⟨hil, hil2, by omega, hpr', hil⟩
    refine AW.st teOk [] (by simp [hdr, -Option.some.injEq] <;> rfl) trivial ?_
    rw [hv]
    refine AW.ret ⟨.inr rfl, _, Weak.normCS hA hrefs [0, 4] [(0, 1000000)] [(1000001, 1000001), (1000002, 1000002), (1000003, 1000003), (1000004, 1000004), (1000005, 1000005), (1000048, 1000020)] [1000000] 1000200 _ (by simp [hl', hdr]) (by simp) (by simp) (by simp) (by simp [hh, hdr]) (by simp [hh, hdr, hfl, hfl2]), by simp [normL, hc], by simp [normL, hh, hl', hrn, hdr, nextG, decS, ← hp'], rfl⟩
  · have hv : l[x + 1]? = none := List.getElem?_eq_none (by omega)
    refine AW.iff true (by simp; omega) (fun _ => ?_) (fun h => by cases h)
    refine AW.st teOk [] (by simp [hdr, -Option.some.injEq] <;> rfl) trivial ?_
    rw [hv]
    refine AW.ret ⟨.inr rfl, _, Weak.normCS hA hrefs [0, 4] [(0, 1000000)] [(1000001, 1000001), (1000002, 1000002), (1000003, 1000003), (1000004, 1000004), (1000005, 1000005), (1000048, 1000020)] [1000000] 1000200 _ (by simp [hl', hdr]) (by simp) (by simp) (by simp) (by simp [hh, hdr]) (by simp [hh, hdr]), by simp [normL, hc], by simp [normL, hh, hl', hrn, hdr, decS], rfl⟩
end Go.Proofs.YtphlhadgcfndhaaGreatDoor.Abs
end
