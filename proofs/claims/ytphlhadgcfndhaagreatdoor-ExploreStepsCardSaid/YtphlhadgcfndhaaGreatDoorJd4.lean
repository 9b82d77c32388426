/- Joined for the claim: WProp3 WAgr6 WAgr7 -/
import Derived.Test.YtphlhadgcfndhaaGreatDoorJd3
section
namespace Go.Proofs.YtphlhadgcfndhaaGreatDoor.Abs
open Go Go.RowKit
set_option linter.unusedVariables false
set_option linter.unusedSimpArgs false
set_option maxHeartbeats 4000000
theorem insN_asc {l : List Int} (h : AscN l) (a : Int) : AscN (insN l a) := by
  rw [← rins_is a l h]
  induction l with
  | nil => simp [rinsN, AscN]
  | cons e l ih =>
    obtain ⟨h1, h2⟩ := List.pairwise_cons.1 h
    rw [rinsN]
    by_cases hae : a ≤ e
    · have hl : ∀ x ∈ l, x ≠ a := fun x hx => by have := h1 x hx; omega
      rw [if_pos ⟨rfl, hae⟩, decide_eq_true hae, Bool.or_true, rinsN_true a l hl]
      by_cases he : e = a
      · subst he
        simpa using h
      · rw [if_neg he]
        refine List.pairwise_cons.2 ⟨fun x hx => ?_, h⟩
        rcases List.mem_cons.1 hx with rfl | hx
        · omega
        · have := h1 x hx; omega
    · rw [if_neg (by simp [hae]), if_neg (by omega), decide_eq_false hae, Bool.or_false]
      refine List.pairwise_cons.2 ⟨fun x hx => ?_, ih h2⟩
      have hx' : x ∈ insN l a := by rw [← rins_is a l h2]; exact hx
      unfold insN at hx'
      split at hx'
      · exact h1 x hx'
      · rcases List.mem_append.1 hx' with hx' | hx'
        · exact h1 x (List.mem_of_mem_take hx')
        · rcases List.mem_cons.1 hx' with rfl | hx'
          · omega
          · exact h1 x (List.mem_of_mem_drop hx')
structure PrB (p : PrS) (k : Nat) : Prop where
  v : Val p.v
  vl : p.v.length ≤ 20 * k
  asc : AscN p.acks
  al : p.acks.length ≤ k
  r : 1 ≤ p.r ∧ p.r ≤ k
theorem PrB.ok {p : PrS} {k : Nat} (h : PrB p k) (hk : k < 100000) : PrOk p := ⟨h.v, by have := h.vl; omega, h.asc, by have := h.al; omega, by have := h.r; omega⟩
theorem PrB.up {p : PrS} {k : Nat} (h : PrB p k) : PrB p (k + 1) := ⟨h.v, by have := h.vl; omega, h.asc, by have := h.al; omega, by have := h.r; omega⟩
theorem PrB.new (n : Int) {v : V2} (h : Val v) (hl : v.length ≤ 20) : PrB (newS n v) 1 := ⟨h, by simpa [newS] using hl, List.Pairwise.nil, Nat.zero_le _, by simp [newS]⟩
theorem PrB.next {p : PrS} {k : Nat} (h : PrB p k) {v : V2} (hv : Val v) (hl : v.length ≤ 20) : PrB (nextS p v) (k + 1) := by
  have hm := mergeI_length true p.v v
  have h1 := h.vl
  have h2 := h.r
  refine ⟨(mrg_is true h.v hv).val, ?_, List.Pairwise.nil, Nat.zero_le _, ?_⟩
  · show (mergeI true p.v v).length ≤ _
    omega
  · show 1 ≤ p.r + 1 ∧ p.r + 1 ≤ _
    omega
theorem PrB.recv {p : PrS} {k : Nat} (h : PrB p k) (a r : Int) {v : V2} (hv : Val v) (hl : v.length ≤ 20) : PrB (recvS p a r v).1 (k + 1) := by
  unfold recvS
  split
  · exact h.up
  · split
    · have := insN_len p.acks a
      have h3 := h.al
      exact ⟨h.v, by have := h.vl; show p.v.length ≤ _; omega, insN_asc h.asc a, by show (insN p.acks a).length ≤ _; omega, by have := h.r; show 1 ≤ p.r ∧ p.r ≤ _; omega⟩
    · exact h.next hv hl
theorem PrB.prop {p : PrS} {k : Nat} (h : PrB p k) {v : V2} (hv : Val v) (hl : v.length ≤ 20) : PrB (propS p v) (k + 1) := by
  unfold propS
  split
  · exact h.next hv hl
  · exact h.up
theorem rprop_pure {p : PrS} (h : PrOk p) {v : V2} (hv : Val v) (hl : v.length < 1000000000) : Pure Tryz.prog 79 [.agg (encPr p), .c (encV v)] (.agg (encPr (propS p v))) := by
  have hr := add_one p.r h.r
  have hj : Pure Tryz.prog 34 [.c (encV p.v), .c (encV v)] (.c (encV (mergeI true p.v v))) := by
    rw [← rjoin_merge h.v hv]
    exact rjoin_pure p.v v hv.1 (by have := h.vl; omega)
  obtain ⟨n, pv, r, acks, dec⟩ := p
  dsimp only at hr hj
  refine pure_le teOk Tryz.func79 (by kernel_rfl) (c := _) rfl (N := 21) rfl (rs := [Go.ResultVar.cell 4 113]) rfl (by simp) fun base A w0 hA => ?_
  refine AW.st teOk [] (by simp [-Option.some.injEq] <;> rfl) trivial ?_
  refine AW.seq ?_
  refine AW.st teOk [] (by simp [-Option.some.injEq] <;> rfl) trivial ?_
  cases dec with
  | false =>
    refine AW.iff true (by simp) (fun _ => ?_) (fun h => by cases h)
    refine AW.st teOk [] (by simp [-Option.some.injEq] <;> rfl) trivial ?_
    refine AW.ret ⟨.inr rfl, _, _, Weak.refl _, by simp <;> rfl, ?_⟩
    exact .refl _
  | true =>
    refine AW.iff false (by simp) (fun h => by cases h) (fun _ => AW.skip ?_)
    refine AW.st teOk [.fz (.c (encV (mergeI true pv v)))] (by simp [-Option.some.injEq] <;> rfl) ?_ ?_
    · exact hj
    refine AW.st teOk [] (by simp [hr, -Option.some.injEq] <;> rfl) trivial ?_
    refine AW.st teOk [] (by simp [-Option.some.injEq] <;> rfl) trivial ?_
    refine AW.st teOk [] (by simp [-Option.some.injEq] <;> rfl) trivial ?_
    refine AW.st teOk [] (by simp [-Option.some.injEq] <;> rfl) trivial ?_
    refine AW.ret ⟨.inr rfl, _, _, Weak.refl _, by simp <;> rfl, ?_⟩
    exact .aggs (.cons (.refl _) (.cons (.refl _) (.cons (.refl _) (.cons (nil_cell 1) (.cons (.refl _) .nil)))))
theorem rrecv_pure {p : PrS} (h : PrOk p) (a r : Int) {v : V2} (hv : Val v) (hl : v.length < 1000000000) : Pure Tryz.prog 77 [.agg (encPr p), .c (cI a), .c (cI r), .c (encV v)] (.tup [.agg (encPr (recvS p a r v).1), .c (cB (recvS p a r v).2)]) := by
  have hasc := h.asc
  have hal := h.al
  have hvl := h.vl
  have hr1 := add_one p.r h.r
  have hj : Pure Tryz.prog 34 [.c (encV p.v), .c (encV v)] (.c (encV (mergeI true p.v v))) := by
    rw [← rjoin_merge h.v hv]
    exact rjoin_pure p.v v hv.1 (by have := h.vl; omega)
  obtain ⟨n, pv, pr, acks, dec⟩ := p
  dsimp only at hasc hal hvl hr1 hj
  refine pure_le teOk Tryz.func77 (by kernel_rfl) (c := _) rfl (N := 59) rfl (rs := [Go.ResultVar.cell 8 113, Go.ResultVar.tmp 9]) rfl (by simp) fun base A w0 hA => ?_
  refine AW.st teOk [] (by simp [-Option.some.injEq] <;> rfl) trivial ?_
  refine AW.mid (fun s => ¬ (dec = true ∨ r ≠ pr ∨ a < 0 ∨ a ≥ n) ∧ s = ⟨[(1, .c (cI a)), (3, .c (encV v)), (4, .c (.ptr 0 0 0)), (8, .c (.ptr 1 0 0))], [(1, ⟨5, [zPr]⟩), (0, ⟨5, [encPr ⟨n, pv, pr, acks, dec⟩]⟩)], 2⟩) ?_ ?_
  · cases dec with
    | true =>
      refine AW.st teOk [] (by simp [-Option.some.injEq] <;> rfl) trivial ?_
      refine AW.iff true (by simp) (fun _ => ?_) (fun h => by cases h)
      refine AW.st teOk [] (by simp [-Option.some.injEq] <;> rfl) trivial ?_
      refine AW.ret ⟨.inr rfl, _, _, Weak.refl _, by simp <;> rfl, ?_⟩
      simp [recvS]
      exact .refl _
    | false =>
      by_cases h1 : r = pr
      · subst h1
        by_cases h2 : a < 0
        · refine AW.st teOk [] (by simp [h2, -Option.some.injEq] <;> rfl) trivial ?_
          refine AW.iff true (by simp) (fun _ => ?_) (fun h => by cases h)
          refine AW.st teOk [] (by simp [-Option.some.injEq] <;> rfl) trivial ?_
          refine AW.ret ⟨.inr rfl, _, _, Weak.refl _, by simp <;> rfl, ?_⟩
          simp [recvS, h2]
          exact .refl _
        · by_cases h3 : a ≥ n
          · refine AW.st teOk [] (by simp [h2, h3, -Option.some.injEq] <;> rfl) trivial ?_
            refine AW.iff true (by simp) (fun _ => ?_) (fun h => by cases h)
            refine AW.st teOk [] (by simp [-Option.some.injEq] <;> rfl) trivial ?_
            refine AW.ret ⟨.inr rfl, _, _, Weak.refl _, by simp <;> rfl, ?_⟩
            simp [recvS, h3]
            exact .refl _
          · refine AW.st teOk [] (by simp [h2, h3, -Option.some.injEq] <;> rfl) trivial ?_
            refine AW.iff false (by simp) (fun h => by cases h) (fun _ => AW.skip ?_)
            exact ⟨_, Weak.normT hA [1, 3, 4, 8] [(4, 0), (8, 1)] [] 2 _ (by simp) (by simp) (by simp), by simp; omega, by simp⟩
      · have h1' : (r != pr) = true := by simpa using h1
        refine AW.st teOk [] (by simp [h1', -Option.some.injEq] <;> rfl) trivial ?_
        refine AW.iff true (by simp) (fun _ => ?_) (fun h => by cases h)
        refine AW.st teOk [] (by simp [-Option.some.injEq] <;> rfl) trivial ?_
        refine AW.ret ⟨.inr rfl, _, _, Weak.refl _, by simp <;> rfl, ?_⟩
        simp [recvS, h1]
        exact .refl _
  rintro s ⟨hc, rfl⟩
  refine AW.seq ?_
  refine AW.st teOk [.fz (.c (cB (leI v pv)))] (by simp [-Option.some.injEq] <;> rfl) ?_ ?_
  · exact rle_pure v pv (by omega) (by omega)
  cases hle : leI v pv with
  | false =>
    have hre : recvS ⟨n, pv, pr, acks, dec⟩ a r v = (nextS ⟨n, pv, pr, acks, dec⟩ v, true) := by
      unfold recvS
      rw [if_neg hc, if_neg (by simp [hle])]
    have hdf : dec = false := by
      cases dec with
      | false => rfl
      | true => exact absurd (.inl rfl) hc
    subst hdf
    rw [hre]
    refine AW.iff true (by simp [hle]) (fun _ => ?_) (fun h => by cases h)
    refine AW.st teOk [.fz (.c (encV (mergeI true pv v)))] (by simp [-Option.some.injEq] <;> rfl) ?_ ?_
    · exact hj
    refine AW.st teOk [] (by simp [hr1, -Option.some.injEq] <;> rfl) trivial ?_
    refine AW.st teOk [] (by simp [-Option.some.injEq] <;> rfl) trivial ?_
    refine AW.st teOk [] (by simp [-Option.some.injEq] <;> rfl) trivial ?_
    refine AW.ret ⟨.inr rfl, _, _, Weak.refl _, by simp <;> rfl, ?_⟩
    exact .tups (.cons (.aggs (.cons (.refl _) (.cons (.refl _) (.cons (.refl _) (.cons (nil_cell 1) (.cons (.refl _) .nil)))))) (.cons (.refl _) .nil))
  | true =>
    have hre : recvS ⟨n, pv, pr, acks, dec⟩ a r v = (⟨n, pv, pr, insN acks a, decide (2 * ((insN acks a).length : Int) > n)⟩, false) := by
      unfold recvS
      rw [if_neg hc, if_pos hle]
    rw [hre]
    refine AW.iff false (by simp [hle]) (fun h => by cases h) (fun _ => AW.skip ?_)
    have hil := insN_len acks a
    have pi := rins_pure acks a hasc (by omega)
    have hw := two_len (insN acks a).length (by omega)
    generalize insN acks a = acks' at *
    refine AW.st teOk [.fz (.c (encIs acks'))] (by simp [-Option.some.injEq] <;> rfl) ?_ ?_
    · exact pi
    refine AW.st teOk [] (by simp [hw, -Option.some.injEq] <;> rfl) trivial ?_
    refine AW.st teOk [] (by simp [-Option.some.injEq] <;> rfl) trivial ?_
    refine AW.ret ⟨.inr rfl, _, _, Weak.refl _, by simp <;> rfl, ?_⟩
    exact .refl _
end Go.Proofs.YtphlhadgcfndhaaGreatDoor.Abs
end
section
namespace Go.Proofs.YtphlhadgcfndhaaGreatDoor.Abs
open Go Go.RowKit
set_option linter.unusedVariables false
set_option linter.unusedSimpArgs false
set_option maxHeartbeats 4000000
/-- Few authors, small counts. -/
structure V4 (v : V2) : Prop where
  val : Val v
  c : ∀ a, cnt v a ≤ 3
  a : ∀ a, 4 < a → cnt v a ≤ 0
theorem srt_len : ∀ {l : V2} {lo hi : Int}, Srt l → (∀ e ∈ l, lo < e.1 ∧ e.1 ≤ hi) → lo ≤ hi → (l.length : Int) ≤ hi - lo
  | [], lo, hi, _, _, h => by simp; omega
  | e :: l, lo, hi, hs, hb, h => by
    obtain ⟨h1, h2⟩ := List.pairwise_cons.1 hs
    have he := hb e (by simp)
    have := srt_len (lo := e.1) (hi := hi) h2 (fun x hx => ⟨h1 x hx, (hb x (by simp [hx])).2⟩) he.2
    rw [List.length_cons]
    omega
theorem V4.le {v : V2} (h : V4 v) : v.length ≤ 4 := by
  have := srt_len (l := v) (lo := 0) (hi := 4) h.val.2 (fun e he => by
    have hg := h.val.1 e he
    have hc := cnt_mem h.val.2 he
    have ha := h.a e.1
    refine ⟨by have := hg.1; omega, ?_⟩
    by_cases h4 : e.1 ≤ 4
    · exact h4
    · have := ha (by omega)
      have := hg.2.1
      omega) (by omega)
  omega
theorem V4.nil : V4 [] := ⟨val_nil, fun a => by simp [cnt], fun a _ => by simp [cnt]⟩
theorem V4.merge {u v : V2} (hu : V4 u) (hv : V4 v) : V4 (mergeI true u v) := by
  have m := mrg_is true hu.val hv.val
  refine ⟨m.val, fun a => ?_, fun a ha => ?_⟩
  · rw [m.cnt, bndT]
    have := hu.c a
    have := hv.c a
    split <;> omega
  · rw [m.cnt, bndT]
    have := hu.a a ha
    have := hv.a a ha
    split <;> omega
/-- What a proposer keeps. -/
structure PrW (p : PrS) (m : Int) (N : Nat) : Prop where
  n : p.n = m
  v : V4 p.v
  r0 : 0 ≤ p.r
  rN : p.r ≤ N
  asc : AscN p.acks
  al : p.acks.length ≤ N
theorem PrW.ok {p : PrS} {m : Int} {N : Nat} (h : PrW p m N) (hN : N < 1000000000) : PrOk p := ⟨h.v.val, by have := h.v.le; omega, h.asc, by have := h.al; omega, by have := h.rN; have := h.r0; omega⟩
theorem nextS_W {p : PrS} {m : Int} {N : Nat} (h : PrW p m N) {v : V2} (hv : V4 v) : PrW (nextS p v) m (N + 1) := ⟨h.n, h.v.merge hv, by have := h.r0; show 0 ≤ p.r + 1; omega, by have := h.rN; show p.r + 1 ≤ ((N + 1 : Nat) : Int); omega, List.Pairwise.nil, by show 0 ≤ _; omega⟩
theorem PrW.up {p : PrS} {m : Int} {N : Nat} (h : PrW p m N) : PrW p m (N + 1) := ⟨h.n, h.v, h.r0, by have := h.rN; omega, h.asc, by have := h.al; omega⟩
theorem propS_W {p : PrS} {m : Int} {N : Nat} (h : PrW p m N) {v : V2} (hv : V4 v) : PrW (propS p v) m (N + 1) := by
  unfold propS
  split
  · exact nextS_W h hv
  · exact h.up
theorem recvS_W {p : PrS} {m : Int} {N : Nat} (h : PrW p m N) (a r : Int) {v : V2} (hv : V4 v) : PrW (recvS p a r v).1 m (N + 1) := by
  unfold recvS
  split
  · exact h.up
  · split
    · exact ⟨h.n, h.v, h.r0, by have := h.rN; show p.r ≤ _; omega, insN_asc h.asc a, by have := h.al; have := insN_len p.acks a; show (insN p.acks a).length ≤ _; omega⟩
    · exact nextS_W h hv
/-- What holds of a group whose numbers are at most N. -/
structure GrW (g : GrS) (n N : Nat) : Prop where
  nn : GrN g n
  n4 : n ≤ 4
  al : 0 < g.accs.length ∧ g.accs.length ≤ 12
  a : ∀ v ∈ g.accs, V4 v
  p : ∀ p ∈ g.props, PrW p g.accs.length N
  i : ∀ l ∈ g.ins, l.length ≤ 3 ∧ ∀ v ∈ l, V4 v
  x : ∀ (i : Nat) (x : Int), g.nxt[i]? = some x → 0 ≤ x ∧ x ≤ 3
  k : ∀ k ∈ g.pks, V4 k.v ∧ (0 ≤ k.acc ∧ k.acc < g.accs.length) ∧ ∃ (i : Nat) (l : List V2), k.prop = i ∧ g.ins[i]? = some l ∧ 0 < l.length
  d : ∀ d ∈ g.decs, V4 d.v
  kl : g.pks.length ≤ N
  dl : g.decs.length ≤ N
  s : 0 ≤ g.steps ∧ g.steps ≤ N
theorem GrW.b {g : GrS} {n N : Nat} (h : GrW g n N) (hN : N < 100000000) : GrB g where
  al := by have := h.al; omega
  pl := by have := h.nn.p; have := h.n4; omega
  il := by have := h.nn.i; have := h.n4; omega
  nl := by have := h.nn.x; have := h.n4; omega
  kl := by have := h.kl; omega
  dl := by have := h.dl; omega
  a := fun v hv => by have := (h.a v hv).le; omega
  p := fun p hp => by have := (h.p p hp).v.le; have := (h.p p hp).al; omega
  i := fun l hl => ⟨by have := (h.i l hl).1; omega, fun v hv => by have := ((h.i l hl).2 v hv).le; omega⟩
  k := fun k hk => by have := (h.k k hk).1.le; omega
  d := fun d hd => by have := (h.d d hd).le; omega
theorem GrW.ok {g : GrS} {n N : Nat} (h : GrW g n N) (hN : N < 100000000) {p : PrS} (hp : p ∈ g.props) : PrOk p := (h.p p hp).ok (by omega)
/-- The packet taken out. -/
def takeS (g : GrS) (i : Nat) : GrS := { g with pks := delL g.pks i, steps := g.steps + 1 }
/-- A proposal arrives. -/
def askS (g : GrS) (k : PkS) (a : V2) : GrS := { g with accs := g.accs.set k.acc.toNat (mergeI true a k.v), pks := g.pks ++ [⟨true, k.prop, k.acc, k.round, mergeI true a k.v⟩] }
/-- A reply arrives. -/
def repS (g : GrS) (k : PkS) (p : PrS) (l : List V2) (x : Int) : GrS :=
  let i := k.prop.toNat
  let p' := (recvS p k.acc k.round k.v).1
  let g1 : GrS := { g with props := g.props.set i p' }
  if (recvS p k.acc k.round k.v).2 = true then sendS g1 i p'
  else if p'.dec = true ∧ p.dec = false then
    match l[x.toNat + 1]? with
    | some v => sendS (nextG (decS g1 i x p') i x p' v) i (propS p' v)
    | none => decS g1 i x p'
  else g1
def delivS (g : GrS) (i : Nat) : GrS := match g.pks[i]? with
  | none => g
  | some k => if k.reply = false then
      (match (takeS g i).accs[k.acc.toNat]? with
      | some a => askS (takeS g i) k a
      | none => takeS g i)
    else match g.props[k.prop.toNat]?, g.ins[k.prop.toNat]?, g.nxt[k.prop.toNat]? with
      | some p, some l, some x => repS (takeS g i) k p l x
      | _, _, _ => takeS g i
theorem deliv_no (g : GrS) {n N : Nat} (h : GrW g n N) (hN : N < 100000000) (i : Int) (hi : i < 0 ∨ i ≥ g.pks.length) : New Tryz.prog 37 [.agg (encGr g), .c (cI i)] (.agg (refG 0 g)) (sigG 0 g) 6 := by
  have hc := gclone_new g (h.b hN)
  obtain ⟨accs, props, ins, nxt, pks, decs, steps⟩ := g
  dsimp only at *
  refine new_drop teOk Tryz.func37 (by kernel_rfl) (c := _) rfl (N := 101) rfl (rs := [Go.ResultVar.cell 4 34]) rfl (by simp) fun base A w0 hA => ?_
  refine AW.st teOk [] (by simp [-Option.some.injEq] <;> rfl) trivial ?_
  refine AW.seq ?_
  refine AW.mid (fun s => s = ⟨[(2, .c (.ptr 0 0 0)), (4, .c (.ptr 1 0 0)), (16, .c (cB true))], [(0, ⟨7, [encGr ⟨accs, props, ins, nxt, pks, decs, steps⟩]⟩), (1, ⟨7, [nilG]⟩)], 2⟩) ?_ ?_
  · by_cases hi0 : i < 0
    · refine AW.text teOk (ans := []) (by simp [hi0, -Option.some.injEq] <;> rfl) ?_ ?_
      · trivial
      exact ⟨_, Weak.normS hA [2, 4, 16] [(2, 0), (4, 1)] [] [] 2 _ (by simp) (by simp) (by simp), by simp⟩
    · have hi1 : i ≥ pks.length := by omega
      refine AW.text teOk (ans := []) (by simp [hi0, hi1, -Option.some.injEq] <;> rfl) ?_ ?_
      · trivial
      exact ⟨_, Weak.normS hA [2, 4, 16] [(2, 0), (4, 1)] [] [] 2 _ (by simp) (by simp) (by simp), by simp⟩
  rintro s rfl
  refine AW.iff true (by simp) (fun _ => ?_) (fun h => by cases h)
  refine AW.st teOk [.new (.agg (refG 0 ⟨accs, props, ins, nxt, pks, decs, steps⟩)) (sigG 0 ⟨accs, props, ins, nxt, pks, decs, steps⟩) 6] (by simp [-Option.some.injEq] <;> rfl) ?_ ?_
  · exact hc
  refine AW.ret ⟨.inr rfl, _, _, Weak.refl _, by simp <;> rfl, ?_⟩
  exact Weak.be (Weak.normS hA [0] [] [(3, 0), (4, 1), (5, 2), (6, 3), (7, 4), (8, 5)] [] 6 _ (by simp) (by simp) (by simp)) (by simp)
theorem deliv_new (g : GrS) {n N : Nat} (h : GrW g n N) (hN : N < 100000000) (i : Nat) (hi : i < g.pks.length) : New Tryz.prog 37 [.agg (encGr g), .c (cI i)] (.agg (refG 0 (delivS g i))) (sigG 0 (delivS g i)) 6 := by
  have hc := gclone_new g (h.b hN)
  obtain ⟨k, hk⟩ : ∃ k, g.pks[i]? = some k := ⟨_, List.getElem?_eq_getElem hi⟩
  obtain ⟨hkv, hka, q, l, hkp, hl, hl0⟩ := h.k k (List.mem_of_getElem? hk)
  have hq : q < n := by have := (List.getElem?_eq_some_iff.1 hl).1; have := h.nn.i; omega
  obtain ⟨p, hp⟩ : ∃ p, g.props[q]? = some p := ⟨_, List.getElem?_eq_getElem (by have := h.nn.p; omega)⟩
  obtain ⟨x, hx⟩ : ∃ x, g.nxt[q]? = some x := ⟨_, List.getElem?_eq_getElem (by have := h.nn.x; omega)⟩
  have hx0 := h.x q x hx
  obtain ⟨a, ha⟩ : ∃ a, g.accs[k.acc.toNat]? = some a := ⟨_, List.getElem?_eq_getElem (by omega)⟩
  have hG : delivS g i = if k.reply = false then askS (takeS g i) k a else repS (takeS g i) k p l x := by
    unfold delivS
    rw [hk]
    simp only
    have e1 : (takeS g i).accs[k.acc.toNat]? = some a := ha
    have e2 : k.prop.toNat = q := by omega
    rw [e1, e2, hp, hl, hx]
  have hdl := delL_len g.pks i hi
  have hdc := del_con (g.pks.map encPk) (flat_encPk _) i (by simpa using hi) (by have := h.kl; simp; omega)
  rw [delL_map, List.length_map, ← hdl] at hdc
  have hst := h.s
  have hkl := h.kl
  rw [hG]
  clear hG
  have hT : GrN (takeS g i) n := ⟨h.nn.p, h.nn.i, h.nn.x, h.nn.b⟩
  obtain ⟨accs, props, ins, nxt, pks, decs, steps⟩ := g
  dsimp only at *
  have hinc : IntKind.i64.wrap (steps + 1) = steps + 1 := by rw [IntKind.wrap_i64]; omega
  have hic : IntKind.i64.wrap ((i : Int) + 1) = (i : Int) + 1 := wrap_s _ (by omega)
  have hi0 : ¬ ((i : Int) < 0) := by omega
  have hi1 : ¬ ((i : Int) ≥ pks.length) := by omega
  refine new_drop teOk Tryz.func37 (by kernel_rfl) (c := _) rfl (N := 101) rfl (rs := [Go.ResultVar.cell 4 34]) rfl (by simp) fun base A w0 hA => ?_
  refine AW.st teOk [] (by simp [-Option.some.injEq] <;> rfl) trivial ?_
  refine AW.seq ?_
  refine AW.st teOk [] (by simp [hi0, hi1, -Option.some.injEq] <;> rfl) trivial ?_
  refine AW.iff false (by simp) (fun h => by cases h) (fun _ => AW.skip ?_)
  refine AW.st teOk [.new (.agg (refG 0 ⟨accs, props, ins, nxt, pks, decs, steps⟩)) (sigG 0 ⟨accs, props, ins, nxt, pks, decs, steps⟩) 6] (by simp [-Option.some.injEq] <;> rfl) ?_ ?_
  · exact hc
  refine AW.st teOk [] (by simp [hk, -Option.some.injEq] <;> rfl) ?_ ?_
  · simpa using hi
  refine AW.to (s2 := ⟨[(1, .c (cI i)), (2, .c (.ptr 0 0 0)), (4, .c (.ptr 1 0 0)), (5, .c (.ptr 2 0 0))], [(0, ⟨7, [[.ref 3 0 accs.length, .ref 4 0 props.length, .ref 5 0 ins.length, .ref 6 0 nxt.length, .ref 1000001 0 pks.length, .ref 8 0 decs.length, cI steps]]⟩), (1, ⟨7, [nilG]⟩), (2, ⟨5, [encPk k]⟩), (3, ⟨1, accs.map encC⟩), (4, ⟨5, props.map encPr'⟩), (5, ⟨1, ins.map encIn⟩), (6, ⟨1, nxt.map encn⟩), (8, ⟨4, decs.map encDe⟩), (1000001, ⟨5, pks.map encPk⟩)], 1000015⟩) (Weak.normS hA [1, 2, 4, 5] [(2, 0), (4, 1), (5, 2)] [(12, 3), (13, 4), (14, 5), (15, 6), (17, 8), (16, 1000001)] [0] 1000015 _ (by simp) (by simp) (by simp)) (by simp) ?_
  have htake : delL pks i = (takeS ⟨accs, props, ins, nxt, pks, decs, steps⟩ i).pks := rfl
  obtain ⟨ks, hks⟩ : ∃ ks, ks = delL pks i := ⟨_, rfl⟩
  rw [← hks] at hdc hdl
  have hG1 : takeS ⟨accs, props, ins, nxt, pks, decs, steps⟩ i = ⟨accs, props, ins, nxt, ks, decs, steps + 1⟩ := by unfold takeS; rw [hks]
  rw [hG1] at hT ⊢
  refine AW.st teOk [.own (.c (.ref 1000001 0 ks.length)) [(1000001, ⟨5, ks.map encPk ++ [zeroK]⟩)] 1000040] (by simp [hic, -Option.some.injEq] <;> rfl) ?_ ?_
  · exact hdc
  have htk : (ks.map encPk ++ [zeroK]).take ks.length = ks.map encPk := by
    rw [List.take_append_of_le_length (by simp), List.take_of_length_le (by simp)]
  refine AW.st teOk [] (by simp [hinc, -Option.some.injEq] <;> rfl) trivial ?_
  refine AW.to (s2 := ⟨[(2, .c (.ptr 1000000 0 0)), (4, .c (.ptr 1 0 0)), (5, .c (.ptr 2 0 0))], [(1, ⟨7, [nilG]⟩), (2, ⟨5, [encPk k]⟩)] ++ conG ⟨accs, props, ins, nxt, ks, decs, steps + 1⟩, 1000016⟩) ((Weak.shrink 1000001 ks.length _ (by simp <;> rfl)).trans (Weak.normS hA [2, 4, 5] [(2, 1000000), (4, 1), (5, 2)] [(1000001, 1000001), (3, 1000002), (4, 1000003), (5, 1000004), (6, 1000005), (8, 1000006)] [0] 1000016 _ (by simp [putA]) (by simp [putA]) (by simp [putA, htk]))) (by simp [putA, htk]) ?_
  have hksl : ks.length < 100000000 := by omega
  clear hks htake hG1 hdc htk hc hi hi0 hi1 hic hinc hdl
  refine AW.seq ?_
  obtain ⟨kb, kp, ka, kr, kv⟩ := k
  dsimp only at *
  subst hkp
  have hav := (h.a a (List.mem_of_getElem? ha))
  have hm := merge_nil hav.val
  cases kb with
  | false =>
    obtain ⟨j, rfl⟩ : ∃ j : Nat, ka = j := ⟨ka.toNat, by omega⟩
    simp only [Int.toNat_natCast] at ha
    have hja : (j : Int) < accs.length := hka.2
    have hjl := (List.getElem?_eq_some_iff.1 ha).1
    have hpa := accept1_pure a kv hkv.val.2 (by have := hkv.le; have := hav.le; omega)
    rw [self, hm] at hpa
    have hmv := (mrg_is true hav.val hkv.val).val
    have hml := mergeI_length true a kv
    have hmj := joinN_pure hmv (by have := hkv.le; have := hav.le; omega)
    rw [if_pos rfl, askS]
    simp only [Int.toNat_natCast]
    generalize mergeI true a kv = m at *
    refine AW.st teOk [] (by simp [-Option.some.injEq] <;> rfl) trivial ?_
    refine AW.iff true (by simp) (fun _ => ?_) (fun h => by cases h)
    refine AW.seq ?_
    refine AW.st teOk [] (by simp [hja, -Option.some.injEq] <;> rfl) trivial ?_
    refine AW.iff true (by simp) (fun _ => ?_) (fun h => by cases h)
    refine AW.dr mixed teOk [.tup [.agg [encV m], .c (cB (leI a kv))]] (by simp [ha, -Option.some.injEq] <;> rfl) (by kernel_rfl) (by kernel_rfl) ?_ ?_
    · simp [allP]
      exact ⟨hjl, hpa⟩
    refine AW.st teOk [] (by simp [ha, -Option.some.injEq] <;> rfl) ?_ ?_
    · exact hjl
    have hset : (accs.map encC).set j [encV m] = (accs.set j m).map encC := set_enc encC accs j m
    have hfl : flatO ⟨1, (accs.map encC).set j [encV m]⟩ = true := by rw [hset]; exact flat_encC _
    refine AW.draw mixed teOk (ans := [.c (encV m)]) (by simp [-Option.some.injEq] <;> rfl) (by kernel_rfl) (by kernel_rfl) ?_ ?_
    · simp [allP, growOk]
      exact ⟨hmj, by omega, by omega⟩
    refine AW.st teOk [] (by simp [-Option.some.injEq] <;> rfl) trivial ?_
    refine AW.ret ⟨.inr rfl, _, _, Weak.refl _, by simp <;> rfl, ?_⟩
    exact Weak.be (Weak.normS hA [0] [] [(1000002, 0), (1000003, 1), (1000004, 2), (1000005, 3), (1000063, 4), (1000006, 5)] [] 6 _ (by simp) (by simp) (by simp [hfl])) (by simp)
  | true =>
    rw [if_neg (by simp)]
    have okp := h.ok hN (List.mem_of_getElem? hp)
    have hpw := recvS_W (h.p p (List.mem_of_getElem? hp)) ka kr hkv
    obtain ⟨hll, hlv⟩ := h.i l (List.mem_of_getElem? hl)
    have hrc := recv_con ⟨accs, props, ins, nxt, ks, decs, steps + 1⟩ hT ⟨true, q, ka, kr, kv⟩ q rfl p hp l hl hl0 okp (by have := hkv.le; dsimp only; omega)
    unfold repS
    simp only [Int.toNat_natCast] at *
    obtain ⟨⟨p', again⟩, hr⟩ : ∃ r, r = recvS p ka kr kv := ⟨_, rfl⟩
    rw [← hr] at hrc hpw ⊢
    dsimp only at hrc hpw ⊢
    refine AW.st teOk [] (by simp [-Option.some.injEq] <;> rfl) trivial ?_
    refine AW.iff false (by simp) (fun h => by cases h) (fun _ => AW.skip ?_)
    obtain ⟨g1, hg1⟩ : ∃ g1 : GrS, g1 = ⟨accs, props.set q p', ins, nxt, ks, decs, steps + 1⟩ := ⟨_, rfl⟩
    obtain ⟨G, hG⟩ : ∃ G : GrS, G = (if again = true then sendS g1 q p' else if p'.dec = true ∧ p.dec = false then (match l[x.toNat + 1]? with | some v => sendS (nextG (decS g1 q x p') q x p' v) q (propS p' v) | none => decS g1 q x p') else g1) := ⟨_, rfl⟩
    rw [← hg1] at hrc ⊢
    rw [← hG]
    refine AW.mid (fun s => s = ⟨[(2, .c (.ptr 1000000 0 0)), (4, .c (.ptr 1 0 0))], [(1, ⟨7, [nilG]⟩)] ++ conG G, 1000016⟩) ?_ ?_
    · refine AW.st teOk [.own (.c (cI (phaseS p p' again))) (conG g1) 1000100] (by simp [-Option.some.injEq] <;> rfl) ?_ ?_
      · exact hrc
      refine AW.block ?_
      have hpg1 : g1.props[q]? = some p' := by rw [hg1]; exact List.getElem?_set_self (List.getElem?_eq_some_iff.1 hp).1
      have hn' : 0 < p'.n ∧ p'.n ≤ 12 := by rw [hpw.n]; have := h.al; dsimp only at this ⊢; omega
      have hv' : p'.v.length < 1000000000 := by have := hpw.v.le; omega
      have hk1 : g1.pks.length < 1000000000 := by rw [hg1]; show ks.length < _; omega
      cases again with
      | true =>
        rw [if_pos rfl] at hG
        have hsc := send_con g1 q p' hpg1 hn' hv' hk1
        rw [← hG] at hsc
        refine AW.st teOk [] (by simp [-Option.some.injEq] <;> rfl) trivial ?_
        refine AW.iff true (by simp [phaseS]) (fun _ => ?_) (fun h => by cases h)
        refine AW.to (s2 := ⟨[(2, .c (.ptr 1000000 0 0)), (4, .c (.ptr 1 0 0)), (5, .c (.ptr 2 0 0))], [(1, ⟨7, [nilG]⟩), (2, ⟨5, [encPk ⟨true, q, ka, kr, kv⟩]⟩)] ++ conG g1, 1000018⟩) (Weak.normS hA [2, 4, 5] [(2, 1000000), (4, 1), (5, 2)] [(1000001, 1000001), (1000002, 1000002), (1000003, 1000003), (1000004, 1000004), (1000005, 1000005), (1000006, 1000006)] [1000000] 1000018 _ (by simp) (by simp) (by simp)) (by simp) ?_
        refine AW.text teOk (ans := [.own (.tup []) (conK G) 1000022]) (by simp [-Option.some.injEq] <;> rfl) ?_ ?_
        · exact hsc
        exact ⟨_, Weak.normS hA [2, 4] [(2, 1000000), (4, 1)] [(1000020, 1000001), (1000002, 1000002), (1000003, 1000003), (1000004, 1000004), (1000005, 1000005), (1000006, 1000006)] [1000000] 1000016 _ (by simp) (by simp) (by simp), by simp⟩
      | false =>
        rw [if_neg (by simp)] at hG
        refine AW.st teOk [] (by simp [-Option.some.injEq] <;> rfl) trivial ?_
        refine AW.iff false (by simp [phaseS]; split <;> simp) (fun h => by cases h) (fun _ => ?_)
        by_cases hdc : p'.dec = true ∧ p.dec = false
        · rw [if_pos hdc] at hG
          obtain ⟨y, rfl⟩ : ∃ y : Nat, x = y := ⟨x.toNat, by omega⟩
          simp only [Int.toNat_natCast] at hG
          have hdcn := decide_con g1 q p' hpg1 l (by rw [hg1]; exact hl) y (by rw [hg1]; exact hx) (by omega) (by omega) (hpw.ok (by omega)) (by rw [hg1]; have := h.dl; dsimp only at this ⊢; omega) (fun v hv => by have := (hlv v hv).le; omega)
          refine AW.st teOk [] (by simp [-Option.some.injEq] <;> rfl) trivial ?_
          refine AW.iff true (by simp [phaseS, hdc]) (fun _ => ?_) (fun h => by cases h)
          refine AW.to (s2 := ⟨[(2, .c (.ptr 1000000 0 0)), (4, .c (.ptr 1 0 0)), (5, .c (.ptr 2 0 0))], [(1, ⟨7, [nilG]⟩), (2, ⟨5, [encPk ⟨true, q, ka, kr, kv⟩]⟩)] ++ conG g1, 1000018⟩) (Weak.normS hA [2, 4, 5] [(2, 1000000), (4, 1), (5, 2)] [(1000001, 1000001), (1000002, 1000002), (1000003, 1000003), (1000004, 1000004), (1000005, 1000005), (1000006, 1000006)] [1000000] 1000018 _ (by simp) (by simp) (by simp)) (by simp) ?_
          by_cases hlast : y + 1 < l.length
          · obtain ⟨v, hv⟩ : ∃ v, l[y + 1]? = some v := ⟨_, List.getElem?_eq_getElem hlast⟩
            rw [hv] at hdcn hG
            dsimp only at hdcn hG
            obtain ⟨G1, hG1⟩ : ∃ G1, G1 = nextG (decS g1 q y p') q y p' v := ⟨_, rfl⟩
            rw [← hG1] at hdcn hG
            have hv4 := hlv v (List.mem_of_getElem? hv)
            have hpw2 := propS_W hpw hv4
            have hpg2 : G1.props[q]? = some (propS p' v) := by rw [hG1]; exact List.getElem?_set_self (List.getElem?_eq_some_iff.1 hpg1).1
            have hsc := send_con G1 q (propS p' v) hpg2 (by rw [hpw2.n]; have := h.al; dsimp only at this ⊢; omega) (by have := hpw2.v.le; omega) (by rw [hG1]; exact hk1)
            rw [← hG] at hsc
            refine AW.st teOk [.own (.c (cB (decide (y + 1 < l.length)))) (conD G1) 1000200] (by simp [-Option.some.injEq] <;> rfl) ?_ ?_
            · exact hdcn
            refine AW.iff true (by simp [hlast]) (fun _ => ?_) (fun h => by cases h)
            refine AW.to (s2 := ⟨[(2, .c (.ptr 1000000 0 0)), (4, .c (.ptr 1 0 0)), (5, .c (.ptr 2 0 0))], [(1, ⟨7, [nilG]⟩), (2, ⟨5, [encPk ⟨true, q, ka, kr, kv⟩]⟩)] ++ conG G1, 1000018⟩) (Weak.normS hA [2, 4, 5] [(2, 1000000), (4, 1), (5, 2)] [(1000001, 1000001), (1000002, 1000002), (1000003, 1000003), (1000004, 1000004), (1000005, 1000005), (1000020, 1000006)] [1000000] 1000018 _ (by simp) (by simp) (by simp)) (by simp) ?_
            refine AW.text teOk (ans := [.own (.tup []) (conK G) 1000022]) (by simp [-Option.some.injEq] <;> rfl) ?_ ?_
            · exact hsc
            exact ⟨_, Weak.normS hA [2, 4] [(2, 1000000), (4, 1)] [(1000020, 1000001), (1000002, 1000002), (1000003, 1000003), (1000004, 1000004), (1000005, 1000005), (1000006, 1000006)] [1000000] 1000016 _ (by simp) (by simp) (by simp), by simp⟩
          · have hv : l[y + 1]? = none := List.getElem?_eq_none (by omega)
            rw [hv] at hdcn hG
            dsimp only at hdcn hG
            rw [← hG] at hdcn
            refine AW.st teOk [.own (.c (cB (decide (y + 1 < l.length)))) (conD G) 1000200] (by simp [-Option.some.injEq] <;> rfl) ?_ ?_
            · exact hdcn
            refine AW.iff false (by simp [hlast]) (fun h => by cases h) (fun _ => AW.skip ?_)
            exact ⟨_, Weak.normS hA [2, 4] [(2, 1000000), (4, 1)] [(1000001, 1000001), (1000002, 1000002), (1000003, 1000003), (1000004, 1000004), (1000005, 1000005), (1000020, 1000006)] [1000000] 1000016 _ (by simp) (by simp) (by simp), by simp⟩
        · rw [if_neg hdc] at hG
          refine AW.st teOk [] (by simp [-Option.some.injEq] <;> rfl) trivial ?_
          refine AW.iff false (by simp [phaseS, hdc]) (fun h => by cases h) (fun _ => AW.skip ?_)
          rw [hG]
          exact ⟨_, Weak.normS hA [2, 4] [(2, 1000000), (4, 1)] [(1000001, 1000001), (1000002, 1000002), (1000003, 1000003), (1000004, 1000004), (1000005, 1000005), (1000006, 1000006)] [1000000] 1000016 _ (by simp) (by simp) (by simp), by simp⟩
    rintro s rfl
    refine AW.st teOk [] (by simp [-Option.some.injEq] <;> rfl) trivial ?_
    refine AW.ret ⟨.inr rfl, _, _, Weak.refl _, by simp <;> rfl, ?_⟩
    exact Weak.be (Weak.normS hA [0] [] [(1000002, 0), (1000003, 1), (1000004, 2), (1000005, 3), (1000001, 4), (1000006, 5)] [] 6 _ (by simp) (by simp) (by simp)) (by simp)
end Go.Proofs.YtphlhadgcfndhaaGreatDoor.Abs
end
section
namespace Go.Proofs.YtphlhadgcfndhaaGreatDoor.Abs
open Go Go.RowKit
set_option linter.unusedVariables false
set_option linter.unusedSimpArgs false
set_option maxHeartbeats 4000000
theorem mem_delL {α : Type} {l : List α} {i : Nat} {x : α} (h : x ∈ delL l i) : x ∈ l := by
  unfold delL at h
  rcases List.mem_append.1 h with h | h
  · exact List.mem_of_mem_take h
  · exact List.mem_of_mem_drop h
theorem delL_mem {α : Type} {l : List α} {i : Nat} {k x : α} (hk : l[i]? = some k) (h : x ∈ l) : x = k ∨ x ∈ delL l i := by
  obtain ⟨j, hj⟩ := List.mem_iff_getElem?.1 h
  rcases Nat.lt_trichotomy j i with hl | hl | hl
  · refine .inr (List.mem_append_left _ (List.mem_iff_getElem?.2 ⟨j, ?_⟩))
    rw [List.getElem?_take_of_lt hl, hj]
  · subst hl
    rw [hk] at hj
    exact .inl (Option.some.inj hj).symm
  · refine .inr (List.mem_append_right _ (List.mem_iff_getElem?.2 ⟨j - (i + 1), ?_⟩))
    rw [List.getElem?_drop, ← hj]
    congr 1
    omega
theorem mem_propsTo {q : Nat} {p : PrS} {n : Nat} {k : PkS} : k ∈ propsTo q p n ↔ ∃ a : Nat, a < n ∧ k = ⟨false, q, a, p.r, p.v⟩ := by
  unfold propsTo
  rw [List.mem_map]
  constructor
  · rintro ⟨a, ha, rfl⟩
    exact ⟨a, List.mem_range.1 ha, rfl⟩
  · rintro ⟨a, ha, rfl⟩
    exact ⟨a, List.mem_range.2 ha, rfl⟩
theorem get_set {α : Type} {l : List α} {i j : Nat} {x y : α} (h : (l.set i x)[j]? = some y) : (j = i ∧ y = x) ∨ (j ≠ i ∧ l[j]? = some y) := by
  rw [List.getElem?_set] at h
  split at h
  · rename_i e
    split at h
    · exact .inl ⟨e.symm, (Option.some.inj h).symm⟩
    · cases h
  · exact .inr ⟨fun e => by rename_i hn; exact hn e.symm, h⟩
/-- One more acceptor has accepted. -/
def ackS (p : PrS) (a : Int) : PrS := ⟨p.n, p.v, p.r, insN p.acks a, decide (2 * ((insN p.acks a).length : Int) > p.n)⟩
/-- What a delivered packet leads to. -/
inductive DCase (g : GrS) (i : Nat) (k : PkS) : GrS → Prop
  | ask (a : V2) (hr : k.reply = false) (ha : g.accs[k.acc.toNat]? = some a) :
    DCase g i k ⟨g.accs.set k.acc.toNat (mergeI true a k.v), g.props, g.ins, g.nxt, delL g.pks i ++ [⟨true, k.prop, k.acc, k.round, mergeI true a k.v⟩], g.decs, g.steps + 1⟩
  | idle (p : PrS) (hr : k.reply = true) (hp : g.props[k.prop.toNat]? = some p) (h : p.dec = true ∨ k.round ≠ p.r) :
    DCase g i k ⟨g.accs, g.props, g.ins, g.nxt, delL g.pks i, g.decs, g.steps + 1⟩
  | again (p : PrS) (hr : k.reply = true) (hp : g.props[k.prop.toNat]? = some p) (hd : p.dec = false) (hk : k.round = p.r) (hle : leI k.v p.v = false) :
    DCase g i k ⟨g.accs, g.props.set k.prop.toNat (nextS p k.v), g.ins, g.nxt, delL g.pks i ++ propsTo k.prop.toNat (nextS p k.v) p.n.toNat, g.decs, g.steps + 1⟩
  | ack (p : PrS) (hr : k.reply = true) (hp : g.props[k.prop.toNat]? = some p) (hd : p.dec = false) (hk : k.round = p.r) (hle : leI k.v p.v = true) (hn : ¬ (2 * ((insN p.acks k.acc).length : Int) > p.n)) :
    DCase g i k ⟨g.accs, g.props.set k.prop.toNat (ackS p k.acc), g.ins, g.nxt, delL g.pks i, g.decs, g.steps + 1⟩
  | last (p : PrS) (l : List V2) (x : Int) (hr : k.reply = true) (hp : g.props[k.prop.toNat]? = some p) (hd : p.dec = false) (hk : k.round = p.r) (hle : leI k.v p.v = true) (hn : 2 * ((insN p.acks k.acc).length : Int) > p.n)
      (hl : g.ins[k.prop.toNat]? = some l) (hx : g.nxt[k.prop.toNat]? = some x) (hv : l[x.toNat + 1]? = none) :
    DCase g i k ⟨g.accs, g.props.set k.prop.toNat (ackS p k.acc), g.ins, g.nxt, delL g.pks i, g.decs ++ [⟨k.prop.toNat, x, p.v, g.steps + 1⟩], g.steps + 1⟩
  | next (p : PrS) (l : List V2) (x : Int) (v : V2) (hr : k.reply = true) (hp : g.props[k.prop.toNat]? = some p) (hd : p.dec = false) (hk : k.round = p.r) (hle : leI k.v p.v = true) (hn : 2 * ((insN p.acks k.acc).length : Int) > p.n)
      (hl : g.ins[k.prop.toNat]? = some l) (hx : g.nxt[k.prop.toNat]? = some x) (hv : l[x.toNat + 1]? = some v) :
    DCase g i k ⟨g.accs, g.props.set k.prop.toNat (nextS p v), g.ins, g.nxt.set k.prop.toNat (x + 1), delL g.pks i ++ propsTo k.prop.toNat (nextS p v) p.n.toNat, g.decs ++ [⟨k.prop.toNat, x, p.v, g.steps + 1⟩], g.steps + 1⟩
theorem deliv_case {g : GrS} {n N : Nat} (h : GrW g n N) {i : Nat} {k : PkS} (hk : g.pks[i]? = some k) : DCase g i k (delivS g i) := by
  obtain ⟨hkv, hka, q, l, hkp, hl, hl0⟩ := h.k k (List.mem_of_getElem? hk)
  have hq : q < n := by have := (List.getElem?_eq_some_iff.1 hl).1; have := h.nn.i; omega
  obtain ⟨p, hp⟩ : ∃ p, g.props[q]? = some p := ⟨_, List.getElem?_eq_getElem (by have := h.nn.p; omega)⟩
  obtain ⟨x, hx⟩ : ∃ x, g.nxt[q]? = some x := ⟨_, List.getElem?_eq_getElem (by have := h.nn.x; omega)⟩
  obtain ⟨a, ha⟩ : ∃ a, g.accs[k.acc.toNat]? = some a := ⟨_, List.getElem?_eq_getElem (by omega)⟩
  have e2 : k.prop.toNat = q := by omega
  rw [← e2] at hp hl hx
  have hpn := (h.p p (List.mem_of_getElem? hp)).n
  have e1 : (takeS g i).accs[k.acc.toNat]? = some a := ha
  unfold delivS
  rw [hk]
  simp only
  rw [e1, hp, hl, hx]
  simp only
  cases hr : k.reply with
  | false =>
    rw [if_pos rfl]
    exact .ask a hr ha
  | true =>
    rw [if_neg (by simp)]
    unfold repS recvS
    have hset : g.props.set k.prop.toNat p = g.props := set_same hp
    cases hd : p.dec with
    | true =>
      simp only [true_or, if_true]
      rw [if_neg (by simp), if_neg (by simp)]
      have := DCase.idle (g := g) (i := i) p hr hp (.inl hd)
      rw [show ({ takeS g i with props := (takeS g i).props.set k.prop.toNat p } : GrS) = ⟨g.accs, g.props, g.ins, g.nxt, delL g.pks i, g.decs, g.steps + 1⟩ by unfold takeS; simp only [hset]]
      exact this
    | false =>
      by_cases hk' : k.round = p.r
      · rw [if_neg (show ¬ (false = true ∨ k.round ≠ p.r ∨ k.acc < 0 ∨ k.acc ≥ p.n) by simp [hk']; omega)]
        cases hle : leI k.v p.v with
        | false =>
          simp only [Bool.false_eq_true, if_false, if_true]
          exact .again p hr hp hd hk' hle
        | true =>
          simp only [if_true, Bool.false_eq_true, if_false]
          by_cases hn : 2 * ((insN p.acks k.acc).length : Int) > p.n
          · rw [if_pos ⟨by simpa using hn, trivial⟩]
            cases hv : l[x.toNat + 1]? with
            | none => exact .last p l x hr hp hd hk' hle hn hl hx hv
            | some v =>
              have := DCase.next (g := g) (i := i) p l x v hr hp hd hk' hle hn hl hx hv
              simp only [sendS, nextG, decS, takeS, propS, hn, decide_true, if_true, List.set_set]
              exact this
          · rw [if_neg (fun h => hn (by simpa using h.1))]
            exact .ack p hr hp hd hk' hle hn
      · rw [if_pos (show false = true ∨ k.round ≠ p.r ∨ k.acc < 0 ∨ k.acc ≥ p.n from .inr (.inl hk'))]
        dsimp only
        rw [if_neg (by simp), if_neg (by simp [hd])]
        have := DCase.idle (g := g) (i := i) p hr hp (.inr hk')
        rw [show ({ takeS g i with props := (takeS g i).props.set k.prop.toNat p } : GrS) = ⟨g.accs, g.props, g.ins, g.nxt, delL g.pks i, g.decs, g.steps + 1⟩ by unfold takeS; simp only [hset]]
        exact this
theorem PrW.mono {p : PrS} {m : Int} {N M : Nat} (h : PrW p m N) (hM : N ≤ M) : PrW p m M := ⟨h.n, h.v, h.r0, by have := h.rN; omega, h.asc, by have := h.al; omega⟩
theorem ackS_W {p : PrS} {m : Int} {N : Nat} (h : PrW p m N) (a : Int) : PrW (ackS p a) m (N + 1) := ⟨h.n, h.v, h.r0, by have := h.rN; show p.r ≤ _; omega, insN_asc h.asc a, by have := h.al; have := insN_len p.acks a; show (insN p.acks a).length ≤ _; omega⟩
theorem case_W {g : GrS} {n N : Nat} (h : GrW g n N) {i : Nat} {k : PkS} (hk : g.pks[i]? = some k) {g' : GrS} (c : DCase g i k g') : GrW g' n (N + 14) := by
  have hkm := List.mem_of_getElem? hk
  obtain ⟨hkv, hka, q, l0, hkp, hl0, hl0'⟩ := h.k k hkm
  have e2 : k.prop.toNat = q := by omega
  have hil := (List.getElem?_eq_some_iff.1 hk).1
  have hdl := delL_len g.pks i hil
  have hkl := h.kl
  have hdl2 := h.dl
  have hs := h.s
  have hal := h.al
  have hkk : ∀ k' ∈ delL g.pks i, V4 k'.v ∧ (0 ≤ k'.acc ∧ k'.acc < g.accs.length) ∧ ∃ (i : Nat) (l : List V2), k'.prop = i ∧ g.ins[i]? = some l ∧ 0 < l.length := fun k' hk' => h.k k' (mem_delL hk')
  have hpn : ∀ p, g.props[k.prop.toNat]? = some p → p.n.toNat ≤ 12 := fun p hp => by have := (h.p p (List.mem_of_getElem? hp)).n; omega
  have hps : ∀ (p2 : PrS), PrW p2 g.accs.length (N + 14) → ∀ p' ∈ g.props.set k.prop.toNat p2, PrW p' g.accs.length (N + 14) := fun p2 hp2 p' hp' => by
    rcases List.mem_or_eq_of_mem_set hp' with hp' | rfl
    · exact (h.p p' hp').mono (by omega)
    · exact hp2
  have hpk : ∀ (p2 : PrS) (m : Nat), V4 p2.v → m ≤ g.accs.length → ∀ k' ∈ delL g.pks i ++ propsTo k.prop.toNat p2 m, V4 k'.v ∧ (0 ≤ k'.acc ∧ k'.acc < g.accs.length) ∧ ∃ (i : Nat) (l : List V2), k'.prop = i ∧ g.ins[i]? = some l ∧ 0 < l.length := fun p2 m hv hm k' hk' => by
    rcases List.mem_append.1 hk' with hk' | hk'
    · exact hkk k' hk'
    · obtain ⟨a, ha, rfl⟩ := mem_propsTo.1 hk'
      exact ⟨hv, ⟨by show (0 : Int) ≤ a; omega, by show (a : Int) < _; omega⟩, k.prop.toNat, l0, rfl, by rw [e2]; exact hl0, hl0'⟩
  have hds : ∀ (d : DeS), V4 d.v → ∀ d' ∈ g.decs ++ [d], V4 d'.v := fun d hd d' hd' => by
    rcases List.mem_append.1 hd' with hd' | hd'
    · exact h.d d' hd'
    · rw [List.mem_singleton.1 hd']
      exact hd
  cases c with
  | ask a hr ha =>
    have hav := h.a a (List.mem_of_getElem? ha)
    refine ⟨⟨h.nn.p, h.nn.i, h.nn.x, h.nn.b⟩, h.n4, by simpa using h.al, fun v hv => ?_, fun p hp => ?_, h.i, h.x, fun k' hk' => ?_, h.d, by simp; omega, by show g.decs.length ≤ _; omega, by show 0 ≤ g.steps + 1 ∧ g.steps + 1 ≤ _; omega⟩
    · rcases List.mem_or_eq_of_mem_set hv with hv | rfl
      · exact h.a v hv
      · exact hav.merge hkv
    · simp only [List.length_set]
      exact (h.p p hp).mono (by omega)
    · simp only [List.length_set]
      rcases List.mem_append.1 hk' with hk' | hk'
      · exact hkk k' hk'
      · rw [List.mem_singleton.1 hk']
        exact ⟨hav.merge hkv, hka, q, l0, hkp, hl0, hl0'⟩
  | idle p hr hp hd =>
    exact ⟨⟨h.nn.p, h.nn.i, h.nn.x, h.nn.b⟩, h.n4, h.al, h.a, fun p hp => (h.p p hp).mono (by omega), h.i, h.x, hkk, h.d, by show (delL g.pks i).length ≤ _; omega, by show g.decs.length ≤ _; omega, by show 0 ≤ g.steps + 1 ∧ g.steps + 1 ≤ _; omega⟩
  | again p hr hp hd hkr hle =>
    have hpw := h.p p (List.mem_of_getElem? hp)
    have := hpn p hp
    have hpn2 := hpw.n
    exact ⟨⟨by simpa using h.nn.p, h.nn.i, h.nn.x, h.nn.b⟩, h.n4, h.al, h.a, hps _ ((nextS_W hpw hkv).mono (by omega)), h.i, h.x, hpk _ _ (nextS_W hpw hkv).v (by omega), h.d, by simp [propsTo_len]; omega, by show g.decs.length ≤ _; omega, by show 0 ≤ g.steps + 1 ∧ g.steps + 1 ≤ _; omega⟩
  | ack p hr hp hd hkr hle hn =>
    have hpw := h.p p (List.mem_of_getElem? hp)
    exact ⟨⟨by simpa using h.nn.p, h.nn.i, h.nn.x, h.nn.b⟩, h.n4, h.al, h.a, hps _ ((ackS_W hpw k.acc).mono (by omega)), h.i, h.x, hkk, h.d, by show (delL g.pks i).length ≤ _; omega, by show g.decs.length ≤ _; omega, by show 0 ≤ g.steps + 1 ∧ g.steps + 1 ≤ _; omega⟩
  | last p l x hr hp hd hkr hle hn hl hx hv =>
    have hpw := h.p p (List.mem_of_getElem? hp)
    exact ⟨⟨by simpa using h.nn.p, h.nn.i, h.nn.x, h.nn.b⟩, h.n4, h.al, h.a, hps _ ((ackS_W hpw k.acc).mono (by omega)), h.i, h.x, hkk, hds _ hpw.v, by show (delL g.pks i).length ≤ _; omega, by simp; omega, by show 0 ≤ g.steps + 1 ∧ g.steps + 1 ≤ _; omega⟩
  | next p l x v hr hp hd hkr hle hn hl hx hv =>
    have hpw := h.p p (List.mem_of_getElem? hp)
    have := hpn p hp
    have hpn2 := hpw.n
    obtain ⟨hll, hlv⟩ := h.i l (List.mem_of_getElem? hl)
    have hvv := hlv v (List.mem_of_getElem? hv)
    have hxl := (List.getElem?_eq_some_iff.1 hv).1
    have hx0 := h.x _ x hx
    refine ⟨⟨by simpa using h.nn.p, h.nn.i, by simpa using h.nn.x, h.nn.b⟩, h.n4, h.al, h.a, hps _ ((nextS_W hpw hvv).mono (by omega)), h.i, fun j y hy => ?_, hpk _ _ (nextS_W hpw hvv).v (by omega), hds _ hpw.v, by simp [propsTo_len]; omega, by simp; omega, by show 0 ≤ g.steps + 1 ∧ g.steps + 1 ≤ _; omega⟩
    rcases get_set hy with ⟨_, rfl⟩ | ⟨_, hy⟩
    · omega
    · exact h.x j y hy
theorem deliv_W {g : GrS} {n N : Nat} (h : GrW g n N) {i : Nat} (hi : i < g.pks.length) : GrW (delivS g i) n (N + 14) :=
  case_W h (List.getElem?_eq_getElem hi) (deliv_case h (List.getElem?_eq_getElem hi))
theorem ins_mem {l : List Int} {a y : Int} : y ∈ insN l a ↔ y = a ∨ y ∈ l := by
  unfold insN
  split
  · rename_i h
    have h : a ∈ l := by
      unfold hasN at h
      rw [List.any_eq_true] at h
      obtain ⟨x, hx, h⟩ := h
      rw [decide_eq_true_eq] at h
      exact h ▸ hx
    constructor
    · exact fun hy => .inr hy
    · rintro (rfl | hy)
      · exact h
      · exact hy
  · have h2 : y ∈ l ↔ y ∈ l.take (posN l a) ∨ y ∈ l.drop (posN l a) := by
      rw [← List.mem_append, List.take_append_drop]
    rw [List.mem_append, List.mem_cons, h2]
    constructor
    · rintro (h | h | h)
      · exact .inr (.inl h)
      · exact .inl h
      · exact .inr (.inr h)
    · rintro (h | h | h)
      · exact .inr (.inl h)
      · exact .inl h
      · exact .inr (.inr h)
def Sub (u v : V2) : Prop := ∀ x, cnt u x ≤ cnt v x
theorem Sub.refl (u : V2) : Sub u u := fun x => Int.le_refl _
theorem Sub.trans {u v w : V2} (h : Sub u v) (h' : Sub v w) : Sub u w := fun x => Int.le_trans (h x) (h' x)
theorem sub_l {u v : V2} (hu : Val u) (hv : Val v) : Sub u (mergeI true u v) := fun x => by
  rw [(mrg_is true hu hv).cnt, bndT]
  split <;> omega
theorem sub_r {u v : V2} (hu : Val u) (hv : Val v) : Sub v (mergeI true u v) := fun x => by
  rw [(mrg_is true hu hv).cnt, bndT]
  split <;> omega
theorem sub_m {u v w : V2} (hu : Val u) (hv : Val v) (h : Sub u w) (h' : Sub v w) : Sub (mergeI true u v) w := fun x => by
  rw [(mrg_is true hu hv).cnt, bndT]
  have := h x
  have := h' x
  split <;> omega
theorem sub_anti {u v : V2} (hu : Val u) (hv : Val v) (h : Sub u v) (h' : Sub v u) : u = v := ext_cnt hu hv fun x => by have := h x; have := h' x; omega
theorem leI_sub {u v : V2} (hu : Val u) (hv : Val v) : leI u v = true ↔ Sub u v := by
  rw [leI_iff]
  constructor
  · intro h x
    by_cases hx : ∃ e ∈ u, e.1 = x
    · obtain ⟨e, he, rfl⟩ := hx
      rw [cnt_mem hu.2 he]
      exact h e he
    · rw [cnt_zero fun q hq => fun hqx => hx ⟨q, hq, hqx⟩]
      exact (cnt_range (a := x) hv.1).1
  · intro h e he
    have := h e.1
    rwa [cnt_mem hu.2 he] at this
theorem nil_sub {u : V2} (h : Val u) : Sub [] u := fun x => (cnt_range (a := x) h.1).1
/-- The history of the acceptors' values, what they began with. -/
structure InvC (H : Nat → V2 → Prop) (base : List V2) (g : GrS) : Prop where
  val : ∀ a u, H a u → Val u
  ch : ∀ a u w, H a u → H a w → Sub u w ∨ Sub w u
  up : ∀ (a : Nat) c, g.accs[a]? = some c → ∀ u, H a u → Sub u c
  bs : ∀ (a : Nat) b, base[a]? = some b → (∀ u, H a u → Sub b u) ∧ ∀ c, g.accs[a]? = some c → Sub b c
  rp : ∀ k ∈ g.pks, k.reply = true → H k.acc.toNat k.v
  pk : ∀ k ∈ g.pks, ∀ p, g.props[k.prop.toNat]? = some p → k.round ≤ p.r ∧ (k.round = p.r → (k.reply = true → Sub p.v k.v) ∧ (k.reply = false → k.v = p.v))
  ak : ∀ (i : Nat) p, g.props[i]? = some p → ∀ a ∈ p.acks, (0 ≤ a ∧ a < g.accs.length) ∧ H a.toNat p.v
  de : ∀ d ∈ g.decs, ∃ S : List Int, AscN S ∧ (∀ a ∈ S, (0 ≤ a ∧ a < g.accs.length) ∧ H a.toNat d.v) ∧ 2 * (S.length : Int) > g.accs.length
theorem invC_pk {g : GrS} {q : Nat} {p p2 : PrS} {ks : List PkS} (hp : g.props[q]? = some p) (hr : p.r < p2.r)
    (hk : ∀ k ∈ ks, ∀ p, g.props[k.prop.toNat]? = some p → k.round ≤ p.r ∧ (k.round = p.r → (k.reply = true → Sub p.v k.v) ∧ (k.reply = false → k.v = p.v))) (m : Nat) :
    ∀ k ∈ ks ++ propsTo q p2 m, ∀ p, (g.props.set q p2)[k.prop.toNat]? = some p → k.round ≤ p.r ∧ (k.round = p.r → (k.reply = true → Sub p.v k.v) ∧ (k.reply = false → k.v = p.v)) := fun k1 hk1 p1 hp1 => by
  rcases List.mem_append.1 hk1 with hk2 | hk2
  · rcases get_set hp1 with ⟨e, e2⟩ | ⟨_, hp3⟩
    · rw [← e] at hp
      have := (hk k1 hk2 p hp).1
      subst e2
      exact ⟨by omega, fun e => by omega⟩
    · exact hk k1 hk2 p1 hp3
  · obtain ⟨a, ha, rfl⟩ := mem_propsTo.1 hk2
    rcases get_set hp1 with ⟨e, rfl⟩ | ⟨e, hp3⟩
    · exact ⟨Int.le_refl _, fun _ => ⟨(fun h => by cases h), fun _ => rfl⟩⟩
    · exact absurd rfl e
theorem case_C {H : Nat → V2 → Prop} {base : List V2} {g : GrS} {n N : Nat} (hw : GrW g n N) (h : InvC H base g) {i : Nat} {k : PkS} (hk : g.pks[i]? = some k) {g' : GrS} (c : DCase g i k g') : ∃ H', InvC H' base g' := by
  have hkm := List.mem_of_getElem? hk
  obtain ⟨hkv, hka, _⟩ := hw.k k hkm
  have hrp : ∀ k ∈ delL g.pks i, k.reply = true → H k.acc.toNat k.v := fun k' hk' => h.rp k' (mem_delL hk')
  have hpk : ∀ k ∈ delL g.pks i, ∀ p, g.props[k.prop.toNat]? = some p → k.round ≤ p.r ∧ (k.round = p.r → (k.reply = true → Sub p.v k.v) ∧ (k.reply = false → k.v = p.v)) := fun k' hk' => h.pk k' (mem_delL hk')
  have hrq : ∀ (p2 : PrS) m, ∀ k' ∈ delL g.pks i ++ propsTo k.prop.toNat p2 m, k'.reply = true → H k'.acc.toNat k'.v := fun p2 m k' hk' hr => by
    rcases List.mem_append.1 hk' with hk' | hk'
    · exact hrp k' hk' hr
    · obtain ⟨a, ha, rfl⟩ := mem_propsTo.1 hk'
      cases hr
  have hack : ∀ p, g.props[k.prop.toNat]? = some p → k.reply = true → k.round = p.r → leI k.v p.v = true → ∀ a ∈ insN p.acks k.acc, (0 ≤ a ∧ a < (g.accs.length : Int)) ∧ H a.toNat p.v := fun p hp hr hkr hle a ha => by
    rcases ins_mem.1 ha with rfl | ha
    · refine ⟨hka, ?_⟩
      have hs := ((h.pk k hkm p hp).2 hkr).1 hr
      have hpv := (hw.p p (List.mem_of_getElem? hp)).v.val
      rw [sub_anti hpv hkv.val hs ((leI_sub hkv.val hpv).1 hle)]
      exact h.rp k hkm hr
    · exact h.ak _ p hp a ha
  have hak0 : ∀ (p2 : PrS), (∀ a ∈ p2.acks, (0 ≤ a ∧ a < (g.accs.length : Int)) ∧ H a.toNat p2.v) → ∀ (j : Nat) p, (g.props.set k.prop.toNat p2)[j]? = some p → ∀ a ∈ p.acks, (0 ≤ a ∧ a < (g.accs.length : Int)) ∧ H a.toNat p.v := fun p2 h2 j p' hp' => by
    rcases get_set hp' with ⟨_, rfl⟩ | ⟨_, hp'⟩
    · exact h2
    · exact h.ak j p' hp'
  have hde : ∀ p, g.props[k.prop.toNat]? = some p → k.reply = true → k.round = p.r → leI k.v p.v = true → 2 * ((insN p.acks k.acc).length : Int) > p.n → ∀ (x s : Int), ∀ d ∈ g.decs ++ [(⟨(k.prop.toNat : Int), x, p.v, s⟩ : DeS)], ∃ S : List Int, AscN S ∧ (∀ a ∈ S, (0 ≤ a ∧ a < (g.accs.length : Int)) ∧ H a.toNat d.v) ∧ 2 * (S.length : Int) > g.accs.length := fun p hp hr hkr hle hn x s d hd => by
    rcases List.mem_append.1 hd with hd | hd
    · exact h.de d hd
    · rw [List.mem_singleton.1 hd]
      have hpw := hw.p p (List.mem_of_getElem? hp)
      exact ⟨insN p.acks k.acc, insN_asc hpw.asc _, hack p hp hr hkr hle, by have := hpw.n; omega⟩
  cases c with
  | ask a hr ha =>
    have hav := hw.a a (List.mem_of_getElem? ha)
    have hmv := (mrg_is true hav.val hkv.val).val
    have h1 := sub_l hav.val hkv.val
    have h2 := sub_r hav.val hkv.val
    generalize mergeI true a k.v = m at *
    refine ⟨fun j u => H j u ∨ (j = k.acc.toNat ∧ u = m), fun j u hu => ?_, fun j u w hu hw' => ?_, fun j c hc u hu => ?_, fun j b hb => ⟨fun u hu => ?_, fun c hc => ?_⟩, fun k' hk' hr' => ?_, fun k' hk' p hp => ?_, fun j p hp a' ha' => ?_, fun d hd => ?_⟩
    · rcases hu with hu | ⟨_, rfl⟩
      · exact h.val j u hu
      · exact hmv
    · rcases hu with hu | ⟨e, rfl⟩
      · rcases hw' with hw' | ⟨e, rfl⟩
        · exact h.ch j u w hu hw'
        · rw [e] at hu
          exact .inl ((h.up _ a ha u hu).trans h1)
      · rcases hw' with hw' | ⟨_, rfl⟩
        · rw [e] at hw'
          exact .inr ((h.up _ a ha w hw').trans h1)
        · exact .inl (Sub.refl _)
    · rcases get_set hc with ⟨e, rfl⟩ | ⟨e, hc⟩
      · rcases hu with hu | ⟨_, rfl⟩
        · rw [e] at hu
          exact (h.up _ a ha u hu).trans h1
        · exact Sub.refl _
      · rcases hu with hu | ⟨e', _⟩
        · exact h.up j c hc u hu
        · exact absurd e' e
    · rcases hu with hu | ⟨e, rfl⟩
      · exact (h.bs j b hb).1 u hu
      · rw [e] at hb
        exact ((h.bs _ b hb).2 a ha).trans h1
    · rcases get_set hc with ⟨e, rfl⟩ | ⟨e, hc⟩
      · rw [e] at hb
        exact ((h.bs _ b hb).2 a ha).trans h1
      · exact (h.bs j b hb).2 c hc
    · rcases List.mem_append.1 hk' with hk' | hk'
      · exact .inl (hrp k' hk' hr')
      · rw [List.mem_singleton.1 hk']
        exact .inr ⟨rfl, rfl⟩
    · rcases List.mem_append.1 hk' with hk' | hk'
      · exact hpk k' hk' p hp
      · rw [List.mem_singleton.1 hk'] at hp ⊢
        obtain ⟨g1, g2⟩ := h.pk k hkm p hp
        refine ⟨g1, fun e => ⟨fun _ => ?_, fun e => by cases e⟩⟩
        have := (g2 e).2 hr
        rw [← this]
        exact h2
    · obtain ⟨g1, g2⟩ := h.ak j p hp a' ha'
      exact ⟨by simpa using g1, .inl g2⟩
    · obtain ⟨S, s1, s2, s3⟩ := h.de d hd
      exact ⟨S, s1, fun a' ha' => ⟨by simpa using (s2 a' ha').1, .inl (s2 a' ha').2⟩, by simpa using s3⟩
  | idle p hr hp hd => exact ⟨H, h.val, h.ch, h.up, h.bs, hrp, hpk, h.ak, h.de⟩
  | again p hr hp hd hkr hle =>
    exact ⟨H, h.val, h.ch, h.up, h.bs, hrq _ _, invC_pk hp (by show p.r < p.r + 1; omega) hpk _, hak0 _ (fun a ha => by cases ha), h.de⟩
  | ack p hr hp hd hkr hle hn =>
    refine ⟨H, h.val, h.ch, h.up, h.bs, hrp, fun k' hk' p' hp' => ?_, hak0 _ (hack p hp hr hkr hle), h.de⟩
    rcases get_set hp' with ⟨e, rfl⟩ | ⟨_, hp'⟩
    · rw [← e] at hp
      exact hpk k' hk' p hp
    · exact hpk k' hk' p' hp'
  | last p l x hr hp hd hkr hle hn hl hx hv =>
    refine ⟨H, h.val, h.ch, h.up, h.bs, hrp, fun k' hk' p' hp' => ?_, hak0 _ (hack p hp hr hkr hle), hde p hp hr hkr hle hn _ _⟩
    rcases get_set hp' with ⟨e, rfl⟩ | ⟨_, hp'⟩
    · rw [← e] at hp
      exact hpk k' hk' p hp
    · exact hpk k' hk' p' hp'
  | next p l x v hr hp hd hkr hle hn hl hx hv =>
    exact ⟨H, h.val, h.ch, h.up, h.bs, hrq _ _, invC_pk hp (by show p.r < p.r + 1; omega) hpk _, hak0 _ (fun a ha => by cases ha), hde p hp hr hkr hle hn _ _⟩
/-! ### majorities meet -/
theorem nd_len : ∀ (l m : List Int), l.Nodup → (∀ x ∈ l, x ∈ m) → l.length ≤ m.length
  | [], _, _, _ => by simp
  | x :: l, m, hd, hm => by
    obtain ⟨h1, h2⟩ := List.nodup_cons.1 hd
    have hx := hm x (by simp)
    have := nd_len l (m.erase x) h2 fun y hy => by
      rw [List.mem_erase_of_ne (fun e => h1 (by subst e; exact hy))]
      exact hm y (by simp [hy])
    rw [List.length_erase_of_mem hx] at this
    have := List.length_pos_of_mem hx
    rw [List.length_cons]
    omega
theorem asc_nd {l : List Int} (h : AscN l) : l.Nodup := List.Pairwise.imp (fun {a b} h e => by omega) h
theorem meet {S T : List Int} {m : Nat} (hS : AscN S) (hT : AscN T) (h1 : ∀ a ∈ S, 0 ≤ a ∧ a < (m : Int)) (h2 : ∀ a ∈ T, 0 ≤ a ∧ a < (m : Int)) (l1 : 2 * (S.length : Int) > m) (l2 : 2 * (T.length : Int) > m) : ∃ a, a ∈ S ∧ a ∈ T := by
  refine Classical.byContradiction fun hn => ?_
  have := nd_len (S ++ T) ((List.range m).map Int.ofNat) (List.nodup_append.2 ⟨asc_nd hS, asc_nd hT, fun a ha b hb e => hn ⟨a, ha, e ▸ hb⟩⟩) fun x hx => by
    have hx : 0 ≤ x ∧ x < (m : Int) := by
      rcases List.mem_append.1 hx with hx | hx
      · exact h1 x hx
      · exact h2 x hx
    exact List.mem_map.2 ⟨x.toNat, List.mem_range.2 (by omega), by show ((x.toNat : Nat) : Int) = x; omega⟩
  rw [List.length_append, List.length_map, List.length_range] at this
  omega
theorem invC_chain {H : Nat → V2 → Prop} {base : List V2} {g : GrS} (h : InvC H base g) {d e : DeS} (hd : d ∈ g.decs) (he : e ∈ g.decs) : Sub d.v e.v ∨ Sub e.v d.v := by
  obtain ⟨S, s1, s2, s3⟩ := h.de d hd
  obtain ⟨T, t1, t2, t3⟩ := h.de e he
  obtain ⟨a, ha, hb⟩ := meet s1 t1 (fun a ha => (s2 a ha).1) (fun a ha => (t2 a ha).1) s3 t3
  exact h.ch _ _ _ (s2 a ha).2 (t2 a hb).2
/-- The second group began with the first one's acceptors. -/
theorem invC_seq {H H' : Nat → V2 → Prop} {base : List V2} {g g' : GrS} (h : InvC H base g) (h' : InvC H' g.accs g') (hl : g'.accs.length = g.accs.length) {d e : DeS} (hd : d ∈ g.decs) (he : e ∈ g'.decs) : Sub d.v e.v := by
  obtain ⟨S, s1, s2, s3⟩ := h.de d hd
  obtain ⟨T, t1, t2, t3⟩ := h'.de e he
  rw [hl] at t3
  obtain ⟨a, ha, hb⟩ := meet s1 t1 (fun a ha => (s2 a ha).1) (fun a ha => by rw [← hl]; exact (t2 a ha).1) s3 t3
  obtain ⟨c, hc⟩ : ∃ c, g.accs[a.toNat]? = some c := ⟨_, List.getElem?_eq_getElem (by have := (s2 a ha).1; omega)⟩
  exact (h.up _ c hc _ (s2 a ha).2).trans ((h'.bs _ c hc).1 _ (t2 a hb).2)
/-! ### decisions are valid -/
structure InvV (all : V2) (g : GrS) : Prop where
  ac : ∀ v ∈ g.accs, Sub v all
  pr : ∀ p ∈ g.props, Sub p.v all
  pk : ∀ k ∈ g.pks, Sub k.v all
  inp : ∀ l ∈ g.ins, ∀ v ∈ l, Sub v all
  cu : ∀ (i : Nat) p l x, g.props[i]? = some p → g.ins[i]? = some l → g.nxt[i]? = some x → l ≠ [] → ∃ v, l[x.toNat]? = some v ∧ Sub v p.v
  de : ∀ d ∈ g.decs, Sub d.v all ∧ ∃ (i : Nat) (l : List V2) (p : PrS) (v : V2), d.prop = i ∧ g.ins[i]? = some l ∧ 0 ≤ d.input ∧ l[d.input.toNat]? = some v ∧ Sub v d.v ∧ g.props[i]? = some p ∧ Sub d.v p.v
  or : g.decs.Pairwise fun d e => d.prop = e.prop → Sub d.v e.v
theorem case_V {all : V2} {g : GrS} {n N : Nat} (hw : GrW g n N) (h : InvV all g) {i : Nat} {k : PkS} (hk : g.pks[i]? = some k) {g' : GrS} (c : DCase g i k g') : InvV all g' := by
  have hkm := List.mem_of_getElem? hk
  obtain ⟨hkv, hka, q, l0, hkp, hl0, hl0'⟩ := hw.k k hkm
  have hka' := h.pk k hkm
  have hpk : ∀ k ∈ delL g.pks i, Sub k.v all := fun k' hk' => h.pk k' (mem_delL hk')
  have hpq : ∀ (p2 : PrS) m, Sub p2.v all → ∀ k' ∈ delL g.pks i ++ propsTo k.prop.toNat p2 m, Sub k'.v all := fun p2 m h2 k' hk' => by
    rcases List.mem_append.1 hk' with hk' | hk'
    · exact hpk k' hk'
    · obtain ⟨a, ha, rfl⟩ := mem_propsTo.1 hk'
      exact h2
  have hps : ∀ (p2 : PrS), Sub p2.v all → ∀ p ∈ g.props.set k.prop.toNat p2, Sub p.v all := fun p2 h2 p hp => by
    rcases List.mem_or_eq_of_mem_set hp with hp | rfl
    · exact h.pr p hp
    · exact h2
  have hcu : ∀ (p p2 : PrS), g.props[k.prop.toNat]? = some p → Sub p.v p2.v → ∀ (j : Nat) p l x, (g.props.set k.prop.toNat p2)[j]? = some p → g.ins[j]? = some l → g.nxt[j]? = some x → l ≠ [] → ∃ v, l[x.toNat]? = some v ∧ Sub v p.v := fun p p2 hp h2 j p' l x hp' hl hx hne => by
    rcases get_set hp' with ⟨e, rfl⟩ | ⟨_, hp'⟩
    · subst e
      obtain ⟨v, h3, h4⟩ := h.cu _ p l x hp hl hx hne
      exact ⟨v, h3, h4.trans h2⟩
    · exact h.cu j p' l x hp' hl hx hne
  have hde : ∀ (p p2 : PrS), g.props[k.prop.toNat]? = some p → Sub p.v p2.v → ∀ d ∈ g.decs, Sub d.v all ∧ ∃ (i : Nat) (l : List V2) (p : PrS) (v : V2), d.prop = i ∧ g.ins[i]? = some l ∧ 0 ≤ d.input ∧ l[d.input.toNat]? = some v ∧ Sub v d.v ∧ (g.props.set k.prop.toNat p2)[i]? = some p ∧ Sub d.v p.v := fun p p2 hp h2 d hd => by
    obtain ⟨h3, j, l, p', v, e1, e2, e3, e4, e5, e6, e7⟩ := h.de d hd
    refine ⟨h3, j, l, ?_⟩
    by_cases hj : j = k.prop.toNat
    · subst hj
      rw [hp] at e6
      cases e6
      exact ⟨p2, v, e1, e2, e3, e4, e5, List.getElem?_set_self (List.getElem?_eq_some_iff.1 hp).1, e7.trans h2⟩
    · exact ⟨p', v, e1, e2, e3, e4, e5, by rw [List.getElem?_set_ne (fun e => hj e.symm)]; exact e6, e7⟩
  have hdn : ∀ (p p2 : PrS) (x s : Int) (l : List V2), g.props[k.prop.toNat]? = some p → Sub p.v p2.v → g.ins[k.prop.toNat]? = some l → g.nxt[k.prop.toNat]? = some x → ∀ d ∈ g.decs ++ [(⟨(k.prop.toNat : Int), x, p.v, s⟩ : DeS)], Sub d.v all ∧ ∃ (i : Nat) (l : List V2) (p : PrS) (v : V2), d.prop = i ∧ g.ins[i]? = some l ∧ 0 ≤ d.input ∧ l[d.input.toNat]? = some v ∧ Sub v d.v ∧ (g.props.set k.prop.toNat p2)[i]? = some p ∧ Sub d.v p.v := fun p p2 x s l hp h2 hl hx d hd => by
    rcases List.mem_append.1 hd with hd | hd
    · exact hde p p2 hp h2 d hd
    · rw [List.mem_singleton.1 hd]
      have hlq : l ≠ [] := by
        have e : k.prop.toNat = q := by omega
        rw [e, hl0] at hl
        cases hl
        intro e
        rw [e] at hl0'
        cases hl0'
      obtain ⟨v, h3, h4⟩ := h.cu _ p l x hp hl hx hlq
      exact ⟨h.pr p (List.mem_of_getElem? hp), _, l, p2, v, rfl, hl, (hw.x _ x hx).1, h3, h4, List.getElem?_set_self (List.getElem?_eq_some_iff.1 hp).1, h2⟩
  have hor : ∀ (p : PrS) (x s : Int), g.props[k.prop.toNat]? = some p → (g.decs ++ [(⟨(k.prop.toNat : Int), x, p.v, s⟩ : DeS)]).Pairwise fun d e => d.prop = e.prop → Sub d.v e.v := fun p x s hp => by
    refine List.pairwise_append.2 ⟨h.or, List.pairwise_singleton _ _, fun d hd e he hq => ?_⟩
    rw [List.mem_singleton.1 he] at hq ⊢
    obtain ⟨h3, j, l, p', v, e1, e2, e3, e4, e5, e6, e7⟩ := h.de d hd
    have hj : j = k.prop.toNat := by
      have : d.prop = (k.prop.toNat : Int) := hq
      omega
    subst hj
    rw [hp] at e6
    cases e6
    exact e7
  cases c with
  | ask a hr ha =>
    have hav := hw.a a (List.mem_of_getElem? ha)
    have hm := sub_m hav.val hkv.val (h.ac a (List.mem_of_getElem? ha)) hka'
    refine ⟨fun v hv => ?_, h.pr, fun k' hk' => ?_, h.inp, h.cu, h.de, h.or⟩
    · rcases List.mem_or_eq_of_mem_set hv with hv | rfl
      · exact h.ac v hv
      · exact hm
    · rcases List.mem_append.1 hk' with hk' | hk'
      · exact hpk k' hk'
      · rw [List.mem_singleton.1 hk']
        exact hm
  | idle p hr hp hd => exact ⟨h.ac, h.pr, hpk, h.inp, h.cu, h.de, h.or⟩
  | again p hr hp hd hkr hle =>
    have hpv := (hw.p p (List.mem_of_getElem? hp)).v.val
    have h2 : Sub (nextS p k.v).v all := sub_m hpv hkv.val (h.pr p (List.mem_of_getElem? hp)) hka'
    have h3 : Sub p.v (nextS p k.v).v := sub_l hpv hkv.val
    exact ⟨h.ac, hps _ h2, hpq _ _ h2, h.inp, hcu p _ hp h3, hde p _ hp h3, h.or⟩
  | ack p hr hp hd hkr hle hn =>
    have h2 : Sub (ackS p k.acc).v all := h.pr p (List.mem_of_getElem? hp)
    have h3 : Sub p.v (ackS p k.acc).v := Sub.refl _
    exact ⟨h.ac, hps _ h2, hpk, h.inp, hcu p _ hp h3, hde p _ hp h3, h.or⟩
  | last p l x hr hp hd hkr hle hn hl hx hv =>
    have h2 : Sub (ackS p k.acc).v all := h.pr p (List.mem_of_getElem? hp)
    have h3 : Sub p.v (ackS p k.acc).v := Sub.refl _
    exact ⟨h.ac, hps _ h2, hpk, h.inp, hcu p _ hp h3, hdn p _ x _ l hp h3 hl hx, hor p x _ hp⟩
  | next p l x v hr hp hd hkr hle hn hl hx hv =>
    have hpv := (hw.p p (List.mem_of_getElem? hp)).v.val
    have hvv := (hw.i l (List.mem_of_getElem? hl)).2 v (List.mem_of_getElem? hv)
    have h2 : Sub (nextS p v).v all := sub_m hpv hvv.val (h.pr p (List.mem_of_getElem? hp)) (h.inp l (List.mem_of_getElem? hl) v (List.mem_of_getElem? hv))
    have h3 : Sub p.v (nextS p v).v := sub_l hpv hvv.val
    refine ⟨h.ac, hps _ h2, hpq _ _ h2, h.inp, fun j p' l' x' hp' hl' hx' hne => ?_, hdn p _ x _ l hp h3 hl hx, hor p x _ hp⟩
    rcases get_set hx' with ⟨e, rfl⟩ | ⟨e, hx'⟩
    · subst e
      rw [hl] at hl'
      cases hl'
      rcases get_set hp' with ⟨_, rfl⟩ | ⟨e, _⟩
      · have hx0 := (hw.x _ x hx).1
        exact ⟨v, by rw [show (x + 1).toNat = x.toNat + 1 by omega]; exact hv, sub_r hpv hvv.val⟩
      · exact absurd rfl e
    · rcases get_set hp' with ⟨e', _⟩ | ⟨_, hp'⟩
      · exact absurd e' e
      · exact h.cu j p' l' x' hp' hl' hx' hne
def decsOf (ds : List DeS) (i : Nat) : List Int := (ds.filter fun d => d.prop == (i : Int)).map (·.input)
theorem decsOf_app (ds : List DeS) (d : DeS) (i : Nat) : decsOf (ds ++ [d]) i = decsOf ds i ++ if d.prop = i then [d.input] else [] := by
  unfold decsOf
  rw [List.filter_append, List.map_append]
  congr 1
  by_cases h : d.prop = i
  · rw [if_pos h]; simp [h]
  · rw [if_neg h]; simp [h]
def upto (m : Nat) : List Int := (List.range m).map Int.ofNat
theorem upto_succ (m : Nat) : upto (m + 1) = upto m ++ [(m : Int)] := by
  unfold upto
  rw [List.range_succ, List.map_append]
  rfl
/-- Who has answered, who will. -/
structure InvE (dead : Nat → Bool) (g : GrS) : Prop where
  e : ∀ (i : Nat), g.ins[i]? = some [] → decsOf g.decs i = []
  f : ∀ (i : Nat) p l x, g.props[i]? = some p → g.ins[i]? = some l → g.nxt[i]? = some x → l ≠ [] → x.toNat < l.length ∧ (p.dec = true → x.toNat + 1 = l.length) ∧ decsOf g.decs i = upto (x.toNat + if p.dec = true then 1 else 0) ∧
    (p.dec = false → 2 * (p.acks.length : Int) ≤ p.n ∧ ∀ a : Nat, a < g.accs.length → dead a = false → (a : Int) ∈ p.acks ∨ ∃ k ∈ g.pks, k.prop = i ∧ k.acc = a ∧ k.round = p.r)
  r : ∀ d ∈ g.decs, 0 ≤ d.prop ∧ d.prop < g.ins.length
theorem case_E {dead : Nat → Bool} {g : GrS} {n N : Nat} (hw : GrW g n N) (h : InvE dead g) {i : Nat} {k : PkS} (hk : g.pks[i]? = some k) {g' : GrS} (c : DCase g i k g') : InvE dead g' := by
  have hkm := List.mem_of_getElem? hk
  obtain ⟨hkv, hka, q, l0, hkp, hl0, hl0'⟩ := hw.k k hkm
  have eq : k.prop.toNat = q := by omega
  have hne0 : l0 ≠ [] := fun e => by rw [e] at hl0'; cases hl0'
  have hoth : ∀ (j a : Nat) (r : Int) (M : List PkS), j ≠ k.prop.toNat → (∀ x ∈ delL g.pks i, x ∈ M) → (∃ k' ∈ g.pks, k'.prop = j ∧ k'.acc = a ∧ k'.round = r) → ∃ k' ∈ M, k'.prop = j ∧ k'.acc = a ∧ k'.round = r := fun j a r M hj hM ⟨k', hk', e1, e2, e3⟩ => by
    rcases delL_mem hk hk' with rfl | hd
    · omega
    · exact ⟨k', hM k' hd, e1, e2, e3⟩
  have hf : ∀ (p2 : PrS) (nx : List Int) (M : List PkS) (D : List DeS), (∀ x ∈ delL g.pks i, x ∈ M) → (∀ j, j ≠ k.prop.toNat → decsOf D j = decsOf g.decs j) → (∀ j x, j ≠ k.prop.toNat → nx[j]? = some x → g.nxt[j]? = some x) →
      (∀ l x, g.ins[k.prop.toNat]? = some l → nx[k.prop.toNat]? = some x → l ≠ [] → x.toNat < l.length ∧ (p2.dec = true → x.toNat + 1 = l.length) ∧ decsOf D k.prop.toNat = upto (x.toNat + if p2.dec = true then 1 else 0) ∧
        (p2.dec = false → 2 * (p2.acks.length : Int) ≤ p2.n ∧ ∀ a : Nat, a < g.accs.length → dead a = false → (a : Int) ∈ p2.acks ∨ ∃ k' ∈ M, k'.prop = k.prop.toNat ∧ k'.acc = a ∧ k'.round = p2.r)) →
      ∀ (j : Nat) p l x, (g.props.set k.prop.toNat p2)[j]? = some p → g.ins[j]? = some l → nx[j]? = some x → l ≠ [] → x.toNat < l.length ∧ (p.dec = true → x.toNat + 1 = l.length) ∧ decsOf D j = upto (x.toNat + if p.dec = true then 1 else 0) ∧
        (p.dec = false → 2 * (p.acks.length : Int) ≤ p.n ∧ ∀ a : Nat, a < g.accs.length → dead a = false → (a : Int) ∈ p.acks ∨ ∃ k' ∈ M, k'.prop = j ∧ k'.acc = a ∧ k'.round = p.r) := fun p2 nx M D hM hD hN hq j p l x hp hl hx hnl => by
    by_cases hj : j = k.prop.toNat
    · subst hj
      rcases get_set hp with ⟨_, e⟩ | ⟨e, _⟩
      · subst e
        exact hq l x hl hx hnl
      · exact absurd rfl e
    · rcases get_set hp with ⟨e, _⟩ | ⟨_, hp⟩
      · exact absurd e hj
      · obtain ⟨a1, a2, a3, a4⟩ := h.f j p l x hp hl (hN j x hj hx) hnl
        refine ⟨a1, a2, by rw [hD j hj]; exact a3, fun hd => ⟨(a4 hd).1, fun a ha hda => ?_⟩⟩
        rcases (a4 hd).2 a ha hda with h1 | h1
        · exact .inl h1
        · exact .inr (hoth j a p.r M hj hM h1)
  have hq0 : ∀ p, g.props[k.prop.toNat]? = some p → ∀ l x, g.ins[k.prop.toNat]? = some l → g.nxt[k.prop.toNat]? = some x → l ≠ [] → _ := fun p hp l x hl hx hnl => h.f _ p l x hp hl hx hnl
  have he' : ∀ (x s : Int) (v : V2) (j : Nat), g.ins[j]? = some [] → decsOf (g.decs ++ [(⟨(k.prop.toNat : Int), x, v, s⟩ : DeS)]) j = [] := fun x s v j hj => by
    rw [decsOf_app, h.e j hj, if_neg]
    · rfl
    · intro e
      have e : (k.prop.toNat : Int) = j := e
      have : j = q := by omega
      subst this
      rw [hl0] at hj
      exact hne0 (Option.some.inj hj)
  have hr' : ∀ (x s : Int) (v : V2), ∀ d ∈ g.decs ++ [(⟨(k.prop.toNat : Int), x, v, s⟩ : DeS)], 0 ≤ d.prop ∧ d.prop < g.ins.length := fun x s v d hd => by
    rcases List.mem_append.1 hd with hd | hd
    · exact h.r d hd
    · rw [List.mem_singleton.1 hd]
      have := (List.getElem?_eq_some_iff.1 hl0).1
      exact ⟨by show (0 : Int) ≤ (k.prop.toNat : Int); omega, by show (k.prop.toNat : Int) < _; omega⟩
  have hD' : ∀ (x s : Int) (v : V2) (j : Nat), j ≠ k.prop.toNat → decsOf (g.decs ++ [(⟨(k.prop.toNat : Int), x, v, s⟩ : DeS)]) j = decsOf g.decs j := fun x s v j hj => by
    rw [decsOf_app, if_neg (show ¬ ((k.prop.toNat : Int) = j) by omega), List.append_nil]
  have hDq : ∀ (x s : Int) (v : V2), decsOf (g.decs ++ [(⟨(k.prop.toNat : Int), x, v, s⟩ : DeS)]) k.prop.toNat = decsOf g.decs k.prop.toNat ++ [x] := fun x s v => by
    rw [decsOf_app, if_pos rfl]
  have hall : ∀ (p p2 : PrS), g.props[k.prop.toNat]? = some p → ∀ a : Nat, a < g.accs.length → ∃ k' ∈ delL g.pks i ++ propsTo k.prop.toNat p2 p.n.toNat, k'.prop = k.prop.toNat ∧ k'.acc = a ∧ k'.round = p2.r := fun p p2 hp a ha => by
    have := (hw.p p (List.mem_of_getElem? hp)).n
    exact ⟨_, List.mem_append_right _ (mem_propsTo.2 ⟨a, by omega, rfl⟩), rfl, rfl, rfl⟩
  cases c with
  | ask a hr ha =>
    refine ⟨h.e, fun j p l x hp hl hx hnl => ?_, h.r⟩
    obtain ⟨a1, a2, a3, a4⟩ := h.f j p l x hp hl hx hnl
    refine ⟨a1, a2, a3, fun hd => ⟨(a4 hd).1, fun a' ha' hda => ?_⟩⟩
    rcases (a4 hd).2 a' (by simpa using ha') hda with h1 | ⟨k', hk', e1, e2, e3⟩
    · exact .inl h1
    · rcases delL_mem hk hk' with rfl | hd'
      · exact .inr ⟨_, List.mem_append_right _ (List.mem_singleton.2 rfl), e1, e2, e3⟩
      · exact .inr ⟨k', List.mem_append_left _ hd', e1, e2, e3⟩
  | idle p hr hp hd =>
    refine ⟨h.e, fun j p' l x hp' hl hx hnl => ?_, h.r⟩
    obtain ⟨a1, a2, a3, a4⟩ := h.f j p' l x hp' hl hx hnl
    refine ⟨a1, a2, a3, fun hd' => ⟨(a4 hd').1, fun a' ha' hda => ?_⟩⟩
    rcases (a4 hd').2 a' ha' hda with h1 | ⟨k', hk', e1, e2, e3⟩
    · exact .inl h1
    · rcases delL_mem hk hk' with rfl | hdl
      · have : j = k'.prop.toNat := by omega
        subst this
        rw [hp] at hp'
        cases hp'
        rcases hd with hd | hd
        · rw [hd] at hd'; cases hd'
        · exact absurd e3 hd
      · exact .inr ⟨k', hdl, e1, e2, e3⟩
  | again p hr hp hd hkr hle =>
    refine ⟨h.e, hf (nextS p k.v) g.nxt _ g.decs (fun x hx => List.mem_append_left _ hx) (fun _ _ => rfl) (fun _ _ _ hx => hx) (fun l x hl hx hnl => ?_), h.r⟩
    obtain ⟨a1, a2, a3, a4⟩ := h.f _ p l x hp hl hx hnl
    refine ⟨a1, (fun hd => by cases hd), by rw [hd] at a3; exact a3, fun _ => ⟨?_, fun a ha _ => .inr (hall p _ hp a ha)⟩⟩
    have := (hw.p p (List.mem_of_getElem? hp)).n
    show 2 * ((0 : Nat) : Int) ≤ p.n
    omega
  | ack p hr hp hd hkr hle hn =>
    refine ⟨h.e, hf (ackS p k.acc) g.nxt _ g.decs (fun x hx => hx) (fun _ _ => rfl) (fun _ _ _ hx => hx) (fun l x hl hx hnl => ?_), h.r⟩
    obtain ⟨a1, a2, a3, a4⟩ := h.f _ p l x hp hl hx hnl
    have hdf : (ackS p k.acc).dec = false := by show decide _ = false; simpa using hn
    rw [hdf]
    refine ⟨a1, (fun hd => by cases hd), by rw [hd] at a3; exact a3, fun _ => ⟨by show 2 * ((insN p.acks k.acc).length : Int) ≤ p.n; omega, fun a ha hda => ?_⟩⟩
    rcases (a4 hd).2 a ha hda with h1 | ⟨k', hk', e1, e2, e3⟩
    · exact .inl (ins_mem.2 (.inr h1))
    · rcases delL_mem hk hk' with rfl | hdl
      · exact .inl (ins_mem.2 (.inl e2.symm))
      · exact .inr ⟨k', hdl, e1, e2, e3⟩
  | last p l x hr hp hd hkr hle hn hl hx hv =>
    have hdt : (ackS p k.acc).dec = true := by show decide _ = true; simpa using hn
    have hx0 := (hw.x _ x hx).1
    refine ⟨he' _ _ _, hf (ackS p k.acc) g.nxt _ _ (fun x hx => hx) (hD' _ _ _) (fun _ _ _ hx => hx) (fun l' x' hl' hx' hnl => ?_), hr' _ _ _⟩
    rw [hl] at hl'
    cases hl'
    rw [hx] at hx'
    cases hx'
    obtain ⟨a1, a2, a3, a4⟩ := h.f _ p l x hp hl hx hnl
    have hlx := List.getElem?_eq_none_iff.1 hv
    refine ⟨a1, fun _ => by omega, ?_, fun hf => by rw [hdt] at hf; cases hf⟩
    rw [hDq, a3, hdt, hd, if_neg (by simp), if_pos rfl, Nat.add_zero, upto_succ]
    congr 2
    omega
  | next p l x v hr hp hd hkr hle hn hl hx hv =>
    have hx0 := (hw.x _ x hx).1
    have hxl := (List.getElem?_eq_some_iff.1 hv).1
    refine ⟨he' _ _ _, hf (nextS p v) (g.nxt.set k.prop.toNat (x + 1)) _ _ (fun x hx => List.mem_append_left _ hx) (hD' _ _ _) (fun j y hj hy => ?_) (fun l' x' hl' hx' hnl => ?_), hr' _ _ _⟩
    · rcases get_set hy with ⟨e, _⟩ | ⟨_, hy⟩
      · exact absurd e hj
      · exact hy
    rw [hl] at hl'
    cases hl'
    rcases get_set hx' with ⟨_, e⟩ | ⟨e, _⟩
    · subst e
      obtain ⟨a1, a2, a3, a4⟩ := h.f _ p l x hp hl hx hnl
      refine ⟨by omega, (fun hd => by cases hd), ?_, fun _ => ⟨?_, fun a ha _ => .inr (hall p _ hp a ha)⟩⟩
      · rw [hDq, a3, hd, if_neg (by simp), if_neg (by show ¬ (false = true); simp), Nat.add_zero, Nat.add_zero, show (x + 1).toNat = x.toNat + 1 by omega, upto_succ]
        congr 2
        omega
      · have := (hw.p p (List.mem_of_getElem? hp)).n
        show 2 * ((0 : Nat) : Int) ≤ p.n
        omega
    · exact absurd rfl e
theorem lose_E {dead : Nat → Bool} {g : GrS} (h : InvE dead g) {i : Nat} {k : PkS} (hk : g.pks[i]? = some k) (hd : dead k.acc.toNat = true) : InvE dead { g with pks := delL g.pks i } := by
  refine ⟨h.e, fun j p l x hp hl hx hnl => ?_, h.r⟩
  obtain ⟨a1, a2, a3, a4⟩ := h.f j p l x hp hl hx hnl
  refine ⟨a1, a2, a3, fun hd' => ⟨(a4 hd').1, fun a' ha' hda => ?_⟩⟩
  rcases (a4 hd').2 a' ha' hda with h1 | ⟨k', hk', e1, e2, e3⟩
  · exact .inl h1
  · rcases delL_mem hk hk' with rfl | hdl
    · rw [show k'.acc.toNat = a' by omega, hda] at hd
      cases hd
    · exact .inr ⟨k', hdl, e1, e2, e3⟩
/-- Without packets everyone has decided. -/
theorem ends_E {dead : Nat → Bool} {g : GrS} {n N : Nat} (hw : GrW g n N) (h : InvE dead g) (hk : g.pks = []) (hd : 2 * ((List.range g.accs.length).filter fun a => !dead a).length > g.accs.length) {i : Nat} {l : List V2} (hl : g.ins[i]? = some l) : decsOf g.decs i = upto l.length := by
  by_cases hnl : l = []
  · subst hnl
    rw [h.e i hl]
    rfl
  have hil := (List.getElem?_eq_some_iff.1 hl).1
  obtain ⟨p, hp⟩ : ∃ p, g.props[i]? = some p := ⟨_, List.getElem?_eq_getElem (by have := hw.nn.p; have := hw.nn.i; omega)⟩
  obtain ⟨x, hx⟩ : ∃ x, g.nxt[i]? = some x := ⟨_, List.getElem?_eq_getElem (by have := hw.nn.x; have := hw.nn.i; omega)⟩
  obtain ⟨a1, a2, a3, a4⟩ := h.f i p l x hp hl hx hnl
  cases hdc : p.dec with
  | true =>
    rw [a3, hdc, if_pos rfl, a2 hdc]
  | false =>
    exfalso
    obtain ⟨b1, b2⟩ := a4 hdc
    have hn := (hw.p p (List.mem_of_getElem? hp)).n
    have := nd_len (((List.range g.accs.length).filter fun a => !dead a).map Int.ofNat) p.acks ?_ fun y hy => ?_
    · rw [List.length_map] at this
      omega
    · refine List.Pairwise.map _ (fun a b hab e => hab (Int.ofNat.inj e)) (List.Pairwise.filter _ List.nodup_range)
    · obtain ⟨a, ha, rfl⟩ := List.mem_map.1 hy
      obtain ⟨h1, h2⟩ := List.mem_filter.1 ha
      rcases b2 a (List.mem_range.1 h1) (by simpa using h2) with h3 | ⟨k', hk', _⟩
      · exact h3
      · rw [hk] at hk'
        cases hk'
/-- All decisions are someone's. -/
theorem decs_sum (n : Nat) : ∀ ds : List DeS, (∀ d ∈ ds, 0 ≤ d.prop ∧ d.prop < (n : Int)) → ((List.range n).map fun i => (decsOf ds i).length).sum = ds.length := by
  have one : ∀ (m : Nat) (q : Nat), ((List.range m).map fun i => if q = i then 1 else 0).sum = if q < m then 1 else 0 := fun m q => by
    induction m with
    | zero => rfl
    | succ m ih =>
      rw [List.range_succ, List.map_append, List.sum_append, ih]
      simp only [List.map_cons, List.map_nil, List.sum_cons, List.sum_nil]
      split <;> split <;> split <;> omega
  have two : ∀ (f g : Nat → Nat) (m : Nat), ((List.range m).map fun i => f i + g i).sum = ((List.range m).map f).sum + ((List.range m).map g).sum := fun f g m => by
    induction m with
    | zero => rfl
    | succ m ih =>
      rw [List.range_succ, List.map_append, List.sum_append, ih, List.map_append, List.map_append, List.sum_append, List.sum_append]
      simp only [List.map_cons, List.map_nil, List.sum_cons, List.sum_nil]
      omega
  intro ds
  induction ds with
  | nil =>
    intro _
    have := one n n
    have h0 : ∀ m, ((List.range m).map fun i => (decsOf [] i).length).sum = 0 := fun m => by
      induction m with
      | zero => rfl
      | succ m ih => rw [List.range_succ, List.map_append, List.sum_append, ih]; rfl
    rw [h0]
    rfl
  | cons d ds ih =>
    intro h
    have hd := h d (by simp)
    have e : ∀ i, (decsOf (d :: ds) i).length = (if d.prop.toNat = i then 1 else 0) + (decsOf ds i).length := fun i => by
      unfold decsOf
      rw [List.filter_cons]
      by_cases hi : d.prop = i
      · rw [if_pos (by simpa using hi), if_pos (by omega), List.map_cons, List.length_cons]
        omega
      · rw [if_neg (by simpa using hi), if_neg (by omega)]
        omega
    rw [show (fun i => (decsOf (d :: ds) i).length) = fun i => (if d.prop.toNat = i then 1 else 0) + (decsOf ds i).length from funext e, two, one, if_pos (by omega), ih fun d hd => h d (by simp [hd]), List.length_cons]
    omega
/-! ### how long it takes -/
def pkW (l : List PkS) : Int := (l.map fun k => if k.reply = true then (1 : Int) else 2).sum
def sizV (v : V2) : Int := cnt v 1 + cnt v 2 + cnt v 3 + cnt v 4
def pot (g : GrS) : Int := pkW g.pks + (2 * (g.accs.length : Int) + 1) * ((g.props.map fun p => 12 - sizV p.v).sum + 12 - g.nxt.sum)
theorem sum_app (a b : List Int) : (a ++ b).sum = a.sum + b.sum := by
  induction a with
  | nil => simp
  | cons x a ih => rw [List.cons_append, List.sum_cons, List.sum_cons, ih]; omega
theorem sum_set {α : Type} (f : α → Int) : ∀ (l : List α) (i : Nat) (x y : α), l[i]? = some y → ((l.set i x).map f).sum = (l.map f).sum - f y + f x
  | [], i, x, y, h => by simp at h
  | z :: l, 0, x, y, h => by
    cases h
    simp only [List.set_cons_zero, List.map_cons, List.sum_cons]
    omega
  | z :: l, i + 1, x, y, h => by
    have := sum_set f l i x y (by simpa using h)
    simp only [List.set_cons_succ, List.map_cons, List.sum_cons, this]
    omega
theorem pkW_nn : ∀ l : List PkS, 0 ≤ pkW l ∧ (l.length : Int) ≤ pkW l
  | [] => by simp [pkW]
  | k :: l => by
    have := pkW_nn l
    unfold pkW at *
    rw [List.map_cons, List.sum_cons, List.length_cons]
    split <;> omega
theorem pkW_app (a b : List PkS) : pkW (a ++ b) = pkW a + pkW b := by
  unfold pkW
  rw [List.map_append, sum_app]
theorem pkW_to (q : Nat) (p : PrS) (m : Nat) : pkW (propsTo q p m) = 2 * m := by
  unfold propsTo
  induction m with
  | zero => rfl
  | succ m ih =>
    rw [List.range_succ, List.map_append, pkW_app, ih]
    show 2 * (m : Int) + (2 + 0) = _
    omega
theorem pkW_del {l : List PkS} {i : Nat} {k : PkS} (hk : l[i]? = some k) : pkW l = pkW (delL l i) + if k.reply = true then 1 else 2 := by
  have hi := (List.getElem?_eq_some_iff.1 hk).1
  have e : l = l.take i ++ k :: l.drop (i + 1) := by
    conv => lhs; rw [← List.take_append_drop i l]
    congr 1
    rw [List.drop_eq_getElem_cons hi, (List.getElem?_eq_some_iff.1 hk).2]
  conv => lhs; rw [e]
  unfold delL
  rw [pkW_app, pkW_app]
  have : pkW (k :: l.drop (i + 1)) = (if k.reply = true then 1 else 2) + pkW (l.drop (i + 1)) := by unfold pkW; rw [List.map_cons, List.sum_cons]
  rw [this]
  omega
theorem siz_mono {u v : V2} (h : Sub u v) : sizV u ≤ sizV v := by
  have := h 1; have := h 2; have := h 3; have := h 4
  unfold sizV; omega
theorem siz_le {v : V2} (h : V4 v) : 0 ≤ sizV v ∧ sizV v ≤ 12 := by
  have := h.c 1; have := h.c 2; have := h.c 3; have := h.c 4
  have a1 := (cnt_range (a := 1) h.val.1).1; have a2 := (cnt_range (a := 2) h.val.1).1; have a3 := (cnt_range (a := 3) h.val.1).1; have a4 := (cnt_range (a := 4) h.val.1).1
  unfold sizV; omega
theorem siz_lt {u v : V2} (hu : V4 u) (hv : V4 v) (h : leI v u = false) : sizV u + 1 ≤ sizV (mergeI true u v) := by
  have hl := sub_l hu.val hv.val
  have hr := sub_r hu.val hv.val
  refine Classical.byContradiction fun hn => ?_
  have hs : Sub v u := fun x => by
    have h1 := hl 1; have h2 := hl 2; have h3 := hl 3; have h4 := hl 4
    unfold sizV at hn
    have hx := hr x
    have hu0 := (cnt_range (a := x) hu.val.1).1
    by_cases hx4 : 4 < x
    · have := hv.a x hx4
      omega
    · by_cases hx1 : x < 1
      · rw [cnt_zero (l := v) fun e he => by have := (hv.val.1 e he).1; omega]
        exact hu0
      · have : x = 1 ∨ x = 2 ∨ x = 3 ∨ x = 4 := by omega
        rcases this with rfl | rfl | rfl | rfl <;> omega
  rw [(leI_sub hv.val hu.val).2 hs] at h
  cases h
theorem nn_sum : ∀ (l : List Int), (∀ x ∈ l, 0 ≤ x) → 0 ≤ l.sum
  | [], _ => by simp
  | x :: l, h => by
    have := h x (by simp)
    have := nn_sum l fun y hy => h y (by simp [hy])
    rw [List.sum_cons]
    omega
theorem le_sum (b : Int) : ∀ (l : List Int), (∀ x ∈ l, x ≤ b) → l.sum ≤ b * l.length
  | [], _ => by simp
  | x :: l, h => by
    have := h x (by simp)
    have := le_sum b l fun y hy => h y (by simp [hy])
    rw [List.sum_cons, List.length_cons, Int.natCast_add, Int.mul_add]
    omega
theorem pot_nn {g : GrS} {n N : Nat} (hw : GrW g n N) : (g.pks.length : Int) ≤ pot g := by
  have h1 : 0 ≤ (g.props.map fun p => 12 - sizV p.v).sum := nn_sum _ fun x hx => by
    obtain ⟨p, hp, rfl⟩ := List.mem_map.1 hx
    have := (siz_le (hw.p p hp).v).2
    omega
  have h2 : g.nxt.sum ≤ 3 * g.nxt.length := le_sum 3 _ fun x hx => by
    obtain ⟨i, hi⟩ := List.mem_iff_getElem?.1 hx
    exact (hw.x i x hi).2
  have := hw.nn.x
  have := hw.n4
  have := (pkW_nn g.pks).2
  have : 0 ≤ (2 * (g.accs.length : Int) + 1) * ((g.props.map fun p => 12 - sizV p.v).sum + 12 - g.nxt.sum) := Int.mul_nonneg (by omega) (by omega)
  unfold pot
  omega
theorem mul_step {C a b : Int} (hC : 0 ≤ C) (h : a ≤ b - 1) : C * a ≤ C * b - C := by
  have := Int.mul_le_mul_of_nonneg_left h hC
  rw [Int.mul_sub, Int.mul_one] at this
  exact this
theorem case_pot {g : GrS} {n N : Nat} (hw : GrW g n N) {i : Nat} {k : PkS} (hk : g.pks[i]? = some k) {g' : GrS} (c : DCase g i k g') : pot g' + 1 ≤ pot g := by
  have hkm := List.mem_of_getElem? hk
  obtain ⟨hkv, hka, q, l0, hkp, hl0, hl0'⟩ := hw.k k hkm
  have hd := pkW_del hk
  have hC : (0 : Int) ≤ 2 * (g.accs.length : Int) + 1 := by omega
  cases c with
  | ask a hr ha =>
    rw [hr, if_neg (by simp)] at hd
    unfold pot
    dsimp only
    rw [pkW_app, List.length_set]
    have : pkW [⟨true, k.prop, k.acc, k.round, mergeI true a k.v⟩] = 1 := rfl
    omega
  | idle p hr hp hdc =>
    rw [hr, if_pos rfl] at hd
    unfold pot
    dsimp only
    omega
  | again p hr hp hdc hkr hle =>
    have hpw := hw.p p (List.mem_of_getElem? hp)
    have hn := hpw.n
    rw [hr, if_pos rfl] at hd
    unfold pot
    dsimp only
    rw [pkW_app, pkW_to, sum_set (fun p => 12 - sizV p.v) g.props _ _ p hp]
    have := siz_lt hpw.v hkv hle
    have hm := mul_step (a := (g.props.map fun p => 12 - sizV p.v).sum - (12 - sizV p.v) + (12 - sizV (nextS p k.v).v) + 12 - g.nxt.sum) (b := (g.props.map fun p => 12 - sizV p.v).sum + 12 - g.nxt.sum) hC (by show _ - _ + (12 - sizV (mergeI true p.v k.v)) + 12 - _ ≤ _; omega)
    omega
  | ack p hr hp hdc hkr hle hn =>
    rw [hr, if_pos rfl] at hd
    unfold pot
    dsimp only
    rw [sum_set (fun p => 12 - sizV p.v) g.props _ _ p hp, show (ackS p k.acc).v = p.v from rfl]
    rw [show (g.props.map fun p => 12 - sizV p.v).sum - (12 - sizV p.v) + (12 - sizV p.v) = (g.props.map fun p => 12 - sizV p.v).sum by omega]
    omega
  | last p l x hr hp hdc hkr hle hn hl hx hv =>
    rw [hr, if_pos rfl] at hd
    unfold pot
    dsimp only
    rw [sum_set (fun p => 12 - sizV p.v) g.props _ _ p hp, show (ackS p k.acc).v = p.v from rfl]
    rw [show (g.props.map fun p => 12 - sizV p.v).sum - (12 - sizV p.v) + (12 - sizV p.v) = (g.props.map fun p => 12 - sizV p.v).sum by omega]
    omega
  | next p l x v hr hp hdc hkr hle hn hl hx hv =>
    have hpw := hw.p p (List.mem_of_getElem? hp)
    have hpn := hpw.n
    have hvv := (hw.i l (List.mem_of_getElem? hl)).2 v (List.mem_of_getElem? hv)
    rw [hr, if_pos rfl] at hd
    unfold pot
    dsimp only
    have hnx := sum_set (fun x : Int => x) g.nxt k.prop.toNat (x + 1) x hx
    rw [List.map_id', List.map_id'] at hnx
    rw [pkW_app, pkW_to, sum_set (fun p => 12 - sizV p.v) g.props _ _ p hp, hnx]
    have := siz_mono (sub_l hpw.v.val hvv.val)
    have hm := mul_step (a := (g.props.map fun p => 12 - sizV p.v).sum - (12 - sizV p.v) + (12 - sizV (nextS p v).v) + 12 - (g.nxt.sum - x + (x + 1))) (b := (g.props.map fun p => 12 - sizV p.v).sum + 12 - g.nxt.sum) hC (by show _ - _ + (12 - sizV (mergeI true p.v v)) + 12 - _ ≤ _; omega)
    omega
theorem lose_pot {g : GrS} {i : Nat} {k : PkS} (hk : g.pks[i]? = some k) : pot { g with pks := delL g.pks i } + 1 ≤ pot g := by
  have hd := pkW_del hk
  unfold pot
  dsimp only
  split at hd <;> omega
end Go.Proofs.YtphlhadgcfndhaaGreatDoor.Abs
end
