/- Joined for the claim: WProp3 WAgr6 -/
import Derived.Test.YtphlhadgcfndhaaDoorJd4
section
namespace Go.Proofs.YtphlhadgcfndhaaDoor.Abs
open Go Go.RowKit
set_option linter.unusedVariables false
set_option linter.unusedSimpArgs false
set_option maxHeartbeats 4000000
theorem insN_asc {l : List Int} (h : AscN l) (a : Int) : AscN (insN l a) := by
  rw [← rins_is a l h]
  induction l with
  | nil => simp [rinsN, AscN]
  | cons e l ih =>
    obtain ⟨h1, h2⟩ := List.pairwise_cons.1 h
    rw [rinsN]
    by_cases hae : a ≤ e
    · have hl : ∀ x ∈ l, x ≠ a := fun x hx => by have := h1 x hx; omega
      rw [if_pos ⟨rfl, hae⟩, decide_eq_true hae, Bool.or_true, rinsN_true a l hl]
      by_cases he : e = a
      · subst he
        simpa using h
      · rw [if_neg he]
        refine List.pairwise_cons.2 ⟨fun x hx => ?_, h⟩
        rcases List.mem_cons.1 hx with rfl | hx
        · omega
        · have := h1 x hx; omega
    · rw [if_neg (by simp [hae]), if_neg (by omega), decide_eq_false hae, Bool.or_false]
      refine List.pairwise_cons.2 ⟨fun x hx => ?_, ih h2⟩
      have hx' : x ∈ insN l a := by rw [← rins_is a l h2]; exact hx
      unfold insN at hx'
      split at hx'
      · exact h1 x hx'
      · rcases List.mem_append.1 hx' with hx' | hx'
        · exact h1 x (List.mem_of_mem_take hx')
        · rcases List.mem_cons.1 hx' with rfl | hx'
          · omega
          · exact h1 x (List.mem_of_mem_drop hx')
structure PrB (p : PrS) (k : Nat) : Prop where
  v : Val p.v
  vl : p.v.length ≤ 20 * k
  asc : AscN p.acks
  al : p.acks.length ≤ k
  r : 1 ≤ p.r ∧ p.r ≤ k
theorem PrB.ok {p : PrS} {k : Nat} (h : PrB p k) (hk : k < 100000) : PrOk p := ⟨h.v, by have := h.vl; omega, h.asc, by have := h.al; omega, by have := h.r; omega⟩
theorem PrB.up {p : PrS} {k : Nat} (h : PrB p k) : PrB p (k + 1) := ⟨h.v, by have := h.vl; omega, h.asc, by have := h.al; omega, by have := h.r; omega⟩
theorem PrB.new (n : Int) {v : V2} (h : Val v) (hl : v.length ≤ 20) : PrB (newS n v) 1 := ⟨h, by simpa [newS] using hl, List.Pairwise.nil, Nat.zero_le _, by simp [newS]⟩
theorem PrB.next {p : PrS} {k : Nat} (h : PrB p k) {v : V2} (hv : Val v) (hl : v.length ≤ 20) : PrB (nextS p v) (k + 1) := by
  have hm := mergeI_length true p.v v
  have h1 := h.vl
  have h2 := h.r
  refine ⟨(mrg_is true h.v hv).val, ?_, List.Pairwise.nil, Nat.zero_le _, ?_⟩
  · show (mergeI true p.v v).length ≤ _
    omega
  · show 1 ≤ p.r + 1 ∧ p.r + 1 ≤ _
    omega
theorem PrB.recv {p : PrS} {k : Nat} (h : PrB p k) (a r : Int) {v : V2} (hv : Val v) (hl : v.length ≤ 20) : PrB (recvS p a r v).1 (k + 1) := by
  unfold recvS
  split
  · exact h.up
  · split
    · have := insN_len p.acks a
      have h3 := h.al
      exact ⟨h.v, by have := h.vl; show p.v.length ≤ _; omega, insN_asc h.asc a, by show (insN p.acks a).length ≤ _; omega, by have := h.r; show 1 ≤ p.r ∧ p.r ≤ _; omega⟩
    · exact h.next hv hl
theorem PrB.prop {p : PrS} {k : Nat} (h : PrB p k) {v : V2} (hv : Val v) (hl : v.length ≤ 20) : PrB (propS p v) (k + 1) := by
  unfold propS
  split
  · exact h.next hv hl
  · exact h.up
end Go.Proofs.YtphlhadgcfndhaaDoor.Abs
end
section
namespace Go.Proofs.YtphlhadgcfndhaaDoor.Abs
open Go Go.RowKit
set_option linter.unusedVariables false
set_option linter.unusedSimpArgs false
set_option maxHeartbeats 4000000
/-- Few authors, small counts. -/
structure V4 (v : V2) : Prop where
  val : Val v
  c : ∀ a, cnt v a ≤ 3
  a : ∀ a, 4 < a → cnt v a ≤ 0
theorem srt_len : ∀ {l : V2} {lo hi : Int}, Srt l → (∀ e ∈ l, lo < e.1 ∧ e.1 ≤ hi) → lo ≤ hi → (l.length : Int) ≤ hi - lo
  | [], lo, hi, _, _, h => by simp; omega
  | e :: l, lo, hi, hs, hb, h => by
    obtain ⟨h1, h2⟩ := List.pairwise_cons.1 hs
    have he := hb e (by simp)
    have := srt_len (lo := e.1) (hi := hi) h2 (fun x hx => ⟨h1 x hx, (hb x (by simp [hx])).2⟩) he.2
    rw [List.length_cons]
    omega
theorem V4.le {v : V2} (h : V4 v) : v.length ≤ 4 := by
  have := srt_len (l := v) (lo := 0) (hi := 4) h.val.2 (fun e he => by
    have hg := h.val.1 e he
    have hc := cnt_mem h.val.2 he
    have ha := h.a e.1
    refine ⟨by have := hg.1; omega, ?_⟩
    by_cases h4 : e.1 ≤ 4
    · exact h4
    · have := ha (by omega)
      have := hg.2.1
      omega) (by omega)
  omega
theorem V4.nil : V4 [] := ⟨val_nil, fun a => by simp [cnt], fun a _ => by simp [cnt]⟩
theorem V4.merge {u v : V2} (hu : V4 u) (hv : V4 v) : V4 (mergeI true u v) := by
  have m := mrg_is true hu.val hv.val
  refine ⟨m.val, fun a => ?_, fun a ha => ?_⟩
  · rw [m.cnt, bndT]
    have := hu.c a
    have := hv.c a
    split <;> omega
  · rw [m.cnt, bndT]
    have := hu.a a ha
    have := hv.a a ha
    split <;> omega
/-- What a proposer keeps. -/
structure PrW (p : PrS) (m : Int) (N : Nat) : Prop where
  n : p.n = m
  v : V4 p.v
  r0 : 0 ≤ p.r
  rN : p.r ≤ N
  asc : AscN p.acks
  al : p.acks.length ≤ N
theorem PrW.ok {p : PrS} {m : Int} {N : Nat} (h : PrW p m N) (hN : N < 1000000000) : PrOk p := ⟨h.v.val, by have := h.v.le; omega, h.asc, by have := h.al; omega, by have := h.rN; have := h.r0; omega⟩
theorem nextS_W {p : PrS} {m : Int} {N : Nat} (h : PrW p m N) {v : V2} (hv : V4 v) : PrW (nextS p v) m (N + 1) := ⟨h.n, h.v.merge hv, by have := h.r0; show 0 ≤ p.r + 1; omega, by have := h.rN; show p.r + 1 ≤ ((N + 1 : Nat) : Int); omega, List.Pairwise.nil, by show 0 ≤ _; omega⟩
theorem PrW.up {p : PrS} {m : Int} {N : Nat} (h : PrW p m N) : PrW p m (N + 1) := ⟨h.n, h.v, h.r0, by have := h.rN; omega, h.asc, by have := h.al; omega⟩
theorem propS_W {p : PrS} {m : Int} {N : Nat} (h : PrW p m N) {v : V2} (hv : V4 v) : PrW (propS p v) m (N + 1) := by
  unfold propS
  split
  · exact nextS_W h hv
  · exact h.up
theorem recvS_W {p : PrS} {m : Int} {N : Nat} (h : PrW p m N) (a r : Int) {v : V2} (hv : V4 v) : PrW (recvS p a r v).1 m (N + 1) := by
  unfold recvS
  split
  · exact h.up
  · split
    · exact ⟨h.n, h.v, h.r0, by have := h.rN; show p.r ≤ _; omega, insN_asc h.asc a, by have := h.al; have := insN_len p.acks a; show (insN p.acks a).length ≤ _; omega⟩
    · exact nextS_W h hv
/-- What holds of a group whose numbers are at most N. -/
structure GrW (g : GrS) (n N : Nat) : Prop where
  nn : GrN g n
  n4 : n ≤ 4
  al : 0 < g.accs.length ∧ g.accs.length ≤ 12
  a : ∀ v ∈ g.accs, V4 v
  p : ∀ p ∈ g.props, PrW p g.accs.length N
  i : ∀ l ∈ g.ins, l.length ≤ 3 ∧ ∀ v ∈ l, V4 v
  x : ∀ (i : Nat) (x : Int), g.nxt[i]? = some x → 0 ≤ x ∧ x ≤ 3
  k : ∀ k ∈ g.pks, V4 k.v ∧ (0 ≤ k.acc ∧ k.acc < g.accs.length) ∧ ∃ (i : Nat) (l : List V2), k.prop = i ∧ g.ins[i]? = some l ∧ 0 < l.length
  d : ∀ d ∈ g.decs, V4 d.v
  kl : g.pks.length ≤ N
  dl : g.decs.length ≤ N
  s : 0 ≤ g.steps ∧ g.steps ≤ N
theorem GrW.b {g : GrS} {n N : Nat} (h : GrW g n N) (hN : N < 100000000) : GrB g where
  al := by have := h.al; omega
  pl := by have := h.nn.p; have := h.n4; omega
  il := by have := h.nn.i; have := h.n4; omega
  nl := by have := h.nn.x; have := h.n4; omega
  kl := by have := h.kl; omega
  dl := by have := h.dl; omega
  a := fun v hv => by have := (h.a v hv).le; omega
  p := fun p hp => by have := (h.p p hp).v.le; have := (h.p p hp).al; omega
  i := fun l hl => ⟨by have := (h.i l hl).1; omega, fun v hv => by have := ((h.i l hl).2 v hv).le; omega⟩
  k := fun k hk => by have := (h.k k hk).1.le; omega
  d := fun d hd => by have := (h.d d hd).le; omega
theorem GrW.ok {g : GrS} {n N : Nat} (h : GrW g n N) (hN : N < 100000000) {p : PrS} (hp : p ∈ g.props) : PrOk p := (h.p p hp).ok (by omega)
/-- The packet taken out. -/
def takeS (g : GrS) (i : Nat) : GrS := { g with pks := delL g.pks i, steps := g.steps + 1 }
/-- A proposal arrives. -/
def askS (g : GrS) (k : PkS) (a : V2) : GrS := { g with accs := g.accs.set k.acc.toNat (mergeI true a k.v), pks := g.pks ++ [⟨true, k.prop, k.acc, k.round, mergeI true a k.v⟩] }
/-- A reply arrives. -/
def repS (g : GrS) (k : PkS) (p : PrS) (l : List V2) (x : Int) : GrS :=
  let i := k.prop.toNat
  let p' := (recvS p k.acc k.round k.v).1
  let g1 : GrS := { g with props := g.props.set i p' }
  if (recvS p k.acc k.round k.v).2 = true then sendS g1 i p'
  else if p'.dec = true ∧ p.dec = false then
    match l[x.toNat + 1]? with
    | some v => sendS (nextG (decS g1 i x p') i x p' v) i (propS p' v)
    | none => decS g1 i x p'
  else g1
def delivS (g : GrS) (i : Nat) : GrS := match g.pks[i]? with
  | none => g
  | some k => if k.reply = false then
      (match (takeS g i).accs[k.acc.toNat]? with
      | some a => askS (takeS g i) k a
      | none => takeS g i)
    else match g.props[k.prop.toNat]?, g.ins[k.prop.toNat]?, g.nxt[k.prop.toNat]? with
      | some p, some l, some x => repS (takeS g i) k p l x
      | _, _, _ => takeS g i
theorem deliv_no (g : GrS) {n N : Nat} (h : GrW g n N) (hN : N < 100000000) (i : Int) (hi : i < 0 ∨ i ≥ g.pks.length) : New Tryd.prog 38 [.agg (encGr g), .c (cI i)] (.agg (refG 0 g)) (sigG 0 g) 6 := by
  have hc := gclone_new g (h.b hN)
  obtain ⟨accs, props, ins, nxt, pks, decs, steps⟩ := g
  dsimp only at *
  refine new_drop teOk Tryd.func38 (by kernel_rfl) (c := _) rfl (N := 101) rfl (rs := [Go.ResultVar.cell 4 45]) rfl (by simp) fun base A w0 hA => ?_
  refine AW.st teOk [] (by simp [-Option.some.injEq] <;> rfl) trivial ?_
  refine AW.seq ?_
  refine AW.mid (fun s => s = ⟨[(2, .c (.ptr 0 0 0)), (4, .c (.ptr 1 0 0)), (16, .c (cB true))], [(0, ⟨7, [encGr ⟨accs, props, ins, nxt, pks, decs, steps⟩]⟩), (1, ⟨7, [nilG]⟩)], 2⟩) ?_ ?_
  · by_cases hi0 : i < 0
    · refine AW.text teOk (ans := []) (by simp [hi0, -Option.some.injEq] <;> rfl) ?_ ?_
      · trivial
      exact ⟨_, Weak.normS hA [2, 4, 16] [(2, 0), (4, 1)] [] [] 2 _ (by simp) (by simp) (by simp), by simp⟩
    · have hi1 : i ≥ pks.length := by omega
      refine AW.text teOk (ans := []) (by simp [hi0, hi1, -Option.some.injEq] <;> rfl) ?_ ?_
      · trivial
      exact ⟨_, Weak.normS hA [2, 4, 16] [(2, 0), (4, 1)] [] [] 2 _ (by simp) (by simp) (by simp), by simp⟩
  rintro s rfl
  refine AW.iff true (by simp) (fun _ => ?_) (fun h => by cases h)
  refine AW.st teOk [.new (.agg (refG 0 ⟨accs, props, ins, nxt, pks, decs, steps⟩)) (sigG 0 ⟨accs, props, ins, nxt, pks, decs, steps⟩) 6] (by simp [-Option.some.injEq] <;> rfl) ?_ ?_
  · exact hc
  refine AW.ret ⟨.inr rfl, _, _, Weak.refl _, by simp <;> rfl, ?_⟩
  exact Weak.be (Weak.normS hA [0] [] [(3, 0), (4, 1), (5, 2), (6, 3), (7, 4), (8, 5)] [] 6 _ (by simp) (by simp) (by simp)) (by simp)
theorem deliv_new (g : GrS) {n N : Nat} (h : GrW g n N) (hN : N < 100000000) (i : Nat) (hi : i < g.pks.length) : New Tryd.prog 38 [.agg (encGr g), .c (cI i)] (.agg (refG 0 (delivS g i))) (sigG 0 (delivS g i)) 6 := by
  have hc := gclone_new g (h.b hN)
  obtain ⟨k, hk⟩ : ∃ k, g.pks[i]? = some k := ⟨_, List.getElem?_eq_getElem hi⟩
  obtain ⟨hkv, hka, q, l, hkp, hl, hl0⟩ := h.k k (List.mem_of_getElem? hk)
  have hq : q < n := by have := (List.getElem?_eq_some_iff.1 hl).1; have := h.nn.i; omega
  obtain ⟨p, hp⟩ : ∃ p, g.props[q]? = some p := ⟨_, List.getElem?_eq_getElem (by have := h.nn.p; omega)⟩
  obtain ⟨x, hx⟩ : ∃ x, g.nxt[q]? = some x := ⟨_, List.getElem?_eq_getElem (by have := h.nn.x; omega)⟩
  have hx0 := h.x q x hx
  obtain ⟨a, ha⟩ : ∃ a, g.accs[k.acc.toNat]? = some a := ⟨_, List.getElem?_eq_getElem (by omega)⟩
  have hG : delivS g i = if k.reply = false then askS (takeS g i) k a else repS (takeS g i) k p l x := by
    unfold delivS
    rw [hk]
    simp only
    have e1 : (takeS g i).accs[k.acc.toNat]? = some a := ha
    have e2 : k.prop.toNat = q := by omega
    rw [e1, e2, hp, hl, hx]
  have hdl := delL_len g.pks i hi
  have hdc := del_con (g.pks.map encPk) (flat_encPk _) i (by simpa using hi) (by have := h.kl; simp; omega)
  rw [delL_map, List.length_map, ← hdl] at hdc
  have hst := h.s
  have hkl := h.kl
  rw [hG]
  clear hG
  have hT : GrN (takeS g i) n := ⟨h.nn.p, h.nn.i, h.nn.x, h.nn.b⟩
  obtain ⟨accs, props, ins, nxt, pks, decs, steps⟩ := g
  dsimp only at *
  have hinc : IntKind.i64.wrap (steps + 1) = steps + 1 := by rw [IntKind.wrap_i64]; omega
  have hic : IntKind.i64.wrap ((i : Int) + 1) = (i : Int) + 1 := wrap_s _ (by omega)
  have hi0 : ¬ ((i : Int) < 0) := by omega
  have hi1 : ¬ ((i : Int) ≥ pks.length) := by omega
  refine new_drop teOk Tryd.func38 (by kernel_rfl) (c := _) rfl (N := 101) rfl (rs := [Go.ResultVar.cell 4 45]) rfl (by simp) fun base A w0 hA => ?_
  refine AW.st teOk [] (by simp [-Option.some.injEq] <;> rfl) trivial ?_
  refine AW.seq ?_
  refine AW.st teOk [] (by simp [hi0, hi1, -Option.some.injEq] <;> rfl) trivial ?_
  refine AW.iff false (by simp) (fun h => by cases h) (fun _ => AW.skip ?_)
  refine AW.st teOk [.new (.agg (refG 0 ⟨accs, props, ins, nxt, pks, decs, steps⟩)) (sigG 0 ⟨accs, props, ins, nxt, pks, decs, steps⟩) 6] (by simp [-Option.some.injEq] <;> rfl) ?_ ?_
  · exact hc
  refine AW.st teOk [] (by simp [hk, -Option.some.injEq] <;> rfl) ?_ ?_
  · simpa using hi
  refine AW.to (s2 := ⟨[(1, .c (cI i)), (2, .c (.ptr 0 0 0)), (4, .c (.ptr 1 0 0)), (5, .c (.ptr 2 0 0))], [(0, ⟨7, [[.ref 3 0 accs.length, .ref 4 0 props.length, .ref 5 0 ins.length, .ref 6 0 nxt.length, .ref 1000001 0 pks.length, .ref 8 0 decs.length, cI steps]]⟩), (1, ⟨7, [nilG]⟩), (2, ⟨5, [encPk k]⟩), (3, ⟨1, accs.map encC⟩), (4, ⟨5, props.map encPr'⟩), (5, ⟨1, ins.map encIn⟩), (6, ⟨1, nxt.map encn⟩), (8, ⟨4, decs.map encDe⟩), (1000001, ⟨5, pks.map encPk⟩)], 1000015⟩) (Weak.normS hA [1, 2, 4, 5] [(2, 0), (4, 1), (5, 2)] [(12, 3), (13, 4), (14, 5), (15, 6), (17, 8), (16, 1000001)] [0] 1000015 _ (by simp) (by simp) (by simp)) (by simp) ?_
  have htake : delL pks i = (takeS ⟨accs, props, ins, nxt, pks, decs, steps⟩ i).pks := rfl
  obtain ⟨ks, hks⟩ : ∃ ks, ks = delL pks i := ⟨_, rfl⟩
  rw [← hks] at hdc hdl
  have hG1 : takeS ⟨accs, props, ins, nxt, pks, decs, steps⟩ i = ⟨accs, props, ins, nxt, ks, decs, steps + 1⟩ := by unfold takeS; rw [hks]
  rw [hG1] at hT ⊢
  refine AW.st teOk [.own (.c (.ref 1000001 0 ks.length)) [(1000001, ⟨5, ks.map encPk ++ [zeroK]⟩)] 1000040] (by simp [hic, -Option.some.injEq] <;> rfl) ?_ ?_
  · exact hdc
  have htk : (ks.map encPk ++ [zeroK]).take ks.length = ks.map encPk := by
    rw [List.take_append_of_le_length (by simp), List.take_of_length_le (by simp)]
  refine AW.st teOk [] (by simp [hinc, -Option.some.injEq] <;> rfl) trivial ?_
  refine AW.to (s2 := ⟨[(2, .c (.ptr 1000000 0 0)), (4, .c (.ptr 1 0 0)), (5, .c (.ptr 2 0 0))], [(1, ⟨7, [nilG]⟩), (2, ⟨5, [encPk k]⟩)] ++ conG ⟨accs, props, ins, nxt, ks, decs, steps + 1⟩, 1000016⟩) ((Weak.shrink 1000001 ks.length _ (by simp <;> rfl)).trans (Weak.normS hA [2, 4, 5] [(2, 1000000), (4, 1), (5, 2)] [(1000001, 1000001), (3, 1000002), (4, 1000003), (5, 1000004), (6, 1000005), (8, 1000006)] [0] 1000016 _ (by simp [putA]) (by simp [putA]) (by simp [putA, htk]))) (by simp [putA, htk]) ?_
  have hksl : ks.length < 100000000 := by omega
  clear hks htake hG1 hdc htk hc hi hi0 hi1 hic hinc hdl
  refine AW.seq ?_
  obtain ⟨kb, kp, ka, kr, kv⟩ := k
  dsimp only at *
  subst hkp
  have hav := (h.a a (List.mem_of_getElem? ha))
  have hm := merge_nil hav.val
  cases kb with
  | false =>
    obtain ⟨j, rfl⟩ : ∃ j : Nat, ka = j := ⟨ka.toNat, by omega⟩
    simp only [Int.toNat_natCast] at ha
    have hja : (j : Int) < accs.length := hka.2
    have hjl := (List.getElem?_eq_some_iff.1 ha).1
    have hpa := accept1_pure a kv hkv.val.2 (by have := hkv.le; have := hav.le; omega)
    rw [self, hm] at hpa
    have hmv := (mrg_is true hav.val hkv.val).val
    have hml := mergeI_length true a kv
    have hmj := joinN_pure hmv (by have := hkv.le; have := hav.le; omega)
    rw [if_pos rfl, askS]
    simp only [Int.toNat_natCast]
    generalize mergeI true a kv = m at *
    refine AW.st teOk [] (by simp [-Option.some.injEq] <;> rfl) trivial ?_
    refine AW.iff true (by simp) (fun _ => ?_) (fun h => by cases h)
    refine AW.seq ?_
    refine AW.st teOk [] (by simp [hja, -Option.some.injEq] <;> rfl) trivial ?_
    refine AW.iff true (by simp) (fun _ => ?_) (fun h => by cases h)
    refine AW.dr mixed teOk [.tup [.agg [encV m], .c (cB (leI a kv))]] (by simp [ha, -Option.some.injEq] <;> rfl) (by kernel_rfl) (by kernel_rfl) ?_ ?_
    · simp [allP]
      exact ⟨hjl, hpa⟩
    refine AW.st teOk [] (by simp [ha, -Option.some.injEq] <;> rfl) ?_ ?_
    · exact hjl
    have hset : (accs.map encC).set j [encV m] = (accs.set j m).map encC := set_enc encC accs j m
    have hfl : flatO ⟨1, (accs.map encC).set j [encV m]⟩ = true := by rw [hset]; exact flat_encC _
    refine AW.draw mixed teOk (ans := [.c (encV m)]) (by simp [-Option.some.injEq] <;> rfl) (by kernel_rfl) (by kernel_rfl) ?_ ?_
    · simp [allP, growOk]
      exact ⟨hmj, by omega, by omega⟩
    refine AW.st teOk [] (by simp [-Option.some.injEq] <;> rfl) trivial ?_
    refine AW.ret ⟨.inr rfl, _, _, Weak.refl _, by simp <;> rfl, ?_⟩
    exact Weak.be (Weak.normS hA [0] [] [(1000002, 0), (1000003, 1), (1000004, 2), (1000005, 3), (1000063, 4), (1000006, 5)] [] 6 _ (by simp) (by simp) (by simp [hfl])) (by simp)
  | true =>
    rw [if_neg (by simp)]
    have okp := h.ok hN (List.mem_of_getElem? hp)
    have hpw := recvS_W (h.p p (List.mem_of_getElem? hp)) ka kr hkv
    obtain ⟨hll, hlv⟩ := h.i l (List.mem_of_getElem? hl)
    have hrc := recv_con ⟨accs, props, ins, nxt, ks, decs, steps + 1⟩ hT ⟨true, q, ka, kr, kv⟩ q rfl p hp l hl hl0 okp (by have := hkv.le; dsimp only; omega)
    unfold repS
    simp only [Int.toNat_natCast] at *
    obtain ⟨⟨p', again⟩, hr⟩ : ∃ r, r = recvS p ka kr kv := ⟨_, rfl⟩
    rw [← hr] at hrc hpw ⊢
    dsimp only at hrc hpw ⊢
    refine AW.st teOk [] (by simp [-Option.some.injEq] <;> rfl) trivial ?_
    refine AW.iff false (by simp) (fun h => by cases h) (fun _ => AW.skip ?_)
    obtain ⟨g1, hg1⟩ : ∃ g1 : GrS, g1 = ⟨accs, props.set q p', ins, nxt, ks, decs, steps + 1⟩ := ⟨_, rfl⟩
    obtain ⟨G, hG⟩ : ∃ G : GrS, G = (if again = true then sendS g1 q p' else if p'.dec = true ∧ p.dec = false then (match l[x.toNat + 1]? with | some v => sendS (nextG (decS g1 q x p') q x p' v) q (propS p' v) | none => decS g1 q x p') else g1) := ⟨_, rfl⟩
    rw [← hg1] at hrc ⊢
    rw [← hG]
    refine AW.mid (fun s => s = ⟨[(2, .c (.ptr 1000000 0 0)), (4, .c (.ptr 1 0 0))], [(1, ⟨7, [nilG]⟩)] ++ conG G, 1000016⟩) ?_ ?_
    · refine AW.st teOk [.own (.c (cI (phaseS p p' again))) (conG g1) 1000100] (by simp [-Option.some.injEq] <;> rfl) ?_ ?_
      · exact hrc
      refine AW.block ?_
      have hpg1 : g1.props[q]? = some p' := by rw [hg1]; exact List.getElem?_set_self (List.getElem?_eq_some_iff.1 hp).1
      have hn' : 0 < p'.n ∧ p'.n ≤ 12 := by rw [hpw.n]; have := h.al; dsimp only at this ⊢; omega
      have hv' : p'.v.length < 1000000000 := by have := hpw.v.le; omega
      have hk1 : g1.pks.length < 1000000000 := by rw [hg1]; show ks.length < _; omega
      cases again with
      | true =>
        rw [if_pos rfl] at hG
        have hsc := send_con g1 q p' hpg1 hn' hv' hk1
        rw [← hG] at hsc
        refine AW.st teOk [] (by simp [-Option.some.injEq] <;> rfl) trivial ?_
        refine AW.iff true (by simp [phaseS]) (fun _ => ?_) (fun h => by cases h)
        refine AW.to (s2 := ⟨[(2, .c (.ptr 1000000 0 0)), (4, .c (.ptr 1 0 0)), (5, .c (.ptr 2 0 0))], [(1, ⟨7, [nilG]⟩), (2, ⟨5, [encPk ⟨true, q, ka, kr, kv⟩]⟩)] ++ conG g1, 1000018⟩) (Weak.normS hA [2, 4, 5] [(2, 1000000), (4, 1), (5, 2)] [(1000001, 1000001), (1000002, 1000002), (1000003, 1000003), (1000004, 1000004), (1000005, 1000005), (1000006, 1000006)] [1000000] 1000018 _ (by simp) (by simp) (by simp)) (by simp) ?_
        refine AW.text teOk (ans := [.own (.tup []) (conK G) 1000022]) (by simp [-Option.some.injEq] <;> rfl) ?_ ?_
        · exact hsc
        exact ⟨_, Weak.normS hA [2, 4] [(2, 1000000), (4, 1)] [(1000020, 1000001), (1000002, 1000002), (1000003, 1000003), (1000004, 1000004), (1000005, 1000005), (1000006, 1000006)] [1000000] 1000016 _ (by simp) (by simp) (by simp), by simp⟩
      | false =>
        rw [if_neg (by simp)] at hG
        refine AW.st teOk [] (by simp [-Option.some.injEq] <;> rfl) trivial ?_
        refine AW.iff false (by simp [phaseS]; split <;> simp) (fun h => by cases h) (fun _ => ?_)
        by_cases hdc : p'.dec = true ∧ p.dec = false
        · rw [if_pos hdc] at hG
          obtain ⟨y, rfl⟩ : ∃ y : Nat, x = y := ⟨x.toNat, by omega⟩
          simp only [Int.toNat_natCast] at hG
          have hdcn := decide_con g1 q p' hpg1 l (by rw [hg1]; exact hl) y (by rw [hg1]; exact hx) (by omega) (by omega) (hpw.ok (by omega)) (by rw [hg1]; have := h.dl; dsimp only at this ⊢; omega) (fun v hv => by have := (hlv v hv).le; omega)
          refine AW.st teOk [] (by simp [-Option.some.injEq] <;> rfl) trivial ?_
          refine AW.iff true (by simp [phaseS, hdc]) (fun _ => ?_) (fun h => by cases h)
          refine AW.to (s2 := ⟨[(2, .c (.ptr 1000000 0 0)), (4, .c (.ptr 1 0 0)), (5, .c (.ptr 2 0 0))], [(1, ⟨7, [nilG]⟩), (2, ⟨5, [encPk ⟨true, q, ka, kr, kv⟩]⟩)] ++ conG g1, 1000018⟩) (Weak.normS hA [2, 4, 5] [(2, 1000000), (4, 1), (5, 2)] [(1000001, 1000001), (1000002, 1000002), (1000003, 1000003), (1000004, 1000004), (1000005, 1000005), (1000006, 1000006)] [1000000] 1000018 _ (by simp) (by simp) (by simp)) (by simp) ?_
          by_cases hlast : y + 1 < l.length
          · obtain ⟨v, hv⟩ : ∃ v, l[y + 1]? = some v := ⟨_, List.getElem?_eq_getElem hlast⟩
            rw [hv] at hdcn hG
            dsimp only at hdcn hG
            obtain ⟨G1, hG1⟩ : ∃ G1, G1 = nextG (decS g1 q y p') q y p' v := ⟨_, rfl⟩
            rw [← hG1] at hdcn hG
            have hv4 := hlv v (List.mem_of_getElem? hv)
            have hpw2 := propS_W hpw hv4
            have hpg2 : G1.props[q]? = some (propS p' v) := by rw [hG1]; exact List.getElem?_set_self (List.getElem?_eq_some_iff.1 hpg1).1
            have hsc := send_con G1 q (propS p' v) hpg2 (by rw [hpw2.n]; have := h.al; dsimp only at this ⊢; omega) (by have := hpw2.v.le; omega) (by rw [hG1]; exact hk1)
            rw [← hG] at hsc
            refine AW.st teOk [.own (.c (cB (decide (y + 1 < l.length)))) (conD G1) 1000200] (by simp [-Option.some.injEq] <;> rfl) ?_ ?_
            · exact hdcn
            refine AW.iff true (by simp [hlast]) (fun _ => ?_) (fun h => by cases h)
            refine AW.to (s2 := ⟨[(2, .c (.ptr 1000000 0 0)), (4, .c (.ptr 1 0 0)), (5, .c (.ptr 2 0 0))], [(1, ⟨7, [nilG]⟩), (2, ⟨5, [encPk ⟨true, q, ka, kr, kv⟩]⟩)] ++ conG G1, 1000018⟩) (Weak.normS hA [2, 4, 5] [(2, 1000000), (4, 1), (5, 2)] [(1000001, 1000001), (1000002, 1000002), (1000003, 1000003), (1000004, 1000004), (1000005, 1000005), (1000020, 1000006)] [1000000] 1000018 _ (by simp) (by simp) (by simp)) (by simp) ?_
            refine AW.text teOk (ans := [.own (.tup []) (conK G) 1000022]) (by simp [-Option.some.injEq] <;> rfl) ?_ ?_
            · exact hsc
            exact ⟨_, Weak.normS hA [2, 4] [(2, 1000000), (4, 1)] [(1000020, 1000001), (1000002, 1000002), (1000003, 1000003), (1000004, 1000004), (1000005, 1000005), (1000006, 1000006)] [1000000] 1000016 _ (by simp) (by simp) (by simp), by simp⟩
          · have hv : l[y + 1]? = none := List.getElem?_eq_none (by omega)
            rw [hv] at hdcn hG
            dsimp only at hdcn hG
            rw [← hG] at hdcn
            refine AW.st teOk [.own (.c (cB (decide (y + 1 < l.length)))) (conD G) 1000200] (by simp [-Option.some.injEq] <;> rfl) ?_ ?_
            · exact hdcn
            refine AW.iff false (by simp [hlast]) (fun h => by cases h) (fun _ => AW.skip ?_)
            exact ⟨_, Weak.normS hA [2, 4] [(2, 1000000), (4, 1)] [(1000001, 1000001), (1000002, 1000002), (1000003, 1000003), (1000004, 1000004), (1000005, 1000005), (1000020, 1000006)] [1000000] 1000016 _ (by simp) (by simp) (by simp), by simp⟩
        · rw [if_neg hdc] at hG
          refine AW.st teOk [] (by simp [-Option.some.injEq] <;> rfl) trivial ?_
          refine AW.iff false (by simp [phaseS, hdc]) (fun h => by cases h) (fun _ => AW.skip ?_)
          rw [hG]
          exact ⟨_, Weak.normS hA [2, 4] [(2, 1000000), (4, 1)] [(1000001, 1000001), (1000002, 1000002), (1000003, 1000003), (1000004, 1000004), (1000005, 1000005), (1000006, 1000006)] [1000000] 1000016 _ (by simp) (by simp) (by simp), by simp⟩
    rintro s rfl
    refine AW.st teOk [] (by simp [-Option.some.injEq] <;> rfl) trivial ?_
    refine AW.ret ⟨.inr rfl, _, _, Weak.refl _, by simp <;> rfl, ?_⟩
    exact Weak.be (Weak.normS hA [0] [] [(1000002, 0), (1000003, 1), (1000004, 2), (1000005, 3), (1000001, 4), (1000006, 5)] [] 6 _ (by simp) (by simp) (by simp)) (by simp)
end Go.Proofs.YtphlhadgcfndhaaDoor.Abs
end
