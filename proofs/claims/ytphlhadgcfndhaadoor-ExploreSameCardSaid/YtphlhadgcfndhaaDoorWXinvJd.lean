/- Explore: what holds of every state that is reached. -/
import Derived.Test.YtphlhadgcfndhaaDoorJd7
namespace Go.Proofs.YtphlhadgcfndhaaDoor.Abs
open Go Go.RowKit
set_option linter.unusedVariables false
set_option linter.unusedSimpArgs false
set_option maxHeartbeats 4000000
theorem can_W {g : GrS} {n N : Nat} (h : GrW g n N) : GrW (canG g) n N :=
  ⟨⟨h.nn.p, h.nn.i, h.nn.x, h.nn.b⟩, h.n4, h.al, h.a, h.p, h.i, h.x, fun k hk => h.k k (sortP_mem.1 hk), fun d hd => by
    obtain ⟨e, he, rfl⟩ := List.mem_map.1 hd
    exact h.d e he, by show (sortP g.pks).length ≤ N; rw [sortP_len]; exact h.kl, by show (g.decs.map _).length ≤ N; rw [List.length_map]; exact h.dl, ⟨Int.le_refl _, by show (0 : Int) ≤ N; omega⟩⟩
theorem lose_W' {g : GrS} {n N : Nat} (h : GrW g n N) (i : Nat) : GrW { g with pks := delL g.pks i } n N :=
  ⟨⟨h.nn.p, h.nn.i, h.nn.x, h.nn.b⟩, h.n4, h.al, h.a, h.p, h.i, h.x, fun k hk => h.k k (mem_delL hk), h.d, by
    show (delL g.pks i).length ≤ N
    have := h.kl
    unfold delL
    rw [List.length_append, List.length_take, List.length_drop]
    omega, h.dl, h.s⟩
def forgG (g : GrS) (i : Nat) : GrS := { g with accs := g.accs.set i [] }
theorem mem_set_nil {l : List V2} {i : Nat} {v : V2} (h : v ∈ l.set i []) : v = [] ∨ v ∈ l := by
  rcases List.mem_or_eq_of_mem_set h with h | h
  · exact .inr h
  · exact .inl h
theorem forg_W {g : GrS} {n N : Nat} (h : GrW g n N) (i : Nat) : GrW (forgG g i) n N :=
  ⟨⟨h.nn.p, h.nn.i, h.nn.x, h.nn.b⟩, h.n4, by show 0 < (g.accs.set i []).length ∧ (g.accs.set i []).length ≤ 12; rw [List.length_set]; exact h.al, fun v hv => by
    rcases mem_set_nil hv with rfl | hv
    · exact V4.nil
    · exact h.a v hv, fun p hp => by
    have := h.p p hp
    show PrW p ((g.accs.set i []).length : Nat) N
    rw [List.length_set]
    exact this, h.i, h.x, fun k hk => by
    obtain ⟨h1, h2, h3⟩ := h.k k hk
    refine ⟨h1, ⟨h2.1, ?_⟩, h3⟩
    show k.acc < ((g.accs.set i []).length : Nat)
    rw [List.length_set]
    exact h2.2, h.d, h.kl, h.dl, h.s⟩
/-- Kept where packets change their places and numbers of steps go. -/
theorem can_V {all : V2} {g : GrS} (h : InvV all g) : InvV all (canG g) :=
  ⟨h.ac, h.pr, fun k hk => h.pk k (sortP_mem.1 hk), h.inp, h.cu, fun d hd => by
    obtain ⟨e, he, rfl⟩ := List.mem_map.1 hd
    exact h.de e he, by
    show (g.decs.map _).Pairwise _
    rw [List.pairwise_map]
    exact h.or⟩
theorem lose_V {all : V2} {g : GrS} (h : InvV all g) (i : Nat) : InvV all { g with pks := delL g.pks i } :=
  ⟨h.ac, h.pr, fun k hk => h.pk k (mem_delL hk), h.inp, h.cu, h.de, h.or⟩
theorem forg_V {all : V2} (ha : Val all) {g : GrS} (h : InvV all g) (i : Nat) : InvV all (forgG g i) :=
  ⟨fun v hv => by
    rcases mem_set_nil hv with rfl | hv
    · exact nil_sub ha
    · exact h.ac v hv, h.pr, h.pk, h.inp, h.cu, h.de, h.or⟩
theorem decsOf_can (l : List DeS) (i : Nat) : decsOf (l.map fun d => { d with step := 0 }) i = decsOf l i := by
  unfold decsOf
  rw [List.filter_map, List.map_map]
  rfl
theorem can_E {dead : Nat → Bool} {g : GrS} (h : InvE dead g) : InvE dead (canG g) := by
  refine ⟨fun i hi => ?_, fun i p l x hp hl hx hne => ?_, fun d hd => ?_⟩
  · show decsOf (g.decs.map _) i = []
    rw [decsOf_can]
    exact h.e i hi
  · obtain ⟨h1, h2, h3, h4⟩ := h.f i p l x hp hl hx hne
    refine ⟨h1, h2, ?_, fun hd => ⟨(h4 hd).1, fun a ha hda => ?_⟩⟩
    · show decsOf (g.decs.map _) i = _
      rw [decsOf_can]
      exact h3
    · rcases (h4 hd).2 a ha hda with h5 | ⟨k, hk, h6⟩
      · exact .inl h5
      · exact .inr ⟨k, sortP_mem.2 hk, h6⟩
  · obtain ⟨e, he, rfl⟩ := List.mem_map.1 hd
    exact h.r e he
theorem forg_E {dead : Nat → Bool} {g : GrS} (h : InvE dead g) (i : Nat) : InvE dead (forgG g i) := by
  refine ⟨h.e, fun j p l x hp hl hx hne => ?_, h.r⟩
  obtain ⟨h1, h2, h3, h4⟩ := h.f j p l x hp hl hx hne
  refine ⟨h1, h2, h3, fun hd => ⟨(h4 hd).1, fun a ha hda => (h4 hd).2 a ?_ hda⟩⟩
  have : a < (g.accs.set i []).length := ha
  rwa [List.length_set] at this
def allD : Nat → Bool := fun _ => true
/-- A bound of the packets: where there are at most two acceptors. -/
def phi (g : GrS) : Int := (g.pks.length : Int) + ((g.props.map fun p => 4 - sizV p.v).sum + 2 - g.nxt.sum)
theorem del_len {l : List PkS} {i : Nat} {k : PkS} (hk : l[i]? = some k) : (delL l i).length + 1 = l.length := by
  have h := (List.getElem?_eq_some_iff.1 hk).1
  have := delL_len l i h
  omega
theorem case_phi {g : GrS} {n N : Nat} (hw : GrW g n N) (h2 : g.accs.length ≤ 2) {i : Nat} {k : PkS} (hk : g.pks[i]? = some k) {g' : GrS} (c : DCase g i k g') : phi g' ≤ phi g := by
  have hkm := List.mem_of_getElem? hk
  obtain ⟨hkv, hka, q, l0, hkp, hl0, hl0'⟩ := hw.k k hkm
  have hd := del_len hk
  cases c with
  | ask a hr ha =>
    unfold phi
    dsimp only
    rw [List.length_append]
    simp only [List.length_singleton]
    omega
  | idle p hr hp hdc =>
    unfold phi
    dsimp only
    omega
  | again p hr hp hdc hkr hle =>
    have hpw := hw.p p (List.mem_of_getElem? hp)
    have hn := hpw.n
    unfold phi
    dsimp only
    rw [List.length_append, propsTo_len, sum_set (fun p => 4 - sizV p.v) g.props _ _ p hp]
    have := siz_lt hpw.v hkv hle
    have e : (nextS p k.v).v = mergeI true p.v k.v := rfl
    rw [e]
    omega
  | ack p hr hp hdc hkr hle hn =>
    unfold phi
    dsimp only
    rw [sum_set (fun p => 4 - sizV p.v) g.props _ _ p hp, show (ackS p k.acc).v = p.v from rfl]
    omega
  | last p l x hr hp hdc hkr hle hn hl hx hv =>
    unfold phi
    dsimp only
    rw [sum_set (fun p => 4 - sizV p.v) g.props _ _ p hp, show (ackS p k.acc).v = p.v from rfl]
    omega
  | next p l x v hr hp hdc hkr hle hn hl hx hv =>
    have hpw := hw.p p (List.mem_of_getElem? hp)
    have hpn := hpw.n
    have hvv := (hw.i l (List.mem_of_getElem? hl)).2 v (List.mem_of_getElem? hv)
    unfold phi
    dsimp only
    have hnx := sum_set (fun x : Int => x) g.nxt k.prop.toNat (x + 1) x hx
    rw [List.map_id', List.map_id'] at hnx
    rw [List.length_append, propsTo_len, sum_set (fun p => 4 - sizV p.v) g.props _ _ p hp, hnx]
    have := siz_mono (sub_l hpw.v.val hvv.val)
    have e : (nextS p v).v = mergeI true p.v v := rfl
    rw [e]
    omega
/-- What holds of every state of an exploration; N bounds its numbers. -/
structure XInv (ins : List (List V2)) (all : V2) (m N : Nat) (g : GrS) : Prop where
  w : GrW g ins.length N
  v : InvV all g
  e : InvE allD g
  p : phi g ≤ 14
  al : g.accs.length = m
  i : g.ins = ins
  z : ∀ (i : Nat) (x : Int), g.nxt[i]? = some x → g.ins[i]? = some [] → x = 0
/-- What a program is made of. -/
structure XIns (ins : List (List V2)) (all : V2) (m : Nat) : Prop where
  m : 1 ≤ m ∧ m ≤ 2
  len : ins.length ≤ 2
  two : ∀ l ∈ ins, l.length ≤ 2 ∧ ∀ v ∈ l, V4 v ∧ Sub v all
  va : V4 all
  sz : sizV all ≤ 4
theorem XIns.ok {ins : List (List V2)} {all : V2} {m : Nat} (h : XIns ins all m) : InsOk ins := ⟨by have := h.len; omega, fun l hl => ⟨by have := (h.two l hl).1; omega, fun v hv => ((h.two l hl).2 v hv).1⟩⟩
theorem XInv.pks {ins : List (List V2)} {all : V2} {m N : Nat} {g : GrS} (h0 : XIns ins all m) (h : XInv ins all m N g) : g.pks.length ≤ 14 := by
  have h1 : 0 ≤ (g.props.map fun p => 4 - sizV p.v).sum := nn_sum _ fun x hx => by
    obtain ⟨p, hp, rfl⟩ := List.mem_map.1 hx
    have := siz_mono (h.v.pr p hp)
    have := h0.sz
    omega
  have h2 : g.nxt.sum ≤ 1 * g.nxt.length := le_sum 1 _ fun x hx => by
    obtain ⟨i, hi⟩ := List.mem_iff_getElem?.1 hx
    have hil := (List.getElem?_eq_some_iff.1 hi).1
    have e1 := h.w.nn.x
    have e2 := h.w.nn.i
    have e3 := h.w.nn.p
    obtain ⟨p, hp⟩ : ∃ p, g.props[i]? = some p := ⟨_, List.getElem?_eq_getElem (by omega)⟩
    obtain ⟨l, hl⟩ : ∃ l, g.ins[i]? = some l := ⟨_, List.getElem?_eq_getElem (by omega)⟩
    by_cases hne : l = []
    · subst hne
      have := h.z i x hi hl
      omega
    · have h3 := (h.e.f i p l x hp hl hi hne).1
      have h4 : l.length ≤ 2 := (h0.two l (by rw [← h.i]; exact List.mem_of_getElem? hl)).1
      have := (h.w.x i x hi).1
      omega
  have := h.w.nn.x
  have := h0.len
  have := h.p
  unfold phi at this
  omega
theorem XInv.ow {ins : List (List V2)} {all : V2} {m N M : Nat} {g : GrS} (h : XInv ins all m N g) (hM : N ≤ M) : XInv ins all m M g :=
  ⟨⟨h.w.nn, h.w.n4, h.w.al, h.w.a, fun p hp => (h.w.p p hp).mono hM, h.w.i, h.w.x, h.w.k, h.w.d, by have := h.w.kl; omega, by have := h.w.dl; omega, by have := h.w.s; omega⟩, h.v, h.e, h.p, h.al, h.i, h.z⟩
theorem can_X {ins : List (List V2)} {all : V2} {m N : Nat} {g : GrS} (h : XInv ins all m N g) : XInv ins all m N (canG g) :=
  ⟨can_W h.w, can_V h.v, can_E h.e, by
    have := h.p
    unfold phi at this ⊢
    show ((sortP g.pks).length : Int) + _ ≤ _
    rw [sortP_len]
    exact this, h.al, h.i, h.z⟩
theorem forg_X {ins : List (List V2)} {all : V2} {m N : Nat} (h0 : XIns ins all m) {g : GrS} (h : XInv ins all m N g) (i : Nat) : XInv ins all m N (forgG g i) :=
  ⟨forg_W h.w i, forg_V h0.va.val h.v i, forg_E h.e i, h.p, by show (g.accs.set i []).length = m; rw [List.length_set]; exact h.al, h.i, h.z⟩
theorem lose_X {ins : List (List V2)} {all : V2} {m N : Nat} {g : GrS} (h : XInv ins all m N g) {i : Nat} (hi : i < g.pks.length) : XInv ins all m N { g with pks := delL g.pks i } :=
  ⟨lose_W' h.w i, lose_V h.v i, lose_E h.e (List.getElem?_eq_getElem hi) rfl, by
    have := h.p
    have := delL_len g.pks i hi
    unfold phi at *
    dsimp only
    omega, h.al, h.i, h.z⟩
theorem case_z {g : GrS} {i : Nat} {k : PkS} (hz : ∀ (i : Nat) (x : Int), g.nxt[i]? = some x → g.ins[i]? = some [] → x = 0) {g' : GrS} (c : DCase g i k g') : ∀ (i : Nat) (x : Int), g'.nxt[i]? = some x → g'.ins[i]? = some [] → x = 0 := by
  cases c with
  | next p l x v hr hp hdc hkr hle hn hl hx hv =>
    intro j y hy hj
    dsimp only at hy hj
    rcases get_set hy with ⟨rfl, rfl⟩ | ⟨_, hy⟩
    · rw [hl] at hj
      cases hj
      simp at hv
    · exact hz j y hy hj
  | _ => exact hz
theorem case_fix {g : GrS} {i : Nat} {k : PkS} {g' : GrS} (c : DCase g i k g') : g'.accs.length = g.accs.length ∧ g'.ins = g.ins := by
  cases c <;> simp
theorem deliv_X {ins : List (List V2)} {all : V2} {m N : Nat} (h0 : XIns ins all m) {g : GrS} (h : XInv ins all m N g) {i : Nat} (hi : i < g.pks.length) : XInv ins all m (N + 14) (delivS g i) := by
  have hk : g.pks[i]? = some g.pks[i] := List.getElem?_eq_getElem hi
  have c := deliv_case h.w hk
  have hf := case_fix c
  exact ⟨case_W h.w hk c, case_V h.w h.v hk c, case_E h.w h.e hk c, by have := case_phi h.w (by rw [h.al]; exact h0.m.2) hk c; have := h.p; omega, hf.1.trans h.al, hf.2.trans h.i, case_z h.z c⟩
theorem new_X {ins : List (List V2)} {all : V2} {m : Nat} (h0 : XIns ins all m) : XInv ins all m 100 (newG m ins) := by
  have h := new_is m ins
  have hm := h0.m
  refine ⟨new_W ⟨hm.1, by omega⟩ h0.ok, new_V h0.va.val fun l hl v hv => ((h0.two l hl).2 v hv).2, new_E _, ?_, by rw [h.accs, List.length_replicate], h.ins, fun i x hx _ => ?_⟩
  · have h1 := h.pl
    have h2 : (newG m ins).nxt.sum = 0 := by
      rw [h.nxt]
      induction ins.length with
      | zero => rfl
      | succ k ih => rw [List.replicate_succ, List.sum_cons, ih]; rfl
    have h3 : ((newG m ins).props.map fun p => 4 - sizV p.v).sum ≤ 4 * ((newG m ins).props.map fun p => 4 - sizV p.v).length := le_sum 4 _ fun x hx => by
      obtain ⟨p, hp, rfl⟩ := List.mem_map.1 hx
      have := (siz_le ((new_W (n := m) ⟨hm.1, by omega⟩ h0.ok).p p hp).v).1
      omega
    rw [List.length_map, h.props, List.length_map] at h3
    have h4 := h0.len
    have h5 : m * ins.length ≤ 2 * 2 := Nat.mul_le_mul hm.2 h4
    unfold phi
    rw [h.props]
    omega
  · rw [h.nxt] at hx
    exact (List.mem_replicate.1 (List.mem_of_getElem? hx)).2
end Go.Proofs.YtphlhadgcfndhaaDoor.Abs
