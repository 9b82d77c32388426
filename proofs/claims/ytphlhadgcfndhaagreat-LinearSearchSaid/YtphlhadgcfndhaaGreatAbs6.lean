/- Each operation's plan is what the machine does: addresses, numbers, lengths. -/
import Derived.Test.YtphlhadgcfndhaaGreatAbs5
import Derived.Laws.Cover3
import Derived.Laws.Small
import Derived.Laws.StructEq
import Derived.Laws.IdiomStrings
namespace Go.Proofs.YtphlhadgcfndhaaGreat.Abs
open Go Go.RowKit
set_option linter.unusedVariables false
set_option linter.unusedSimpArgs false

section
variable {P : Program} {base : Nat} {A : Nat → Prop} {w0 w : World} {β : Nat → Bnd} {σ : Sig} {n : Nat}

theorem add_add (a : Addr) (x y : Nat) : (a.add x).add y = a.add (x + y) := by
  unfold Addr.add
  by_cases hx : x = 0
  · subst hx
    simp
  · by_cases hy : y = 0
    · subst hy
      simp [hx]
    · simp [hx, hy, Nat.add_assoc]
/-- The one object of a plan. -/
theorem use1 {id : Nat} {f : List AObj → Option (Eff × Prop)} {e : Eff} {p : Prop} (he : (Plan.use [id] f).run σ = some (e, p)) : ∃ o, look id σ = some o ∧ f [o] = some (e, p) := by
  simp only [Plan.run, looks] at he
  cases ho : look id σ with
  | none => rw [ho] at he; cases he
  | some o =>
    rw [ho] at he
    exact ⟨o, rfl, he⟩
theorem ptr_live (I : Inv base A w0 β σ w) {ok : Nat → Prop} {id i off : Nat} {o : AObj} (ho : look id σ = some o) {u : Value} (hx : RepV w ok β (.c (.ptr id i off)) u) : ∃ b k cap, β id = .live b k cap ∧ u = .pointer (some ⟨b, i * k + off, none⟩) := by
  cases hx with
  | c hx =>
  cases hx with
  | fz hx => cases hx
  | gonep hd _ => rcases live_of I ho with ⟨b, k, cap, hb⟩ | ⟨hb, _⟩ <;> (rw [hb] at hd; cases hd)
  | ptr hb' => exact ⟨_, _, _, hb', rfl⟩
theorem ref_live (I : Inv base A w0 β σ w) {ok : Nat → Prop} {id lo m : Nat} {o : AObj} (ho : look id σ = some o) {u : Value} (hx : RepV w ok β (.c (.ref id lo m)) u) :
    (∃ b k cap, β id = .live b k cap ∧ lo + m ≤ cap ∧ u = .slice (some ⟨b, lo * k, none⟩) m (cap - lo)) ∨ (β id = .virt ∧ o.es = [] ∧ lo = 0 ∧ m = 0 ∧ ∃ ad, u = .slice ad 0 0) := by
  cases hx with
  | c hx =>
  cases hx with
  | fz hx => cases hx
  | gone hd _ => rcases live_of I ho with ⟨b, k, cap, hb⟩ | ⟨hb, _⟩ <;> (rw [hb] at hd; cases hd)
  | refv hb => exact .inr ⟨hb, I.virt id o hb ho, rfl, rfl, _, rfl⟩
  | ref hb' h => exact .inl ⟨_, _, _, hb', h, rfl⟩
theorem fieldAddr_sound {T : TyEnv} (hT : TOk P T) (I : Inv base A w0 β σ w) {t : Nat} {ti : TI} (h : TyOk P t ti) {f : Nat} {x : AVal} {u : Value} (hx : RepV w (okOf base A w β) β x u) {e : Eff} {p : Prop} (he : (planFieldAddr T ti f x).run σ = some (e, p)) :
    SO P base A w0 β w σ n e (do pure (.value (← Instr.fieldAt t u f))) := by
  have run : ∀ {off : Nat} (ad : Addr), fitsF T ti f = some off → (Instr.fieldAt t (.pointer (some ad)) f).run P w = .ok (.pointer (some (ad.add off))) w := by
    intro off ad hf
    unfold fitsF at hf
    split at hf
    case h_2 => cases hf
    rename_i fs hd
    split at hf
    case h_2 => cases hf
    rename_i fd hfd
    split at hf
    case h_2 => cases hf
    rename_i tf htf
    split at hf
    · cases hf
    · rename_i hz
      cases hf
      have h1 := h.1
      rw [hd] at h1
      simp [Instr.fieldAt, run_underlying h1, hfd, Instr.sureAddr, fieldPlace, run_sizeOf (hT _ _ htf), hz]
  unfold planFieldAddr at he
  split at he
  · split at he
    case h_2 => cases he
    rename_i cs off hf
    cases he
    cases hx with
    | c hx =>
    cases hx with
    | fz hx =>
    cases hx with
    | @fad _ ad vs h1 h2 h3 =>
    refine SO.val I (run ad hf) (.c (.fz (.fad (fun j => vs (off + j)) (by rw [add_block]; exact h1) (fun j hj => ?_) (fun j c hc => ?_))))
    · rw [add_add]
      exact h2 _ (by rw [List.length_drop] at hj; omega)
    · rw [List.getElem?_drop] at hc
      exact h3 _ c hc
  · split at he
    case h_2 => cases he
    rename_i id i off0 off hf
    obtain ⟨o, ho, he⟩ := use1 he
    cases he
    obtain ⟨b, k, cap, hb, rfl⟩ := ptr_live I ho hx
    refine SO.val I (run _ hf) (.c ?_)
    rw [Addr.add_lit, Nat.add_assoc]
    exact .ptr hb
  · cases he
theorem indexAddr_sound {T : TyEnv} (I : Inv base A w0 β σ w) {t : Nat} {ti tie : TI} (h : TyOk P t ti) (hte : ∀ el, (ti.d = .slice el ∨ ∃ l, ti.d = .array l el) → TyOk P el tie) {x ix : AVal} {u ui : Value} (hx : RepV w (okOf base A w β) β x u) (hi : RepV w (okOf base A w β) β ix ui)
    {e : Eff} {p : Prop} (he : (planIndexAddr ti tie x ix).run σ = some (e, p)) (hp : p) : SO P base A w0 β w σ n e (do pure (.value (← Instr.indexAt t u ui))) := by
  have h1 := h.1
  unfold planIndexAddr at he
  split at he
  · rename_i el kk m hd
    rw [hd] at h1
    have hse := run_sizeOf (hte el (.inl hd)) w
    have hui : ui = .int kk m := by
      cases hi with
      | c hi => cases hi with
        | fz hi => cases hi; rfl
    subst hui
    split at he
    · rename_i k tt es
      cases he
      obtain ⟨h0, hlt, hk⟩ := hp
      cases hx with
      | c hx =>
      cases hx with
      | fz hx =>
      cases hx with
      | @row _ _ _ Ad cap vs g1 g2 g3 g4 g5 g6 =>
      obtain ⟨ad, rfl, hok⟩ := g4 (by rintro rfl; simp at hlt; omega)
      have hin : m.toNat < es.length := by omega
      have hget : es[m.toNat]? = some es[m.toNat] := List.getElem?_eq_getElem hin
      have hgd : es.getD m.toNat [] = es[m.toNat] := by simp [List.getD_eq_getElem?_getD, hget]
      refine SO.val I (u := .pointer (some (ad.add (m.toNat * k)))) ?_ (.c (.fz ?_))
      · simp [Instr.indexAt, run_underlying h1, asIntOf, h0, hlt, hse, hk]
      · rw [hgd]
        refine .fad (fun j => vs m.toNat j) (by rw [add_block]; exact hok) (fun j hj => ?_) (fun j c hc => g6 _ _ hget j c hc)
        rw [add_add]
        exact g5 ad rfl _ _ hget j (by rw [g3 _ (List.getElem_mem hin)] at hj; exact hj)
    · rename_i id lo len
      obtain ⟨o, ho, he⟩ := use1 he
      cases he
      obtain ⟨h0, hlt, hk⟩ := hp
      obtain ⟨b, k, cap, hb, hcap, rfl⟩ : ∃ b k cap, β id = .live b k cap ∧ lo + len ≤ cap ∧ u = .slice (some ⟨b, lo * k, none⟩) len (cap - lo) := by
        rcases ref_live I ho hx with h | ⟨_, _, _, h, _⟩
        · exact h
        · omega
      have hok := (I.obj id b k cap o hb ho).hk
      refine SO.val I (u := .pointer (some ⟨b, (lo + m.toNat) * k + 0, none⟩)) ?_ (.c (.ptr hb))
      have : (lo + m.toNat) * k + 0 = lo * k + m.toNat * k := by rw [Nat.add_zero, Nat.add_mul]
      rw [this]
      simp [Instr.indexAt, run_underlying h1, asIntOf, h0, hlt, hse, Addr.add_lit, ← hk, hok]
    · cases he
  · rename_i l el kk m hd
    rw [hd] at h1
    have hse := run_sizeOf (hte el (.inr ⟨l, hd⟩)) w
    have hui : ui = .int kk m := by
      cases hi with
      | c hi => cases hi with
        | fz hi => cases hi; rfl
    subst hui
    split at he
    · rename_i id i off
      obtain ⟨o, ho, he⟩ := use1 he
      cases he
      obtain ⟨h0, hlt⟩ := hp
      obtain ⟨b, k, cap, hb, rfl⟩ := ptr_live I ho hx
      refine SO.val I (u := .pointer (some ⟨b, i * k + (off + m.toNat * tie.size), none⟩)) ?_ (.c (.ptr hb))
      rw [← Nat.add_assoc]
      simp [Instr.indexAt, run_underlying h1, Instr.sureAddr, asIntOf, h0, hlt, hse, Addr.add_lit]
    · rename_i cs
      cases he
      obtain ⟨h0, hlt⟩ := hp
      cases hx with
      | c hx =>
      cases hx with
      | fz hx =>
      cases hx with
      | @fad _ ad vs g1 g2 g3 =>
      refine SO.val I (u := .pointer (some (ad.add (m.toNat * tie.size)))) ?_ (.c (.fz (.fad (fun j => vs (m.toNat * tie.size + j)) (by rw [add_block]; exact g1) (fun j hj => ?_) (fun j c hc => ?_))))
      · simp [Instr.indexAt, run_underlying h1, Instr.sureAddr, asIntOf, h0, hlt, hse]
      · rw [add_add]
        exact g2 _ (by rw [List.length_drop] at hj; omega)
      · rw [List.getElem?_drop] at hc
        exact g3 _ c hc
    · cases he
  · cases he
theorem sc_of {ok : Nat → Prop} {v u : Value} (h : RepV w ok β (.c (.sc v)) u) : u = v ∧ v.oneCell' = true := by
  cases h with
  | c h => cases h with
    | fz h => cases h with
      | sc _ h => exact ⟨rfl, h⟩
theorem scv (v : Value) (h : v.oneCell' = true) {ok : Nat → Prop} : RepV w ok β (.c (.sc v)) v := .c (.fz (.sc v h))
theorem scBin_sound {tb : Bool} {op : BinOp} {t : Nat} (htb : tb = true → P.underlying t = some .bool) {x y : Operand} {u v r : Value} {p : Prop} (he : scBin tb op u v = some (r, p)) (hp : p) (w : World) : (do eqGuard op t x y u v; binOp op t u v : Sem Value).run P w = .ok r w ∧ r.oneCell' = true := by
  unfold scBin at he
  split at he
  · rename_i k a k' b
    cases op <;> cases he <;> refine ⟨?_, rfl⟩
    case h_1.shl.refl => simp [eqGuard_at_int, binOp_shl, Op.shift, show ¬ b < 0 from by omega]
    case h_1.shr.refl => simp [eqGuard_at_int, binOp_shr, Op.shift, show ¬ b < 0 from by omega]
    case h_1.quo.refl =>
      obtain ⟨rfl, hb⟩ := hp
      simp [eqGuard_at_int, binOp_quo, Op.intDiv, hb]
    case h_1.rem.refl =>
      obtain ⟨rfl, hb⟩ := hp
      simp [eqGuard_at_int, binOp_rem, Op.intDiv, hb]
    all_goals
      obtain rfl := hp
      first
        | (simp [eqGuard_at_int, binOp_add, binOp_sub, binOp_mul, Op.intArith]; done)
        | (simp [eqGuard_at_int, binOp_and, binOp_or, binOp_xor, binOp_andNot, intBits_and, intBits_or, intBits_xor, intBits_andNot]; done)
        | (simp [eqGuard_at_int, binOp_eql, binOp_neq, binOp_lss, binOp_leq, binOp_gtr, binOp_geq]; done)
  · rename_i a b
    cases op <;> simp only [reduceCtorEq] at he
    all_goals
      split at he
      case isFalse => cases he
      rename_i ht
      cases he
      refine ⟨?_, rfl⟩
      rw [eqGuard_at_bool]
      first
        | (simp [binOp, run_equal_bool w t a b (htb ht)]; done)
        | (simp [binOp, run_equal_bool w t a b (htb ht)]; cases a <;> cases b <;> rfl)
  · rename_i a b
    cases op <;> simp only [Option.some.injEq, Prod.mk.injEq, reduceCtorEq] at he
    all_goals
      obtain ⟨rfl, rfl⟩ := he
      refine ⟨?_, rfl⟩
      rw [eqGuard_at_string]
    case h_3.add =>
      have hp' : ¬ (9223372036854775807 < ((a.size : Int) + (b.size : Int))) := by omega
      simp [binOp, Op.stringOp, hp']
    all_goals simp [binOp, Op.stringOp]
  · cases he
theorem bin0_sound (I : Inv base A w0 β σ w) {op : BinOp} {t : Nat} {ti : TI} (h : TyOk P t ti) {ox oy : Operand} {x y : AVal} {u v : Value} (hx : RepV w (okOf base A w β) β x u) (hy : RepV w (okOf base A w β) β y v) {e : Eff} {p : Prop} (he : (planBin0 ti op x y).run σ = some (e, p)) (hp : p) :
    SO P base A w0 β w σ n e (do pure (.value (← (do eqGuard op t ox oy u v; binOp op t u v)))) := by
  unfold planBin0 at he
  split at he
  case h_2 => cases he
  obtain ⟨rfl, _⟩ := sc_of hx
  obtain ⟨rfl, _⟩ := sc_of hy
  split at he
  case h_2 => cases he
  rename_i r q hr
  cases he
  have htb : ti.isBool = true → P.underlying t = some .bool := fun hb => by
    have h1 := h.1
    unfold TI.isBool at hb
    split at hb
    · rename_i hd
      rwa [hd] at h1
    · cases hb
  obtain ⟨h1, h2⟩ := scBin_sound (P := P) (t := t) htb (x := ox) (y := oy) hr hp w
  exact SO.val I h1 (scv r h2)
theorem nilIs_sound {ok : Nat → Prop} {x : AVal} {u : Value} (hx : RepV w ok β x u) {o : Option Bool} (h : nilIs x = some o) : ∃ a l c, u = .slice a l c ∧ ∀ b, o = some b → a.isNone = b := by
  unfold nilIs at h
  split at h
  · cases h
    obtain ⟨rfl, _⟩ := sc_of hx
    exact ⟨none, 0, 0, rfl, fun b hb => by cases hb; rfl⟩
  · rename_i k t es
    cases hx with
    | c hx => cases hx with
      | fz hx => cases hx with
        | @row _ _ _ A cap vs h1 h2 h3 h4 h5 h6 =>
        refine ⟨A, _, _, rfl, fun b hb => ?_⟩
        subst hb
        split at h
        · cases h
        · rename_i hne
          cases h
          obtain ⟨ad, rfl, _⟩ := h4 (by rintro rfl; exact hne rfl)
          rfl
  · cases h
theorem part_cell {T : TyEnv} (hT : TOk P T) {t : Nat} {tf : TI} (htf : look t T = some tf) (ha : tf.agg = false) {vs : Array Value} {off : Nat} {v : Value} (hv : vs[off]? = some v) (w : World) : (part t vs off).run P w = .ok v w := by
  have hlt : off < vs.size := (Array.getElem?_eq_some_iff.1 hv).1
  have hg : vs[off] = v := (Array.getElem?_eq_some_iff.1 hv).2
  simp [part, run_isAgg (hT _ _ htf), ha, hlt, hg]
theorem eqFs_sound {T : TyEnv} (hT : TOk P T) {ok : Nat → Prop} {cs ds : List Cell} {xs ys : Array Value} (hx : RepL w ok β cs xs.toList) (hy : RepL w ok β ds ys.toList) (d : Nat) (w' : World) : ∀ (fs : List Field) (b : Bool), eqFs T cs ds fs = some b → (Op.eqFields (d + 1) xs ys fs).run P w' = .ok b w'
  | [], b, h => by
    cases h
    simp [Op.eqFields]
  | f :: fs, b, h => by
    have cell : ∀ {cs : List Cell} {xs : Array Value} (hx : RepL w ok β cs xs.toList) {v : Value}, cs[f.offset]? = some (.sc v) → xs[f.offset]? = some v := fun {cs xs} hx {v} hc => by
      have hlt : f.offset < xs.toList.length := by rw [← hx.1]; exact (List.getElem?_eq_some_iff.1 hc).1
      have := hx.2 f.offset _ _ hc (List.getElem?_eq_getElem hlt)
      cases this with
      | fz this =>
        generalize hq : xs.toList[f.offset] = q at this
        cases this
        rw [← Array.getElem?_toList, List.getElem?_eq_getElem hlt, hq]
    unfold eqFs at h
    split at h
    case isTrue => cases h
    rename_i hn
    split at h
    case h_2 => cases h
    rename_i tf htf
    have hu := (hT _ _ htf).1
    split at h
    · rename_i k0 k x k' y r hd h1 h2 h3
      split at h
      case isFalse => cases h
      rename_i hk
      cases h
      subst hk
      rw [hd] at hu
      have ha : tf.agg = false := by simp [TI.agg, hd]
      simp only [Op.eqFields, if_pos hn, Sem.run_bind, part_cell hT htf ha (cell hx h1), part_cell hT htf ha (cell hy h2), Result.andThen_ok, run_equalIn_int _ d _ k k0 x y hu, ne_eq, hn, not_false_eq_true, if_true]
      cases hb : (x == y) with
      | true => simp [eqFs_sound hT hx hy d w' fs r h3]
      | false => simp
    · rename_i x y r hd h1 h2 h3
      cases h
      rw [hd] at hu
      have ha : tf.agg = false := by simp [TI.agg, hd]
      simp only [Op.eqFields, Sem.run_bind, part_cell hT htf ha (cell hx h1), part_cell hT htf ha (cell hy h2), Result.andThen_ok, run_equalIn_bool' _ d _ x y hu, ne_eq, hn, not_false_eq_true, if_true]
      cases hb : (x == y) with
      | true => simp [eqFs_sound hT hx hy d w' fs r h3]
      | false => simp
    · rename_i x y r hd h1 h2 h3
      cases h
      rw [hd] at hu
      have ha : tf.agg = false := by simp [TI.agg, hd]
      simp only [Op.eqFields, Sem.run_bind, part_cell hT htf ha (cell hx h1), part_cell hT htf ha (cell hy h2), Result.andThen_ok, run_equalIn_string _ d _ x y hu, ne_eq, hn, not_false_eq_true, if_true]
      cases hb : (x.toList == y.toList) with
      | true => simp [eqFs_sound hT hx hy d w' fs r h3]
      | false => simp
    · cases h
theorem eqAgg_sound {T : TyEnv} (hT : TOk P T) (I : Inv base A w0 β σ w) {op : BinOp} {t : Nat} {ti : TI} (h : TyOk P t ti) {ox oy : Operand} {x y : AVal} {u v : Value} (hx : RepV w (okOf base A w β) β x u) (hy : RepV w (okOf base A w β) β y v) {c : Cell} (hc : eqAgg T ti op x y = some c) :
    SO P base A w0 β w σ n (.val (.c c)) (do pure (.value (← (do eqGuard op t ox oy u v; binOp op t u v)))) := by
  have hu := h.1
  unfold eqAgg at hc
  split at hc
  case h_3 => cases hc
  all_goals
    rename_i cs ds fs hd
    split at hc
    case isFalse => cases hc
    rename_i hcm
    obtain ⟨hp, hm⟩ := h.2.2.2.2 hcm
    rw [hd] at hu
    cases hx with
    | agg hx =>
    cases hy with
    | agg hy =>
    rename_i xs ys
    cases he : eqFs T cs ds fs.toList with
    | none => rw [he] at hc; cases hc
    | some b =>
    rw [he] at hc
    cases hc
    have hfo : P.fieldsOf t = fs := by simp [Program.fieldsOf, hu]
    have hs : P.underlying t = some (.struct (P.fieldsOf t)) := by rw [hfo, hu]
    refine SO.val I ?_ (scv _ rfl)
    first
      | (simp only [Sem.run_bind, run_eqGuard_agg w .eql t ox oy xs ys hm, Result.andThen_ok, run_eql_struct, run_equalIn_struct w 9999 t xs ys hs hp, hfo, eqFs_sound hT hx hy 9998 w fs.toList b he]; done)
      | simp only [Sem.run_bind, run_eqGuard_agg w .neq t ox oy xs ys hm, Result.andThen_ok, run_neq_struct, run_equalIn_struct w 9999 t xs ys hs hp, hfo, eqFs_sound hT hx hy 9998 w fs.toList b he]
theorem bin_sound {T : TyEnv} (hT : TOk P T) (I : Inv base A w0 β σ w) {op : BinOp} {t : Nat} {ti : TI} (h : TyOk P t ti) {ox oy : Operand} {x y : AVal} {u v : Value} (hx : RepV w (okOf base A w β) β x u) (hy : RepV w (okOf base A w β) β y v) {e : Eff} {p : Prop} (he : (planBin T ti op x y).run σ = some (e, p)) (hp : p) :
    SO P base A w0 β w σ n e (do pure (.value (← (do eqGuard op t ox oy u v; binOp op t u v)))) := by
  have hu := h.1
  unfold planBin at he
  split at he
  case h_2 =>
    split at he
    · rename_i c hc
      cases he
      exact eqAgg_sound hT I h hx hy hc
    · exact bin0_sound I h hx hy he hp
  rename_i c hc
  cases he
  have guard : ∀ (a b : Option Addr) (l c l' c' : Nat) (w : World), (eqGuard op t ox oy (.slice a l c) (.slice b l' c')).run P w = .ok () w := fun a b l c l' c' w => by
    unfold eqGuard
    cases op <;> simp
  unfold nilCmp at hc
  split at hc
  · rename_i el hd
    rw [hd] at hu
    obtain ⟨rfl, _⟩ := sc_of hy
    cases hn : nilIs x with
    | none => rw [hn] at hc; cases hc
    | some o =>
      obtain ⟨a, l, cc, rfl, hb⟩ := nilIs_sound hx hn
      have hrun : (do eqGuard .eql t ox oy (.slice a l cc) (.slice none 0 0); binOp .eql t (.slice a l cc) (.slice none 0 0) : Sem Value).run P w = .ok (.bool a.isNone) w := by
        simp [guard, binOp, run_equal_slice_nil _ t el a l cc hu]
      rw [hn] at hc
      refine SO.val I hrun ?_
      cases o with
      | none => cases hc; exact .c (.fz (.bit _))
      | some b => cases hc; rw [hb b rfl]; exact scv _ rfl
  · rename_i el hd
    rw [hd] at hu
    obtain ⟨rfl, _⟩ := sc_of hy
    cases hn : nilIs x with
    | none => rw [hn] at hc; cases hc
    | some o =>
      obtain ⟨a, l, cc, rfl, hb⟩ := nilIs_sound hx hn
      have hrun : (do eqGuard .neq t ox oy (.slice a l cc) (.slice none 0 0); binOp .neq t (.slice a l cc) (.slice none 0 0) : Sem Value).run P w = .ok (.bool (!a.isNone)) w := by
        simp [guard, binOp, run_equal_slice_nil _ t el a l cc hu]
      rw [hn] at hc
      refine SO.val I hrun ?_
      cases o with
      | none => cases hc; exact .c (.fz (.bit _))
      | some b => cases hc; rw [hb b rfl]; exact scv _ rfl
  · cases hc
theorem un_sound (I : Inv base A w0 β σ w) {op : UnOp} {x : AVal} {u : Value} (hx : RepV w (okOf base A w β) β x u) {e : Eff} {p : Prop} (he : (planUn op x).run σ = some (e, p)) :
    SO P base A w0 β w σ n e (do pure (.value (← Op.unary op u))) := by
  unfold planUn at he
  split at he
  case h_2 => cases he
  obtain ⟨rfl, _⟩ := sc_of hx
  split at he
  case h_2 => cases he
  rename_i v r hr
  cases he
  unfold scUn at hr
  split at hr
  · cases op <;> cases hr
    exact SO.val I (by simp [Op.unary]) (scv _ rfl)
  · cases op <;> cases hr
    · exact SO.val I (by simp [Op.unary, Op.intArith]) (scv _ rfl)
    · exact SO.val I (by simp [Op.unary, intBits_xor]) (scv _ rfl)
  · cases hr
theorem pick_sound (I : Inv base A w0 β σ w) {c a b : AVal} {uc ua ub : Value} (hc : RepV w (okOf base A w β) β c uc) (ha : RepV w (okOf base A w β) β a ua) (hb : RepV w (okOf base A w β) β b ub) {e : Eff} {p : Prop} (he : (planPick c a b).run σ = some (e, p)) :
    SO P base A w0 β w σ n e (do pure (.value (if ← asBool uc then ua else ub))) := by
  unfold planPick at he
  split at he
  case h_2 => cases he
  rename_i t
  obtain ⟨rfl, _⟩ := sc_of hc
  cases he
  refine ⟨.value (if t = true then ua else ub), w, ?_, _, β, .inl rfl, I, BLe.refl' β, fun x h => ⟨h, rfl⟩, fun _ _ h => h, ?_⟩
  · simp [asBool]
  · show RepV w _ β (if t = true then a else b) _
    split
    · exact ha
    · exact hb
theorem len_sound (I : Inv base A w0 β σ w) {ts : Array TypeId} {t ty : Nat} {ti : TI} (h : TyOk P t ti) (hts : ts[0]? = some t) {x : AVal} {u : Value} (hx : RepV w (okOf base A w β) β x u) {e : Eff} {p : Prop} (he : (planLen ti x).run σ = some (e, p)) :
    SO P base A w0 β w σ n e (do pure (.value (← Builtin.len_ ts ty #[u]))) := by
  have h1 := h.1
  unfold planLen at he
  split at he
  · rename_i el hd
    rw [hd] at h1
    have slice : ∀ (a : Option Addr) (m c : Nat), (Builtin.len_ ts ty #[.slice a m c]).run P w = .ok (.int .i64 m) w := fun a m c => by
      simp [Builtin.len_, hts, run_underlying h1, goInt]
    split at he
    · cases he
      cases hx with
      | c hx => cases hx with
        | fz hx => cases hx with
          | row => exact SO.val I (slice _ _ _) (scv _ rfl)
    · obtain ⟨o, ho, he⟩ := use1 he
      cases he
      rcases ref_live I ho hx with ⟨b, k, cap, hb, _, rfl⟩ | ⟨_, _, _, rfl, ad, rfl⟩
      · exact SO.val I (slice _ _ _) (scv _ rfl)
      · exact SO.val I (slice _ _ _) (scv _ rfl)
    · cases he
      obtain ⟨rfl, _⟩ := sc_of hx
      exact SO.val I (slice _ _ _) (scv _ rfl)
    · cases he
  · rename_i hd
    rw [hd] at h1
    split at he
    · cases he
      obtain ⟨rfl, _⟩ := sc_of hx
      exact SO.val I (by simp [Builtin.len_, hts, run_underlying h1, goInt]) (scv _ rfl)
    · cases he
  · cases he
theorem extract_sound (I : Inv base A w0 β σ w) {i : Nat} {x : AVal} {u : Value} (hx : RepV w (okOf base A w β) β x u) {e : Eff} {p : Prop} (he : (planExtract i x).run σ = some (e, p)) :
    SO P base A w0 β w σ n e (do pure (.value (← Instr.extract u i))) := by
  unfold planExtract at he
  split at he
  case h_2 => cases he
  rename_i vs
  split at he
  case h_2 => cases he
  rename_i v hv
  cases he
  cases hx with
  | @tup _ us hl hi =>
  have hlt : i < us.size := by rw [← hl]; exact (List.getElem?_eq_some_iff.1 hv).1
  exact SO.val I (u := us[i]) (by simp [Instr.extract, hlt]) (hi i v _ hv (by simp [hlt]))
theorem nil_sound (I : Inv base A w0 β σ w) {x : AVal} {u : Value} (hx : RepV w (okOf base A w β) β x u) {e : Eff} {p : Prop} (he : (planNil x).run σ = some (e, p)) :
    ∃ v, e = .val v ∧ RepV w (okOf base A w β) β v u ∧ ((∃ a, u = .pointer (some a)) ∨ ∃ f y z, u = .func (.func f) y z) := by
  unfold planNil at he
  split at he
  · rename_i id i off
    obtain ⟨o, ho, he⟩ := use1 he
    cases he
    obtain ⟨b, k, cap, hb, rfl⟩ := ptr_live I ho hx
    exact ⟨_, rfl, hx, .inl ⟨_, rfl⟩⟩
  · cases he
    refine ⟨_, rfl, hx, .inl ?_⟩
    cases hx with
    | c hx' => cases hx' with
      | fz hx2 => cases hx2 with
        | fad vs h1 h2 h3 => exact ⟨_, rfl⟩
  · cases he
    exact ⟨_, rfl, hx, .inl ⟨_, (sc_of hx).1⟩⟩
  · cases he
    exact ⟨_, rfl, hx, .inr ⟨_, _, _, (sc_of hx).1⟩⟩
  · cases he
end
end Go.Proofs.YtphlhadgcfndhaaGreat.Abs
