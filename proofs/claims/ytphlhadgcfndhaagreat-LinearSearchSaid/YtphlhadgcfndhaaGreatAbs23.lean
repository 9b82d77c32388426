/- A call that only reads; what lies deeper is told exactly. -/
import Derived.Test.YtphlhadgcfndhaaGreatAbs22
namespace Go.Proofs.YtphlhadgcfndhaaGreat.Abs
open Go Go.RowKit
set_option linter.unusedVariables false
set_option linter.unusedSimpArgs false

def rxC (σ : Sig) (fr : Nat) (V : Cell → Value) : Cell → Cell
  | .ref id lo m => match look id σ with
    | some o => if lo + m ≤ o.es.length then .row o.k false (((o.es.drop lo).take m).map fun e => e.map (exC [] [] V)) else .any
    | none => .any
  | .ptr id i off => match look id σ with
    | some o => match o.es[i]? with
      | some e => .fad ((e.drop off).map (exC [] [] V))
      | none => .any
    | none => .any
  | c => c
def rxV (σ : Sig) (fr : Nat) (V : Cell → Value) : AVal → AVal
  | .c x => .c (rxC σ fr V x)
  | .agg cs => .agg (cs.map (rxC σ fr V))
  | _ => .any
def rokC (σ : Sig) (fr : Nat) : Cell → Prop
  | .ref id _ _ => match look id σ with
    | some o => opqO [] [] σ o
    | none => True
  | .ptr id _ _ => match look id σ with
    | some o => opqO [] [] σ o
    | none => True
  | _ => True
def rokV (σ : Sig) (fr : Nat) : AVal → Prop
  | .c x => rokC σ fr x
  | .agg cs => ∀ c ∈ cs, rokC σ fr c
  | _ => True
def rokVs (σ : Sig) (fr : Nat) : List AVal → Prop
  | [] => True
  | v :: vs => rokV σ fr v ∧ rokVs σ fr vs
theorem rokVs_mem {σ : Sig} {fr : Nat} : ∀ {cs : List AVal}, rokVs σ fr cs → ∀ c ∈ cs, rokV σ fr c
  | [], _, _, h => by cases h
  | d :: cs, hp, c, h => by
    rcases List.mem_cons.1 h with rfl | h
    · exact hp.1
    · exact rokVs_mem hp.2 c h
theorem RepC.noB {w : World} {ok : Nat → Prop} {c : Cell} {v : Value} (h : RepC w ok noB c v) : RepF w ok c v := by
  cases h with
  | fz h => exact h
  | ref hb => cases hb
  | refv hb => cases hb
  | gone hb => cases hb
  | ptr hb => cases hb
  | gonep hb => cases hb
section
variable {P : Program} {base : Nat} {A : Old} {w0 w : World} {β : Nat → Bnd} {s : St} {n : Nat} {a : Act}
theorem rx_repC (I : InvS base A w0 n β s a w) {c : Cell} {v : Value} (hr : RepC w (okOf base A.own w β) β c v) (hf : rokC s.σ s.fr c) : RepF w (rdOk w β (okOf base A.own w β)) (rxC s.σ s.fr (exactV β) c) v := by
  have J := I.inv
  have lift : ∀ {c : Cell} {v : Value}, RepF w (okOf base A.own w β) c v → RepF w (rdOk w β (okOf base A.own w β)) c v := fun h => h.mono fun b hb => ⟨⟨hb.2.1, .inl hb⟩, rfl⟩
  have deep : ∀ {o : AObj}, opqO [] [] s.σ o → ∀ {i : Nat} {e : List Cell}, o.es[i]? = some e → ∀ {j : Nat} {c : Cell}, e[j]? = some c → ∀ {v : Value}, RepC w (okOf base A.own w β) β c v → RepF w (rdOk w β (okOf base A.own w β)) (exC [] [] (exactV β) c) v := fun {o} ho {i e} he {j c} hc {v} h =>
    (exC_rep (βh := noB) (okh := rdOk w β (okOf base A.own w β)) I.inv (fun p hp => by cases hp) (fun b hb => ⟨hb.2.1, .inl hb⟩) (fun i k h => by cases h) (ho e (List.mem_of_getElem? he) c (List.mem_of_getElem? hc)) h).noB
  cases c with
  | any => cases hr with | fz h => exact lift h
  | sc u => cases hr with | fz h => exact lift h
  | bit => cases hr with | fz h => exact lift h
  | row k t es => cases hr with | fz h => exact lift h
  | fad cs => cases hr with | fz h => exact lift h
  | fn g cs => cases hr with | fz h => exact lift h
  | ref id lo m =>
    simp only [rxC]
    simp only [rokC] at hf
    split
    · rename_i o ho
      rw [ho] at hf
      simp only at hf
      split
      · rename_i hlen
        rcases ref_live J ho (.c hr) with ⟨b, k, cap, hb, hcap, rfl⟩ | ⟨_, hoe, rfl, rfl, ad, rfl⟩
        · have O := J.obj id b k cap o hb ho
          have hl : (((o.es.drop lo).take m).map fun e => e.map (exC [] [] (exactV β))).length = m := by rw [List.length_map, List.length_take, List.length_drop]; omega
          have hget : ∀ (q : Nat) (e : List Cell), (((o.es.drop lo).take m).map fun e => e.map (exC [] [] (exactV β)))[q]? = some e → ∃ e0, o.es[lo + q]? = some e0 ∧ e = e0.map (exC [] [] (exactV β)) := fun q e he => by
            have hq : q < m := by have := (List.getElem?_eq_some_iff.1 he).1; omega
            rw [List.getElem?_map, List.getElem?_take_of_lt hq, List.getElem?_drop] at he
            cases hz : o.es[lo + q]? with
            | none => rw [hz] at he; cases he
            | some e0 => rw [hz] at he; cases he; exact ⟨e0, rfl, rfl⟩
          have cell : ∀ (q : Nat) (e : List Cell), (((o.es.drop lo).take m).map fun e => e.map (exC [] [] (exactV β)))[q]? = some e → ∀ (j : Nat) (c : Cell), e[j]? = some c → ∃ v, w.cell? (Addr.add ⟨b, lo * k, none⟩ (q * k + j)) = some v ∧ RepF w (rdOk w β (okOf base A.own w β)) c v := fun q e he j c hc => by
            obtain ⟨e0, he0, rfl⟩ := hget q e he
            rw [List.getElem?_map] at hc
            cases hy : e0[j]? with
            | none => rw [hy] at hc; cases hc
            | some c0 =>
              rw [hy] at hc
              cases hc
              obtain ⟨v, hv, hr⟩ := objCell J hb ho he0 hy
              refine ⟨v, ?_, deep hf he0 hy hr⟩
              rw [Addr.add_lit, ← hv]
              congr 2
              rw [Nat.add_mul]
              omega
          have hk : ∀ e ∈ ((o.es.drop lo).take m).map fun e => e.map (exC [] [] (exactV β)), e.length = k := fun e he => by
            obtain ⟨e0, he0, rfl⟩ := List.mem_map.1 he
            rw [List.length_map]
            exact O.hlen e0 (List.mem_of_mem_drop (List.mem_of_mem_take he0))
          have := RepF.row (w := w) (ok := rdOk w β (okOf base A.own w β)) (k := k) (t := false) (es := ((o.es.drop lo).take m).map fun e => e.map (exC [] [] (exactV β))) (A := some ⟨b, lo * k, none⟩) (cap := cap - lo) (fun q j => (w.cell? (Addr.add ⟨b, lo * k, none⟩ (q * k + j))).getD undef) (by omega) (fun h => by cases h) hk (fun _ => ⟨_, rfl, (J.lo id b k cap hb).2, .inr ⟨id, k, cap, hb⟩⟩)
            (fun ad had q e he j hj => by
              cases had
              obtain ⟨v, hv, _⟩ := cell q e he j _ (List.getElem?_eq_getElem (by rw [hk e (List.mem_of_getElem? he)]; exact hj))
              rw [hv]; rfl)
            (fun q e he j c hc => by
              obtain ⟨v, hv, hr⟩ := cell q e he j c hc
              rw [hv]; exact hr)
          rw [hl] at this
          rw [O.hk]
          exact this
        · rw [hoe]
          exact RepF.row (es := []) (cap := 0) (fun _ _ => undef) (Nat.le_refl _) (fun h => by cases h) (by simp) (by simp) (fun ad _ i e h => by simp at h) (fun i e h => by simp at h)
      · exact .any v hr.one
    · exact .any v hr.one
  | ptr id i off =>
    simp only [rxC]
    simp only [rokC] at hf
    split
    · rename_i o ho
      rw [ho] at hf
      simp only at hf ⊢
      split
      · rename_i e he
        obtain ⟨b, k, cap, hb, rfl⟩ := ptr_live J ho (.c hr)
        have cell : ∀ (j : Nat) (c : Cell), ((e.drop off).map (exC [] [] (exactV β)))[j]? = some c → ∃ v, w.cell? (Addr.add ⟨b, i * k + off, none⟩ j) = some v ∧ RepF w (rdOk w β (okOf base A.own w β)) c v := fun j c hc => by
          rw [List.getElem?_map, List.getElem?_drop] at hc
          cases hy : e[off + j]? with
          | none => rw [hy] at hc; cases hc
          | some c0 =>
            rw [hy] at hc
            cases hc
            obtain ⟨v, hv, hr⟩ := objCell J hb ho he hy
            refine ⟨v, ?_, deep hf he hy hr⟩
            rw [Addr.add_lit, ← hv]
            congr 2
            omega
        exact .fad (fun j => (w.cell? (Addr.add ⟨b, i * k + off, none⟩ j)).getD undef) ⟨(J.lo id b k cap hb).2, .inr ⟨id, k, cap, hb⟩⟩
          (fun j hj => by
            obtain ⟨v, hv, _⟩ := cell j _ (List.getElem?_eq_getElem hj)
            rw [hv]; rfl)
          (fun j c hc => by
            obtain ⟨v, hv, hr⟩ := cell j c hc
            rw [hv]; exact hr)
      · exact .any v hr.one
    · exact .any v hr.one
theorem rx_repV (I : InvS base A w0 n β s a w) {c : AVal} {v : Value} (hr : RepV w (okOf base A.own w β) β c v) (hf : rokV s.σ s.fr c) : RepV w (rdOk w β (okOf base A.own w β)) noB (rxV s.σ s.fr (exactV β) c) v := by
  cases hr with
  | any => exact .any _
  | c h => exact .c (.fz (rx_repC I h hf))
  | agg h =>
    refine .agg ⟨by rw [List.length_map]; exact h.1, fun i c v hc hv => ?_⟩
    rename_i cs vs
    rw [List.getElem?_map] at hc
    cases hx : cs[i]? with
    | none => rw [hx] at hc; cases hc
    | some x =>
      rw [hx] at hc
      cases hc
      exact .fz (rx_repC I (h.2 i x v hx hv) (hf x (List.mem_of_getElem? hx)))
  | tup => exact .any _
  | cut => exact .any _
end
theorem SemC.readx {P : Program} {g : FuncId} {as : List AVal} {s : St} {r : AVal} (hp : plainV r = true) (hf : rokVs s.σ s.fr as) (hC : ∀ V : Cell → Value, (∀ c, (V c).oneCell' = true) → Pure P g (as.map (rxV s.σ s.fr V)) r) : SemC P g as s r s.σ s.fr := by
  refine ⟨(hC (fun _ => .bool true) (fun _ => rfl)).1, fun A base w0 n β a w vs I hvs => ?_⟩
  refine ((hC (exactV β) (exactV_one β)).2 w (rdOk w β (okOf base A.own w β)) vs (fun b hb => hb.1) ⟨by rw [List.length_map]; exact hvs.1, fun i x v hx hv => ?_⟩).mono ?_
  · rw [List.getElem?_map] at hx
    cases hq : as[i]? with
    | none => rw [hq] at hx; cases hx
    | some y =>
      rw [hq] at hx
      cases hx
      exact rx_repV I (hvs.2 i y v hq hv) (rokVs_mem hf y (List.mem_of_getElem? hq))
  · rintro e w' ⟨v, rfl, hv, hB⟩
    obtain ⟨I', hok⟩ := I.inv.more hB
    exact ⟨v, β, rfl, I', BLe.refl' β, hok, I.fresh, plain_rep hv hp⟩
/-- A call whose arguments are only read and whose result names new objects, which may name each other. -/
theorem SemC.pure {P : Program} {g : FuncId} {as : List AVal} {s : St} {r : AVal} (hf : as.all frozenV = true) (hP : Pure P g as r) : SemC P g as s r s.σ s.fr := ⟨hP.1, fun A base w0 n β a w vs I hvs =>
  (pure_calls I.inv hP hf hvs).mono fun e w' ⟨v, he, I', hok, hv⟩ => ⟨v, β, he, I', BLe.refl' β, hok, I.fresh, hv⟩⟩
end Go.Proofs.YtphlhadgcfndhaaGreat.Abs
