/- Each operation's plan is what the machine does: cuts; all operations. -/
import Derived.Test.YtphlhadgcfndhaaGreatAbsX
namespace Go.Proofs.YtphlhadgcfndhaaGreat.Abs
open Go Go.RowKit
set_option linter.unusedVariables false
set_option linter.unusedSimpArgs false

section
variable {P : Program} {base : Nat} {A : Nat → Prop} {w0 w : World} {β : Nat → Bnd} {σ : Sig} {n : Nat}

/-- A bound of a cut: told as a number, if it is there. -/
def IsNum (o : Option Int) (v : Option Value) : Prop := match o, v with
  | none, none => True
  | some n, some u => ∃ k, u = .int k n
  | _, _ => False
theorem numOf_sound {ok : Nat → Prop} {ρ : Operand → AVal} {ev : Operand → Value} (hρ : ∀ x, RepV w ok β (ρ x) (ev x)) {x : Option Operand} {o : Option Int} (h : numOf ρ x = some o) : IsNum o (x.map ev) := by
  cases x with
  | none => cases h; trivial
  | some x =>
    unfold numOf at h
    simp only at h
    split at h
    · rename_i k m hx
      cases h
      have := hρ x
      rw [hx] at this
      obtain ⟨h1, _⟩ := sc_of this
      exact ⟨k, h1⟩
    · cases h
theorem bounds_run (b : Bool) {len cap : Nat} {l h m : Option Int} {vl vh vm : Option Value} (hl : IsNum l vl) (hh : IsNum h vh) (hm : IsNum m vm) (h0 : 0 ≤ l.getD 0) (h1 : l.getD 0 ≤ h.getD len) (h2 : h.getD len ≤ m.getD cap) (h3 : m.getD cap ≤ cap) (h4 : m.isSome = true → h.isSome = true) (w : World) :
    (Instr.sliceBounds b len cap vl vh vm).run P w = .ok ((l.getD 0).toNat, (h.getD len).toNat, (m.getD cap).toNat) w := by
  cases m with
  | none =>
    cases vm with
    | some _ => exact hm.elim
    | none =>
    cases h with
    | none =>
      cases vh with
      | some _ => exact hh.elim
      | none =>
      cases l with
      | none =>
        cases vl with
        | some _ => exact hl.elim
        | none => simp [Instr.sliceBounds]
      | some l =>
        cases vl with
        | none => exact hl.elim
        | some u =>
          obtain ⟨k, rfl⟩ := hl
          simp only [Option.getD_some, Option.getD_none] at h0 h1 h2 h3
          simp [Instr.sliceBounds, Instr.sliceBound, asIntOf, h0, h1]
    | some h =>
      cases vh with
      | none => exact hh.elim
      | some uh =>
      obtain ⟨kh, rfl⟩ := hh
      cases l with
      | none =>
        cases vl with
        | some _ => exact hl.elim
        | none =>
          simp only [Option.getD_some, Option.getD_none] at h0 h1 h2 h3
          simp [Instr.sliceBounds, Instr.sliceBound, asIntOf, h1, h2]
      | some l =>
        cases vl with
        | none => exact hl.elim
        | some u =>
          obtain ⟨k, rfl⟩ := hl
          simp only [Option.getD_some, Option.getD_none] at h0 h1 h2 h3
          have g : 0 ≤ h := by omega
          have g2 : l ≤ (h.toNat : Int) := by omega
          simp [Instr.sliceBounds, Instr.sliceBound, asIntOf, h0, h2, g, g2]
          omega
  | some m =>
    cases vm with
    | none => exact hm.elim
    | some um =>
    obtain ⟨km, rfl⟩ := hm
    cases h with
    | none => cases h4 rfl
    | some h =>
      cases vh with
      | none => exact hh.elim
      | some uh =>
      obtain ⟨kh, rfl⟩ := hh
      cases l with
      | none =>
        cases vl with
        | some _ => exact hl.elim
        | none =>
          simp only [Option.getD_some, Option.getD_none] at h0 h1 h2 h3
          have g : 0 ≤ m := by omega
          have g2 : h ≤ (m.toNat : Int) := by omega
          simp [Instr.sliceBounds, Instr.sliceBound, asIntOf, h1, h3, g, g2]
          try omega
      | some l =>
        cases vl with
        | none => exact hl.elim
        | some u =>
          obtain ⟨k, rfl⟩ := hl
          simp only [Option.getD_some, Option.getD_none] at h0 h1 h2 h3
          have g : 0 ≤ m := by omega
          have g2 : h ≤ (m.toNat : Int) := by omega
          have g3 : 0 ≤ h := by omega
          have g4 : l ≤ (h.toNat : Int) := by omega
          simp [Instr.sliceBounds, Instr.sliceBound, asIntOf, h0, h3, g, g2, g3, g4]
          rw [if_pos (by omega), if_pos (by omega)]
theorem run_sliceAt {t el : Nat} {tie : TI} (ht : P.underlying t = some (.slice el)) (hte : TyOk P el tie) {a : Option Addr} {len cap l h m : Nat} {vl vh vm : Option Value} (hb : (Instr.sliceBounds true len cap vl vh vm).run P w = .ok (l, h, m) w) :
    (Instr.sliceAt t (.slice a len cap) vl vh vm).run P w = .ok (.slice (if m = l then a else a.map (·.add (l * tie.size))) (h - l) (m - l)) w := by
  simp [Instr.sliceAt, Instr.slice, run_underlying ht, hb, run_sizeOf hte]
theorem cut_row {ok : Nat → Prop} {k : Nat} {t t' : Bool} {es : List (List Cell)} {ad : Option Addr} {cap : Nat} (h : RepF w ok (.row k t es) (.slice ad es.length cap)) {lo hi mx : Nat} (h1 : lo ≤ hi) (h2 : hi ≤ es.length) (h3 : hi ≤ mx) (h4 : mx ≤ cap) (ht : t' = true → mx = hi) :
    RepF w ok (.row k t' ((es.take hi).drop lo)) (.slice (if mx = lo then ad else ad.map (·.add (lo * k))) (hi - lo) (mx - lo)) := by
  generalize hv : Value.slice ad es.length cap = v at h
  cases h with
  | @row _ _ _ Ad cp vs g1 g2 g3 g4 g5 g6 =>
  cases hv
  have hlen : ((es.take hi).drop lo).length = hi - lo := by rw [List.length_drop, List.length_take]; omega
  have hget : ∀ (i : Nat) (e : List Cell), ((es.take hi).drop lo)[i]? = some e → es[lo + i]? = some e ∧ lo + i < hi := fun i e he => by
    rw [List.getElem?_drop] at he
    have : lo + i < hi := by
      have := (List.getElem?_eq_some_iff.1 he).1
      rw [List.length_take] at this
      omega
    rw [List.getElem?_take_of_lt this] at he
    exact ⟨he, this⟩
  have := RepF.row (w := w) (ok := ok) (k := k) (t := t') (es := (es.take hi).drop lo) (A := if mx = lo then ad else ad.map (·.add (lo * k))) (cap := mx - lo) (fun i j => vs (lo + i) j) (by omega) (fun h => by rw [hlen, ht h]) (fun e he => g3 e (List.mem_of_mem_take (List.mem_of_mem_drop he)))
    (fun hne => by
      have hl0 : 0 < ((es.take hi).drop lo).length := List.length_pos_iff.2 hne
      obtain ⟨a, rfl, hok⟩ := g4 (by rintro rfl; simp at h2; omega)
      rw [if_neg (by omega)]
      exact ⟨a.add (lo * k), rfl, by rw [add_block]; exact hok⟩)
    (fun a ha i e he j hj => by
      obtain ⟨he', hlt⟩ := hget i e he
      rw [if_neg (by omega)] at ha
      cases ad with
      | none => cases ha
      | some a0 =>
        cases ha
        rw [add_add]
        have := g5 a0 rfl (lo + i) e he' j hj
        rw [Nat.add_mul] at this
        rw [← Nat.add_assoc]
        exact this)
    (fun i e he j c hc => g6 _ _ (hget i e he).1 j c hc)
  rw [hlen] at this
  exact this
theorem slice_sound (I : Inv base A w0 β σ w) {t el : Nat} {ti tie : TI} (h : TyOk P t ti) (hd : ti.d = .slice el ∧ TyOk P el tie ∨ ti.d = .string) {ρ : Operand → AVal} {ev : Operand → Value} (hρ : ∀ x, RepV w (okOf base A w β) β (ρ x) (ev x)) {x : AVal} {u : Value} (hx : RepV w (okOf base A w β) β x u) {lo hi mx : Option Operand}
    {e : Eff} {p : Prop} (he : (planSlice ti tie ρ x lo hi mx).run σ = some (e, p)) (hp : p) : SO P base A w0 β w σ n e (do pure (.value (← Instr.sliceAt t u (lo.map ev) (hi.map ev) (mx.map ev)))) := by
  have hu := h.1
  unfold planSlice at he
  split at he
  · rename_i el' l hh m hd' hl hh' hm
    have hte : TyOk P el tie ∧ el' = el := by
      rcases hd with ⟨h1, h2⟩ | h1
      · rw [hd'] at h1; cases h1; exact ⟨h2, rfl⟩
      · rw [hd'] at h1; cases h1
    obtain ⟨hte, rfl⟩ := hte
    rw [hd'] at hu
    have nl := numOf_sound hρ hl
    have nh := numOf_sound hρ hh'
    have nm := numOf_sound hρ hm
    split at he
    · rename_i k tt es
      cases hx with
      | c hx => cases hx with
        | fz hx =>
        have hx' := hx
        cases hx with
        | @row _ _ _ Ad cap vs g1 g2 g3 g4 g5 g6 =>
        split at he
        · rename_i hcut
          cases he
          obtain ⟨c0, c1, rfl⟩ := hp
          unfold cutS at hcut
          simp only [Bool.and_eq_true, Option.isNone_iff_eq_none] at hcut
          obtain ⟨⟨⟨rfl, rfl⟩, hs⟩, rfl⟩ := hcut
          obtain ⟨hv, rfl⟩ := Option.isSome_iff_exists.1 hs
          simp only [Option.getD_some] at c0 c1 ⊢
          have hcap := g2 rfl
          subst hcap
          have hb := bounds_run (P := P) true (len := es.length) (cap := es.length) (l := none) (h := some hv) (m := none) nl nh nm (Int.le_refl 0) c0 (by simp; omega) (by simp) (by simp) w
          refine SO.val I (run_sliceAt hu hte hb) ?_
          simp only [Option.getD_none, Option.getD_some, Int.toNat_natCast]
          have R := cut_row (lo := 0) (hi := hv.toNat) (mx := es.length) (t' := false) hx' (Nat.zero_le _) (by omega) (by omega) (Nat.le_refl _) (fun h => by cases h)
          rw [List.drop_zero, Nat.sub_zero] at R
          exact .cutOf R
        rename_i hnc
        clear hnc
        split at he
        · cases he
          obtain ⟨c0, c1, c2, rfl⟩ := hp
          have hb := bounds_run (P := P) true (len := es.length) (cap := cap) (m := none) nl nh nm c0 c1 (by simp; omega) (by simp) (by simp) w
          refine SO.val I (run_sliceAt hu hte hb) (.c (.fz ?_))
          simp only [Option.getD_none, Int.toNat_natCast]
          exact cut_row hx' (by omega) (by omega) (by omega) (Nat.le_refl _) (fun h => by cases h)
        · rename_i mm
          cases he
          obtain ⟨c0, c1, rfl, c2, rfl⟩ := hp
          have hb := bounds_run (P := P) true (len := es.length) (cap := cap) (m := some mm) nl nh nm c0 c1 (by simp) (by simp; omega) (by simp) w
          refine SO.val I (run_sliceAt hu hte hb) (.c (.fz ?_))
          simp only [Option.getD_some]
          exact cut_row hx' (by omega) (by omega) (Nat.le_refl _) (by omega) (fun _ => rfl)
    · rename_i id i0 nn
      split at he
      · split at he
        · obtain ⟨o, ho, he⟩ := use1 he
          cases he
          obtain ⟨c0, c2, c4⟩ := hp
          rcases ref_live I ho hx with ⟨b, k, cap, hb, hcap, rfl⟩ | ⟨hbv, hoe, rfl, rfl, ad, rfl⟩
          · have O := I.obj id b k cap o hb ho
            have hoc := O.hcap
            have hbd := bounds_run (P := P) true (len := nn) (cap := cap - i0) (l := none) (m := none) nl nh nm (Int.le_refl 0) c0 (by simp; omega) (by simp) (by simp) w
            refine SO.val I (run_sliceAt hu hte hbd) (.c ?_)
            simp only [Option.getD_none, Int.toNat_natCast, Int.toNat_zero, Nat.zero_mul, Nat.sub_zero, Option.map_some, Addr.add_lit, Nat.add_zero, ite_self]
            exact RepC.ref hb (by omega)
          · rw [hoe] at c2
            simp only [List.length_nil, Nat.zero_add, Nat.le_zero] at c2
            have hbd := bounds_run (P := P) true (len := 0) (cap := 0) (l := none) (m := none) nl nh nm (Int.le_refl 0) c0 (by show hh.getD ((0 : Nat) : Int) ≤ ((0 : Nat) : Int); omega) (by simp) (by simp) w
            refine SO.val I (run_sliceAt hu hte hbd) (.c ?_)
            simp only [Option.getD_none, Int.toNat_natCast, Int.toNat_zero, Nat.zero_mul, Nat.sub_zero, if_true, c2]
            exact RepC.refv hbv
        · rename_i lv
          split at he
          · rename_i hlt
            obtain ⟨o, ho, he⟩ := use1 he
            cases he
            obtain ⟨c0, c2, c4⟩ := hp
            rcases ref_live I ho hx with ⟨b, k, cap, hb, hcap, rfl⟩ | ⟨_, hoe, _, rfl, _⟩
            · have O := I.obj id b k cap o hb ho
              have hoc := O.hcap
              have hbd := bounds_run (P := P) true (len := nn) (cap := cap - i0) (l := some lv) (m := none) nl nh nm c0 (by simp; omega) (by simp; omega) (by simp) (by simp) w
              refine SO.val I (run_sliceAt hu hte hbd) (.c ?_)
              simp only [Option.getD_none, Option.getD_some, Int.toNat_natCast]
              rw [if_neg (by omega)]
              have hk : tie.size = k := by rw [← c4, O.hk]
              have hR := RepC.ref (w := w) (ok := okOf base A w β) (lo := i0 + lv.toNat) (n := (hh.getD nn).toNat - lv.toNat) hb (by omega)
              rw [Nat.add_mul, show cap - (i0 + lv.toNat) = cap - i0 - lv.toNat from by omega] at hR
              simp only [Option.map_some, Addr.add_lit, hk]
              exact hR
            · have h0 : o.es.length = 0 := by rw [hoe]; rfl
              omega
          · obtain ⟨o, ho, he⟩ := use1 he
            cases he
            obtain ⟨c0, c1, c2⟩ := hp
            have empty : ∀ (ad : Option Addr) (c : Nat), RepC w (okOf base A w β) β (.row tie.size false []) (.slice ad 0 c) := fun ad c =>
              .fz (RepF.row (es := []) (cap := c) (fun _ _ => undef) (Nat.zero_le _) (fun h => by cases h) (by simp) (by simp) (fun ad _ i e h => by simp at h) (fun i e h => by simp at h))
            rcases ref_live I ho hx with ⟨b, k, cap, hb, hcap, rfl⟩ | ⟨_, hoe, rfl, rfl, ad, rfl⟩
            · have O := I.obj id b k cap o hb ho
              have hoc := O.hcap
              have hbd := bounds_run (P := P) true (len := nn) (cap := cap - i0) (l := some lv) (m := none) nl nh nm c0 (by simp; omega) (by simp; omega) (by simp) (by simp) w
              refine SO.val I (run_sliceAt hu hte hbd) (.c ?_)
              simp only [Option.getD_none, Option.getD_some, Int.toNat_natCast]
              rw [show (hh.getD (nn : Int)).toNat - lv.toNat = 0 from by rw [c1]; omega]
              exact empty _ _
            · rw [hoe] at c2
              simp only [List.length_nil, Nat.zero_add, Nat.le_zero] at c2
              have hbd := bounds_run (P := P) true (len := 0) (cap := 0) (l := some lv) (m := none) nl nh nm c0 (by show lv ≤ hh.getD ((0 : Nat) : Int); omega) (by show hh.getD ((0 : Nat) : Int) ≤ ((0 : Nat) : Int); omega) (by simp) (by simp) w
              refine SO.val I (run_sliceAt hu hte hbd) (.c ?_)
              simp only [Option.getD_none, Option.getD_some, Int.toNat_natCast]
              rw [show (hh.getD ((0 : Nat) : Int)).toNat - lv.toNat = 0 from by rw [c1]; omega]
              exact empty _ _
      · rename_i mv
        obtain ⟨o, ho, he⟩ := use1 he
        cases he
        obtain ⟨c0, c1, c2, c3, c4⟩ := hp
        rcases ref_live I ho hx with ⟨b, k, cap, hb, hcap, rfl⟩ | ⟨_, hoe, rfl, rfl, ad, rfl⟩
        · have hoc := (I.obj id b k cap o hb ho).hcap
          have hbd := bounds_run (P := P) true (len := nn) (cap := cap - i0) (m := some mv) nl nh nm c0 c1 (by simpa using c2) (by simp; omega) (fun _ => c4) w
          exact SO.val I (run_sliceAt hu hte hbd) (.c (.fz (.any _ rfl)))
        · rw [hoe] at c3
          simp at c3
          have hbd := bounds_run (P := P) true (len := 0) (cap := 0) (m := some mv) nl nh nm c0 c1 (by simpa using c2) (by simp; omega) (fun _ => c4) w
          exact SO.val I (run_sliceAt hu hte hbd) (.c (.fz (.any _ rfl)))
    · split at he
      case h_2 => cases he
      cases he
      obtain ⟨c0, c1⟩ := hp
      obtain ⟨rfl, _⟩ := sc_of hx
      have hbd := bounds_run (P := P) true (len := 0) (cap := 0) (m := none) nl nh nm (by omega) (by simp; omega) (by simp; omega) (by simp) (by simp) w
      refine SO.val I (run_sliceAt hu hte hbd) ?_
      simp only [Int.ofNat_zero, Option.getD_none, Int.toNat_natCast, c0, c1, Int.toNat_zero, Nat.sub_zero, if_true]
      exact scv _ rfl
    · cases he
  · rename_i l hh hd' hl hh' hm
    rw [hd'] at hu
    have nl := numOf_sound hρ hl
    have nh := numOf_sound hρ hh'
    have nm := numOf_sound hρ hm
    split at he
    case h_2 => cases he
    rename_i s
    cases he
    obtain ⟨c0, c1, c2⟩ := hp
    obtain ⟨rfl, _⟩ := sc_of hx
    have hb := bounds_run (P := P) false (len := s.size) (cap := s.size) (m := none) nl nh nm c0 c1 (by simp; omega) (by simp) (by simp) w
    have hmx : mx = none := by
      cases mx with
      | none => rfl
      | some x => exact absurd nm (by simp [IsNum])
    subst hmx
    refine SO.val I (u := .string (s.extract (l.getD 0).toNat (hh.getD s.size).toNat)) ?_ (scv _ rfl)
    simp only [Option.map_none] at hb
    simp [Instr.sliceAt, Instr.slice, run_underlying hu, hb]
  · cases he
theorem val_sound (I : Inv base A w0 β σ w) {x : AVal} {u : Value} (hx : RepV w (okOf base A w β) β x u) {e : Eff} {p : Prop} (he : (Plan.val x).run σ = some (e, p)) : SO P base A w0 β w σ n e (pure (.value u)) := by
  cases he
  exact ⟨.value u, w, rfl, u, β, .inl rfl, I, BLe.refl' β, fun x h => ⟨h, rfl⟩, fun _ _ h => h, hx⟩
theorem new_sound (I : Inv base A w0 β σ w) (hn : β n = .no) {t : Nat} {cs : List Cell} {v : Value} (hv : RepL w (okOf base A w β) β cs v.cells.toList) {e : Eff} {p : Prop} (he : (planNew cs).run σ = some (e, p)) :
    SO P base A w0 β w σ n e (do pure (.value (← (do pure (.pointer (some (← newVar t v))))))) := by
  cases he
  exact newVar_sound I hn hv
theorem op_sound {T : TyEnv} (hT : TOk P T) (I : Inv base A w0 β σ w) (hn : β n = .no) {ρ : Operand → AVal} {ev : Operand → Value} (hρ : ∀ x, RepV w (okOf base A w β) β (ρ x) (ev x)) (o : Oper) {e : Eff} {p : Prop} (he : (planOp T ρ o.op).run σ = some (e, p)) (hp : p) (hnc : ∀ g as, e ≠ .call g as) :
    SO P base A w0 β w σ n e (execOp ev o) := by
  obtain ⟨dst, op, type, pos, after, guard⟩ := o
  have tl : ∀ {t ti}, look t T = some ti → TyOk P t ti := fun h => hT _ _ h
  cases op <;> simp only [planOp] at he <;> try (cases he; done)
  all_goals try (simp [Plan.run] at he; done)
  case move x => exact val_sound I (hρ x) he
  case assign x => exact val_sound I (hρ x) he
  case pick c a b => exact pick_sound I (hρ c) (hρ a) (hρ b) he
  case alloc t =>
    split at he
    case h_2 => cases he
    rename_i ti hti
    have := new_sound (P := P) (t := t) I hn (zeros_rep (tl hti)) he
    obtain ⟨nx, w', hr, ht⟩ := this
    refine ⟨nx, w', ?_, ht⟩
    rw [← hr]
    simp [execOp, Instr.alloc, run_zeroValue (tl hti)]
  case box t x =>
    split at he
    case h_2 => cases he
    rename_i cs hcs
    exact new_sound I hn (cells_of hcs (hρ x)) he
  case build t ps =>
    split at he
    case h_2 => cases he
    rename_i ti hti
    exact build_sound hT I (tl hti) hρ he
  case buildSlice t len ps =>
    split at he
    case h_2 => cases he
    rename_i ti hti
    split at he
    case h_2 => cases he
    rename_i el hd
    split at he
    case h_2 => cases he
    rename_i tie htie
    have h1 := (tl hti).1
    rw [hd] at h1
    exact buildS_sound I hn h1 (tl htie) hρ he
  case load t a =>
    split at he
    case h_2 => cases he
    rename_i ti hti
    exact load_sound I (tl hti) (hρ a) he
  case store t a x =>
    split at he
    case h_2 => cases he
    rename_i ti hti
    exact store_sound I (tl hti) (hρ a) (hρ x) he
  case nilCheck x =>
    obtain ⟨v, rfl, hv, hu⟩ := nil_sound I (hρ x) he
    have hx : execOp ev ⟨dst, .nilCheck x, type, pos, after, guard⟩ = pure (.value (ev x)) := by
      rcases hu with ⟨a, hu⟩ | ⟨f, y, z, hu⟩ <;> simp [execOp, hu]
    rw [hx]
    exact ⟨.value (ev x), w, rfl, ev x, β, .inl rfl, I, BLe.refl' β, fun x h => ⟨h, rfl⟩, fun _ _ h => h, hv⟩
  case binOp op t x y yt =>
    split at he
    case h_2 => cases he
    rename_i ti hti
    exact bin_sound hT I (tl hti) (hρ x) (hρ y) he hp
  case unOp op t x => exact un_sound I (hρ x) he
  case convert s t x =>
    split at he
    case h_2 => cases he
    rename_i tis ti htis hti
    exact conv_sound hT I (tl hti) (tl htis) (hρ x) he
  case slice t x lo hi mx =>
    split at he
    case h_2 => cases he
    rename_i ti hti
    split at he
    · rename_i el hd
      split at he
      case h_2 => cases he
      rename_i tie htie
      exact slice_sound I (tl hti) (.inl ⟨hd, tl htie⟩) hρ (hρ x) he hp
    · rename_i hd
      exact slice_sound (el := 0) I (tl hti) (.inr hd) hρ (hρ x) he hp
    · cases he
  case fieldAddr t x f =>
    split at he
    case h_2 => cases he
    rename_i ti hti
    exact fieldAddr_sound hT I (tl hti) (hρ x) he
  case indexAddr t x ix =>
    split at he
    case h_2 => cases he
    rename_i ti hti
    split at he
    · rename_i el hd
      split at he
      case h_2 => cases he
      rename_i tie htie
      exact indexAddr_sound (T := T) I (tl hti) (fun el' h => by
        rcases h with h | ⟨l, h⟩
        · rw [hd] at h; cases h; exact tl htie
        · rw [hd] at h; cases h) (hρ x) (hρ ix) he hp
    · rename_i l el hd
      split at he
      case h_2 => cases he
      rename_i tie htie
      exact indexAddr_sound (T := T) I (tl hti) (fun el' h => by
        rcases h with h | ⟨l, h⟩
        · rw [hd] at h; cases h
        · rw [hd] at h; cases h; exact tl htie) (hρ x) (hρ ix) he hp
    · cases he
  case extract x i => exact extract_sound I (hρ x) he
  case makeFunc fn first captured => exact makeFunc_sound I hρ he
  case field t x f =>
    split at he
    case h_2 => cases he
    rename_i ti hti
    exact field_sound hT I (tl hti) (hρ x) he
  case makeSlice t l c =>
    split at he
    case h_2 => cases he
    rename_i ti hti
    split at he
    case h_2 => cases he
    rename_i el hd
    split at he
    case h_2 => cases he
    rename_i tie htie
    have h1 := (tl hti).1
    rw [hd] at h1
    exact makeSlice_sound I hn h1 (tl htie) (hρ l) (hρ c) he hp
  case call c =>
    obtain ⟨callee, args, ats⟩ := c
    simp only at he
    split at he
    · split at he
      case h_2 => cases he
      rename_i x t hargs hats
      split at he
      case h_2 => cases he
      rename_i ti hti
      have e1 : args = #[x] := by cases args; simp at hargs; rw [hargs]
      have e2 : ats = #[t] := by cases ats; simp at hats; rw [hats]
      subst e1 e2
      obtain ⟨nx, w', hr, ht⟩ := len_sound (ts := #[t]) (ty := type) I (tl hti) rfl (hρ x) he
      exact ⟨nx, w', by rw [← hr]; simp [execOp, resolve, invoke, builtin], ht⟩
    · split at he
      case h_2 => cases he
      rename_i x t hargs hats
      split at he
      case h_2 => cases he
      rename_i ti hti
      split at he
      case h_2 => cases he
      rename_i el hd
      have h1 := (tl hti).1
      rw [hd] at h1
      have e1 : args = #[x] := by cases args; simp at hargs; rw [hargs]
      have e2 : ats = #[t] := by cases ats; simp at hats; rw [hats]
      subst e1 e2
      obtain ⟨nx, w', hr, ht⟩ := cap_sound (P := P) (n := n) (ty := type) I h1 (hρ x) he
      exact ⟨nx, w', by rw [← hr]; simp [execOp, resolve, invoke, builtin], ht⟩
    · split at he
      case h_2 => cases he
      rename_i s x t tx hargs hats
      split at he
      case h_2 => cases he
      rename_i ti tix hti htix
      have e1 : args = #[s, x] := by cases args; simp at hargs; rw [hargs]
      have e2 : ats = #[t, tx] := by cases ats; simp at hats; rw [hats]
      subst e1 e2
      split at he
      case h_4 => cases he
      · rename_i el elx hd hdx
        split at he
        case h_2 => cases he
        rename_i tie htie
        have h1 := (tl hti).1
        rw [hd] at h1
        have h2 := (tl htix).1
        rw [hdx] at h2
        obtain ⟨nx, w', hr, ht⟩ := append_sound (ty := type) I hn h1 (tl htie) ⟨_, h2⟩ (hρ s) (hρ x) he hp
        exact ⟨nx, w', by rw [← hr]; simp [execOp, resolve, invoke, builtin], ht⟩
      · rename_i el elx hd hdx
        split at he
        case h_2 => cases he
        rename_i tie htie
        have h1 := (tl hti).1
        rw [hd] at h1
        have h2 := (tl htix).1
        rw [hdx] at h2
        obtain ⟨nx, w', hr, ht⟩ := grow_sound (ty := type) I hn h1 (tl htie) h2 (hρ s) (hρ x) he hp
        exact ⟨nx, w', by rw [← hr]; simp [execOp, resolve, invoke, builtin], ht⟩
      · rename_i el hd hdx
        split at he
        case h_2 => cases he
        rename_i tie htie
        split at he
        case isFalse => cases he
        rename_i h1s
        have h1 := (tl hti).1
        rw [hd] at h1
        have h2 := (tl htix).1
        rw [hdx] at h2
        obtain ⟨nx, w', hr, ht⟩ := appendStr_sound (ty := type) I hn h1 (tl htie) h1s h2 (hρ s) (hρ x) he hp
        exact ⟨nx, w', by rw [← hr]; simp [execOp, resolve, invoke, builtin], ht⟩
    · split at he
      case h_2 => cases he
      rename_i x y hargs
      have e1 : args = #[x, y] := by cases args; simp at hargs; rw [hargs]
      subst e1
      obtain ⟨nx, w', hr, ht⟩ := min_sound (P := P) (at_ := ats) (ty := type) I (hρ x) (hρ y) he
      exact ⟨nx, w', by rw [← hr]; simp [execOp, resolve, invoke, builtin], ht⟩
    · split at he
      case h_2 => cases he
      rename_i x y hargs
      have e1 : args = #[x, y] := by cases args; simp at hargs; rw [hargs]
      subst e1
      obtain ⟨nx, w', hr, ht⟩ := max_sound (P := P) (at_ := ats) (ty := type) I (hρ x) (hρ y) he
      exact ⟨nx, w', by rw [← hr]; simp [execOp, resolve, invoke, builtin], ht⟩
    · split at he
      case h_2 => cases he
      rename_i x t hargs hats
      split at he
      case h_2 => cases he
      rename_i ti hti
      split at he
      case h_2 => cases he
      rename_i el hd
      split at he
      case h_2 => cases he
      rename_i tie htie
      have e1 : args = #[x] := by cases args; simp at hargs; rw [hargs]
      have e2 : ats = #[t] := by cases ats; simp at hats; rw [hats]
      subst e1 e2
      have h1 := (tl hti).1
      rw [hd] at h1
      obtain ⟨nx, w', hr, ht⟩ := clear_sound (ty := type) I h1 (tl htie) (hρ x) he hp
      exact ⟨nx, w', by rw [← hr]; simp [execOp, resolve, invoke, builtin], ht⟩
    · split at he
      case h_2 => cases he
      rename_i s x t tx hargs hats
      split at he
      case h_2 => cases he
      rename_i ti tix hti htix
      have e1 : args = #[s, x] := by cases args; simp at hargs; rw [hargs]
      have e2 : ats = #[t, tx] := by cases ats; simp at hats; rw [hats]
      subst e1 e2
      split at he
      case h_2 => cases he
      rename_i el elx hd hdx
      split at he
      case h_2 => cases he
      rename_i tie htie
      have h1 := (tl hti).1
      rw [hd] at h1
      have h2 := (tl htix).1
      rw [hdx] at h2
      obtain ⟨nx, w', hr, ht⟩ := copy_sound (P := P) (n := n) (ty := type) I h1 (tl htie) ⟨_, h2⟩ (hρ s) (hρ x) he hp
      exact ⟨nx, w', by rw [← hr]; simp [execOp, resolve, invoke, builtin], ht⟩
    · split at he
      · split at he
        · cases he
          exact absurd rfl (hnc _ _)
        · cases he
      · cases he
        exact absurd rfl (hnc _ _)
      · cases he
    · cases he
/-- A call of a function of the program: it is entered. -/
theorem call_sound {T : TyEnv} {ρ : Operand → AVal} {ev : Operand → Value} (hρ : ∀ x, RepV w (okOf base A w β) β (ρ x) (ev x)) (o : Oper) (hic : isCallOp o.op = true) {g : FuncId} {as : List AVal} {p : Prop} (he : (planOp T ρ o.op).run σ = some (.call g as, p)) :
    ∃ vs : Array Value, as.length = vs.size ∧ (∀ (i : Nat) (a : AVal) (v : Value), as[i]? = some a → vs[i]? = some v → RepV w (okOf base A w β) β a v) ∧
      ∀ fn, P.funcs[g]? = some fn → (fn.name == "runtime.NumGoroutine") = false → fn.body.isSome = true → (execOp ev o).run P w = .ok (.enter g vs) w := by
  obtain ⟨dst, op, type, pos, after, guard⟩ := o
  have notcall : ∀ {ti : TI} {x : AVal}, (planLen ti x).run σ ≠ some (.call g as, p) := by
    intro ti x h
    unfold planLen at h
    split at h
    · split at h
      · cases h
      · obtain ⟨o, _, h⟩ := use1 h
        cases h
      · cases h
      · cases h
    · split at h <;> cases h
    · cases h
  have notcall2 : ∀ {ti : TI} {s x : AVal}, (planAppendM ti s x).run σ ≠ some (.call g as, p) := by
    intro ti s x h
    unfold planAppendM at h
    split at h
    · cases h
    · split at h
      · simp only [Plan.run] at h
        split at h
        · cases h
        · split at h <;> cases h
      · simp only [Plan.run] at h
        split at h
        · cases h
        · split at h <;> cases h
      · simp only [Plan.run] at h
        split at h
        · cases h
        · split at h
          · split at h <;> cases h
          · cases h
      · cases h
  have notcall3 : ∀ {ti : TI} {s x : AVal}, (planAppend ti s x).run σ ≠ some (.call g as, p) := by
    intro ti s x h
    unfold planAppend at h
    split at h
    · split at h
      · split at h
        · unfold planAppendIn at h
          obtain ⟨o, _, h⟩ := use1 h
          cases h
        · exact notcall2 h
      · split at h
        · obtain ⟨o, _, h⟩ := use1 h
          cases h
        · exact notcall2 h
      · exact notcall2 h
    · exact notcall2 h
  have isCall : ∃ c : Call, op = .call c := by
    cases op <;> first | exact ⟨_, rfl⟩ | (cases hic; done)
  obtain ⟨c, rfl⟩ := isCall
  obtain ⟨callee, args, ats⟩ := c
  simp only [planOp] at he
  split at he
  · split at he
    · split at he
      · exact absurd he notcall
      · cases he
    · cases he
  · split at he
    · split at he
      · split at he
        · unfold planCap at he
          split at he <;> cases he
        · cases he
      · cases he
    · cases he
  · split at he
    · split at he
      · split at he
        · split at he
          · exact absurd he notcall3
          · cases he
        · split at he
          · unfold planGrow at he
            split at he <;> cases he
          · cases he
        · split at he
          · split at he
            · unfold planAppendS at he
              split at he
              · exact absurd he notcall2
              · cases he
            · cases he
          · cases he
        · cases he
      · cases he
    · cases he
  · split at he
    · unfold planMin at he
      split at he <;> cases he
    · cases he
  · split at he
    · unfold planMax at he
      split at he <;> cases he
    · cases he
  · split at he
    · split at he
      · split at he
        · split at he
          · unfold planClear at he
            split at he
            · obtain ⟨o, _, he⟩ := use1 he
              cases he
            · cases he
          · cases he
        · cases he
      · cases he
    · cases he
  · split at he
    · split at he
      · split at he
        · split at he
          · unfold planCopy at he
            split at he
            · cases he
            · split at he
              · simp only [Plan.run] at he
                split at he
                · cases he
                · split at he
                  · split at he <;> cases he
                  · cases he
              · simp only [Plan.run] at he
                split at he
                · cases he
                · split at he <;> cases he
              · cases he
          · cases he
        · cases he
      · cases he
    · cases he
  · rename_i f
    split at he
    · rename_i g' first caps hf
      split at he
      case isFalse => cases he
      rename_i hcond
      cases he
      obtain ⟨hc0, hall⟩ := hcond
      have hcaps : caps = #[] := Array.eq_empty_of_size_eq_zero hc0
      subst hcaps
      have hfe : ev f = .func (.func g) first #[] := by
        have := hρ f
        rw [hf] at this
        exact (sc_of this).1
      have hav : ∀ (l : List Operand), (avs ρ l).length = l.length ∧ ∀ (i : Nat) (a : AVal) (x : Operand), (avs ρ l)[i]? = some a → l[i]? = some x → a = ρ x := by
        intro l
        induction l with
        | nil => exact ⟨rfl, fun i a x h => by simp [avs] at h⟩
        | cons y l ih =>
          refine ⟨by simp [avs, ih.1], fun i a x h1 h2 => ?_⟩
          cases i with
          | zero => simp [avs] at h1 h2; rw [← h1, h2]
          | succ i => exact ih.2 i a x (by simpa [avs] using h1) (by simpa using h2)
      refine ⟨first ++ args.map ev, by simp [(hav args.toList).1], fun i a v ha hv => ?_, fun fn h1 h2 h3 => ?_⟩
      · rw [← Array.getElem?_toList, Array.toList_append] at hv
        by_cases hi : i < first.size
        · rw [List.getElem?_append_left (by simpa using hi), List.getElem?_map] at ha
          rw [List.getElem?_append_left (by simpa using hi)] at hv
          rw [hv] at ha
          cases ha
          rw [Array.all_eq_true_iff_forall_mem] at hall
          exact scv v (hall v (Array.mem_toList_iff.1 (List.mem_of_getElem? hv)))
        · rw [List.getElem?_append_right (by simpa using hi)] at ha hv
          simp only [List.length_map, Array.length_toList] at ha hv
          rw [Array.toList_map, List.getElem?_map] at hv
          cases hx : args.toList[i - first.size]? with
          | none => rw [hx] at hv; cases hv
          | some x =>
            rw [hx] at hv
            cases hv
            rw [(hav args.toList).2 _ a x ha hx]
            exact hρ x
      · obtain ⟨b, hb⟩ := Option.isSome_iff_exists.1 h3
        simp [execOp, resolve, Deferred.ofValue, hfe, invoke, callFunc, h1, h2, hb]
        exact fun h => absurd h2 (by simp [h])
    · rename_i g' caps hf
      cases he
      have hfe : ∃ vs : Array Value, ev f = .func (.func g) #[] vs ∧ caps.length = vs.size ∧ ∀ (j : Nat) (c : Cell) (v : Value), caps[j]? = some c → vs[j]? = some v → RepC w (okOf base A w β) β c v := by
        have := hρ f
        rw [hf] at this
        generalize ev f = u at this
        cases this with
        | c h => cases h with
          | fz h =>
            cases h with
            | fn vs h1 h2 => exact ⟨vs, rfl, h1, fun j c v hc hv => .fz (h2 j c v hc hv)⟩
      obtain ⟨vs, hfe, hcl, hcr⟩ := hfe
      have hav : ∀ (l : List Operand), (avs ρ l).length = l.length ∧ ∀ (i : Nat) (a : AVal) (x : Operand), (avs ρ l)[i]? = some a → l[i]? = some x → a = ρ x := by
        intro l
        induction l with
        | nil => exact ⟨rfl, fun i a x h => by simp [avs] at h⟩
        | cons y l ih =>
          refine ⟨by simp [avs, ih.1], fun i a x h1 h2 => ?_⟩
          cases i with
          | zero => simp [avs] at h1 h2; rw [← h1, h2]
          | succ i => exact ih.2 i a x (by simpa [avs] using h1) (by simpa using h2)
      refine ⟨args.map ev ++ vs, by simp [(hav args.toList).1, hcl], fun i a v ha hv => ?_, fun fn h1 h2 h3 => ?_⟩
      · rw [← Array.getElem?_toList, Array.toList_append] at hv
        have hl := (hav args.toList).1
        by_cases hi : i < args.toList.length
        · rw [List.getElem?_append_left (by rw [hl]; exact hi)] at ha
          rw [List.getElem?_append_left (by simpa using hi), Array.toList_map, List.getElem?_map] at hv
          cases hx : args.toList[i]? with
          | none => rw [hx] at hv; cases hv
          | some x =>
            rw [hx] at hv
            cases hv
            rw [(hav args.toList).2 _ a x ha hx]
            exact hρ x
        · rw [List.getElem?_append_right (by rw [hl]; omega), List.getElem?_map] at ha
          rw [List.getElem?_append_right (by simpa using hi)] at hv
          simp only [Array.toList_map, List.length_map] at hv
          rw [hl] at ha
          cases hx : caps[i - args.toList.length]? with
          | none => rw [hx] at ha; cases ha
          | some c =>
            rw [hx] at ha
            cases ha
            exact .c (hcr _ c v hx (by rw [← Array.getElem?_toList]; exact hv))
      · obtain ⟨b, hb⟩ := Option.isSome_iff_exists.1 h3
        simp [execOp, resolve, Deferred.ofValue, hfe, invoke, callFunc, h1, h2, hb]
        exact fun h => absurd h2 (by simp [h])
    · cases he
  · cases he
end
end Go.Proofs.YtphlhadgcfndhaaGreat.Abs
