/- Joined for the claim: WPr WNwd WNaw WNnd -/
import Derived.Test.YtphlhadgcfndhaaGreatJd14
import Derived.Test.YtphlhadgcfndhaaGreatJd11
section
namespace Go.Proofs.YtphlhadgcfndhaaGreat.Abs
open Go Go.RowKit
set_option linter.unusedVariables false
set_option linter.unusedSimpArgs false
set_option maxHeartbeats 4000000
set_option maxRecDepth 8000
def shortS (l : List Int) (n : Nat) : List OpS := (timesS l (min 40 l.length)).take n
theorem shortS_ok (l : List Int) (n : Nat) : KiOk (shortS l n) ∧ EfOk (shortS l n) ∧ (shortS l n).length ≤ n ∧ (shortS l n).length ≤ 40 ∧ VT 40 (shortS l n) := by
  obtain ⟨h1, h2, h3⟩ := timesS_ok l (min 40 l.length)
  have hv := timesS_vt l (min 40 l.length)
  refine ⟨fun o ho => h1 o (List.mem_of_mem_take ho), fun o ho => h2 o (List.mem_of_mem_take ho), ?_, ?_, ?_⟩
  · simp only [shortS, List.length_take]; omega
  · simp only [shortS, List.length_take]; omega
  · have := hv.take n
    exact ⟨this.asc, fun o ho => by have := this.el o ho; omega⟩
theorem short_pure (l ch : List Int) (n : Nat) (hl : l.length < 4000000000000000000) (hc : ch.length < 4000000000000000000) (hn : n < 1000) : Pure Tryz.prog 9 [.c (encis l), .c (encis ch), .c (cI n)] (.tup [.agg (encHi (shortS l n)), .c (encis (orderS (shortS l n) ch))]) := by
  refine pure_of teOk Tryz.func9 (by kernel_rfl) (c := _) rfl (N := 24) rfl (rs := [Go.ResultVar.cell 6 26, Go.ResultVar.tmp 7]) rfl (by simp) fun base A w0 hA => ?_
  have ht := times_pure l hl
  have hT := (timesS_ok l (min 40 l.length)).2.2
  have hS : shortS l n = (timesS l (min 40 l.length)).take n := rfl
  have hok := shortS_ok l n
  have hor := order_pure (shortS l n) ch (by omega) hc
  generalize timesS l (min 40 l.length) = T at *
  generalize shortS l n = S at *
  refine AW.st teOk [] (by simp [-Option.some.injEq] <;> rfl) trivial ?_
  refine AW.st teOk [.fz (.agg (encHi T))] (by simp [-Option.some.injEq] <;> rfl) ?_ ?_
  · exact ht
  refine AW.st teOk [] (by simp [-Option.some.injEq] <;> rfl) ?_ ?_
  · split <;> omega
  have he : List.take (if T.length < n then (T.length : Int) else (n : Int)).toNat (T.map encOp) = S.map encOp := by
    rw [hS, List.map_take]
    split
    · rw [List.take_of_length_le (by simp), List.take_of_length_le (by simp; omega)]
    · rw [Int.toNat_natCast]
  refine AW.to (s2 := ⟨[(1, .c (encis ch)), (6, .c (.ptr 0 0 0)), (8, .c (.ptr 1 0 0))], [(0, ⟨1, [[.sc (.slice none 0 0)]]⟩), (1, ⟨1, [[encOps S]]⟩)], 2⟩) (Weak.normS hA [1, 6, 8] [(6, 0), (8, 1)] [] [] 2 _ (by simp) (by simp) (by simp)) (by simp; exact he) ?_
  refine AW.dr mixed teOk [.c (encis (orderS S ch))] (by simp [-Option.some.injEq] <;> rfl) (by kernel_rfl) (by kernel_rfl) ?_ ?_
  · simp [allP]
    exact hor
  refine AW.ret ⟨.inr rfl, _, Weak.refl _, ?_⟩
  simp
end Go.Proofs.YtphlhadgcfndhaaGreat.Abs
end
section
namespace Go.Proofs.YtphlhadgcfndhaaGreat.Abs
open Go Go.RowKit
set_option linter.unusedVariables false
set_option linter.unusedSimpArgs false
set_option maxHeartbeats 4000000
set_option maxRecDepth 4000
theorem RA.weak {P : Program} {base : Nat} {A : Old} {w0 : World} {n : Nat} {ops : Array Oper} {k : Nat} {s s1 s' : St} {Q : Exit → St → Prop} (h : Weak A s s1) (e : s1 = s') (hc : RA P base A w0 n ops k s' Q) : RA P base A w0 n ops k s Q := fun β a w I => by
  subst e
  obtain ⟨β', I'⟩ := h base w0 n β a w I
  exact hc β' a w I'
theorem wit1_pure (e : EfS) : Pure Tryz.prog 18 [.c (.row 9 false [evC e])] (.tup [.c (.row 1 false [[cI 0]]), .c (cI 0)]) := by
  refine pure_of teOk Tryz.func18 (by kernel_rfl) (c := _) rfl (N := 121) rfl (rs := [Go.ResultVar.tmp 2, Go.ResultVar.tmp 3]) rfl (by simp) fun base A w0 hA => ?_
  refine AW.st teOk [] (by simp [-Option.some.injEq] <;> rfl) trivial ?_
  refine AW.st teOk [.fz (.tup [.c nilC, .c (cB true)])] (by simp [-Option.some.injEq] <;> rfl) ?_ ?_
  · exact chain1_pure e
  refine AW.seq ?_
  refine AW.st teOk [] (by simp [-Option.some.injEq] <;> rfl) trivial ?_
  refine AW.iff false (by simp) (fun h => by cases h) (fun _ => AW.skip ?_)
  refine AW.st teOk [] (by simp [-Option.some.injEq] <;> rfl) ?_ ?_
  · simp
  refine AW.seq ?_
  refine AW.st teOk [] (by simp [-Option.some.injEq] <;> rfl) trivial ?_
  refine AW.block (AW.loop1 (fun s => s = ⟨[(0, .c (.row 9 false [evC e])), (2, .c nilC), (3, .c (cI 0)), (4, .c nilC), (6, .c (.ref 0 0 1)), (28, .c (cI 1)), (29, .c (cI 1))], [(0, ⟨1, [[.ref 1 0 1]]⟩), (1, ⟨1, [[cI 0]]⟩)], 2⟩) ?_ ?_)
  · refine AW.st teOk [] (by simp [-Option.some.injEq] <;> rfl) trivial ?_
    refine AW.seq ?_
    refine AW.iff true (by simp) (fun _ => AW.skip ?_) (fun h => by cases h)
    refine AW.seq (AW.block ?_)
    refine AW.st teOk [] (by simp [-Option.some.injEq] <;> rfl) trivial ?_
    refine AW.st teOk [] (by simp [-Option.some.injEq] <;> rfl) trivial ?_
    refine AW.iff true (by simp) (fun _ => ?_) (fun h => by cases h)
    refine AW.st teOk [.fz (.c (cI 0))] (by simp [-Option.some.injEq] <;> rfl) ?_ ?_
    · exact block0_pure e
    refine AW.text teOk (ans := []) (by simp [-Option.some.injEq] <;> rfl) ?_ ?_
    · simp [growOk]
    refine AW.text teOk (ans := []) (by simp [-Option.some.injEq] <;> rfl) ?_ ?_
    · trivial
    refine ⟨_, Weak.normS hA [0, 2, 3, 4, 6, 28, 29] [(6, 0)] [(39, 1)] [13] 2 _ (by simp) (by simp) (by simp), by simp⟩
  rintro s rfl
  refine AW.st teOk [] (by simp [-Option.some.injEq] <;> rfl) trivial ?_
  refine AW.seq ?_
  refine AW.iff false (by simp) (fun h => by cases h) (fun _ => AW.exit (x_then (x_then (blockA_exit ?_))))
  refine AW.st teOk [] (by simp [-Option.some.injEq] <;> rfl) trivial ?_
  refine AW.seq ?_
  refine AW.st teOk [] (by simp [-Option.some.injEq] <;> rfl) trivial ?_
  refine AW.block (AW.loop1 (fun s => s = ⟨[(10, .c (.ptr 0 0 0)), (55, .c (cI 1)), (56, .c (cI 1))], [(0, wO (.row 9 false [evC e]) (.ref 1 0 1)), (1, ⟨1, [[cI 0]]⟩)], 2⟩) ?_ ?_)
  · refine AW.st teOk [] (by simp [-Option.some.injEq] <;> rfl) trivial ?_
    refine AW.seq ?_
    refine AW.iff true (by simp) (fun _ => AW.skip ?_) (fun h => by cases h)
    refine AW.seq (AW.block ?_)
    refine AW.st teOk [] (by simp [-Option.some.injEq] <;> rfl) trivial ?_
    refine AW.seq ?_
    refine AW.seq (AW.regionA (RA.pre teOk 2 [] (by decide) (by simp [-Option.some.injEq] <;> rfl) trivial ?_))
    refine RA.weak (s' := ⟨[(0, .c (.row 9 false [evC e])), (4, .c nilC), (10, .c (.ptr 0 0 0)), (11, .c (cI 0)), (55, .c (cI 1)), (56, .c (cI 0)), (61, .c (.ptr 0 0 0)), (62, .c (.ref 1 0 1))], [(0, wO (.row 9 false [evC e]) nilC), (1, ⟨1, [[cI 0]]⟩)], 2⟩) (Weak.normS hA [0, 4, 10, 11, 55, 56, 61, 62] [(10, 0), (62, 1)] [] [] 2 _ (by simp) (by simp) (by simp)) (by simp) ?_
    refine RA.pre teOk 2 [.sem (.c (cB true)) [(0, wO (.row 9 false [evC e]) (.ref 2 0 1)), (1, ⟨1, [[cI 0]]⟩), (2, ⟨1, [[cI 0]]⟩)] 3] (by decide) (by simp [-Option.some.injEq] <;> rfl) ?_ (RA.done (by decide) ?_)
    · exact SemC.of0 (upd1_con e) rfl (Nat.le_of_ble_eq_true rfl)
    refine AW.iff false (by simp) (fun h => by cases h) (fun _ => AW.skip ?_)
    refine AW.st teOk [] (by simp [-Option.some.injEq] <;> rfl) trivial ?_
    refine AW.seq ?_
    refine AW.st teOk [] (by simp [-Option.some.injEq] <;> rfl) trivial ?_
    refine AW.block (AW.loop1 (fun s => s = ⟨[(10, .c (.ptr 0 0 0)), (13, .c nilC), (55, .c (cI 1)), (56, .c (cI 0)), (66, .c (cI 1)), (67, .c (cI 1))], [(0, wO (.row 9 false [evC e]) (.ref 1 0 1)), (1, ⟨1, [[cI 0]]⟩)], 2⟩) ?_ ?_)
    · refine AW.st teOk [] (by simp [-Option.some.injEq] <;> rfl) trivial ?_
      refine AW.seq ?_
      refine AW.iff true (by simp) (fun _ => AW.skip ?_) (fun h => by cases h)
      refine AW.seq (AW.block ?_)
      refine AW.st teOk [] (by simp [-Option.some.injEq] <;> rfl) trivial ?_
      refine AW.dr mixed teOk [] (by simp [-Option.some.injEq] <;> rfl) (by kernel_rfl) (by kernel_rfl) ?_ ?_
      · simp [allP]
      refine AW.iff false (by simp) (fun h => by cases h) (fun _ => AW.skip ?_)
      refine AW.text teOk (ans := []) (by simp [-Option.some.injEq] <;> rfl) ?_ ?_
      · trivial
      refine ⟨_, Weak.normS hA [10, 13, 55, 56, 66, 67] [(10, 0)] [(2, 1)] [0] 2 _ (by simp) (by simp) (by simp), by simp⟩
    rintro s rfl
    refine AW.st teOk [] (by simp [-Option.some.injEq] <;> rfl) trivial ?_
    refine AW.seq ?_
    refine AW.iff false (by simp) (fun h => by cases h) (fun _ => AW.exit (x_then (x_then (blockA_exit ?_))))
    refine AW.st teOk [.sem (.tup []) [(0, wO (.row 9 false [evC e]) (.ref 1 0 1)), (1, ⟨1, [[cI 0]]⟩)] 5] (by simp [-Option.some.injEq] <;> rfl) ?_ ?_
    · exact SemC.deep rfl (byCall0_pure [.row 9 false [evC e], .row 1 false [[cI 0]]])
    refine AW.text teOk (ans := []) (by simp [-Option.some.injEq] <;> rfl) ?_ ?_
    · simp [growOk]
    refine AW.text teOk (ans := []) (by simp [-Option.some.injEq] <;> rfl) ?_ ?_
    · trivial
    refine ⟨_, Weak.normS hA [10, 55, 56] [(10, 0)] [(11, 1)] [0] 2 _ (by simp) (by simp) (by simp), by simp⟩
  rintro s rfl
  refine AW.st teOk [] (by simp [-Option.some.injEq] <;> rfl) trivial ?_
  refine AW.seq ?_
  refine AW.iff false (by simp) (fun h => by cases h) (fun _ => AW.exit (x_then (x_then (blockA_exit ?_))))
  refine AW.st teOk [] (by simp [-Option.some.injEq] <;> rfl) trivial ?_
  refine AW.ret ⟨.inr rfl, _, Weak.freeze 1 ⟨1, [[cI 0]]⟩ [0] _ (by simp) rfl, by simp⟩
end Go.Proofs.YtphlhadgcfndhaaGreat.Abs
end
section
namespace Go.Proofs.YtphlhadgcfndhaaGreat.Abs
open Go Go.RowKit
set_option linter.unusedVariables false
set_option linter.unusedSimpArgs false
set_option maxHeartbeats 4000000
set_option maxRecDepth 8000
section
variable {P : Program} {base : Nat} {A : Nat → Prop} {w0 w : World} {β : Nat → Bnd} {σ : Sig} {n : Nat}
/-- A literal, as an object. -/
theorem buildO_sound (I : Inv base A w0 β σ w) (hn : β n = .no) {t el : Nat} {tie : TI} (ht : P.underlying t = some (.slice el)) (hte : TyOk P el tie) {ρ : Operand → AVal} {ev : Operand → Value} (hρ : ∀ x, RepV w (okOf base A w β) β (ρ x) (ev x)) {ps : Array (Nat × Operand)} {es : List (List Cell)} (hes : partsN tie.size ρ 0 ps.toList = some es) (hsmall : es.length * tie.size ≤ 16777216) :
    SO P base A w0 β w σ n (.new ⟨tie.size, es⟩ fun id => .c (.ref id 0 es.length)) (do pure (.value (← Instr.buildSlice t es.length (ps.map fun (i, x) => (i, ev x))))) := by
  obtain ⟨hk, cells', h5, hrun⟩ := buildS_core ht hte hρ hes hsmall
  have hcz : cells'.toList.length = es.flatten.length := h5.1.symm
  have hfl : es.flatten.length = es.length * tie.size := by
    clear hrun h5 hcz hsmall hes
    induction es with
    | nil => simp
    | cons e l ih =>
      rw [List.flatten_cons, List.length_append, ih (fun x hx => hk x (by simp [hx])), hk e (by simp), List.length_cons, Nat.succ_mul, Nat.add_comm]
  obtain ⟨I', hok⟩ := new_inv (n := n) I hn (o := ⟨tie.size, es⟩) (arr := cells') (ty := el) (cap := es.length) (w1 := w) rfl (Below.refl _ _) (Nat.le_refl _) hk (by rw [← hfl, ← hcz]; simp) h5.one (fun i e he j c hc => by
    have hf := flat_get tie.size es i e j c hk he hc
    have hlt : i * tie.size + j < cells'.toList.length := by rw [hcz]; exact (List.getElem?_eq_some_iff.1 hf).1
    refine ⟨cells'.toList[i * tie.size + j], ?_, h5.2 _ c _ hf (List.getElem?_eq_getElem hlt)⟩
    rw [← Array.getElem?_toList]
    exact List.getElem?_eq_getElem hlt)
  refine ⟨.value (.slice (some ⟨w.heap.size, 0, none⟩) es.length es.length), w.alloc (.cells cells' el), ?_, _, _, .inl rfl, I', updB_le (by rw [hn]; exact .no _), hok, fun i hi h => by rw [updB_ne _ _ hi]; exact h, .c ?_⟩
  · simp only [Sem.run_bind, hrun, Result.andThen_ok, Sem.run_pure]
  · have := RepC.ref (w := w.alloc (.cells cells' el)) (ok := okOf base A (w.alloc (.cells cells' el)) (updB β n (.live w.heap.size tie.size es.length))) (β := updB β n (.live w.heap.size tie.size es.length)) (id := n) (lo := 0) (n := es.length) (updB_self _ _ _) (by omega)
    simpa using this
end
theorem RA.lit {P : Program} {base : Nat} {A : Old} {w0 : World} {n : Nat} {ops : Array Oper} {k : Nat} {o : Oper} {t el len d : Nat} {ps : Array (Nat × Operand)} {tie : TI} {es : List (List Cell)} {s : St} {Q : Exit → St → Prop} (ho : ops[k]? = some o) (hop : o.op = .buildSlice t len ps) (hd : o.dst = some d) (hg : o.guard = none) (hdn : d < n)
    (ht : P.underlying t = some (.slice el)) (hte : TyOk P el tie) (hes : partsN tie.size (opval s.τ) 0 ps.toList = some es) (hlen : es.length = len) (hsmall : es.length * tie.size ≤ 16777216)
    (h : RA P base A w0 n ops (k + 1) ⟨putT d (.c (.ref s.fr 0 es.length)) s.τ, putA s.fr ⟨tie.size, es⟩ s.σ, s.fr + 1⟩ Q) : RA P base A w0 n ops k s Q := fun β a w I => by
  have hlt := (Array.getElem?_eq_some_iff.1 ho).1
  rw [show ops.size - k = (ops.size - (k + 1)) + 1 by omega, List.range'_succ, wpOps_cons]
  unfold wpOp
  rw [ho]
  simp only
  have hw : Region.wanted o (yielded ops a.tmps) = true := by unfold Region.wanted; rw [hg]
  rw [hw, if_pos rfl]
  left
  unfold Oper.wp
  subst hlen
  obtain ⟨nx, w', hrun, u, β', hnx, I', hle, hok, hfr, hv⟩ := buildO_sound (n := s.fr) I.inv (I.fresh s.fr (Nat.le_refl _)) ht hte (opval_rep I) hes hsmall
  have this := put_inv (fr' := s.fr + 1) I I' hle hok (fun id hid => hfr id (by omega) (I.fresh id (by omega))) hv (d := some d) (τ' := putT d (.c (.ref s.fr 0 es.length)) s.τ) (by unfold putD; simp only; rw [if_pos hdn]; rfl)
  have hrun' : (execOp a.eval o).run P w = .ok nx w' := by
    rw [← hrun]
    simp [execOp, hop]
  rw [hrun']
  rcases hnx with rfl | ⟨rfl, rfl⟩
  · rw [Oper.upon_value, hd]
    exact h _ _ _ this
  · rw [Oper.upon_skip, hd]
    exact h _ _ _ this
end Go.Proofs.YtphlhadgcfndhaaGreat.Abs
end
section
namespace Go.Proofs.YtphlhadgcfndhaaGreat.Abs
open Go Go.RowKit
set_option linter.unusedVariables false
set_option linter.unusedSimpArgs false
def plC : Cell → Bool
  | .row _ _ _ => false
  | .fad _ => false
  | .fn _ _ => false
  | _ => true
mutual
def plV : AVal → Bool
  | .any => true
  | .c x => plC x
  | .agg cs => cs.all plC
  | .tup vs => plVs vs
  | .cut _ _ _ => false
def plVs : List AVal → Bool
  | [] => true
  | v :: vs => plV v && plVs vs
end
theorem plV_agg {cs : List Cell} (h : plV (.agg cs) = true) : ∀ q ∈ cs, plC q = true := List.all_eq_true.1 (by rw [plV] at h; exact h)
theorem plVs_mem : ∀ {vs : List AVal}, plVs vs = true → ∀ q ∈ vs, plV q = true
  | [], _, _, h => by cases h
  | u :: vs, hp, v, h => by
    rw [plVs, Bool.and_eq_true] at hp
    rcases List.mem_cons.1 h with rfl | h
    · exact hp.1
    · exact plVs_mem hp.2 v h
theorem plV_tup {vs : List AVal} (h : plV (.tup vs) = true) : ∀ q ∈ vs, plV q = true := plVs_mem (by rw [plV] at h; exact h)
def plainS : Sig → Bool
  | [] => true
  | (_, o) :: r => plainO o && plainS r
theorem plainS_get {t : Nat} {o : AObj} : ∀ {σ : Sig}, plainS σ = true → look t σ = some o → plainO o = true
  | [], _, h => by cases h
  | (u, q) :: r, hf, h => by
    unfold plainS at hf
    rw [Bool.and_eq_true] at hf
    unfold look at h
    split at h
    · cases h; exact hf.1
    · exact plainS_get hf.2 h
section
variable {P : Program} {base : Nat} {A : Old} {w0 w : World} {β : Nat → Bnd} {s : St} {n : Nat} {a : Act}
theorem newD_calls (I : InvS base A w0 n β s a w) {g : FuncId} {xs : List AVal} {res : AVal} {σ' : Sig} {m' : Nat} (hP : New P g (xs.map (rdDV s.σ)) res σ' m') (hfl : plainS σ' = true) (hpr : plV res = true) {vs : Array Value} (hr : RepAs w (okOf base A.own w β) β xs vs) :
    Calls P g vs w fun e w' => ∃ v β', e = .returned v ∧ Inv base A.own w0 β' (shS s.fr σ' ++ s.σ) w' ∧ (∀ i, BLe (β i) (β' i)) ∧ (∀ x, okOf base A.own w β x → okOf base A.own w' β' x ∧ w'.heap[x]? = w.heap[x]?) ∧ (∀ id, s.fr + m' ≤ id → β' id = .no) ∧ RepV w' (okOf base A.own w' β') β' (shV s.fr res) v := by
  refine (hP.2 w (rdOk w β (okOf base A.own w β)) vs (fun b hb => hb.1) ⟨by rw [List.length_map]; exact hr.1, fun i x v hx hv => ?_⟩).mono ?_
  · rw [List.getElem?_map] at hx
    cases hq : xs[i]? with
    | none => rw [hq] at hx; cases hx
    | some y =>
      rw [hq] at hx
      cases hx
      exact rdDV_rep I.inv (hr.2 i y v hq hv)
  rintro e w' ⟨v, β1, rfl, J, hm, hv⟩
  have hI := I.inv
  have hlive : ∀ id b k cap, β id = .live b k cap → id < s.fr := fun id b k cap h => by
    rcases Nat.lt_or_ge id s.fr with h1 | h1
    · exact h1
    · rw [I.fresh id h1] at h; cases h
  obtain ⟨β2, hβ2⟩ : ∃ β2 : Nat → Bnd, β2 = fun id => if id < s.fr then β id else β1 (id - s.fr) := ⟨_, rfl⟩
  have lo_ : ∀ id, id < s.fr → β2 id = β id := fun id h => by rw [hβ2]; exact if_pos h
  have hi_ : ∀ id, β2 (s.fr + id) = β1 id := fun id => by rw [hβ2]; simp only; rw [if_neg (by omega), Nat.add_sub_cancel_left]
  have hi2 : ∀ id, ¬ id < s.fr → β2 id = β1 (id - s.fr) := fun id h => by rw [hβ2]; exact if_neg h
  have hle : ∀ i, BLe (β i) (β2 i) := fun i => by
    by_cases h : i < s.fr
    · rw [lo_ i h]; exact .same _
    · rw [I.fresh i (by omega)]; exact .no _
  have hsz := J.below.size
  have hok : ∀ x, okOf base A.own w β x → okOf base A.own w' β2 x ∧ w'.heap[x]? = w.heap[x]? := fun x hx => ⟨⟨hx.1, by have := hx.2.1; omega, fun id b k cap hb e => by
    by_cases h : id < s.fr
    · rw [lo_ id h] at hb
      exact hx.2.2 id b k cap hb e
    · rw [hi2 id h] at hb
      have := (J.lo _ b k cap hb).1
      have := hx.2.1
      omega⟩, J.below.block x hx.2.1⟩
  have hcell : ∀ (c : Cell) (u : Value), plC c = true → RepC w' (okOf w.heap.size (rdOk w β (okOf base A.own w β)) w' β1) β1 c u → RepC w' (okOf base A.own w' β2) β2 (shC s.fr c) u := fun c u hp h => by
    cases h with
    | fz h =>
      cases h with
      | any _ h => exact .fz (.any _ h)
      | sc _ h => exact .fz (.sc _ h)
      | bit b => exact .fz (.bit b)
      | row => cases hp
      | fad => cases hp
      | fn => cases hp
    | ref hb hl => exact .ref (by rw [hi_]; exact hb) hl
    | refv hb => exact .refv (by rw [hi_]; exact hb)
    | gone hb hv => exact .gone (by rw [hi_]; exact hb) hv
    | ptr hb => exact .ptr (by rw [hi_]; exact hb)
    | gonep hb hv => exact .gonep (by rw [hi_]; exact hb) hv
  have hval : ∀ (x : AVal) (u : Value), plV x = true → RepV w' (okOf w.heap.size (rdOk w β (okOf base A.own w β)) w' β1) β1 x u → RepV w' (okOf base A.own w' β2) β2 (shV s.fr x) u := fun x u hp h => by
    induction h with
    | any v => rw [shV]; exact .any v
    | c h => rw [shV_c]; exact .c (hcell _ _ hp h)
    | agg h =>
      rw [shV_agg]
      refine .agg ⟨by rw [List.length_map]; exact h.1, fun i c v hc hv => ?_⟩
      rw [List.getElem?_map] at hc
      cases hq : (_ : List Cell)[i]? with
      | none => rw [hq] at hc; cases hc
      | some q =>
        rw [hq] at hc
        cases hc
        exact hcell _ _ (plV_agg hp q (List.mem_of_getElem? hq)) (h.2 i q v hq hv)
    | tup hl _ ih =>
      rw [shV]
      refine .tup (by rw [shVs_len]; exact hl) fun i a u ha hu => ?_
      rw [shVs_get] at ha
      cases hq : (_ : List AVal)[i]? with
      | none => rw [hq] at ha; cases ha
      | some q =>
        rw [hq] at ha
        cases ha
        exact ih i q u hq hu (plV_tup hp q (List.mem_of_getElem? hq))
    | cut h =>
      rw [shV]
      exact .any _
  have hlk : ∀ id, look id (shS s.fr σ' ++ s.σ) = if id < s.fr then look id s.σ else look (id - s.fr) σ' := fun id => by
    rw [look_app, look_sh]
    by_cases h : id < s.fr
    · rw [if_pos h, if_pos h]
    · rw [if_neg h, if_neg h]
      cases hq : look (id - s.fr) σ' with
      | some o => rfl
      | none =>
        simp only
        refine look_none fun hs => ?_
        rcases (hI.dom id).1 hs with ⟨b, k, cap, hb⟩ | hb
        · exact h (hlive id b k cap hb)
        · rw [I.fresh id (by omega)] at hb; cases hb
  refine ⟨v, β2, rfl, ⟨hI.below.trans (J.below.mono hI.hbase), by have := hI.hbase; omega, hI.old, fun id => ?_, fun id o hb hl => ?_, ⟨s.fr + m', fun id h => ?_⟩, fun id b k cap hb => ?_, fun id id' b k cap k' cap' h1 h2 => ?_, fun id b k cap o hb hl => ?_⟩, hle, hok, fun id h => ?_, hval _ _ hpr hv⟩
  · rw [hlk]
    by_cases h : id < s.fr
    · rw [if_pos h, lo_ id h]; exact hI.dom id
    · rw [if_neg h, hi2 id h]; exact J.dom _
  · rw [hlk] at hl
    by_cases h : id < s.fr
    · rw [if_pos h] at hl; rw [lo_ id h] at hb; exact hI.virt id o hb hl
    · rw [if_neg h] at hl; rw [hi2 id h] at hb; exact J.virt _ o hb hl
  · rw [hi2 id (by omega)]; exact hm _ (by omega)
  · by_cases h : id < s.fr
    · rw [lo_ id h] at hb
      have := hI.lo id b k cap hb
      omega
    · rw [hi2 id h] at hb
      have := J.lo _ b k cap hb
      have := hI.hbase
      omega
  · by_cases h : id < s.fr
    · rw [lo_ id h] at h1
      by_cases h' : id' < s.fr
      · rw [lo_ id' h'] at h2; exact hI.inj id id' b k cap k' cap' h1 h2
      · rw [hi2 id' h'] at h2
        have := hI.lo id b k cap h1
        have := J.lo _ b k' cap' h2
        omega
    · rw [hi2 id h] at h1
      by_cases h' : id' < s.fr
      · rw [lo_ id' h'] at h2
        have := hI.lo id' b k' cap' h2
        have := J.lo _ b k cap h1
        omega
      · rw [hi2 id' h'] at h2
        have := J.inj _ _ b k cap k' cap' h1 h2
        omega
  · rw [hlk] at hl
    by_cases h : id < s.fr
    · rw [if_pos h] at hl
      rw [lo_ id h] at hb
      exact (hI.obj id b k cap o hb hl).mono hok hle (J.below.block b (hI.lo id b k cap hb).2)
    · rw [if_neg h] at hl
      rw [hi2 id h] at hb
      obtain ⟨g1, g2, g3, arr, ty, g4, g5, g6, g7⟩ := J.obj _ b k cap o hb hl
      refine ⟨g1, g2, g3, arr, ty, g4, g5, g6, fun i e he j c hc => ?_⟩
      obtain ⟨u, hu, hr⟩ := g7 i e he j c hc
      have hfo := plainS_get hfl hl
      unfold plainO at hfo
      rw [List.all_eq_true] at hfo
      have hfe := hfo e (List.mem_of_getElem? he)
      rw [List.all_eq_true] at hfe
      exact ⟨u, hu, plain_repC hr (hfe c (List.mem_of_getElem? hc))⟩
  · rw [hi2 id (by omega)]; exact hm _ (by omega)
end
theorem SemC.newD {P : Program} {g : FuncId} {s : St} {xs : List AVal} {r : AVal} {σ' : Sig} {m' : Nat} (hP : New P g (xs.map (rdDV s.σ)) r σ' m') (hfl : plainS σ' = true) (hpr : plV r = true) : SemC P g xs s (shV s.fr r) (shS s.fr σ' ++ s.σ) (s.fr + m') := by
  refine ⟨hP.1, fun A base w0 n β a w vs I hvs => ?_⟩
  exact newD_calls I hP hfl hpr hvs
end Go.Proofs.YtphlhadgcfndhaaGreat.Abs
end
