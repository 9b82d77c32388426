/- A slice with room or without; an operation by hand; renaming. -/
import Derived.Test.YtopcklnnkpjanaaWVec
import Derived.Laws.Externs
namespace Go.Proofs.Ytopcklnnkpjanaa.Abs
open Go Go.RowKit
set_option linter.unusedVariables false
set_option linter.unusedSimpArgs false
set_option maxHeartbeats 1000000
theorem RepV.tight {w : World} {ok : Nat → Prop} {β : Nat → Bnd} {k n c : Nat} {t : Bool} {es : List (List Cell)} {A : Option Addr} (h : RepV w ok β (.c (.row k t es)) (.slice A n c)) (hc : c = es.length) : RepV w ok β (.c (.row k true es)) (.slice A n c) := by
  cases h with
  | c h => cases h with
    | fz h => cases h with
      | row vs g1 g2 g3 g4 g5 g6 => exact .c (.fz (.row vs g1 (fun _ => hc) g3 g4 g5 g6))
section
variable {P : Program} {base : Nat} {A : Old} {w0 : World} {n : Nat}
/-- A slice of all of an object: it is full, or it has room for one more. -/
theorem AW.split {c : Code} {s : St} {Q : Exit → St → Prop} (t : Nat) {id : Nat} (o : AObj) (ht : look t s.τ = some (.c (.ref id 0 o.es.length))) (ho : look id s.σ = some o) (hf : flatO o = true)
    (h1 : AW P base A w0 n c ⟨putT t (.c (.row o.k true o.es)) (freeze id o [] s).τ, (freeze id o [] s).σ, (freeze id o [] s).fr⟩ Q)
    (h2 : AW P base A w0 n c ⟨s.τ, putA id ⟨o.k, o.es ++ [List.replicate o.k .any]⟩ s.σ, s.fr⟩ Q) : AW P base A w0 n c s Q := fun β a w I => by
  obtain ⟨u, hu, hr⟩ := I.tmps t _ ht
  have tight : (∃ ad, u = .slice ad o.es.length o.es.length) → Code.wp P c (fun e a' w' => ∃ s' β', Q e s' ∧ InvS base A w0 n β' s' a' w') a w := by
    rintro ⟨ad, rfl⟩
    obtain ⟨β', I'⟩ := Weak.freeze (A := A) id o [] s ho hf base w0 n β a w I
    refine h1 β' a w ⟨I'.inv, I'.defers, I'.size, fun v x hx => ?_, I'.fresh, I'.ext⟩
    rw [look_putT] at hx
    split at hx
    · rename_i e
      cases hx
      subst e
      have hl : look v (freeze id o [] s).τ = some (.c (.row o.k false o.es)) := by
        show look v (mapS (frzV id o) s.τ) = _
        rw [look_map, ht]
        simp [frzV, frzC]
      obtain ⟨u2, hu2, hr2⟩ := I'.tmps v _ hl
      rw [hu] at hu2
      cases hu2
      exact ⟨_, hu, hr2.tight rfl⟩
    · exact I'.tmps v x hx
  rcases ref_live I.inv ho hr with ⟨b, k, cap, hb, hcap, rfl⟩ | ⟨hv, hoe, _, _, ad, rfl⟩
  · by_cases hc : cap = o.es.length
    · exact tight ⟨_, by rw [hc, Nat.sub_zero]⟩
    · have O := I.inv.obj id b k cap o hb ho
      refine h2 β a w ⟨⟨I.inv.below, I.inv.hbase, I.inv.old, fun i => ?_, fun i q hi hq => ?_, I.inv.fin, I.inv.lo, I.inv.inj, fun i b' k' cap' q hi hq => ?_⟩, I.defers, I.size, I.tmps, I.fresh, I.ext⟩
      · rw [look_put]
        split
        · rename_i e
          subst e
          have := I.inv.dom i
          rw [ho] at this
          exact this
        · exact I.inv.dom i
      · rw [look_put] at hq
        split at hq
        · rename_i e
          subst e
          rw [hb] at hi
          cases hi
        · exact I.inv.virt i q hi hq
      · rw [look_put] at hq
        split at hq
        · rename_i e
          subst e
          cases hq
          rw [hb] at hi
          cases hi
          obtain ⟨arr, ty, g4, g5, g6, g7⟩ := O.hat
          have hk := O.hk
          have hcl : o.es.length + 1 ≤ cap := by have := O.hcap; omega
          refine ⟨hk, by simpa using hcl, fun e he => ?_, arr, ty, g4, g5, g6, fun j e he c' c hc' => ?_⟩
          · rcases List.mem_append.1 he with he | he
            · exact O.hlen e he
            · rw [List.mem_singleton.1 he, List.length_replicate, hk]
          · by_cases hj : j < o.es.length
            · rw [List.getElem?_append_left hj] at he
              exact g7 j e he c' c hc'
            · rw [List.getElem?_append_right (by omega)] at he
              have hj0 : j - o.es.length = 0 := by
                have := (List.getElem?_eq_some_iff.1 he).1
                rw [List.length_singleton] at this
                omega
              rw [hj0] at he
              cases he
              have hck : c' < k := by
                have := (List.getElem?_eq_some_iff.1 hc').1
                rw [List.length_replicate, hk] at this
                exact this
              rw [(List.mem_replicate.1 (List.mem_of_getElem? hc')).2]
              have hje : j = o.es.length := by omega
              have hm : (o.es.length + 1) * k ≤ cap * k := Nat.mul_le_mul_right _ hcl
              rw [Nat.add_mul, Nat.one_mul] at hm
              have hlt : j * k + c' < arr.size := by rw [g5, hje]; omega
              exact ⟨_, Array.getElem?_eq_getElem hlt, .fz (.any _ (g6 _ (by rw [← Array.getElem_toList (h := hlt)]; exact List.getElem_mem _)))⟩
        · exact I.inv.obj i b' k' cap' q hi hq
  · exact tight ⟨ad, by rw [hoe]; rfl⟩
theorem evOps_part {T : TyEnv} (hT : TOk P T) {ops : Array Oper} {Q : Exit → Act → World → Prop} : ∀ (m k : Nat), k + m ≤ ops.size → ∀ {ans ans' : List Ans} {s s' : St} {p : Prop} {β : Nat → Bnd} {a : Act} {w : World}, evOps P T n ops ((ops.toList.drop k).take m) s ans = some (s', ans', p) → p → InvS base A w0 n β s a w →
    ∀ {l : List Nat}, (∀ β' a' w', InvS base A w0 n β' s' a' w' → wpOps P ops Q l a' w') → wpOps P ops Q (List.range' k m ++ l) a w
  | 0, k, hk, ans, ans', s, s', p, β, a, w, he, hp, I, l, hQ => by
    rw [List.take_zero] at he
    cases he
    exact hQ β a w I
  | m + 1, k, hk, ans, ans', s, s', p, β, a, w, he, hp, I, l, hQ => by
    have hlt : k < ops.toList.length := by simp; omega
    rw [List.drop_eq_getElem_cons hlt, List.take_succ_cons] at he
    unfold evOps at he
    split at he
    case h_1 => cases he
    rename_i s1 ans1 p1 h1
    split at he
    case h_1 => cases he
    rename_i s2 ans2 p2 h2
    cases he
    rw [List.range'_succ, List.cons_append, wpOps_cons]
    refine evOp_sound hT h1 hp.1 I (i := k) (by rw [← Array.getElem?_toList, List.getElem?_eq_getElem hlt]) (fun β' a' w' I' => ?_)
    exact evOps_part hT m (k + 1) (by omega) h2 hp.2 I' hQ
/-- A region of which one operation yields a value that is told by hand. -/
theorem AW.stX {ι : Type} {T : TyEnv} (hT : TOk P T) {id : Nat} {ops : Array Oper} {y : Code} {s : St} {Q : Exit → St → Prop} (ans : List Ans) (m : Nat) {s1 : St} {ans1 : List Ans} {p1 : Prop} (hev1 : evOps P T n ops (ops.toList.take m) s ans = some (s1, ans1, p1)) (hp1 : p1) {o : Oper} {d : Nat} (ho : ops[m]? = some o) (hw : wantedA ops s1.τ o = some true) (hd : o.dst = some d) (hdn : d < n)
    (v : ι → AVal) (s2 : ι → St) (Φ : ι → Prop)
    (hrun : ∀ β a w, InvS base A w0 n β s1 a w → ∃ x u, Φ x ∧ (execOp a.eval o).run P w = .ok (.value u) w ∧ RepV w (okOf base A.own w β) β (v x) u)
    (hev2 : ∀ x, Φ x → ∃ ans2 p2, evOps P T n ops (ops.toList.drop (m + 1)) ⟨putT d (v x) s1.τ, s1.σ, s1.fr⟩ ans1 = some (s2 x, ans2, p2) ∧ p2)
    (hc : ∀ x, Φ x → AW P base A w0 n y (s2 x) Q) : AW P base A w0 n (.seq (.region id ops false) y) s Q := AW.seq fun β a w I => by
  have hm := (Array.getElem?_eq_some_iff.1 ho).1
  refine wp_region ?_
  rw [List.range_eq_range', show ops.size = m + (1 + (ops.size - m - 1)) by omega, ← List.range'_append_1]
  refine evOps_part hT m 0 (by omega) (by simpa using hev1) hp1 I (fun β' a' w' I' => ?_)
  rw [Nat.zero_add, Nat.add_comm 1, List.range'_succ, wpOps_cons]
  unfold wpOp
  rw [ho]
  simp only
  rw [wanted_sound I' hw, if_pos rfl]
  left
  obtain ⟨x, u, hx, hr, hv⟩ := hrun β' a' w' I'
  unfold Oper.wp
  rw [hr, Oper.upon_value]
  obtain ⟨ans2, p2, he2, hp2⟩ := hev2 x hx
  have hput : putD n o.dst (v x) s1.τ = some (putT d (v x) s1.τ) := by rw [hd]; exact if_pos hdn
  have I2 := put_inv (fr' := s1.fr) I' I'.inv (BLe.refl' β') (fun x h => ⟨h, rfl⟩) I'.fresh hv hput
  exact evOps_sound hT (ops.size - m - 1) (m + 1) (by omega) he2 hp2 I2 fun β3 a3 w3 I3 => ⟨s2 x, β3, hc x hx, I3⟩
/-- The capacity of a live slice. -/
theorem cap_run {T : TyEnv} (hT : TOk P T) {s : St} {β : Nat → Bnd} {a : Act} {w : World} (I : InvS base A w0 n β s a w) {o : Oper} {x : Operand} {ty el : TypeId} {ti : TI} (hop : o.op = .call { callee := .builtin .cap, args := #[x], argTypes := #[ty] }) (hti : look ty T = some ti) (hd : ti.d = .slice el)
    {id lo m : Nat} {ob : AObj} (hx : opval s.τ x = .c (.ref id lo m)) (hob : look id s.σ = some ob) (hne : ob.es ≠ []) : ∃ (c : Nat) (u : Value), ob.es.length - lo ≤ c ∧ (execOp a.eval o).run P w = .ok (.value u) w ∧ RepV w (okOf base A.own w β) β (.c (.sc (.int .i64 (c : Int)))) u := by
  have h1 := (hT ty ti hti).1
  rw [hd] at h1
  have hr := opval_rep I x
  rw [hx] at hr
  rcases ref_live I.inv hob hr with ⟨b, k, cap, hb, hcap, hu⟩ | ⟨_, hoe, _⟩
  · have O := I.inv.obj id b k cap ob hb hob
    have := O.hcap
    refine ⟨cap - lo, goInt ((cap - lo : Nat) : Int), by omega, ?_, scv _ rfl⟩
    obtain ⟨dst, op, type, pos, after, guard⟩ := o
    dsimp only at hop
    subst hop
    simp [execOp, resolve, invoke, builtin, hu, Builtin.cap_, run_underlying h1]
  · exact absurd hoe hne
/-- An object gets a new name; one slot is kept. -/
theorem Weak.ren (t id : Nat) {lo m : Nat} {o : AObj} (s : St) (ht : look t s.τ = some (.c (.ref id lo m))) (ho : look id s.σ = some o) (hne : o.es ≠ []) : Weak A s ⟨[(t, .c (.ref s.fr lo m))], putA s.fr o (drop id s.σ), s.fr + 1⟩ := fun base w0 n β a w I => by
  obtain ⟨u, hu, hr⟩ := I.tmps t _ ht
  rcases ref_live I.inv ho hr with ⟨b, k, cap, hb, hcap, rfl⟩ | ⟨_, hoe, _⟩
  · obtain ⟨I', hle, hok⟩ := I.inv.rename hb ho (I.fresh s.fr (Nat.le_refl _))
    refine ⟨_, I', I.defers, I.size, fun v x hx => ?_, fun i hi => ?_, I.ext.step hle fun x hx => ⟨hok x hx, rfl⟩⟩
    · simp only [look] at hx
      split at hx
      · rename_i e
        cases hx
        subst e
        exact ⟨_, hu, .c (.ref (updB_self _ _ _) hcap)⟩
      · cases hx
    · have hi : s.fr + 1 ≤ i := hi
      have hid : id ≠ i := by
        rintro rfl
        have := I.fresh id (by omega)
        rw [hb] at this
        cases this
      rw [updB_ne _ _ (by omega), updB_ne _ _ (Ne.symm hid)]
      exact I.fresh i (by omega)
  · exact absurd hoe hne
end
end Go.Proofs.Ytopcklnnkpjanaa.Abs
