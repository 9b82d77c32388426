/- slices.Insert of one entry. -/
import Derived.Test.YtopcklnnkpjanaaWIns
namespace Go.Proofs.Ytopcklnnkpjanaa.Abs
open Go Go.RowKit
set_option linter.unusedVariables false
set_option linter.unusedSimpArgs false
set_option maxHeartbeats 4000000
theorem drop_rest : ∀ {rest : Sig} (_ : ∀ i, (look i rest).isSome = true → i < LIM) (k : Nat) (_ : 1000000 ≤ k), drop k rest = rest
  | [], _, _, _ => rfl
  | (t, o) :: r, h, k, hk => by
    have h1 := h t (by simp [look])
    have hr : ∀ i, (look i r).isSome = true → i < LIM := fun i hi => h i (by
      rw [look]
      split
      · rfl
      · exact hi)
    rw [drop, drop_rest hr k hk, if_neg (by have : t < 1000000 := h1; omega)]
theorem Weak.sortC {A : Old} (s : St) : Weak A s ⟨s.τ, sortS (hiS s.σ) ++ loS s.σ, s.fr⟩ := Weak.order _ fun id => by
  rw [← look_hilo id s.σ, look_app, look_app, look_sortS]
theorem Weak.normCS {A : Old} {m : Nat} {rest : Sig} (hA : A.lim = m) (hrefs : ∀ i o, look i rest = some o → refsLt m o) (ks : List Nat) (rs fix : List (Nat × Nat)) (ids : List Nat) (K : Nat) (s : St) (hlo : loS s.σ = rest)
    (h1 : ((rhoOf s.τ rs ++ fix).all fun p => decide (LIM ≤ p.1) && decide (LIM ≤ p.2) && decide (p.2 < K) && (decide (m ≤ p.1) && decide (m ≤ p.2) || p.1 == p.2)) = true) (hK : (decide (LIM ≤ K) && decide (m ≤ K)) = true) (h2 : ((rhoOf s.τ rs ++ fix).map Prod.snd).Nodup)
    (h3 : ((hiS s.σ).all fun p => decide (m ≤ p.1) || look p.1 (rhoOf s.τ rs ++ fix) == some p.1) = true) (h4 : flatRest (rhoOf s.τ rs ++ fix) ids (hiS s.σ)) :
    Weak A s ⟨(normL ks (rhoOf s.τ rs ++ fix) ids K s).τ, sortS (hiS (normL ks (rhoOf s.τ rs ++ fix) ids K s).σ) ++ loS (normL ks (rhoOf s.τ rs ++ fix) ids K s).σ, K⟩ := (Weak.normC hA hrefs ks rs fix ids K s hlo h1 hK h2 h3 h4).trans (Weak.sortC _)
theorem ov_run {P : Program} (w : World) (tS tR e : TypeId) (ht : P.underlying tS = some (.slice e)) (size : Nat) (hz : ∀ w, (Go.sizeOf e).run P w = .ok size w)
    (a b : Addr) (la ca lb cb : Nat) (hne : a.block ≠ b.block) {tA tB : TypeId} {kA kB : Nat} (hsa : w.shape? a.block = some (tA, kA)) (hsb : w.shape? b.block = some (tB, kB)) (hkA : kA ≠ 0) (hkB : kB ≠ 0)
    (hfb : ∀ q, w.frozen? { block := b.block, off := q } = false) (hb : b.spot = none) :
    (Extern.SlicesOverlaps.overlaps #[tS, tS] #[tR] #[.slice (some a) la ca, .slice (some b) lb cb]).run P w = .ok (.bool false) w := by
  have hnb : (a.block != b.block) = true := by simpa using hne
  have hnb' : (a.block == b.block) = false := by simpa using hne
  have hfb' : w.frozen? b = false := by
    have := hfb b.off
    obtain ⟨x, y, z⟩ := b
    dsimp only at hb this ⊢
    subst hb
    exact this
  change Sem.run P (α := Value) (do
    let some t := (#[tS, tS] : Array TypeId)[0]? | stuck "slices.overlaps: no parameter types"
    let .slice elem ← underlying t | stuck "slices.overlaps: slice type expected"
    let size ← sizeOf elem
    match (some a : Option Addr), (some b : Option Addr) with
    | some a, some b =>
      if la = 0 ∨ lb = 0 ∨ size = 0 then pure (Value.bool false)
      else if a.block != b.block && (← frozen a) && (← frozen b) then unsupported .addressObserved
      else do
        if a.block != b.block then do
          noView a; noView b
          if ← mayBeOne a b then return Value.bool ((← choose (.extern "sameAddr.stringBytes" 2)) == 1)
        pure (Value.bool (a.block == b.block && a.off < b.off + lb * size && b.off < a.off + la * size))
    | _, _ => pure (Value.bool false)) w = _
  by_cases h0 : la = 0 ∨ lb = 0 ∨ size = 0
  · simp [run_underlying ht, hz, h0]
  · cases kB with
    | zero => exact absurd rfl hkB
    | succ kB =>
    cases kA with
    | zero => exact absurd rfl hkA
    | succ kA =>
      cases hfa : w.frozen? a <;> cases hfe : w.frozen? { block := a.block, off := kA + 1 } <;> simp [run_underlying ht, hz, h0, hnb, hnb', frozen, noView, viewAt, mayBeOne, stringish, shape, Sem.run, hsa, hsb, hfb, hfb', hfa, hfe]
theorem spot_none {w : World} {a : Addr} {v : Value} (h : w.cell? a = some v) : ∃ arr ty fr, w.heap[a.block]? = some (.cells arr ty fr) ∧ arr.size ≠ 0 := by
  unfold World.cell? at h
  split at h
  · rename_i c ty fr hh
    split at h
    · cases h
    · exact ⟨c, ty, fr, hh, fun h0 => by
        have := (Array.getElem?_eq_some_iff.1 h).1
        omega⟩
  · cases h
/-- A row that is only read and a live slice lie apart. -/
theorem over_run {P : Program} {base : Nat} {A : Old} {w0 : World} {n : Nat} {T : TyEnv} (hT : TOk P T) {s : St} {β : Nat → Bnd} {a : Act} {w : World} (I : InvS base A w0 n β s a w) {o : Oper} {x y : Operand} {ats : Array TypeId} {g : FuncId} {fn : Func} {ty tR el : TypeId} {ti tie : TI}
    (hop : o.op = .call { callee := .value (.func g), args := #[x, y], argTypes := ats }) (hfn : P.funcs[g]? = some fn) (hname : (fn.name == "runtime.NumGoroutine") = false) (hbody : fn.body.isNone = true) (hnext : Extern.findNext fn = none) (hfind : Extern.find fn = some (Extern.SlicesOverlaps.overlaps #[ty, ty] #[tR]))
    (hti : look ty T = some ti) (hd : ti.d = .slice el) (htie : look el T = some tie) {k : Nat} {t : Bool} {e : List Cell} {es : List (List Cell)} (hx : opval s.τ x = .c (.row k t (e :: es))) (hk0 : 0 < k) {id lo m : Nat} {ob : AObj} (hy : opval s.τ y = .c (.ref id lo m)) (hob : look id s.σ = some ob) (hne : ob.es ≠ []) (hobk : 0 < ob.k) :
    ∃ u, (execOp a.eval o).run P w = .ok (.value u) w ∧ RepV w (okOf base A.own w β) β (.c (.sc (.bool false))) u := by
  have h1 := (hT ty ti hti).1
  rw [hd] at h1
  obtain ⟨i0, hi0, hz0, hsz0, hby0⟩ := info_of (hT el tie htie)
  have hr := opval_rep I x
  rw [hx] at hr
  have hr2 := opval_rep I y
  rw [hy] at hr2
  refine ⟨.bool false, ?_, scv _ rfl⟩
  rcases ref_live I.inv hob hr2 with ⟨b, kk, cap, hb, hcap, hu⟩ | ⟨_, hoe, _⟩
  case inr => exact absurd hoe hne
  have O := I.inv.obj id b kk cap ob hb hob
  obtain ⟨arr, tyo, hh, hsz, hone, hat⟩ := O.hat
  have hcp := O.hcap
  have hkk := O.hk
  have hlen := List.length_pos_iff.2 hne
  have harr : arr.size ≠ 0 := by
    rw [hsz]
    exact Nat.mul_ne_zero (by omega) (by omega)
  generalize hv : a.eval x = v at hr
  cases hr with
  | c hr => cases hr with
    | fz hr => cases hr with
      | @row _ _ _ Ad cp vs g1 g2 g3 g4 g5 g6 =>
      obtain ⟨ad, rfl, hok⟩ := g4 (by simp)
      have hcell := g5 ad rfl 0 e rfl 0 hk0
      obtain ⟨arr2, ty2, fr2, hh2, harr2⟩ := spot_none hcell
      rw [add_block] at hh2
      have hblk : ad.block ≠ b := fun h => hok.2.2 id b kk cap hb h.symm
      obtain ⟨dst, op, type, pos, after, guard⟩ := o
      dsimp only at hop
      subst hop
      have hcall := run_callFunc_extern hfn hname hbody hnext hfind #[.slice (some ad) (e :: es).length cp, .slice (some ⟨b, lo * kk, none⟩) m (cap - lo)] w
      rw [ov_run w ty tR el h1 i0.size (fun w' => by simp [sizeOf, typeInfo, hi0]) ad ⟨b, lo * kk, none⟩ _ _ _ _ hblk (tA := ty2) (kA := arr2.size) (tB := tyo) (kB := arr.size) (by unfold World.shape?; rw [hh2]) (by unfold World.shape?; rw [show (⟨b, lo * kk, none⟩ : Addr).block = b from rfl, hh]) harr2 harr (fun q => by
        unfold World.frozen?
        rw [show ({ block := b, off := q } : Addr).block = b from rfl, hh]
        simp) rfl] at hcall
      simp only [Result.andThen_ok] at hcall
      simp [execOp, resolve, invoke, hv, hu]
      exact hcall
end Go.Proofs.Ytopcklnnkpjanaa.Abs
