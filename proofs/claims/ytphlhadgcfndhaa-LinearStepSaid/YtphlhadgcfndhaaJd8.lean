/- Joined for the claim: WNsr WNsq WNsa -/
import Derived.Test.YtphlhadgcfndhaaJd6
import Derived.Test.YtphlhadgcfndhaaJd7
section
namespace Go.Proofs.Ytphlhadgcfndhaa.Abs
open Go Go.RowKit
set_option linter.unusedVariables false
set_option linter.unusedSimpArgs false
set_option maxHeartbeats 4000000
set_option maxRecDepth 4000
def encS (x : List Int) : List Cell := x.map fun b => .sc (.int .u8 b)
/-- The search's object, as it is lent: its order is not looked at. -/
@[simp] abbrev encF (ops : List OpS) (sp : Nat) (c3 : Cell) : List Cell := [encOps ops, cI sp, .any, c3]
def regF (ef : List EfS) : Option EfS := match ef with
  | [e] => if e.kind = 1 then some e else none
  | _ => none
def zeroE : EfS := ⟨0, ⟨#[]⟩, ⟨#[]⟩, 0, ⟨#[]⟩⟩
def sameR (a b : EfS) : Bool := (a.o.toList == b.o.toList) && (a.f.toList == b.f.toList)
def wtS (x : List Int) (k : Nat) : Bool := x[k]?.getD 0 == 0
def complB (ops : List OpS) (x : List Int) : Bool := !anyAt (fun b o => reqB o && wtS x b.length) ops
def blkB (ops : List OpS) (x : List Int) (i : Int) : Bool := anyAt (fun b q => wtS x b.length && reqB q && preS ops b.length i) ops
def mayB (ops : List OpS) (x : List Int) (sp : Nat) (i : Nat) : Bool := match ops[i]? with
  | some o => wtS x i && (reqB o || (o.kind == 1 && sp != 0)) && !blkB ops x i
  | none => false
def hitB (ops : List OpS) (e : EfS) (j : Nat) : Bool := match ops[j]? with
  | some o => match regF o.ef with
    | some f => sameR e f
    | none => false
  | none => false
def dnS (ops : List OpS) (e : EfS) (k : Nat) (x : List Int) : List Int := x.mapIdx fun j b => if j < k ∧ b = 2 ∧ hitB ops e j = true then 1 else b
def afterB (ops : List OpS) (x : List Int) (i : Nat) : List Int := match ops[i]? with
  | some o => match regF o.ef with
    | some e => (dnS ops e ops.length (x.set i 1)).set i 2
    | none => x.set i 1
  | none => x
theorem reg_pure (ef : List EfS) : Pure Try.prog 69 [.c (.row 5 false (ef.map encE'))] (.tup [.agg (encE' ((regF ef).getD zeroE)), .c (cB (regF ef).isSome)]) := by
  refine pure_of teOk Try.func69 (by kernel_rfl) (c := _) rfl (N := 18) rfl (rs := [Go.ResultVar.cell 2 29, Go.ResultVar.tmp 3]) rfl (by simp) fun base A w0 hA => ?_
  refine AW.st teOk [] (by simp [-Option.some.injEq] <;> rfl) trivial ?_
  refine AW.seq ?_
  match ef with
  | [] =>
    refine AW.st teOk [] (by simp [-Option.some.injEq] <;> rfl) trivial ?_
    refine AW.iff true (by simp) (fun _ => ?_) (fun h => by cases h)
    refine AW.st teOk [] (by simp [-Option.some.injEq] <;> rfl) trivial ?_
    refine AW.ret ⟨.inr rfl, _, Weak.refl _, ?_⟩
    simp [regF, zeroE]
  | [e] =>
    cases h : e.kind != 1 with
    | true =>
      refine AW.st teOk [] (by simp [h, -Option.some.injEq] <;> rfl) ?_ ?_
      · first | trivial | skip
      refine AW.iff true (by simp) (fun _ => ?_) (fun h => by cases h)
      refine AW.st teOk [] (by simp [-Option.some.injEq] <;> rfl) trivial ?_
      refine AW.ret ⟨.inr rfl, _, Weak.refl _, ?_⟩
      have h : e.kind ≠ 1 := by simpa using h
      simp [regF, zeroE, h]
    | false =>
      refine AW.st teOk [] (by simp [h, -Option.some.injEq] <;> rfl) ?_ ?_
      · first | trivial | skip
      refine AW.iff false (by simp) (fun h => by cases h) (fun _ => AW.skip ?_)
      refine AW.st teOk [] (by simp [-Option.some.injEq] <;> rfl) trivial ?_
      refine AW.ret ⟨.inr rfl, _, Weak.refl _, ?_⟩
      have h : e.kind = 1 := by simpa using h
      simp [regF, h]
  | e :: f :: ef =>
    have h : ((ef.length : Int) + 1 + 1 != 1) = true := by simp; omega
    refine AW.st teOk [] (by simp [h, -Option.some.injEq] <;> rfl) trivial ?_
    refine AW.iff true (by simp) (fun _ => ?_) (fun h => by cases h)
    refine AW.st teOk [] (by simp [-Option.some.injEq] <;> rfl) trivial ?_
    refine AW.ret ⟨.inr rfl, _, Weak.refl _, ?_⟩
    simp [regF, zeroE]
theorem sameR_pure (a b : EfS) : Pure Try.prog 70 [.agg (encE' a), .agg (encE' b)] (.c (cB (sameR a b))) := by
  refine pure_of teOk Try.func70 (by kernel_rfl) (c := _) rfl (N := 17) rfl (rs := [Go.ResultVar.tmp 4]) rfl (by simp) fun base A w0 hA => ?_
  refine AW.st teOk [] (by simp [-Option.some.injEq] <;> rfl) trivial ?_
  cases h : (a.o.toList == b.o.toList) with
  | true =>
    refine AW.st teOk [] (by simp [h, -Option.some.injEq] <;> rfl) ?_ ?_
    · first | trivial | skip
    refine AW.ret ⟨.inr rfl, _, Weak.refl _, ?_⟩
    simp [sameR, h]
  | false =>
    refine AW.st teOk [] (by simp [h, -Option.some.injEq] <;> rfl) ?_ ?_
    · first | trivial | skip
    refine AW.ret ⟨.inr rfl, _, Weak.refl _, ?_⟩
    simp [sameR, h]
theorem encS_drop {x : List Int} {i : Nat} (hi : i < x.length) : (encS x).drop i = .sc (.int .u8 (x[i]?.getD 0)) :: (encS x).drop (i + 1) := by
  have h : i < (x.map fun b => Cell.sc (.int .u8 b)).length := by simpa using hi
  show (x.map fun b => Cell.sc (.int .u8 b)).drop i = _ :: (x.map fun b => Cell.sc (.int .u8 b)).drop (i + 1)
  rw [List.drop_eq_getElem_cons h, List.getElem_map, List.getElem?_eq_getElem hi]
  rfl
theorem freeze0 {A : Old} (hA : A.lim = 0) {τ : Tau} {o : AObj} {fr : Nat} (hf : flatO o = true) : Weak A ⟨τ, [(0, o)], fr⟩ ⟨mapS (frzV 0 o) τ, [], fr⟩ := by
  have h := Weak.freeze (A := A) 0 o [] ⟨τ, [(0, o)], fr⟩ (by simp [look]) hf
  have e : Abs.freeze 0 o [] ⟨τ, [(0, o)], fr⟩ = ⟨mapS (frzV 0 o) τ, [], fr⟩ := by simp [Abs.freeze, drop, mapAt_nil]
  rwa [e] at h
theorem flatEncS (x : List Int) (k : Nat) : flatO ⟨k, [encS x]⟩ = true := flatO_of fun e he => by
  rw [List.mem_singleton.1 he, List.all_eq_true]
  intro c hc
  obtain ⟨b, _, rfl⟩ := List.mem_map.1 hc
  rfl
theorem compl_pure (ops : List OpS) (sp : Nat) (c3 : Cell) (x : List Int) (hx : KeyT x) (hn : ops.length ≤ 10) : Pure Try.prog 38 [.c (.fad (encF ops sp c3)), .agg (encS x)] (.c (cB (complB ops x))) := by
  refine pure_of teOk Try.func38 (by kernel_rfl) (c := _) rfl (N := 27) rfl (rs := [Go.ResultVar.tmp 4]) rfl (by simp) fun base A w0 hA => ?_
  refine AW.st teOk [] (by simp [-Option.some.injEq] <;> rfl) trivial ?_
  refine AW.seq ?_
  refine AW.st teOk [] (by simp [-Option.some.injEq] <;> rfl) trivial ?_
  refine AW.weak (freeze0 hA (flatEncS x _)) ?_
  simp only [mapS, frzV, frzC, if_true, List.getD_cons_zero, List.drop_zero]
  refine AW.block (AW.loop (fun m s => ∃ i : Nat, m = ops.length - i ∧ i ≤ ops.length ∧ upTo (fun b o => reqB o && wtS x b.length) ops i = false ∧ s = ⟨[(3, .c (.fad (encS x))), (4, .c (cB false)), (11, .c (encOps ops)), (12, .c (cI ops.length)), (13, .c (cI i))], [], 0⟩) _ (Weak.normT hA [3, 4, 11, 12, 13] [] [] 0 _ (by simp) (by simp) (by simp)) ⟨0, rfl, Nat.zero_le _, rfl, by simp⟩ ?_)
  rintro m s ⟨i, rfl, hi, hu, rfl⟩
  refine AW.st teOk [] (by simp [-Option.some.injEq] <;> rfl) trivial ?_
  refine AW.seq ?_
  refine AW.iff (decide (i < ops.length)) (by simp) (fun h => AW.skip ?_) (fun h => AW.exit (x_then (x_then (blockA_exit ?_))))
  · rw [decide_eq_true_eq] at h
    obtain ⟨o, he⟩ : ∃ e, ops[i]? = some e := ⟨_, List.getElem?_eq_getElem h⟩
    have hd := encS_drop (x := x) (i := i) (by rw [hx.1]; omega)
    have hreq := req_pure o
    have hlen : (ops.take i).length = i := by rw [List.length_take]; omega
    refine AW.seq (AW.block ?_)
    refine AW.st teOk [] (by simp [he, -Option.some.injEq] <;> rfl) ?_ ?_
    · omega
    cases hr : reqB o with
    | false =>
      rw [hr] at hreq
      refine AW.st teOk [.fz (.c (cB false))] (by simp [he, -Option.some.injEq] <;> rfl) ?_ ?_
      · exact hreq
      refine AW.iff false (by simp) (fun h => by cases h) (fun _ => AW.skip ?_)
      refine AW.text teOk (ans := []) (by simp [-Option.some.injEq] <;> rfl) ?_ ?_
      · trivial
      refine ⟨_, _, Weak.normT hA [3, 4, 11, 12, 13] [] [] 0 _ (by simp) (by simp) (by simp), ?_, i + 1, rfl, h, ?_, ?_⟩
      · omega
      · rw [upTo_s he, hu, hr]; rfl
      · simp
        exact wrap_s i (by omega)
    | true =>
      rw [hr] at hreq
      refine AW.st teOk [.fz (.c (cB true))] (by simp [he, hd, -Option.some.injEq] <;> rfl) ?_ ?_
      · refine ⟨hreq, ?_⟩
        omega
      refine AW.iff (wtS x i) (by simp [wtS]) (fun hw => ?_) (fun hw => AW.skip ?_)
      · refine AW.st teOk [] (by simp [-Option.some.injEq] <;> rfl) trivial ?_
        refine AW.ret ⟨.inr rfl, _, Weak.refl _, ?_⟩
        have := upTo_hit (f := fun b o => reqB o && wtS x b.length) he (by simp [hr, hlen, hw])
        simp [complB, this]
      · refine AW.text teOk (ans := []) (by simp [-Option.some.injEq] <;> rfl) ?_ ?_
        · trivial
        refine ⟨_, _, Weak.normT hA [3, 4, 11, 12, 13] [] [] 0 _ (by simp) (by simp) (by simp), ?_, i + 1, rfl, h, ?_, ?_⟩
        · omega
        · rw [upTo_s he, hu, hlen, hw]; simp
        · simp
          exact wrap_s i (by omega)
  · rw [decide_eq_false_iff_not] at h
    refine AW.st teOk [] (by simp [-Option.some.injEq] <;> rfl) trivial ?_
    refine AW.ret ⟨.inr rfl, _, Weak.refl _, ?_⟩
    have : i = ops.length := by omega
    subst this
    simp [complB, ← upTo_all, hu]
end Go.Proofs.Ytphlhadgcfndhaa.Abs
end
section
namespace Go.Proofs.Ytphlhadgcfndhaa.Abs
open Go Go.RowKit
set_option linter.unusedVariables false
set_option linter.unusedSimpArgs false
set_option maxHeartbeats 4000000
set_option maxRecDepth 4000
theorem may_pure (ops : List OpS) (sp : Nat) (c3 : Cell) (x : List Int) (hx : KeyT x) (hn : ops.length ≤ 10) (i : Nat) (hi : i < ops.length) : Pure Try.prog 39 [.c (.fad (encF ops sp c3)), .agg (encS x), .c (cI i)] (.c (cB (mayB ops x sp i))) := by
  refine pure_of teOk Try.func39 (by kernel_rfl) (c := _) rfl (N := 68) rfl (rs := [Go.ResultVar.tmp 6]) rfl (by simp) fun base A w0 hA => ?_
  obtain ⟨o, he⟩ : ∃ e, ops[i]? = some e := ⟨_, List.getElem?_eq_getElem hi⟩
  have hd := encS_drop (x := x) (i := i) (by rw [hx.1]; omega)
  have hreq := req_pure o
  have hi10 : (i : Int) < 10 := by omega
  refine AW.st teOk [] (by simp [-Option.some.injEq] <;> rfl) trivial ?_
  refine AW.weak (freeze0 hA (flatEncS x _)) ?_
  simp only [mapS, frzV, frzC, if_true, List.getD_cons_zero, List.drop_zero]
  refine AW.st teOk [] (by simp [he, -Option.some.injEq] <;> rfl) ?_ ?_
  · omega
  refine AW.mid (fun s => (wtS x i && (reqB o || (o.kind == 1 && sp != 0))) = true ∧ s = ⟨[(0, .c (.fad (encF ops sp c3))), (2, .c (cI i)), (4, .c (.fad (encS x))), (6, .c (cB false))], [], 0⟩) ?_ ?_
  · cases hw : (x[i]?.getD 0 != 0) with
    | true =>
      refine AW.st teOk [] (by simp [hd, hw, -Option.some.injEq] <;> rfl) ?_ ?_
      · omega
      have hw' : wtS x i = false := by simpa [wtS] using hw
      refine AW.iff true (by simp) (fun _ => ?_) (fun h => by cases h)
      refine AW.st teOk [] (by simp [-Option.some.injEq] <;> rfl) trivial ?_
      refine AW.ret ⟨.inr rfl, _, Weak.refl _, ?_⟩
      simp [mayB, he, hw']
    | false =>
    have hw' : wtS x i = true := by simpa [wtS] using hw
    cases hr : reqB o with
    | true =>
      rw [hr] at hreq
      refine AW.st teOk [.fz (.c (cB true))] (by simp [hd, hw, -Option.some.injEq] <;> rfl) ?_ ?_
      · refine ⟨?_, hreq⟩
        omega
      refine AW.iff false (by simp) (fun h => by cases h) (fun _ => AW.skip ?_)
      exact ⟨_, Weak.normT hA [0, 2, 4, 6] [] [] 0 _ (by simp) (by simp) (by simp), by simp [hw', hr], by simp⟩
    | false =>
    rw [hr] at hreq
    cases hk : (o.kind != 1) with
    | true =>
      refine AW.st teOk [.fz (.c (cB false))] (by simp [hd, hw, hk, -Option.some.injEq] <;> rfl) ?_ ?_
      · refine ⟨?_, hreq⟩
        omega
      have hk' : o.kind ≠ 1 := by simpa using hk
      refine AW.iff true (by simp) (fun _ => ?_) (fun h => by cases h)
      refine AW.st teOk [] (by simp [-Option.some.injEq] <;> rfl) trivial ?_
      refine AW.ret ⟨.inr rfl, _, Weak.refl _, ?_⟩
      simp [mayB, he, hw', hr, hk']
    | false =>
    have hk' : o.kind = 1 := by simpa using hk
    cases hs : ((sp : Int) == 0) with
    | true =>
      refine AW.st teOk [.fz (.c (cB false))] (by simp [hd, hw, hk, hs, -Option.some.injEq] <;> rfl) ?_ ?_
      · refine ⟨?_, hreq⟩
        omega
      have hs' : sp = 0 := by simpa using hs
      refine AW.iff true (by simp) (fun _ => ?_) (fun h => by cases h)
      refine AW.st teOk [] (by simp [-Option.some.injEq] <;> rfl) trivial ?_
      refine AW.ret ⟨.inr rfl, _, Weak.refl _, ?_⟩
      simp [mayB, he, hw', hr, hk', hs']
    | false =>
      refine AW.st teOk [.fz (.c (cB false))] (by simp [hd, hw, hk, hs, -Option.some.injEq] <;> rfl) ?_ ?_
      · refine ⟨?_, hreq⟩
        omega
      have hs' : sp ≠ 0 := by simpa using hs
      refine AW.iff false (by simp) (fun h => by cases h) (fun _ => AW.skip ?_)
      exact ⟨_, Weak.normT hA [0, 2, 4, 6] [] [] 0 _ (by simp) (by simp) (by simp), by simp [hw', hr, hk', hs'], by simp⟩
  rintro s ⟨hok, rfl⟩
  have hmay : mayB ops x sp i = !blkB ops x i := by simp [mayB, he, hok]
  rw [hmay]
  refine AW.seq ?_
  refine AW.st teOk [] (by simp [-Option.some.injEq] <;> rfl) trivial ?_
  refine AW.block (AW.loop (fun m s => ∃ k : Nat, m = ops.length - k ∧ k ≤ ops.length ∧ upTo (fun b q => wtS x b.length && reqB q && preS ops b.length i) ops k = false ∧ s = ⟨[(0, .c (.fad (encF ops sp c3))), (2, .c (cI i)), (4, .c (.fad (encS x))), (6, .c (cB false)), (43, .c (encOps ops)), (44, .c (cI ops.length)), (45, .c (cI k))], [], 0⟩) _ (Weak.normT hA [0, 2, 4, 6, 43, 44, 45] [] [] 0 _ (by simp) (by simp) (by simp)) ⟨0, rfl, Nat.zero_le _, rfl, by simp⟩ ?_)
  rintro m s ⟨k, rfl, hk, hu, rfl⟩
  refine AW.st teOk [] (by simp [-Option.some.injEq] <;> rfl) trivial ?_
  refine AW.seq ?_
  refine AW.iff (decide (k < ops.length)) (by simp) (fun h => AW.skip ?_) (fun h => AW.exit (x_then (x_then (blockA_exit ?_))))
  · rw [decide_eq_true_eq] at h
    obtain ⟨q, hq⟩ : ∃ e, ops[k]? = some e := ⟨_, List.getElem?_eq_getElem h⟩
    have hdk := encS_drop (x := x) (i := k) (by rw [hx.1]; omega)
    have hreq := req_pure q
    have hpre := prec_pure ops k i
    have hlen : (ops.take k).length = k := by rw [List.length_take]; omega
    have hk10 : (k : Int) < 10 := by omega
    refine AW.seq (AW.block ?_)
    refine AW.st teOk [] (by simp [hq, -Option.some.injEq] <;> rfl) ?_ ?_
    · omega
    cases hw : (x[k]?.getD 0 == 0) with
    | false =>
      refine AW.st teOk [] (by simp [hdk, hw, -Option.some.injEq] <;> rfl) ?_ ?_
      · omega
      refine AW.iff false (by simp) (fun h => by cases h) (fun _ => AW.skip ?_)
      refine AW.text teOk (ans := []) (by simp [-Option.some.injEq] <;> rfl) ?_ ?_
      · trivial
      refine ⟨_, _, Weak.normT hA [0, 2, 4, 6, 43, 44, 45] [] [] 0 _ (by simp) (by simp) (by simp), ?_, k + 1, rfl, h, ?_, ?_⟩
      · omega
      · rw [upTo_s hq, hu, hlen]; simp [wtS, hw]
      · simp
        exact wrap_s k (by omega)
    | true =>
    cases hr : reqB q with
    | false =>
      rw [hr] at hreq
      refine AW.st teOk [.fz (.c (cB false))] (by simp [hdk, hw, -Option.some.injEq] <;> rfl) ?_ ?_
      · refine ⟨?_, hreq⟩
        omega
      refine AW.iff false (by simp) (fun h => by cases h) (fun _ => AW.skip ?_)
      refine AW.text teOk (ans := []) (by simp [-Option.some.injEq] <;> rfl) ?_ ?_
      · trivial
      refine ⟨_, _, Weak.normT hA [0, 2, 4, 6, 43, 44, 45] [] [] 0 _ (by simp) (by simp) (by simp), ?_, k + 1, rfl, h, ?_, ?_⟩
      · omega
      · rw [upTo_s hq, hu, hlen]; simp [hr]
      · simp
        exact wrap_s k (by omega)
    | true =>
      rw [hr] at hreq
      refine AW.st teOk [.fz (.c (cB true)), .fz (.c (cB (preS ops k i)))] (by simp [hdk, hw, -Option.some.injEq] <;> rfl) ?_ ?_
      · refine ⟨?_, hreq, hpre⟩
        omega
      refine AW.iff (preS ops k i) (by simp) (fun hp => ?_) (fun hp => AW.skip ?_)
      · refine AW.st teOk [] (by simp [-Option.some.injEq] <;> rfl) trivial ?_
        refine AW.ret ⟨.inr rfl, _, Weak.refl _, ?_⟩
        have := upTo_hit (f := fun b q => wtS x b.length && reqB q && preS ops b.length i) hq (by simp [hr, hlen, wtS, hw, hp])
        simp [blkB, this]
      · refine AW.text teOk (ans := []) (by simp [-Option.some.injEq] <;> rfl) ?_ ?_
        · trivial
        refine ⟨_, _, Weak.normT hA [0, 2, 4, 6, 43, 44, 45] [] [] 0 _ (by simp) (by simp) (by simp), ?_, k + 1, rfl, h, ?_, ?_⟩
        · omega
        · rw [upTo_s hq, hu, hlen]; simp [hp]
        · simp
          exact wrap_s k (by omega)
  · rw [decide_eq_false_iff_not] at h
    refine AW.st teOk [] (by simp [-Option.some.injEq] <;> rfl) trivial ?_
    refine AW.ret ⟨.inr rfl, _, Weak.refl _, ?_⟩
    have : k = ops.length := by omega
    subst this
    simp [blkB, ← upTo_all, hu]
end Go.Proofs.Ytphlhadgcfndhaa.Abs
end
section
namespace Go.Proofs.Ytphlhadgcfndhaa.Abs
open Go Go.RowKit
set_option linter.unusedVariables false
set_option linter.unusedSimpArgs false
set_option maxHeartbeats 4000000
set_option maxRecDepth 4000
theorem encS_set {x : List Int} {i : Nat} {b : Int} (hi : i < x.length) : (encS x).take i ++ .sc (.int .u8 b) :: (encS x).drop (i + 1) = encS (x.set i b) := by
  have h : i < (encS x).length := by simpa [encS] using hi
  show _ = (x.set i b).map fun b => Cell.sc (.int .u8 b)
  rw [List.map_set]
  exact (List.set_eq_take_append_cons_drop.trans (if_pos h)).symm
theorem encS_take {x : List Int} (h : x.length = 10) : (encS x).take 10 = encS x := List.take_of_length_le (by simp [encS, h])
theorem encS_fz (x : List Int) : ∀ c ∈ encS x, frozenC c = true := fun c hc => by
  obtain ⟨b, _, rfl⟩ := List.mem_map.1 hc
  rfl
theorem encS_len {x : List Int} : (encS x).length = x.length := by simp [encS]
theorem dnS_0 (ops : List OpS) (e : EfS) (y : List Int) : dnS ops e 0 y = y := by
  unfold dnS
  refine List.ext_getElem? fun j => ?_
  rw [List.getElem?_mapIdx]
  cases y[j]? with
  | none => rfl
  | some b => simp
theorem dnS_len (ops : List OpS) (e : EfS) (k : Nat) (y : List Int) : (dnS ops e k y).length = y.length := by simp [dnS]
theorem dnS_at (ops : List OpS) (e : EfS) (k : Nat) (y : List Int) : (dnS ops e k y)[k]? = y[k]? := by
  unfold dnS
  rw [List.getElem?_mapIdx]
  cases y[k]? with
  | none => rfl
  | some b => simp
theorem dnS_hit {ops : List OpS} {e : EfS} {k : Nat} {y : List Int} (h2 : y[k]?.getD 0 = 2) (hh : hitB ops e k = true) : (dnS ops e k y).set k 1 = dnS ops e (k + 1) y := by
  unfold dnS
  refine List.ext_getElem? fun j => ?_
  rw [List.getElem?_set, List.getElem?_mapIdx, List.getElem?_mapIdx]
  by_cases hj : k = j
  · subst hj
    cases hy : y[k]? with
    | none => rw [hy] at h2; simp at h2
    | some b =>
      rw [hy] at h2
      have : b = 2 := by simpa using h2
      have hl := (List.getElem?_eq_some_iff.1 hy).1
      simp [hl, this, hh]
  · rw [if_neg hj]
    cases y[j]? with
    | none => rfl
    | some b =>
      have : j < k + 1 ↔ j < k := by omega
      simp [this]
theorem dnS_miss {ops : List OpS} {e : EfS} {k : Nat} {y : List Int} (h : ¬ (y[k]?.getD 0 = 2 ∧ hitB ops e k = true)) : dnS ops e (k + 1) y = dnS ops e k y := by
  unfold dnS
  refine List.ext_getElem? fun j => ?_
  rw [List.getElem?_mapIdx, List.getElem?_mapIdx]
  by_cases hj : j = k
  · subst hj
    cases hy : y[j]? with
    | none => rfl
    | some b =>
      rw [hy] at h
      simp at h
      simp
      intro h2
      rw [h h2]
      intro h3
      cases h3
  · cases y[j]? with
    | none => rfl
    | some b =>
      have : j < k + 1 ↔ j < k := by omega
      simp [this]
@[simp] abbrev z10 : List Cell := [.sc (.int .u8 0), .sc (.int .u8 0), .sc (.int .u8 0), .sc (.int .u8 0), .sc (.int .u8 0), .sc (.int .u8 0), .sc (.int .u8 0), .sc (.int .u8 0), .sc (.int .u8 0), .sc (.int .u8 0)]
theorem after_pure (ops : List OpS) (sp : Nat) (c3 : Cell) (x : List Int) (hx : KeyT x) (hn : ops.length ≤ 10) (i : Nat) (hi : i < ops.length) : Pure Try.prog 40 [.c (.fad (encF ops sp c3)), .agg (encS x), .c (cI i)] (.agg (encS (afterB ops x i))) := by
  refine pure_of teOk Try.func40 (by kernel_rfl) (c := _) rfl (N := 66) rfl (rs := [Go.ResultVar.cell 6 70]) rfl (by simp) fun base A w0 hA => ?_
  obtain ⟨o, he⟩ : ∃ e, ops[i]? = some e := ⟨_, List.getElem?_eq_getElem hi⟩
  have hi10 : (i : Int) < 10 := by omega
  have hi9 : i ≤ 9 := by omega
  have hix : i + 1 ≤ x.length := by rw [hx.1]; omega
  have hset := encS_set (x := x) (i := i) (b := 1) hix
  have hreg := reg_pure o.ef
  have hfz := encS_fz
  unfold frozenC at hfz
  refine AW.st teOk [] (by simp [-Option.some.injEq] <;> rfl) trivial ?_
  have hxl : (encS x).length = 10 := encS_len.trans hx.1
  refine AW.st teOk [] (by simp [hxl, hi9, hset, -Option.some.injEq] <;> rfl) ?_ ?_
  · omega
  obtain ⟨y, hy⟩ : ∃ y, y = x.set i 1 := ⟨_, rfl⟩
  have hyl : y.length = 10 := by rw [hy, List.length_set]; exact hx.1
  rw [← hy]
  have hyt := encS_take hyl
  have hxl : (encS x).length = 10 := encS_len.trans hx.1
  have hel : (encS y).length = 10 := encS_len.trans hyl
  cases hrg : regF o.ef with
  | none =>
    rw [hrg] at hreg
    have hres : afterB ops x i = y := by simp [afterB, he, hrg, hy]
    refine AW.st teOk [.fz (.tup [.agg (encE' zeroE), .c (cB false)])] (by simp [he, -Option.some.injEq] <;> rfl) ?_ ?_
    · exact ⟨hi, hreg⟩
    refine AW.seq ?_
    refine AW.st teOk [] (by simp [-Option.some.injEq] <;> rfl) trivial ?_
    refine AW.iff true (by simp) (fun _ => ?_) (fun h => by cases h)
    refine AW.st teOk [] (by simp [hel, hyt, -Option.some.injEq] <;> rfl) trivial ?_
    refine AW.ret ⟨.inr rfl, _, Weak.refl _, ?_⟩
    rw [hres]
    simp [hel, hyt]
    rw [if_pos (hfz y)]
  | some e =>
    rw [hrg] at hreg
    have hres : afterB ops x i = (dnS ops e ops.length y).set i 2 := by simp [afterB, he, hrg, hy]
    refine AW.st teOk [.fz (.tup [.agg (encE' e), .c (cB true)])] (by simp [he, -Option.some.injEq] <;> rfl) ?_ ?_
    · exact ⟨hi, hreg⟩
    refine AW.seq ?_
    refine AW.st teOk [] (by simp [-Option.some.injEq] <;> rfl) trivial ?_
    refine AW.iff false (by simp) (fun h => by cases h) (fun _ => AW.skip ?_)
    refine AW.seq ?_
    refine AW.st teOk [] (by simp [-Option.some.injEq] <;> rfl) trivial ?_
    refine AW.block (AW.loop (fun m s => ∃ k : Nat, m = ops.length - k ∧ k ≤ ops.length ∧ s = ⟨[(0, .c (.fad (encF ops sp c3))), (2, .c (cI i)), (4, .c (.ptr 0 0 0)), (6, .c (.ptr 1 0 0)), (7, .c (.ptr 2 0 0)), (35, .c (encOps ops)), (36, .c (cI ops.length)), (37, .c (cI k))], [(0, ⟨10, [encS (dnS ops e k y)]⟩), (1, ⟨10, [z10]⟩), (2, ⟨5, [encE' e]⟩)], 3⟩) _ (Weak.normS hA [0, 2, 4, 6, 7, 35, 36, 37] [(4, 0), (6, 1), (7, 2)] [] [] 3 _ (by simp) (by simp) (by simpa using hfz _)) ⟨0, rfl, Nat.zero_le _, by rw [dnS_0]; simp⟩ ?_)
    rintro m s ⟨k, rfl, hk, rfl⟩
    have hzl : (dnS ops e k y).length = 10 := (dnS_len ops e k y).trans hyl
    have hel : (encS (dnS ops e k y)).length = 10 := encS_len.trans hzl
    have hzt := encS_take hzl
    refine AW.st teOk [] (by simp [-Option.some.injEq] <;> rfl) trivial ?_
    refine AW.seq ?_
    refine AW.iff (decide (k < ops.length)) (by simp) (fun h => AW.skip ?_) (fun h => AW.exit (x_then (x_then (blockA_exit ?_))))
    · rw [decide_eq_true_eq] at h
      obtain ⟨q, hq⟩ : ∃ e, ops[k]? = some e := ⟨_, List.getElem?_eq_getElem h⟩
      have hdk := encS_drop (x := dnS ops e k y) (i := k) (by rw [hzl]; omega)
      rw [dnS_at] at hdk
      have hk10 : (k : Int) < 10 := by omega
      have hk9 : k ≤ 9 := by omega
      have hset2 := encS_set (x := dnS ops e k y) (i := k) (b := 1) (by omega)
      have hregq := reg_pure q.ef
      refine AW.seq (AW.block ?_)
      refine AW.st teOk [] (by simp [hq, -Option.some.injEq] <;> rfl) ?_ ?_
      · omega
      cases hrq : regF q.ef with
      | none =>
        rw [hrq] at hregq
        have hm : ¬ (y[k]?.getD 0 = 2 ∧ hitB ops e k = true) := by simp [hitB, hq, hrq]
        refine AW.st teOk [.fz (.tup [.agg (encE' zeroE), .c (cB false)])] (by simp [-Option.some.injEq] <;> rfl) ?_ ?_
        · exact hregq
        refine AW.st teOk [] (by simp [-Option.some.injEq] <;> rfl) trivial ?_
        refine AW.iff false (by simp) (fun h => by cases h) (fun _ => AW.skip ?_)
        refine AW.text teOk (ans := []) (by simp [-Option.some.injEq] <;> rfl) ?_ ?_
        · trivial
        refine ⟨_, _, Weak.normS hA [0, 2, 4, 6, 7, 35, 36, 37] [(4, 0), (6, 1), (7, 2)] [] [] 3 _ (by simp) (by simp) (by simpa using hfz _), ?_, k + 1, rfl, h, ?_⟩
        · omega
        · rw [dnS_miss hm]
          simp
          exact wrap_s k (by omega)
      | some f =>
        rw [hrq] at hregq
        refine AW.st teOk [.fz (.tup [.agg (encE' f), .c (cB true)])] (by simp [-Option.some.injEq] <;> rfl) ?_ ?_
        · exact hregq
        cases h2 : (y[k]?.getD 0 == 2) with
        | false =>
          have hm : ¬ (y[k]?.getD 0 = 2 ∧ hitB ops e k = true) := fun h => by rw [h.1] at h2; cases h2
          refine AW.st teOk [] (by simp [hdk, h2, -Option.some.injEq] <;> rfl) ?_ ?_
          · omega
          refine AW.iff false (by simp) (fun h => by cases h) (fun _ => AW.skip ?_)
          refine AW.text teOk (ans := []) (by simp [-Option.some.injEq] <;> rfl) ?_ ?_
          · trivial
          refine ⟨_, _, Weak.normS hA [0, 2, 4, 6, 7, 35, 36, 37] [(4, 0), (6, 1), (7, 2)] [] [] 3 _ (by simp) (by simp) (by simpa using hfz _), ?_, k + 1, rfl, h, ?_⟩
          · omega
          · rw [dnS_miss hm]
            simp
            exact wrap_s k (by omega)
        | true =>
          have h2' : y[k]?.getD 0 = 2 := by simpa using h2
          have hsr := sameR_pure e f
          refine AW.st teOk [.fz (.c (cB (sameR e f)))] (by simp [hdk, h2, -Option.some.injEq] <;> rfl) ?_ ?_
          · exact ⟨by omega, hsr⟩
          refine AW.iff (sameR e f) (by simp) (fun hs => ?_) (fun hs => AW.skip ?_)
          · have hm := dnS_hit (ops := ops) (e := e) h2' (by simp [hitB, hq, hrq, hs])
            refine AW.text teOk (ans := []) (by simp [hel, hk9, hset2, -Option.some.injEq] <;> rfl) ?_ ?_
            · omega
            refine AW.text teOk (ans := []) (by simp [-Option.some.injEq] <;> rfl) ?_ ?_
            · trivial
            refine ⟨_, _, Weak.normS hA [0, 2, 4, 6, 7, 35, 36, 37] [(4, 0), (6, 1), (7, 2)] [] [] 3 _ (by simp) (by simp) (by simpa using hfz _), ?_, k + 1, rfl, h, ?_⟩
            · omega
            · rw [← hm]
              simp
              exact wrap_s k (by omega)
          · have hm : ¬ (y[k]?.getD 0 = 2 ∧ hitB ops e k = true) := by simp [hitB, hq, hrq, hs]
            refine AW.text teOk (ans := []) (by simp [-Option.some.injEq] <;> rfl) ?_ ?_
            · trivial
            refine ⟨_, _, Weak.normS hA [0, 2, 4, 6, 7, 35, 36, 37] [(4, 0), (6, 1), (7, 2)] [] [] 3 _ (by simp) (by simp) (by simpa using hfz _), ?_, k + 1, rfl, h, ?_⟩
            · omega
            · rw [dnS_miss hm]
              simp
              exact wrap_s k (by omega)
    · rw [decide_eq_false_iff_not] at h
      have hkn : k = ops.length := by omega
      subst hkn
      have hset3 := encS_set (x := dnS ops e ops.length y) (i := i) (b := 2) (by omega)
      have hel3 : (encS ((dnS ops e ops.length y).set i 2)).length = 10 := encS_len.trans (by rw [List.length_set]; exact hzl)
      have hzt3 := encS_take (x := (dnS ops e ops.length y).set i 2) (by rw [List.length_set]; exact hzl)
      refine AW.st teOk [] (by simp [hel, hi9, hset3, -Option.some.injEq] <;> rfl) ?_ ?_
      · omega
      refine AW.st teOk [] (by simp [hel3, hzt3, -Option.some.injEq] <;> rfl) trivial ?_
      refine AW.ret ⟨.inr rfl, _, Weak.refl _, ?_⟩
      rw [hres]
      simp [hel3, hzt3]
      rw [if_pos (hfz _)]
end Go.Proofs.Ytphlhadgcfndhaa.Abs
end
