/- AgreementSequence. -/
import Derived.Test.YtopcklnnkpjanaaWAEnds
namespace Go.Proofs.Ytopcklnnkpjanaa.Abs
open Go Go.RowKit
set_option linter.unusedVariables false
set_option linter.unusedSimpArgs false
set_option maxHeartbeats 4000000
/-- The second group, with the first one's acceptors. -/
def secG (n : Nat) (I : List (List V2)) (accs : List V2) : GrS := { newG n I with accs := accs }
theorem sec_W {n : Nat} (hn : 1 ≤ n ∧ n ≤ 5) {I : List (List V2)} (hI : InsOk I) {accs : List V2} (ha : accs.length = n) (hv : ∀ v ∈ accs, V4 v) : GrW (secG n I accs) I.length 100 := by
  have h := new_W (n := n) ⟨hn.1, by omega⟩ hI
  have hal : (newG n I).accs.length = n := by rw [(new_is n I).accs, List.length_replicate]
  refine ⟨⟨h.nn.p, h.nn.i, h.nn.x, h.nn.b⟩, h.n4, by show 0 < accs.length ∧ accs.length ≤ 12; omega, hv, fun p hp => ?_, h.i, h.x, fun k hk => ?_, h.d, h.kl, h.dl, h.s⟩
  · show PrW p (accs.length : Int) 100
    have := h.p p hp
    rw [hal] at this
    rw [ha]
    exact this
  · obtain ⟨a, b, c⟩ := h.k k hk
    refine ⟨a, ?_, c⟩
    rw [hal] at b
    show 0 ≤ k.acc ∧ k.acc < (accs.length : Int)
    rw [ha]
    exact b
theorem sec_pot {n : Nat} (hn : 1 ≤ n ∧ n ≤ 5) {I : List (List V2)} (hI : InsOk I) {accs : List V2} (ha : accs.length = n) (hv : ∀ v ∈ accs, V4 v) : pot (secG n I accs) ≤ 700 := by
  have h := new_is n I
  refine pot_le (sec_W hn hI ha hv) (by show pkW (newG n I).pks ≤ 2 * (accs.length * I.length : Nat); rw [ha]; exact h.pw) (by show accs.length ≤ 5; omega) fun x hx => ?_
  have hx : x ∈ (newG n I).nxt := hx
  rw [h.nxt] at hx
  exact (List.mem_replicate.1 hx).2
def endS (l m s : List Int) : GrS := drainS 700 (runS (secG (sizeN l) (inputsI m) (endG l s).accs) s)
theorem endG_accs (l s : List Int) : (endG l s).accs.length = sizeN l ∧ ∀ v ∈ (endG l s).accs, V4 v := ⟨(endG_fix l s).1, (endG_W l s).a⟩
theorem sec0_W (l m s : List Int) : GrW (secG (sizeN l) (inputsI m) (endG l s).accs) (inputsI m).length 100 := sec_W (size_is l).2 (inputs_ok m) (endG_accs l s).1 (endG_accs l s).2
theorem sec0_pot (l m s : List Int) : pot (runS (secG (sizeN l) (inputsI m) (endG l s).accs) s) ≤ 700 := run_keep (fun g => pot g ≤ 700) keep_pot s (sec0_W l m s) (sec_pot (size_is l).2 (inputs_ok m) (endG_accs l s).1 (endG_accs l s).2)
theorem secr_pure (l m s : List Int) (hs : s.length ≤ 1000) : Pure Try.prog 53 [.agg (encGr (secG (sizeN l) (inputsI m) (endG l s).accs)), .c (encIs s)] (.agg (encGr (runS (secG (sizeN l) (inputsI m) (endG l s).accs) s))) := run_pure _ (sec0_W l m s) s (by omega)
theorem secd_pure (l m s : List Int) (hs : s.length ≤ 1000) : Pure Try.prog 52 [.agg (encGr (runS (secG (sizeN l) (inputsI m) (endG l s).accs) s))] (.agg (encGr (endS l m s))) := drain_pure _ (run_W s (sec0_W l m s)) 700 (sec0_pot l m s) (by omega)
theorem endS_W (l m s : List Int) : GrW (endS l m s) (inputsI m).length (100 + 14 * s.length + 14 * 700) := drain_W 700 (run_W s (sec0_W l m s))
theorem endS_keep (l m s : List Int) (J : GrS → Prop) (hJ : ∀ {g : GrS} {N i : Nat} {k : PkS}, GrW g (inputsI m).length N → J g → g.pks[i]? = some k → J (delivS g i)) (h0 : J (secG (sizeN l) (inputsI m) (endG l s).accs)) : J (endS l m s) :=
  drain_keep J hJ 700 (run_W s (sec0_W l m s)) (run_keep J hJ s (sec0_W l m s) h0)
theorem seq_leI (l m s : List Int) {d e : DeS} (hd : d ∈ (endG l s).decs) (he : e ∈ (endS l m s).decs) : leI d.v e.v = true := by
  obtain ⟨H, h⟩ := endG_keep l s (fun g => ∃ H, InvC H [] g) keep_C ⟨_, new_C _ _⟩
  obtain ⟨H', h'⟩ := endS_keep l m s (fun g => ∃ H, InvC H (endG l s).accs g) keep_C ⟨_, new_C2 _ _ _⟩
  have hf := endS_keep l m s (fun g => g.accs.length = sizeN l ∧ g.ins = inputsI m) keep_fix ⟨(endG_accs l s).1, (new_is _ _).ins⟩
  rw [leI_sub ((endG_W l s).d d hd).val ((endS_W l m s).d e he).val]
  exact invC_seq h h' (by rw [hf.1, (endG_accs l s).1]) hd he
theorem aseq_pure (l m s : List Int) (hl : l.length < 4000000000000000000) (hm : m.length < 4000000000000000000) (hs : s.length < 4000000000000000000) : Pure Try.prog 16 [.c (encIs l), .c (encIs m), .c (encIs s)] (.c (cB true)) := by
  have haw := awake17_pure
  refine pure_of teOk Try.func16 (by kernel_rfl) (c := _) rfl (N := 67) rfl (rs := [Go.ResultVar.tmp 6]) rfl (by simp) fun base A w0 hA => ?_
  refine AW.st teOk [] (by simp [-Option.some.injEq] <;> rfl) trivial ?_
  refine AW.seq ?_
  by_cases h60 : (s.length : Int) > 60
  · refine AW.st teOk [] (by simp [h60, -Option.some.injEq] <;> rfl) trivial ?_
    refine AW.iff true (by simp) (fun _ => ?_) (fun h => by cases h)
    refine AW.st teOk [.fz (.c (cB true))] (by simp [-Option.some.injEq] <;> rfl) ?_ ?_
    · exact haw
    refine AW.ret ⟨.inr rfl, _, Weak.refl _, ?_⟩
    simp
  refine AW.st teOk [] (by simp [h60, -Option.some.injEq] <;> rfl) trivial ?_
  refine AW.iff false (by simp) (fun h => by cases h) (fun _ => AW.skip ?_)
  have p1 := size_pure l hl
  have p2 := inputs_pure l hl
  have p2' := inputs_pure m hm
  have p3 := newl_pure' l
  have p3' := gnew_pure (sizeN l) (by have := (size_is l).2; omega) (inputs_ok m)
  have p4 := runl_pure' l s (by omega)
  have p4' := secr_pure l m s (by omega)
  have p5 := endl_pure l s (by omega)
  have p5' := secd_pure l m s (by omega)
  have hle := fun {d e : DeS} => seq_leI l m s (d := d) (e := e)
  have hw := endG_W l s
  have hw' := endS_W l m s
  have hal := (endG_accs l s).1
  have hn5 := (size_is l).2.2
  obtain ⟨G, hG⟩ : ∃ G, G = endG l s := ⟨_, rfl⟩
  obtain ⟨F, hF⟩ : ∃ F, F = endS l m s := ⟨_, rfl⟩
  rw [← hG] at p4' p5 p5' hle hw hal
  rw [← hF] at p5' hle hw'
  have hdl := hw.dl
  have hdl' := hw'.dl
  have hdv := fun d hd => (hw.d d hd).le
  have hdv' := fun d hd => (hw'.d d hd).le
  generalize hB : secG (sizeN l) (inputsI m) G.accs = B at *
  generalize runS B s = B1 at *
  generalize runS (newG (sizeN l) (inputsI l)) s = G1 at *
  generalize newG (sizeN l) (inputsI l) = G0 at *
  unfold secG at hB
  generalize newG (sizeN l) (inputsI m) = B0 at *
  generalize inputsI l = I at *
  generalize inputsI m = J at *
  generalize sizeN l = n at *
  clear hG hF hw hw'
  refine AW.st teOk [.fz (.c (cI n))] (by simp [-Option.some.injEq] <;> rfl) ?_ ?_
  · exact p1
  refine AW.st teOk [.fz (.c (.row 1 false (I.map encIn))), .fz (.agg (encGr G0)), .fz (.agg (encGr G1)), .fz (.agg (encGr G))] (by simp [-Option.some.injEq] <;> rfl) ?_ ?_
  · exact ⟨p2, p3, p4, p5⟩
  refine AW.st teOk [.fz (.c (.row 1 false (J.map encIn))), .fz (.agg (encGr B0))] (by simp [-Option.some.injEq] <;> rfl) ?_ ?_
  · exact ⟨p2', p3'⟩
  refine AW.st teOk [] (by simp [-Option.some.injEq] <;> rfl) ?_ ?_
  · simp [growOk]
    omega
  refine AW.to (s2 := ⟨[(2, .c (encIs s)), (8, .c (.ptr 0 0 0)), (9, .c (.ptr 1 0 0))], [(0, ⟨7, [encGr G]⟩), (1, ⟨7, [encGr B]⟩)], 2⟩) ((Weak.frzT 32 [13] _ (by simp <;> exact ⟨rfl, rfl, rfl⟩) (by simp <;> rfl) (by simp)).trans (Weak.normS hA [2, 8, 9] [(8, 0), (9, 1)] [] [] 2 _ (by simp) (by simp) (by simp))) (by rw [← hB]; simp) ?_
  clear hB
  refine AW.st teOk [.fz (.agg (encGr B1)), .fz (.agg (encGr F))] (by simp [-Option.some.injEq] <;> rfl) ?_ ?_
  · exact ⟨p4', p5'⟩
  refine AW.seq ?_
  refine AW.st teOk [] (by simp [-Option.some.injEq] <;> rfl) trivial ?_
  refine AW.block (AW.loop (fun m s => ∃ i : Nat, i ≤ F.decs.length ∧ m = F.decs.length - i ∧ s = ⟨[(8, .c (.ptr 0 0 0)), (9, .c (.ptr 1 0 0)), (10, .c (cI i))], [(0, ⟨7, [encGr G]⟩), (1, ⟨7, [encGr F]⟩)], 2⟩) _ (Weak.normS hA [8, 9, 10] [(8, 0), (9, 1)] [] [] 2 _ (by simp) (by simp) (by simp)) ⟨0, Nat.zero_le _, rfl, by simp⟩ ?_)
  rintro m s ⟨i, hi, rfl, rfl⟩
  refine AW.seq ?_
  refine AW.st teOk [] (by simp [-Option.some.injEq] <;> rfl) trivial ?_
  refine AW.iff (decide (i < F.decs.length)) (by simp) (fun h => AW.skip ?_) (fun h => AW.exit (x_then (x_then (blockA_exit ?_))))
  · rw [decide_eq_true_eq] at h
    have hinc : IntKind.i64.wrap ((i : Int) + 1) = (i : Int) + 1 := wrap_s _ (by omega)
    obtain ⟨e, he⟩ : ∃ e, F.decs[i]? = some e := ⟨_, List.getElem?_eq_getElem h⟩
    refine AW.mid (fun s => s = ⟨[(8, .c (.ptr 0 0 0)), (9, .c (.ptr 1 0 0)), (10, .c (cI i))], [(0, ⟨7, [encGr G]⟩), (1, ⟨7, [encGr F]⟩)], 2⟩) (AW.block ?_) ?_
    · refine AW.st teOk [] (by simp [-Option.some.injEq] <;> rfl) trivial ?_
      refine AW.block (AW.loop (fun m s => ∃ k : Nat, k ≤ G.decs.length ∧ m = G.decs.length - k ∧ s = ⟨[(8, .c (.ptr 0 0 0)), (9, .c (.ptr 1 0 0)), (10, .c (cI i)), (11, .c (cI k))], [(0, ⟨7, [encGr G]⟩), (1, ⟨7, [encGr F]⟩)], 2⟩) _ (Weak.normS hA [8, 9, 10, 11] [(8, 0), (9, 1)] [] [] 2 _ (by simp) (by simp) (by simp)) ⟨0, Nat.zero_le _, rfl, by simp⟩ ?_)
      rintro m s ⟨k, hk, rfl, rfl⟩
      refine AW.seq ?_
      refine AW.st teOk [] (by simp [-Option.some.injEq] <;> rfl) trivial ?_
      refine AW.iff (decide (k < G.decs.length)) (by simp) (fun h => AW.skip ?_) (fun h => AW.exit (x_then (x_then (blockA_exit ?_))))
      · rename_i hi2
        rw [decide_eq_true_eq] at h
        have hinck : IntKind.i64.wrap ((k : Int) + 1) = (k : Int) + 1 := wrap_s _ (by omega)
        obtain ⟨d, hd⟩ : ∃ d, G.decs[k]? = some d := ⟨_, List.getElem?_eq_getElem h⟩
        have hdm := List.mem_of_getElem? hd
        have hem := List.mem_of_getElem? he
        have q1 := rle_pure d.v e.v (by have := hdv d hdm; omega) (by have := hdv' e hem; omega)
        rw [hle hdm hem] at q1
        refine AW.mid (fun s => s = ⟨[(8, .c (.ptr 0 0 0)), (9, .c (.ptr 1 0 0)), (10, .c (cI i)), (11, .c (cI k))], [(0, ⟨7, [encGr G]⟩), (1, ⟨7, [encGr F]⟩)], 2⟩) (AW.block ?_) ?_
        · refine AW.dr mixed teOk [.c (cB true)] (by simp [hd, he, -Option.some.injEq] <;> rfl) (by kernel_rfl) (by kernel_rfl) ?_ ?_
          · simp [allP]
            exact ⟨h, hi2, q1⟩
          refine AW.iff false (by simp) (fun h => by cases h) (fun _ => AW.skip ?_)
          exact ⟨_, Weak.normS hA [8, 9, 10, 11] [(8, 0), (9, 1)] [] [] 2 _ (by simp) (by simp) (by simp), by simp⟩
        rintro s rfl
        refine AW.text teOk (ans := []) (by simp [-Option.some.injEq] <;> rfl) ?_ ?_
        · trivial
        refine ⟨_, _, Weak.normS hA [8, 9, 10, 11] [(8, 0), (9, 1)] [] [] 2 _ (by simp) (by simp) (by simp), ?_, k + 1, h, rfl, ?_⟩
        · omega
        · simp [hinck]
      exact ⟨_, Weak.normS hA [8, 9, 10] [(8, 0), (9, 1)] [] [] 2 _ (by simp) (by simp) (by simp), by simp⟩
    rintro s rfl
    refine AW.text teOk (ans := []) (by simp [-Option.some.injEq] <;> rfl) ?_ ?_
    · trivial
    refine ⟨_, _, Weak.normS hA [8, 9, 10] [(8, 0), (9, 1)] [] [] 2 _ (by simp) (by simp) (by simp), ?_, i + 1, h, rfl, ?_⟩
    · omega
    · simp [hinc]
  refine AW.st teOk [.fz (.c (cB true))] (by simp [-Option.some.injEq] <;> rfl) ?_ ?_
  · exact haw
  refine AW.ret ⟨.inr rfl, _, Weak.refl _, ?_⟩
  simp
end Go.Proofs.Ytopcklnnkpjanaa.Abs
