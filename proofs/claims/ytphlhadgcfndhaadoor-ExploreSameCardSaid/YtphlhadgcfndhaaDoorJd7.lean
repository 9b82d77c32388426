/- Joined for the claim: WXpl WXkey WXnum -/
import Derived.Test.YtphlhadgcfndhaaDoorJd6
import Derived.Test.YtphlhadgcfndhaaDoorJd4
section
namespace Go.Proofs.YtphlhadgcfndhaaDoor.Abs
open Go Go.RowKit
set_option linter.unusedVariables false
set_option linter.unusedSimpArgs false
set_option maxHeartbeats 4000000
structure XpS where
  g : GrS
  lo : Int
  am : Int
/-- The first that isn't 0. -/
def orI : List Int → Int
  | [] => 0
  | x :: l => if x ≠ 0 then x else orI l
def numB (b : Bool) : Int := if b = true then 1 else 0
def cmpE (x y : E2) : Int := orI [cmpI x.1 y.1, cmpI x.2 y.2]
def cmpV : V2 → V2 → Int
  | [], [] => 0
  | [], _ :: _ => -1
  | _ :: _, [] => 1
  | x :: a, y :: b => if cmpE x y ≠ 0 then cmpE x y else cmpV a b
def cmpP (a b : PkS) : Int := orI [cmpI (numB a.reply) (numB b.reply), cmpI a.prop b.prop, cmpI a.acc b.acc, cmpI a.round b.round, cmpV a.v b.v]
/-- A packet goes to its place among sorted ones; the last is told first. -/
def insR (x : PkS) : List PkS → List PkS
  | [] => [x]
  | y :: l => if cmpP x y < 0 then y :: insR x l else x :: y :: l
def sortR : List PkS → List PkS → List PkS
  | l, [] => l
  | l, x :: r => sortR (insR x l) r
def sortP (l : List PkS) : List PkS := (sortR [] l).reverse
def canG (g : GrS) : GrS := { g with pks := sortP g.pks, decs := g.decs.map fun d => { d with step := 0 }, steps := 0 }
def canX (s : XpS) : XpS := { s with g := canG s.g }
theorem insR_len (x : PkS) : ∀ l, (insR x l).length = l.length + 1
  | [] => rfl
  | y :: l => by
    rw [insR]
    split
    · rw [List.length_cons, insR_len x l, List.length_cons]
    · rfl
theorem insR_mem {x z : PkS} : ∀ {l}, z ∈ insR x l ↔ z = x ∨ z ∈ l
  | [] => by simp [insR]
  | y :: l => by
    rw [insR]
    split
    · rw [List.mem_cons, insR_mem, List.mem_cons]
      constructor
      · rintro (h | h | h)
        · exact .inr (.inl h)
        · exact .inl h
        · exact .inr (.inr h)
      · rintro (h | h | h)
        · exact .inr (.inl h)
        · exact .inl h
        · exact .inr (.inr h)
    · simp
theorem sortR_len : ∀ (r l : List PkS), (sortR l r).length = l.length + r.length
  | [], l => rfl
  | x :: r, l => by
    rw [sortR, sortR_len r, insR_len, List.length_cons]
    omega
theorem sortR_mem {z : PkS} : ∀ {r l : List PkS}, z ∈ sortR l r ↔ z ∈ l ∨ z ∈ r
  | [], l => by simp [sortR]
  | x :: r, l => by
    rw [sortR, sortR_mem, insR_mem, List.mem_cons]
    constructor
    · rintro ((h | h) | h)
      · exact .inr (.inl h)
      · exact .inl h
      · exact .inr (.inr h)
    · rintro (h | h | h)
      · exact .inl (.inr h)
      · exact .inl (.inl h)
      · exact .inr h
theorem sortP_len (l : List PkS) : (sortP l).length = l.length := by rw [sortP, List.length_reverse, sortR_len]; simp
theorem sortP_mem {z : PkS} {l : List PkS} : z ∈ sortP l ↔ z ∈ l := by rw [sortP, List.mem_reverse, sortR_mem]; simp
theorem sortR_app (a b l : List PkS) : sortR l (a ++ b) = sortR (sortR l a) b := by
  induction a generalizing l with
  | nil => rfl
  | cons x a ih => exact ih _
abbrev encXp (s : XpS) : List Cell := encGr s.g ++ [cI s.lo, cI s.am]
end Go.Proofs.YtphlhadgcfndhaaDoor.Abs
end
section
namespace Go.Proofs.YtphlhadgcfndhaaDoor.Abs
open Go Go.RowKit
set_option linter.unusedVariables false
set_option linter.unusedSimpArgs false
set_option maxHeartbeats 4000000
/-- A small number's digits, and a space. -/
def digN (n : Int) : List Int := if n < 10 then [48 + n] else [48 + n / 10, 48 + n % 10]
def strN : List Int → List Int
  | [] => []
  | n :: l => digN n ++ 32 :: strN l
theorem strN_app : ∀ a b : List Int, strN (a ++ b) = strN a ++ strN b
  | [], b => rfl
  | n :: a, b => by
    rw [List.cons_append, strN, strN_app a b, strN, List.append_assoc]
    rfl
theorem strN_inj : ∀ {l l' : List Int}, (∀ x ∈ l, 0 ≤ x ∧ x < 100) → (∀ x ∈ l', 0 ≤ x ∧ x < 100) → strN l = strN l' → l = l'
  | [], [], _, _, _ => rfl
  | [], y :: l', _, _, h => by
    rw [strN, strN] at h
    unfold digN at h
    split at h <;> cases h
  | x :: l, [], _, _, h => by
    rw [strN, strN] at h
    unfold digN at h
    split at h <;> cases h
  | x :: l, y :: l', h1, h2, h => by
    have hx := h1 x (by simp)
    have hy := h2 y (by simp)
    have ih : strN l = strN l' → l = l' := strN_inj (fun z hz => h1 z (by simp [hz])) fun z hz => h2 z (by simp [hz])
    rw [strN, strN] at h
    unfold digN at h
    split at h <;> split at h
    · simp only [List.cons_append, List.nil_append, List.cons.injEq] at h
      rw [ih h.2.2, show x = y by omega]
    · simp only [List.cons_append, List.nil_append, List.cons.injEq] at h
      omega
    · simp only [List.cons_append, List.nil_append, List.cons.injEq] at h
      omega
    · simp only [List.cons_append, List.nil_append, List.cons.injEq] at h
      rw [ih h.2.2.2, show x = y by omega]
def PI {α : Type} (f : α → List Int) : Prop := ∀ x y r r', f x ++ r = f y ++ r' → x = y ∧ r = r'
theorem pi_list {α : Type} {f : α → List Int} (hf : PI f) : ∀ {l l' : List α} {r r' : List Int}, l.length = l'.length → l.flatMap f ++ r = l'.flatMap f ++ r' → l = l' ∧ r = r'
  | [], [], r, r', _, h => ⟨rfl, h⟩
  | [], _ :: _, _, _, hl, _ => by cases hl
  | _ :: _, [], _, _, hl, _ => by cases hl
  | x :: l, y :: l', r, r', hl, h => by
    rw [List.flatMap_cons, List.flatMap_cons, List.append_assoc, List.append_assoc] at h
    obtain ⟨e1, h1⟩ := hf x y _ _ h
    obtain ⟨e2, h2⟩ := pi_list hf (Nat.succ.inj hl) h1
    exact ⟨by rw [e1, e2], h2⟩
def entN (e : E2) : List Int := [e.1, e.2]
def vecN (v : V2) : List Int := (v.length : Int) :: v.flatMap entN
def prN (p : PrS) : List Int := vecN p.v ++ ([p.n, p.r, numB p.dec, (p.acks.length : Int)] ++ p.acks)
def inN (l : List V2) : List Int := (l.length : Int) :: l.flatMap vecN
def pkN (k : PkS) : List Int := [numB k.reply, k.prop, k.acc, k.round] ++ vecN k.v
def deN (d : DeS) : List Int := [d.prop, d.input, d.step] ++ vecN d.v
def keyN (s : XpS) : List Int := [s.lo, s.am, s.g.steps, (s.g.accs.length : Int), (s.g.props.length : Int), (s.g.ins.length : Int), (s.g.nxt.length : Int), (s.g.pks.length : Int), (s.g.decs.length : Int)] ++
  (s.g.accs.flatMap vecN ++ (s.g.props.flatMap prN ++ (s.g.ins.flatMap inN ++ (s.g.nxt ++ (s.g.pks.flatMap pkN ++ s.g.decs.flatMap deN)))))
theorem pi_ent : PI entN := fun x y r r' h => by
  simp only [entN, List.cons_append, List.nil_append, List.cons.injEq] at h
  exact ⟨Prod.ext h.1 h.2.1, h.2.2⟩
theorem pi_vec : PI vecN := fun x y r r' h => by
  simp only [vecN, List.cons_append, List.cons.injEq] at h
  exact pi_list pi_ent (by omega) h.2
theorem numB_inj {a b : Bool} (h : numB a = numB b) : a = b := by cases a <;> cases b <;> first | rfl | (simp [numB] at h)
theorem pi_id {l l' r r' : List Int} (hl : l.length = l'.length) (h : l ++ r = l' ++ r') : l = l' ∧ r = r' := List.append_inj h hl
theorem pi_pr : PI prN := fun x y r r' h => by
  obtain ⟨n, v, q, acks, d⟩ := x
  obtain ⟨n', v', q', acks', d'⟩ := y
  simp only [prN, List.append_assoc] at h
  obtain ⟨e1, h1⟩ := pi_vec _ _ _ _ h
  simp only [List.cons_append, List.nil_append, List.cons.injEq] at h1
  obtain ⟨e2, e3, hd, hl, h2⟩ := h1
  obtain ⟨e4, h3⟩ := pi_id (by omega) h2
  rw [numB_inj hd, e1, e2, e3, e4]
  exact ⟨rfl, h3⟩
theorem pi_in : PI inN := fun x y r r' h => by
  simp only [inN, List.cons_append, List.cons.injEq] at h
  exact pi_list pi_vec (by omega) h.2
theorem pi_pk : PI pkN := fun x y r r' h => by
  obtain ⟨a, b, c, d, v⟩ := x
  obtain ⟨a', b', c', d', v'⟩ := y
  simp only [pkN, List.cons_append, List.nil_append, List.cons.injEq] at h
  obtain ⟨ha, e1, e2, e3, h1⟩ := h
  obtain ⟨e4, h2⟩ := pi_vec _ _ _ _ h1
  rw [numB_inj ha, e1, e2, e3, e4]
  exact ⟨rfl, h2⟩
theorem pi_de : PI deN := fun x y r r' h => by
  obtain ⟨a, b, v, c⟩ := x
  obtain ⟨a', b', v', c'⟩ := y
  simp only [deN, List.cons_append, List.nil_append, List.cons.injEq] at h
  obtain ⟨e1, e2, e3, h1⟩ := h
  obtain ⟨e4, h2⟩ := pi_vec _ _ _ _ h1
  rw [e1, e2, e3, e4]
  exact ⟨rfl, h2⟩
theorem keyN_inj {s t : XpS} (h : keyN s = keyN t) : s = t := by
  obtain ⟨⟨a1, a2, a3, a4, a5, a6, a7⟩, a8, a9⟩ := s
  obtain ⟨⟨b1, b2, b3, b4, b5, b6, b7⟩, b8, b9⟩ := t
  simp only [keyN, List.cons_append, List.nil_append, List.cons.injEq] at h
  obtain ⟨e1, e2, e3, l1, l2, l3, l4, l5, l6, h⟩ := h
  obtain ⟨f1, h1⟩ := pi_list pi_vec (by omega) h
  obtain ⟨f2, h2⟩ := pi_list pi_pr (by omega) h1
  obtain ⟨f3, h3⟩ := pi_list pi_in (by omega) h2
  obtain ⟨f4, h4⟩ := pi_id (by omega) h3
  obtain ⟨f5, h5⟩ := pi_list pi_pk (by omega) h4
  obtain ⟨f6, h6⟩ := pi_list pi_de (l := a6) (l' := b6) (r := []) (r' := []) (by omega) (by simpa using h5)
  rw [e1, e2, e3, f1, f2, f3, f4, f5, f6]
end Go.Proofs.YtphlhadgcfndhaaDoor.Abs
end
section
namespace Go.Proofs.YtphlhadgcfndhaaDoor.Abs
open Go Go.RowKit
set_option linter.unusedVariables false
set_option linter.unusedSimpArgs false
set_option maxHeartbeats 4000000
@[simp] def encb (n : Int) : List Cell := [.sc (.int .u8 n)]
@[simp] theorem flat_encb (l : List Int) : flatO ⟨1, l.map encb⟩ = true := flatO_of fun e he => by
  obtain ⟨x, _, rfl⟩ := List.mem_map.1 he
  rfl
theorem enc_b (l : List Int) : ∀ e ∈ l.map encb, e.length = 1 := fun e he => by obtain ⟨x, _, rfl⟩ := List.mem_map.1 he; rfl
abbrev cU (n : Int) : Cell := .sc (.int .u64 n)
def lit1 : ByteArray := ⟨(((List.range 10).map fun n => UInt8.ofNat (48 + n)) ++ (List.range 26).map fun n => UInt8.ofNat (97 + n)).toArray⟩
def lit2 : ByteArray := ⟨((List.range 100).flatMap fun n => [UInt8.ofNat (48 + n / 10), UInt8.ofNat (48 + n % 10)]).toArray⟩
def digS (n : Nat) : ByteArray := if n < 10 then lit1.extract n (n + 1) else lit2.extract (n * 2) (n * 2 + 2)
theorem digS_fin : ∀ n : Fin 100, (digS n.1).data.toList.map (fun y => (y.toNat : Int)) = digN (n.1 : Int) := by decide +kernel
theorem digS_es {n : Nat} (h : n < 100) : strEs (digS n) = (digN n).map encb := by
  have := digS_fin ⟨n, h⟩
  unfold strEs
  rw [← this, List.map_map]
  rfl
theorem dig_one {b : ByteArray} (hb : b = lit1) {n : Nat} (h : n < 10) : b.extract n (n + 1) = digS n := by rw [hb, digS, if_pos h]
theorem dig_two {b : ByteArray} (hb : b = lit2) {n : Nat} (h : ¬ n < 10) : b.extract (n * 2) (n * 2 + 2) = digS n := by rw [hb, digS, if_neg h]
theorem small_pure (n : Nat) (hn : n < 100) : Pure Tryd.prog 91 [.c (cI n)] (.c (.sc (.string (digS n)))) := by
  refine pure_of teOk Tryd.func91 (by kernel_rfl) (c := _) rfl (N := 15) rfl (rs := [Go.ResultVar.tmp 2]) rfl (by simp) fun base A w0 hA => ?_
  refine AW.st teOk [] (by simp [-Option.some.injEq] <;> rfl) trivial ?_
  refine AW.seq ?_
  by_cases h : n < 10
  · have h' : (n : Int) < 10 := by omega
    have h1 : IntKind.i64.wrap ((n : Int) + 1) = (n : Int) + 1 := wrap_s n (by omega)
    refine AW.st teOk [] (by simp [h', -Option.some.injEq] <;> rfl) trivial ?_
    refine AW.iff true (by simp) (fun _ => ?_) (fun h => by cases h)
    refine AW.st teOk [] (by simp [h1, -Option.some.injEq] <;> rfl) ?_ ?_
    · refine ⟨by omega, Int.le_trans (show (n : Int) + 1 ≤ 36 by omega) (by decide +kernel)⟩
    refine AW.ret ⟨.inr rfl, _, Weak.refl _, ?_⟩
    simp
    exact dig_one (by decide +kernel) h
  · have h' : ¬ (n : Int) < 10 := by omega
    have h1 : IntKind.i64.wrap ((n : Int) * 2) = (n : Int) * 2 := by rw [IntKind.wrap_i64]; omega
    have h2 : IntKind.i64.wrap ((n : Int) * 2 + 2) = (n : Int) * 2 + 2 := by rw [IntKind.wrap_i64]; omega
    refine AW.st teOk [] (by simp [h', -Option.some.injEq] <;> rfl) trivial ?_
    refine AW.iff false (by simp) (fun h => by cases h) (fun _ => AW.skip ?_)
    refine AW.st teOk [] (by simp [h1, h2, -Option.some.injEq] <;> rfl) ?_ ?_
    · refine ⟨by omega, by omega, Int.le_trans (show (n : Int) * 2 + 2 ≤ 200 by omega) (by decide +kernel)⟩
    refine AW.ret ⟨.inr rfl, _, Weak.refl _, ?_⟩
    simp
    rw [show ((n : Int) * 2).toNat = n * 2 by omega, show ((n : Int) * 2 + 2).toNat = n * 2 + 2 by omega]
    exact dig_two (by decide +kernel) h
theorem digS_size {n : Nat} (h : n < 100) : (digS n).size = (digN n).length := by
  have := congrArg List.length (digS_es h)
  rw [List.length_map] at this
  rw [← this]
  unfold strEs
  rw [List.length_map, Array.length_toList]
  rfl
theorem digN_len (n : Nat) (h : n < 100) : 1 ≤ (digN (n : Int)).length ∧ (digN (n : Int)).length ≤ 2 := by
  unfold digN
  split <;> simp
/-- The encoder, and its bytes in an object of their own. -/
@[simp] def encS (id : Nat) (b : List Int) : Sig := [(1000000, ⟨1, [[.ref id 0 b.length]]⟩), (id, ⟨1, b.map encb⟩)]
@[simp] def encT (id : Nat) (b : List Int) : Sig := [(1000000, ⟨1, [[.any]]⟩), (id, ⟨1, b.map encb⟩)]
def ID3 (id : Nat) : Prop := id = 1000001 ∨ id = 1000103 ∨ id = 1000112
theorem appU_con (id : Nat) (hid : ID3 id) (b : List Int) (hb : b.length < 1000000000) (n : Nat) (hn : n < 100) : Con Tryd.prog 87 [.c (.ref id 0 b.length), .c (cU n), .c (cI 10)] (encS id b) 1000160 (.c (.ref 1000170 0 (b.length + (digN n).length))) (encT 1000170 (b ++ digN n)) 1000171 := by
  have hdl := digN_len n hn
  rcases hid with rfl | rfl | rfl
  all_goals
    refine con_of teOk Tryd.func87 (by kernel_rfl) (c := _) rfl (N := 36) rfl (rs := [Go.ResultVar.tmp 6]) rfl (by simp) fun base A w0 rest hrest hrefs hA => ?_
    have hh := hiS_low hrest
    have hl' := loS_low hrest
    have hdr := fun k hk => drop_rest hrest k hk
    have hrn : ∀ (ρ : List (Nat × Nat)) (ids : List Nat), (ids.all fun i => decide (1000000 ≤ i)) = true → rnS 1000000 ρ ids rest = rest := fun ρ ids h => rnS_low h hrest
    have hlt : (n : Int) < 100 := by omega
    have hw : IntKind.i64.wrap (n : Int) = n := by rw [IntKind.wrap_i64]; omega
    refine AW.st teOk [] (by simp [hdr, -Option.some.injEq] <;> rfl) trivial ?_
    refine AW.seq ?_
    refine AW.st teOk [] (by simp [hdr, -Option.some.injEq] <;> rfl) trivial ?_
    refine AW.iff true (by simp) (fun _ => ?_) (fun h => by cases h)
    refine AW.seq ?_
    refine AW.st teOk [] (by simp [hdr, hlt, -Option.some.injEq] <;> rfl) trivial ?_
    refine AW.iff true (by simp) (fun _ => ?_) (fun h => by cases h)
    refine AW.st teOk [.fz (.c (.sc (.string (digS n))))] (by simp [hdr, hw, digS_es hn, -Option.some.injEq] <;> rfl) ?_ ?_
    · simp [growOk]
      exact ⟨small_pure n hn, by omega⟩
    refine AW.ret ⟨.inr rfl, _, Weak.normCS hA hrefs [6] [(6, 1000170)] [(1000000, 1000000)] [1000000] 1000171 _ (by simp [hl', hdr]) (by simp) (by simp) (by simp) (by simp [hh, hdr]) (by simp [hh, hdr, digS_es hn]), by simp [normL, digS_size hn], by simp [normL, hh, hl', hrn, hdr, digS_es hn], rfl⟩
theorem appI2_con (id : Nat) (hid : ID3 id) (b : List Int) (hb : b.length < 1000000000) (n : Nat) (hn : n < 100) : Con Tryd.prog 80 [.c (.ref id 0 b.length), .c (cI n), .c (cI 10)] (encS id b) 1000140 (.c (.ref 1000150 0 (b.length + (digN n).length))) (encT 1000150 (b ++ digN n)) 1000172 := by
  have hc := appU_con id hid b hb n hn
  have hdl := digN_len n hn
  rcases hid with rfl | rfl | rfl
  all_goals
    refine con_of teOk Tryd.func80 (by kernel_rfl) (c := _) rfl (N := 21) rfl (rs := [Go.ResultVar.tmp 6]) rfl (by simp) fun base A w0 rest hrest hrefs hA => ?_
    have hh := hiS_low hrest
    have hl' := loS_low hrest
    have hdr := fun k hk => drop_rest hrest k hk
    have hrn : ∀ (ρ : List (Nat × Nat)) (ids : List Nat), (ids.all fun i => decide (1000000 ≤ i)) = true → rnS 1000000 ρ ids rest = rest := fun ρ ids h => rnS_low h hrest
    have hlt : ¬ (n : Int) < 0 := by omega
    have hw : IntKind.u64.wrap (n : Int) = n := by rw [IntKind.wrap_u64]; omega
    refine AW.st teOk [] (by simp [hdr, -Option.some.injEq] <;> rfl) trivial ?_
    refine AW.st teOk [] (by simp [hdr, hw, -Option.some.injEq] <;> rfl) trivial ?_
    refine AW.seq ?_
    refine AW.st teOk [] (by simp [hdr, hlt, -Option.some.injEq] <;> rfl) trivial ?_
    refine AW.iff false (by simp) (fun h => by cases h) (fun _ => AW.skip ?_)
    refine AW.to (s2 := ⟨[(0, .c (.ref _ 0 b.length)), (2, .c (cI 10)), (7, .c (cU n))], encS _ b ++ rest, 1000157⟩) (Weak.normCS hA hrefs [0, 2, 7] [] [(1000000, 1000000), (1000001, 1000001), (1000103, 1000103), (1000112, 1000112)] [1000000] 1000157 _ (by simp [hl', hdr]) (by simp) (by simp) (by simp) (by simp [hh, hdr]) (by simp [hh, hdr])) (by simp [normL, hh, hl', hrn, hdr] <;> exact ⟨rfl, rfl⟩) ?_
    refine AW.st teOk [.own (.c (.ref 1000170 0 (b.length + (digN n).length))) (encT 1000170 (b ++ digN n)) 1000171] (by simp [hdr, hh, hl', -Option.some.injEq] <;> rfl) ?_ ?_
    · simpa using hc
    refine AW.ret ⟨.inr rfl, _, Weak.normCS hA hrefs [6] [(6, 1000150)] [(1000000, 1000000)] [1000000] 1000172 _ (by simp [hl', hdr]) (by simp) (by simp) (by simp) (by simp [hh, hdr]) (by simp [hh, hdr]), by simp [normL], by simp [normL, hh, hl', hrn, hdr], rfl⟩
theorem appI_con (id : Nat) (hid : ID3 id) (b : List Int) (hb : b.length < 1000000000) (n : Nat) (hn : n < 100) : Con Tryd.prog 70 [.c (.ref id 0 b.length), .c (cI n), .c (cI 10)] (encS id b) 1000124 (.c (.ref 1000130 0 (b.length + (digN n).length))) (encT 1000130 (b ++ digN n)) 1000173 := by
  have hc := appI2_con id hid b hb n hn
  have hdl := digN_len n hn
  rcases hid with rfl | rfl | rfl
  all_goals
    refine con_of teOk Tryd.func70 (by kernel_rfl) (c := _) rfl (N := 11) rfl (rs := [Go.ResultVar.tmp 6]) rfl (by simp) fun base A w0 rest hrest hrefs hA => ?_
    have hh := hiS_low hrest
    have hl' := loS_low hrest
    have hdr := fun k hk => drop_rest hrest k hk
    have hrn : ∀ (ρ : List (Nat × Nat)) (ids : List Nat), (ids.all fun i => decide (1000000 ≤ i)) = true → rnS 1000000 ρ ids rest = rest := fun ρ ids h => rnS_low h hrest
    refine AW.st teOk [] (by simp [hdr, -Option.some.injEq] <;> rfl) trivial ?_
    refine AW.to (s2 := ⟨[(0, .c (.ref _ 0 b.length)), (1, .c (cI n)), (2, .c (cI 10))], encS _ b ++ rest, 1000137⟩) (Weak.normCS hA hrefs [0, 1, 2] [] [(1000000, 1000000), (1000001, 1000001), (1000103, 1000103), (1000112, 1000112)] [1000000] 1000137 _ (by simp [hl', hdr]) (by simp) (by simp) (by simp) (by simp [hh, hdr]) (by simp [hh, hdr])) (by simp [normL, hh, hl', hrn, hdr] <;> exact ⟨rfl, rfl⟩) ?_
    refine AW.st teOk [.own (.c (.ref 1000150 0 (b.length + (digN n).length))) (encT 1000150 (b ++ digN n)) 1000172] (by simp [hdr, hh, hl', -Option.some.injEq] <;> rfl) ?_ ?_
    · simpa using hc
    refine AW.ret ⟨.inr rfl, _, Weak.normCS hA hrefs [6] [(6, 1000130)] [(1000000, 1000000)] [1000000] 1000173 _ (by simp [hl', hdr]) (by simp) (by simp) (by simp) (by simp [hh, hdr]) (by simp [hh, hdr]), by simp [normL], by simp [normL, hh, hl', hrn, hdr], rfl⟩
end Go.Proofs.YtphlhadgcfndhaaDoor.Abs
end
