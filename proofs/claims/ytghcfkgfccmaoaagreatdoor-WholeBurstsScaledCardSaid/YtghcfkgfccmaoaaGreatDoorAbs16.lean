/-
  Regions that draw their order: from the evaluator's run to every order. (Helper theorems; each says its own conditions.)
-/
import Derived.Test.YtghcfkgfccmaoaaGreatDoorAbs15

/-! Regions that draw their order: from the evaluator's run to every order. -/
namespace Go.Abs
open Go

/-! ## The items -/
theorem itemsOf_mem {x : It} : ∀ {os : List Oper} {bs : List Nat} {i : Nat}, x ∈ itemsOf os bs i → i ≤ x.i ∧ os[x.i - i]? = some x.o ∧ bs[x.i - i]? = some x.bits ∧ x.c = cls x.o.op
  | [], bs, i, h => by cases bs <;> cases h
  | _ :: _, [], _, h => by cases h
  | o :: os, b :: bs, i, h => by
    simp only [itemsOf] at h
    cases h with
    | head => exact ⟨Nat.le_refl _, by simp, by simp, rfl⟩
    | tail _ h =>
      obtain ⟨h1, h2, h3, h4⟩ := itemsOf_mem h
      have : x.i - i = (x.i - (i + 1)) + 1 := by omega
      exact ⟨by omega, by rw [this]; simpa using h2, by rw [this]; simpa using h3, h4⟩

theorem itemsOf_apart : ∀ {os : List Oper} {bs : List Nat} {i : Nat}, (itemsOf os bs i).Pairwise fun x y => x.i ≠ y.i
  | [], bs, i => by cases bs <;> exact List.Pairwise.nil
  | _ :: _, [], _ => List.Pairwise.nil
  | o :: os, b :: bs, i => by
    simp only [itemsOf]
    refine List.Pairwise.cons (fun y hy => ?_) itemsOf_apart
    have := (itemsOf_mem hy).1
    simp only; omega

theorem itemsOf_all : ∀ {os : List Oper} {bs : List Nat} {i j : Nat}, os.length = bs.length → j < os.length → ∃ x ∈ itemsOf os bs i, x.i = i + j
  | [], _, _, _, _, h => by simp at h
  | _ :: _, [], _, _, h, _ => by simp at h
  | o :: os, b :: bs, i, j, hl, hj => by
    simp only [itemsOf]
    cases j with
    | zero => exact ⟨_, List.mem_cons_self, rfl⟩
    | succ j =>
      obtain ⟨x, hx, he⟩ := itemsOf_all (os := os) (bs := bs) (i := i + 1) (j := j) (by simpa using hl) (by simpa using hj)
      exact ⟨x, List.mem_cons_of_mem _ hx, by omega⟩

/-! ## The bits -/
theorem bitsOf_length : ∀ (os : List Oper) (acc : List Nat), (bitsOf os acc).length = acc.length + os.length
  | [], acc => by simp [bitsOf]
  | o :: os, acc => by
    simp only [bitsOf]
    rw [bitsOf_length os]
    simp; omega

def AccOK (ops : Array Oper) (acc : List Nat) : Prop := ∀ (j b : Nat), acc[j]? = some b → ∃ o : Oper, ops[j]? = some o ∧ ∀ S, Closed ops S → Deps o S → ∀ k, b.testBit k = true → S k = true

theorem edgeBits_ok {ops : Array Oper} {acc : List Nat} (ha : AccOK ops acc) {S : Nat → Bool} (hc : Closed ops S) : ∀ {es : List Edge}, (∀ e ∈ es, Region.binds .any e = true → S e.on = true) →
    ∀ k, (edgeBits acc es).testBit k = true → S k = true
  | [], _, k, h => by simp [edgeBits] at h
  | e :: es, hd, k, h => by
    simp only [edgeBits] at h
    have ih := edgeBits_ok ha hc (es := es) fun x hx => hd x (List.mem_cons_of_mem _ hx)
    split at h
    · rename_i hb
      have hs := hd e List.mem_cons_self hb
      rw [Nat.testBit_or, Nat.testBit_or, Bool.or_eq_true, Bool.or_eq_true] at h
      rcases h with (h | h) | h
      · split at h
        · rename_i b hn
          rw [nth_eq] at hn
          obtain ⟨o, ho, hall⟩ := ha _ _ hn
          exact hall S hc (hc _ _ hs ho) k h
        · simp at h
      · rw [Nat.one_shiftLeft, Nat.testBit_two_pow] at h
        simp only [decide_eq_true_eq] at h
        rw [← h]; exact hs
      · exact ih k h
    · exact ih k h

theorem bitsOf_ok {ops : Array Oper} : ∀ {os : List Oper} {acc : List Nat}, AccOK ops acc → ops.toList.drop acc.length = os → AccOK ops (bitsOf os acc)
  | [], _, ha, _ => ha
  | o :: os, acc, ha, hd => by
    simp only [bitsOf]
    refine bitsOf_ok ?_ (by
      rw [List.length_append, List.length_singleton, ← List.drop_drop, hd]; rfl)
    intro j b hj
    rw [List.getElem?_append] at hj
    split at hj
    · exact ha j b hj
    · rename_i hlt
      have : j = acc.length := by
        cases hk : j - acc.length with
        | zero => omega
        | succ k => rw [hk] at hj; simp at hj
      subst this
      simp only [Nat.sub_self, List.getElem?_cons_zero, Option.some.injEq] at hj
      subst hj
      refine ⟨o, ?_, fun S hc hdp k hk => edgeBits_ok ha hc (fun e he => hdp e (by simpa using he)) k hk⟩
      have : (ops.toList.drop acc.length)[0]? = some o := by rw [hd]; rfl
      rw [List.getElem?_drop] at this
      simpa using this

/-! ## The order of the reference -/
theorem pairsOk_spec {ops : Array Oper} : ∀ {l : List It}, pairsOk ops l = true → (l.Pairwise fun x y => pairOk ops x y = true) ∧ ∀ x ∈ l, x.c ≠ .bad
  | [], _ => ⟨.nil, fun x hx => by cases hx⟩
  | x :: xs, h => by
    simp only [pairsOk, Bool.and_eq_true] at h
    obtain ⟨⟨h1, h2⟩, h3⟩ := h
    obtain ⟨h4, h5⟩ := pairsOk_spec h3
    rw [List.all_eq_true] at h2
    refine ⟨.cons (fun y hy => h2 y hy) h4, fun y hy => ?_⟩
    cases hy with
    | head => simpa using h1
    | tail _ hy => exact h5 y hy

theorem reOf_spec : ∀ {l : List It}, l.Pairwise fun x y => ordered x y = false →
    (x.c = .read → y.c = .eff → (x.i, y.i) ∈ reOf l) ∧ (x.c = .eff → y.c = .read → (y.i, x.i) ∈ reOf l) ∧ (x.c = .alloc → y.c = .eff → (x.i, y.i) ∈ reOf l)
  | [] => .nil
  | x :: xs => by
    refine .cons (fun y hy ho => ?_) ?_
    · simp only [reOf, List.mem_append, List.mem_filterMap]
      refine ⟨fun h1 h2 => .inl ⟨y, hy, ?_⟩, fun h1 h2 => .inl ⟨y, hy, ?_⟩, fun h1 h2 => .inl ⟨y, hy, ?_⟩⟩ <;> simp [h1, h2, ho]
    · refine (reOf_spec (l := xs)).imp fun {a b} h ho => ?_
      obtain ⟨h1, h2, h3⟩ := h ho
      simp only [reOf, List.mem_append]
      exact ⟨fun a b => .inr (h1 a b), fun a b => .inr (h2 a b), fun a b => .inr (h3 a b)⟩

structure OrdOK (ops : Array Oper) (ord : List It) : Prop where
  ent : ∀ x ∈ ord, ops[x.i]? = some x.o ∧ x.c = cls x.o.op ∧ BitsOK ops x
  apart : ord.Pairwise fun x y => x.i ≠ y.i
  all : ∀ j, j < ops.size → ∃ x ∈ ord, x.i = j
  pairs : ord.Pairwise fun x y => pairOk ops x y = true
  nb : ∀ x ∈ ord, x.c ≠ .bad
  back : ∀ (j : Nat) (o : Oper), ops[j]? = some o → ∀ e ∈ o.after, Region.binds .any e = true → e.on < j

theorem backOk_spec : ∀ {l : List It}, backOk l = true → ∀ x ∈ l, ∀ e ∈ x.o.after, Region.binds .any e = true → e.on < x.i
  | [], _, _, hx => by cases hx
  | y :: ys, h, x, hx => by
    simp only [backOk, Bool.and_eq_true] at h
    cases hx with
    | head =>
      intro e he hb
      have := h.1
      rw [List.all_eq_true] at this
      have := this e (by simpa using he)
      rw [hb] at this
      simpa [Nat.blt_eq] using this
    | tail _ hx => exact backOk_spec h.2 x hx

theorem pair_one {its : List It} (h : its.Pairwise fun x y => x.i ≠ y.i) {x y : It} (hx : x ∈ its) (hy : y ∈ its) (he : x.i = y.i) : x = y := by
  induction h with
  | nil => cases hx
  | cons h1 h2 ih =>
    cases hx with
    | head =>
      cases hy with
      | head => rfl
      | tail _ hy => exact absurd he (h1 y hy)
    | tail _ hx =>
      cases hy with
      | head => exact absurd he.symm (h1 x hx)
      | tail _ hy => exact ih hx hy

theorem regOf_spec {ops : Array Oper} {g : Reg} (h : regOf ops = some g) : OrdOK ops g.ord ∧ g.re = reOf g.ord := by
  unfold regOf at h
  simp only at h
  split at h
  · rename_i hp hb
    injection h with h; subst h
    refine ⟨?_, rfl⟩
    have hlen : (bitsOf ops.toList []).length = ops.toList.length := by rw [bitsOf_length]; simp
    have hacc : AccOK ops (bitsOf ops.toList []) := bitsOf_ok (fun j b hj => by simp at hj) rfl
    have hits : ∀ x ∈ itemsOf ops.toList (bitsOf ops.toList []) 0, ops[x.i]? = some x.o ∧ x.c = cls x.o.op ∧ BitsOK ops x := by
      intro x hx
      obtain ⟨_, h2, h3, h4⟩ := itemsOf_mem hx
      simp only [Nat.sub_zero] at h2 h3
      have h2' : ops[x.i]? = some x.o := by simpa using h2
      refine ⟨h2', h4, fun S hc hd k hk => ?_⟩
      obtain ⟨o, ho, hall⟩ := hacc _ _ h3
      rw [h2'] at ho; injection ho with ho; subst ho
      exact hall S hc hd k hk
    have hall : ∀ j, j < ops.size → ∃ x ∈ itemsOf ops.toList (bitsOf ops.toList []) 0, x.i = j := by
      intro j hj
      obtain ⟨x, hx, he⟩ := itemsOf_all (i := 0) (j := j) hlen.symm (by simpa using hj)
      exact ⟨x, hx, by omega⟩
    obtain ⟨hp1, hp2⟩ := pairsOk_spec hp
    refine ⟨fun x hx => ?_, ?_, fun j hj => ?_, hp1, hp2, fun j o ho e he hbd => ?_⟩
    · rw [List.mem_append, List.mem_filter, List.mem_filter] at hx
      exact hits x (hx.elim (·.1) (·.1))
    · rw [List.pairwise_append]
      refine ⟨itemsOf_apart.filter _, itemsOf_apart.filter _, fun x hx y hy hxy => ?_⟩
      rw [List.mem_filter] at hx hy
      have := pair_one itemsOf_apart hx.1 hy.1 hxy
      subst this
      rw [hx.2] at hy
      simp at hy
    · obtain ⟨x, hx, he⟩ := hall j hj
      refine ⟨x, ?_, he⟩
      rw [List.mem_append, List.mem_filter, List.mem_filter]
      cases hh : hoist x with
      | true => exact .inl ⟨hx, rfl⟩
      | false => exact .inr ⟨hx, rfl⟩
    · have hj : j < ops.size := by
        cases Nat.lt_or_ge j ops.size with
        | inl h => exact h
        | inr h => rw [Array.getElem?_eq_none h] at ho; cases ho
      obtain ⟨x, hx, hxe⟩ := hall j hj
      have hxo := (hits x hx).1
      rw [hxe, ho] at hxo; injection hxo with hxo; subst hxo
      rw [← hxe]; exact backOk_spec hb x hx e he hbd
  · cases h

section
variable {C : Ctx} {cf : CallF} {ops : Array Oper}

theorem stepOp_ent {x : It} (hx : ops[x.i]? = some x.o) (hc : x.c = cls x.o.op) {s s' : St} {l : Log} (h : stepOp C cf ops x.o s = some (s', l)) : ∃ r, EntOK C cf ops ⟨x, s, s', l, r⟩ := by
  unfold stepOp at h
  split at h
  · rename_i hw
    split at h
    · rename_i s1 hp
      injection h with h; injection h with h1 h2; subst h1 h2
      obtain ⟨e1, e2, e3, e4, e5⟩ := putTmp_spec hp
      exact ⟨.tup [], hx, hc, e1, e4, e5, .inl ⟨hw, rfl, e2, rfl⟩⟩
    · cases h
  · rename_i hw
    split at h
    · rename_i r l' hop
      split at h
      · rename_i s1 hp
        injection h with h; injection h with h1 h2; subst h1 h2
        obtain ⟨e1, e2, e3, e4, e5⟩ := putTmp_spec hp
        exact ⟨r.v, hx, hc, e1, e4, e5, .inr ⟨hw, r, hop, rfl, e2⟩⟩
      · cases h
    · cases h
  · cases h

theorem runRec_trace : ∀ {xs : List It} {s s' : St} {rs rs' : List (Nat × Log)}, (∀ x ∈ xs, ops[x.i]? = some x.o ∧ x.c = cls x.o.op) → runRec C cf ops xs s rs = some (s', rs') →
    ∃ tr, tr.map (·.x) = xs ∧ Chain s tr s' ∧ (∀ e ∈ tr, EntOK C cf ops e) ∧ rs' = (tr.map fun e => (e.x.i, e.l)).reverse ++ rs
  | [], s, s', rs, rs', _, h => by
    simp only [runRec] at h
    injection h with h; injection h with h1 h2; subst h1 h2
    exact ⟨[], rfl, .nil s, (fun e he => by cases he), rfl⟩
  | x :: xs, s, s', rs, rs', hx, h => by
    simp only [runRec] at h
    split at h
    · rename_i s1 l hs
      obtain ⟨hx1, hx2⟩ := hx x List.mem_cons_self
      obtain ⟨r, he⟩ := stepOp_ent hx1 hx2 hs
      obtain ⟨tr, h1, h2, h3, h4⟩ := runRec_trace (fun y hy => hx y (List.mem_cons_of_mem _ hy)) h
      refine ⟨⟨x, s, s1, l, r⟩ :: tr, by simp [h1], Chain.cons ⟨x, s, s1, l, r⟩ tr s' h2, fun e hm => ?_, by rw [h4]; simp⟩
      cases hm with
      | head => exact he
      | tail _ hm => exact h3 e hm
    · cases h

theorem findRec_mem : ∀ {rs : List (Nat × Log)}, (rs.Pairwise fun p q => p.1 ≠ q.1) → ∀ {i : Nat} {l : Log}, (i, l) ∈ rs → findRec i rs = l
  | [], _, _, _, h => by cases h
  | (j, m) :: rs, hp, i, l, h => by
    cases hp with
    | cons h1 h2 =>
      simp only [findRec]
      cases h with
      | head => simp
      | tail _ h =>
        have hne : Nat.beq i j = false := by
          cases hb : Nat.beq i j with
          | false => rfl
          | true => exact absurd (Nat.eq_of_beq_eq_true hb).symm (h1 _ h)
        rw [hne]
        exact findRec_mem h2 h

theorem runRec_ok {g : Reg} (hg : regOf ops = some g) {s s' : St} {rs : List (Nat × Log)} (hr : runRec C cf ops g.ord s [] = some (s', rs)) (hre : recsOk g.re rs = true) :
    ∃ tr, tr.map (·.x) = g.ord ∧ Chain s tr s' ∧ RegOK C cf ops tr := by
  obtain ⟨ho, hre'⟩ := regOf_spec hg
  obtain ⟨tr, h1, h2, h3, h4⟩ := runRec_trace (fun x hx => ⟨(ho.ent x hx).1, (ho.ent x hx).2.1⟩) hr
  refine ⟨tr, h1, h2, h3, ?_, fun e he => ?_, fun e he => ?_⟩
  · have hap := ho.apart
    have hps := ho.pairs
    have hro := reOf_spec (l := g.ord)
    rw [← h1, List.pairwise_map] at hap hps
    rw [← hre'] at hro
    rw [← h1, List.pairwise_map] at hro
    have hrs : rs.Pairwise fun p q => p.1 ≠ q.1 := by
      rw [h4, List.append_nil, List.pairwise_reverse, List.pairwise_map]
      exact hap.imp fun h => Ne.symm h
    have hfind : ∀ e ∈ tr, findRec e.x.i rs = e.l := fun e he => findRec_mem hrs (by
      rw [h4, List.append_nil, List.mem_reverse, List.mem_map]; exact ⟨e, he, rfl⟩)
    have hrec : ∀ p ∈ g.re, apartL (findRec p.1 rs) (findRec p.2 rs) = true := by
      unfold recsOk at hre
      rw [List.all_eq_true] at hre
      exact hre
    have hboth := (hap.and hps).and hro
    refine List.Pairwise.imp_of_mem (fun {a b} ha hb h => ?_) hboth
    obtain ⟨⟨p1, p2⟩, p3⟩ := h
    refine ⟨p2, p1, fun c1 c2 c3 => ?_, fun c1 c2 c3 => ?_, fun c1 c2 c3 => ?_⟩
    · have := hrec _ ((p3 c3).1 c1 c2)
      simpa [hfind a ha, hfind b hb] using this
    · have := hrec _ ((p3 c3).2.1 c1 c2)
      simpa [hfind a ha, hfind b hb] using this
    · have := hrec _ ((p3 c3).2.2 c1 c2)
      simpa [hfind a ha, hfind b hb] using this
  · have : e.x ∈ g.ord := by rw [← h1]; exact List.mem_map.2 ⟨e, he, rfl⟩
    exact (ho.ent _ this).2.2
  · have : e.x ∈ g.ord := by rw [← h1]; exact List.mem_map.2 ⟨e, he, rfl⟩
    exact ho.nb _ this

/-! ## Every order -/
theorem ready_spec {listed : Array Bool} (hsz : listed.size = ops.size) {i : Nat} : i ∈ Region.ready .any ops listed ↔ ∃ o, ops[i]? = some o ∧ listed.getD i false = false ∧ Deps o fun j => listed.getD j false := by
  unfold Region.ready
  rw [List.mem_filter, List.mem_range]
  constructor
  · rintro ⟨h1, h2⟩
    have hi : ops[i]? = some ops[i] := Array.getElem?_eq_getElem h1
    rw [hi] at h2
    simp only [Option.map_some, Option.getD_some, Bool.and_eq_true, Bool.not_eq_true', Array.all_eq_true_iff_forall_mem] at h2
    refine ⟨_, hi, ?_, fun e he hb => ?_⟩
    · have h3 := h2.1
      have hl : i < listed.size := by omega
      simp only [Array.getD, hl, dif_pos] at h3 ⊢
      exact h3
    · have := h2.2 e he
      rw [hb] at this
      simpa using this
  · rintro ⟨o, ho, h1, h2⟩
    have hlt : i < ops.size := by
      cases Nat.lt_or_ge i ops.size with
      | inl h => exact h
      | inr h => rw [Array.getElem?_eq_none h] at ho; cases ho
    refine ⟨hlt, ?_⟩
    rw [ho]
    simp only [Option.map_some, Option.getD_some, Bool.and_eq_true, Bool.not_eq_true', Array.all_eq_true_iff_forall_mem]
    refine ⟨?_, fun e he => ?_⟩
    · have hl : i < listed.size := by omega
      simp only [Array.getD, hl, dif_pos] at h1 ⊢
      exact h1
    · cases hb : Region.binds .any e with
      | false => rfl
      | true => simpa using h2 e he hb

theorem allListed {listed : Array Bool} (hsz : listed.size = ops.size) (hback : ∀ (j : Nat) (o : Oper), ops[j]? = some o → ∀ e ∈ o.after, Region.binds .any e = true → e.on < j)
    (hr : Region.ready .any ops listed = []) : ∀ j, j < ops.size → listed.getD j false = true := by
  intro j
  induction j using Nat.strongRecOn with
  | _ j ih =>
    intro hj
    cases hl : listed.getD j false with
    | true => rfl
    | false =>
      have hi : ops[j]? = some ops[j] := Array.getElem?_eq_getElem hj
      have : j ∈ Region.ready .any ops listed := (ready_spec hsz).2 ⟨_, hi, hl, fun e he hb => by
        have := hback j _ hi e he hb
        exact ih _ this (by omega)⟩
      rw [hr] at this; cases this

theorem set_spec {listed : Array Bool} {i : Nat} (hi : i < listed.size) : (fun j => (listed.setIfInBounds i true).getD j false) = setS (fun j => listed.getD j false) i := by
  funext j
  by_cases hj : j = i
  · subst hj
    rw [setS_same]
    simp [Array.getD, hi]
  · rw [setS_ne hj]
    simp only [Array.getD_eq_getD_getElem?]
    rw [Array.getElem?_setIfInBounds_ne (Ne.symm hj)]

theorem wpAny_all (hcf : CallOK C cf) {tr : List Ent} {s0 sN : St} (hwf : WF s0.h) (hok : RegOK C cf ops tr) (hch : Chain s0 tr sN) (hord : OrdOK ops (tr.map (·.x))) {ρ0 : Ren} {w0 : World} {Q : Exit → Act → World → Prop}
    (hQ : ∀ a w ρ, TmpR ρ sN.tmps.get s0.n a → HR ρ sN.h w → GlobR C.gs ρ → Fr s0.h.next ρ0 s0.h w0 ρ sN.h w → Q .normal a w) :
    ∀ (fuel : Nat) (listed : Array Bool) (L : List Nat) (a : Act) (w : World) (ρ : Ren) (dn pd : List Ent), listed.size = ops.size → L.length ≤ fuel → (∀ j, j < ops.size → listed.getD j false = false → j ∈ L) →
      Inv C ops tr s0 sN ρ0 w0 (fun j => listed.getD j false) a w ρ dn pd → wpAny C.P .any ops Q fuel listed a w := by
  have done : ∀ (listed : Array Bool) (a : Act) (w : World) (ρ : Ren) (dn pd : List Ent), listed.size = ops.size → (∀ j, j < ops.size → listed.getD j false = true) →
      Inv C ops tr s0 sN ρ0 w0 (fun j => listed.getD j false) a w ρ dn pd → Q .normal a w := by
    intro listed a w ρ dn pd hsz hall hI
    have hS : ∀ e ∈ tr, listed.getD e.x.i false = true := by
      intro e he
      refine hall _ ?_
      cases Nat.lt_or_ge e.x.i ops.size with
      | inl h => exact h
      | inr h => have := (hok.ents e he).op; rw [Array.getElem?_eq_none h] at this; cases this
    have hpd : pd = [] := by
      cases pd with
      | nil => rfl
      | cons x es =>
        have h1 : listed.getD x.x.i false = false := (hI.pdH x es rfl).2
        have h2 := hS x (by rw [hI.split]; simp)
        rw [h2] at h1; cases h1
    subst hpd
    have htm : TS (fun j => listed.getD j false) tr s0.tmps.get = sN.tmps.get := by
      rw [hch.tmps hok.ents]
      funext t
      exact TS_same rfl fun e he _ => hS e he
    have h1 := hI.tm
    rw [htm] at h1
    exact hQ a w ρ h1 hI.hr hI.gl hI.fr
  intro fuel
  induction fuel with
  | zero =>
    intro listed L a w ρ dn pd hsz hL hLm hI
    have hnil : L = [] := List.length_eq_zero_iff.1 (by omega)
    subst hnil
    have hall : ∀ j, j < ops.size → listed.getD j false = true := fun j hj => by
      cases hl : listed.getD j false with
      | true => rfl
      | false => cases hLm j hj hl
    refine ⟨?_, done listed a w ρ dn pd hsz hall hI⟩
    rw [List.eq_nil_iff_forall_not_mem]
    intro i hi
    obtain ⟨o, ho, hl, _⟩ := (ready_spec hsz).1 hi
    have hlt : i < ops.size := by
      cases Nat.lt_or_ge i ops.size with
      | inl h => exact h
      | inr h => rw [Array.getElem?_eq_none h] at ho; cases ho
    rw [hall i hlt] at hl; cases hl
  | succ fuel ih =>
    intro listed L a w ρ dn pd hsz hL hLm hI
    refine ⟨fun hr => done listed a w ρ dn pd hsz (allListed hsz hord.back hr) hI, fun i hi => ?_⟩
    obtain ⟨o, ho, hl, hdp⟩ := (ready_spec hsz).1 hi
    have hlt : i < ops.size := by
      cases Nat.lt_or_ge i ops.size with
      | inl h => exact h
      | inr h => rw [Array.getElem?_eq_none h] at ho; cases ho
    obtain ⟨x, hx, hxi⟩ := hord.all i hlt
    obtain ⟨e, he, hex⟩ := List.mem_map.1 hx
    have hei : e.x.i = i := by rw [hex]; exact hxi
    subst hei
    have hop := (hok.ents e he).op
    rw [ho] at hop; injection hop with hop
    refine hI.step hcf hwf hok hch he hl (by rw [← hop]; exact hdp) fun a' w' ρ' dn' pd' hI' => ?_
    refine ih _ (L.erase e.x.i) a' w' ρ' dn' pd' (by simpa using hsz) ?_ ?_ ?_
    · have := hLm _ hlt hl
      rw [List.length_erase_of_mem this]; omega
    · intro j hj hjl
      have hset : (listed.setIfInBounds e.x.i true).getD j false = setS (fun j => listed.getD j false) e.x.i j := congrFun (set_spec (listed := listed) (i := e.x.i) (by omega)) j
      rw [hset] at hjl
      have hne : j ≠ e.x.i := fun heq => by rw [heq, setS_same] at hjl; cases hjl
      rw [setS_ne hne] at hjl
      exact (List.mem_erase_of_ne hne).2 (hLm j hj hjl)
    · rw [set_spec (by omega)]; exact hI'

end
end Go.Abs
