/-
  Loops: weakest preconditions over abstract states; states that cover others. (Helper theorems; each says its own conditions.)
-/
import Derived.Test.YtghcfkgfccmaoaaGreatDoorAbs19

/-! Loops: weakest preconditions over abstract states; states that cover others. -/
namespace Go.Abs
open Go

/-- What a part of a run leaves as it was; blocks below n stay where they lie. -/
structure Fk (n : Nat) (ρ : Ren) (h : AH) (w : World) (ρ' : Ren) (h' : AH) (w' : World) : Prop where
  os : w'.os = w.os
  tape : w'.tape = w.tape
  output : w'.output = w.output
  size : w.heap.size ≤ w'.heap.size
  keep : ∀ c, c < w.heap.size → (∀ b g, ρ b = some g → g.blk = c → (h.get b).rw = false) → w'.heap[c]? = w.heap[c]?
  img : ∀ b g, ρ' b = some g → (h'.get b).rw = true → (∃ b0 g0, ρ b0 = some g0 ∧ (h.get b0).rw = true ∧ g0.blk = g.blk) ∨ w.heap.size ≤ g.blk
  old : ∀ b, b < n → ρ' b = ρ b

theorem Fr.fk {n m : Nat} {ρ ρ' : Ren} {h h' : AH} {w w' : World} (f : Fr m ρ h w ρ' h' w') (hn : n ≤ m) : Fk n ρ h w ρ' h' w' :=
  ⟨f.os, f.tape, f.output, f.size, f.keep, f.img, fun b hb => f.old b (Nat.lt_of_lt_of_le hb hn)⟩

theorem Fk.refl (n : Nat) (ρ : Ren) (h : AH) (w : World) : Fk n ρ h w ρ h w := (Fr.refl n ρ h w).fk (Nat.le_refl _)

theorem Fk.trans {n : Nat} {ρ ρ1 ρ2 : Ren} {h h1 h2 : AH} {w w1 w2 : World} (a : Fk n ρ h w ρ1 h1 w1) (b : Fk n ρ1 h1 w1 ρ2 h2 w2) : Fk n ρ h w ρ2 h2 w2 := by
  refine ⟨b.os.trans a.os, b.tape.trans a.tape, b.output.trans a.output, Nat.le_trans a.size b.size, ?_, ?_, ?_⟩
  · intro c hc hno
    rw [b.keep c (Nat.lt_of_lt_of_le hc a.size) ?_, a.keep c hc hno]
    intro x g hx hg
    cases hr : (h1.get x).rw with
    | false => rfl
    | true =>
      rcases a.img x g hx hr with ⟨b0, g0, h0, hr0, he⟩ | hle
      · have := hno b0 g0 h0 (he.trans hg)
        rw [hr0] at this; cases this
      · omega
  · intro x g hx hr
    rcases b.img x g hx hr with ⟨b0, g0, h0, hr0, he⟩ | hle
    · rcases a.img b0 g0 h0 hr0 with ⟨b1, g1, h1', hr1, he1⟩ | hle1
      · exact .inl ⟨b1, g1, h1', hr1, he1.trans he⟩
      · exact .inr (by omega)
    · exact .inr (Nat.le_trans a.size hle)
  · intro x hx
    rw [b.old x hx, a.old x hx]

/-- From every state that is related to s, the code comes to states of K. -/
def AW (C : Ctx) (n : Nat) (c : Code) (s : St) (K : AExit → St → Prop) : Prop :=
  ∀ (ρ : Ren) (a : Act) (w : World) (Q : Exit → Act → World → Prop), n ≤ s.h.next → WF s.h → Rel C ρ s a w →
    (∀ x s' ρ' a' w', K x s' → n ≤ s'.h.next → WF s'.h → Rel C ρ' s' a' w' → Fk n ρ s.h w ρ' s'.h w' → Q x.exit' a' w') → c.wp C.P Q a w

section
variable {C : Ctx} {n : Nat} {s : St} {K : AExit → St → Prop}

theorem AW.mono {c : Code} {K' : AExit → St → Prop} (h : AW C n c s K) (hk : ∀ x s', K x s' → K' x s') : AW C n c s K' :=
  fun ρ a w Q hn hwf hrel hQ => h ρ a w Q hn hwf hrel fun x s' ρ' a' w' hK => hQ x s' ρ' a' w' (hk x s' hK)

theorem AW.run (hfit : Fit C.P) (horc : CallOK C C.orc) {f : Nat} {c : Code} {x : AExit} {s' : St} (h : aexec C f c s = some (x, s')) (hK : K x s') : AW C n c s K := by
  intro ρ a w Q hn hwf hrel hQ
  obtain ⟨hl, hw⟩ := aexec_ok hfit horc f h
  refine hw ρ a w Q hwf hrel fun ρ' a' w' hrel' hf => hQ x s' ρ' a' w' hK (Nat.le_trans hn ?_) (hl.wf hwf) hrel' (hf.fk hn)
  obtain ⟨l, _, hm⟩ := hl.log
  exact hm.next

theorem AW.exec (hfit : Fit C.P) (horc : CallOK C C.orc) {X : Rdr} (hX : X.ok C) {f : Nat} {c : Code} (h : wexec C X f c s K) : AW C n c s K := by
  obtain ⟨x, s', h1, h2⟩ := (wdet hX f).1 c s K h
  exact AW.run hfit horc h1 h2

theorem AW.seq {c d : Code} (h : AW C n c s fun x s1 => match x with | .normal => AW C n d s1 K | x => K x s1) : AW C n (.seq c d) s K := by
  intro ρ a w Q hn hwf hrel hQ
  refine wp_seq (h ρ a w _ hn hwf hrel fun x s1 ρ1 a1 w1 hK hn1 hwf1 hrel1 hf1 => ?_)
  cases x with
  | normal => exact hK ρ1 a1 w1 Q hn1 hwf1 hrel1 fun y s2 ρ2 a2 w2 hK2 hn2 hwf2 hrel2 hf2 => hQ y s2 ρ2 a2 w2 hK2 hn2 hwf2 hrel2 (hf1.trans hf2)
  | exit id => exact hQ _ s1 ρ1 a1 w1 hK hn1 hwf1 hrel1 hf1
  | goto l => exact hQ _ s1 ρ1 a1 w1 hK hn1 hwf1 hrel1 hf1
  | ret => exact hQ _ s1 ρ1 a1 w1 hK hn1 hwf1 hrel1 hf1

theorem AW.cond {e : Operand} {c d : Code} {b : Bool} (he : glob C.gs s.tmps e = some (.bool b)) (h : splitB b (AW C n c s K) (AW C n d s K)) : AW C n (.cond e c d) s K := by
  intro ρ a w Q hn hwf hrel hQ
  rcases splitB_elim h with ⟨rfl, hk⟩ | ⟨rfl, hk⟩
  · exact wp_cond_true (envR hrel.gl hrel.tmp e _ he) (hk ρ a w Q hn hwf hrel hQ)
  · exact wp_cond_false (envR hrel.gl hrel.tmp e _ he) (hk ρ a w Q hn hwf hrel hQ)

theorem AW.block {id : Nat} {c : Code} (h : AW C n c s fun x s1 => match x with
    | .exit id' => match Nat.beq id' id with
      | true => K .normal s1
      | false => K (.exit id') s1
    | x => K x s1) : AW C n (.block id c) s K := by
  intro ρ a w Q hn hwf hrel hQ
  refine wp_block (h ρ a w _ hn hwf hrel fun x s1 ρ1 a1 w1 hK hn1 hwf1 hrel1 hf1 => ?_)
  cases x with
  | normal => exact hQ .normal s1 ρ1 a1 w1 hK hn1 hwf1 hrel1 hf1
  | exit id' =>
    simp only at hK
    simp only [AExit.exit', Exit.inBlock]
    split at hK
    · rename_i hb
      rw [if_pos (Nat.eq_of_beq_eq_true hb)]
      exact hQ .normal s1 ρ1 a1 w1 hK hn1 hwf1 hrel1 hf1
    · rename_i hb
      rw [if_neg (Nat.ne_of_beq_eq_false hb)]
      exact hQ (.exit id') s1 ρ1 a1 w1 hK hn1 hwf1 hrel1 hf1
  | goto l => exact hQ (.goto l) s1 ρ1 a1 w1 hK hn1 hwf1 hrel1 hf1
  | ret => exact hQ .ret s1 ρ1 a1 w1 hK hn1 hwf1 hrel1 hf1

end

/-! ## States that cover others -/
mutual
def CV (sel : Nat → Option Nat) : AV → AV → Prop
  | .ptr b off, u => ∃ c, sel b = some c ∧ u = .ptr c off
  | .sl b off len cap ex, u => ∃ c, sel b = some c ∧ u = .sl c off len cap ex
  | .mp b, u => ∃ c, sel b = some c ∧ u = .mp c
  | .fn f xs ys, u => ∃ xs' ys', u = .fn f xs' ys' ∧ CVs sel xs xs' ∧ CVs sel ys ys'
  | .agg xs, u => ∃ xs', u = .agg xs' ∧ CVs sel xs xs'
  | .tup xs, u => ∃ xs', u = .tup xs' ∧ CVs sel xs xs'
  | .junk, _ => True
  | .bool b, u => u = .bool b
  | .int k n, u => u = .int k n
  | .nilp, u => u = .nilp
  | .sl0, u => u = .sl0
  | .nilm, u => u = .nilm
  | .nilf, u => u = .nilf
  | .str x, u => u = .str x
def CVs (sel : Nat → Option Nat) : List AV → List AV → Prop
  | [], us => us = []
  | v :: vs, us => ∃ u us', us = u :: us' ∧ CV sel v u ∧ CVs sel vs us'
end

def under (sel : Nat → Option Nat) (ρ : Ren) : Ren := fun b => match sel b with
  | some c => ρ c
  | none => none

theorem under_some {sel : Nat → Option Nat} {ρ : Ren} {b : Nat} {g : Pl} (h : under sel ρ b = some g) : ∃ c, sel b = some c ∧ ρ c = some g := by
  unfold under at h
  split at h
  · rename_i c hc; exact ⟨c, hc, h⟩
  · cases h

theorem under_of {sel : Nat → Option Nat} {ρ : Ren} {b c : Nat} (h : sel b = some c) : under sel ρ b = ρ c := by
  unfold under; rw [h]

mutual
theorem CV.vr {sel : Nat → Option Nat} {ρ : Ren} : ∀ (v u : AV) (x : Value), CV sel v u → VR ρ u x → VR (under sel ρ) v x
  | .ptr b off, u, x, h, hx => by
    obtain ⟨c, hc, rfl⟩ := h
    obtain ⟨g, hg, he⟩ := hx
    exact ⟨g, by rw [under_of hc]; exact hg, he⟩
  | .sl b off len cap ex, u, x, h, hx => by
    obtain ⟨c, hc, rfl⟩ := h
    obtain ⟨g, hg, he⟩ := hx
    exact ⟨g, by rw [under_of hc]; exact hg, he⟩
  | .mp b, u, x, h, hx => by
    obtain ⟨c, hc, rfl⟩ := h
    obtain ⟨g, hg, he⟩ := hx
    exact ⟨g, by rw [under_of hc]; exact hg, he⟩
  | .fn f xs ys, u, x, h, hx => by
    obtain ⟨xs', ys', rfl, h1, h2⟩ := h
    obtain ⟨as, bs, he, h3, h4⟩ := hx
    exact ⟨as, bs, he, CVs.vr _ _ _ h1 h3, CVs.vr _ _ _ h2 h4⟩
  | .agg xs, u, x, h, hx => by
    obtain ⟨xs', rfl, h1⟩ := h
    obtain ⟨as, he, h3⟩ := hx
    exact ⟨as, he, CVs.vr _ _ _ h1 h3⟩
  | .tup xs, u, x, h, hx => by
    obtain ⟨xs', rfl, h1⟩ := h
    obtain ⟨as, he, h3⟩ := hx
    exact ⟨as, he, CVs.vr _ _ _ h1 h3⟩
  | .junk, _, _, _, _ => trivial
  | .bool _, u, x, h, hx => by simp only [CV] at h; subst h; exact hx
  | .int _ _, u, x, h, hx => by simp only [CV] at h; subst h; exact hx
  | .nilp, u, x, h, hx => by simp only [CV] at h; subst h; exact hx
  | .sl0, u, x, h, hx => by simp only [CV] at h; subst h; exact hx
  | .nilm, u, x, h, hx => by simp only [CV] at h; subst h; exact hx
  | .nilf, u, x, h, hx => by simp only [CV] at h; subst h; exact hx
  | .str _, u, x, h, hx => by simp only [CV] at h; subst h; exact hx
theorem CVs.vr {sel : Nat → Option Nat} {ρ : Ren} : ∀ (vs us : List AV) (xs : List Value), CVs sel vs us → VRs ρ us xs → VRs (under sel ρ) vs xs
  | [], us, xs, h, hx => by simp only [CVs] at h; subst h; exact hx
  | v :: vs, us, xs, h, hx => by
    obtain ⟨u, us', rfl, h1, h2⟩ := h
    obtain ⟨x, xs', rfl, h3, h4⟩ := hx
    exact ⟨x, xs', rfl, CV.vr v u x h1 h3, CVs.vr vs us' xs' h2 h4⟩
end

def CMs (sel : Nat → Option Nat) : List (AV × AV) → List (AV × AV) → Prop
  | [], us => us = []
  | p :: ps, us => ∃ q qs, us = q :: qs ∧ CV sel p.1 q.1 ∧ CV sel p.2 q.2 ∧ CMs sel ps qs

def CBk (sel : Nat → Option Nat) : ABlk → ABlk → Prop
  | .dead, _ => True
  | .cells c0, .cells c => c0.n = c.n ∧ c0.elem = c.elem ∧ c0.esz = c.esz ∧ c0.ro = c.ro ∧ ∀ i, i < c0.n → CV sel (c0.sto.get i) (c.sto.get i)
  | .map es0, .map es => CMs sel es0 es
  | _, _ => False

theorem CMs.mr {sel : Nat → Option Nat} {ρ : Ren} : ∀ {ps qs : List (AV × AV)} {es : List MapEntry}, CMs sel ps qs → MR ρ qs es → MR (under sel ρ) ps es
  | [], qs, es, h, hm => by simp only [CMs] at h; subst h; exact hm
  | (a, b) :: ps, qs, es, h, hm => by
    obtain ⟨⟨c, d⟩, qs', rfl, h1, h2, h3⟩ := h
    obtain ⟨e, es', he, h4, h5, h6⟩ := hm
    exact ⟨e, es', he, CV.vr a c _ h1 h4, CV.vr b d _ h2 h5, CMs.mr h3 h6⟩

theorem CBk.br {sel : Nat → Option Nat} {ρ : Ren} {g : Pl} {B0 B : ABlk} {w : World} (h : CBk sel B0 B) (hb : BR ρ g B w) : BR (under sel ρ) g B0 w := by
  cases B0 with
  | dead => trivial
  | cells c0 =>
    cases B with
    | dead => exact h.elim
    | map es => exact h.elim
    | cells c =>
      obtain ⟨h1, h2, h3, h4, h5⟩ := h
      unfold BR at *
      simp only at *
      rw [h4]
      cases hro : c.ro <;> simp only [hro] at *
      · obtain ⟨cur, e1, e2, e3⟩ := hb
        refine ⟨cur, by rw [h2]; exact e1, by rw [h1, h3]; exact e2, fun i hi => ?_⟩
        obtain ⟨v, hv, hr⟩ := e3 i (by omega)
        exact ⟨v, hv, CV.vr _ _ _ (h5 i hi) hr⟩
      · intro i hi
        obtain ⟨v, hv, hr⟩ := hb i (by omega)
        exact ⟨v, hv, CV.vr _ _ _ (h5 i hi) hr⟩
  | map es0 =>
    cases B with
    | dead => exact h.elim
    | cells c => exact h.elim
    | map es =>
      obtain ⟨ces, clock, e1, e2⟩ := hb
      exact ⟨ces, clock, e1, CMs.mr h e2⟩

theorem CBk.rw {sel : Nat → Option Nat} {B0 B : ABlk} (h : CBk sel B0 B) (hr : B.rw = false) : B0.rw = false := by
  cases B0 with
  | dead => rfl
  | cells c0 =>
    cases B with
    | dead => exact h.elim
    | map es => exact h.elim
    | cells c =>
      simp only [ABlk.rw] at *
      rw [h.2.2.2.1]; exact hr
  | map es0 =>
    cases B with
    | dead => exact h.elim
    | cells c => exact h.elim
    | map es => simp [ABlk.rw] at hr

theorem CBk.dead {sel : Nat → Option Nat} {B0 : ABlk} (h : CBk sel B0 .dead) : B0 = .dead := by
  cases B0 with
  | dead => rfl
  | cells c0 => exact h.elim
  | map es0 => exact h.elim

/-- Heap h0 is heap h, seen by sel. -/
structure CovH (n : Nat) (h h0 : AH) (sel : Nat → Option Nat) : Prop where
  same : ∀ b, b < n → sel b = some b
  inj : ∀ b b' c, sel b = some c → sel b' = some c → b = b'
  top : ∀ b, h0.next ≤ b → sel b = none
  blk : ∀ b c, sel b = some c → CBk sel (h0.get b) (h.get c)
  wf : WF h0
  le : n ≤ h0.next

theorem CovH.hr {n : Nat} {h h0 : AH} {sel : Nat → Option Nat} (hc : CovH n h h0 sel) {ρ : Ren} {w : World} (hr : HR ρ h w) : HR (under sel ρ) h0 w := by
  refine ⟨fun b g hb => ?_, fun b b' g g' hb hb' he hne => ?_, fun b hb => ?_, fun b g hb => ?_⟩
  · obtain ⟨c, h1, h2⟩ := under_some hb
    exact (hc.blk b c h1).br (hr.blk c g h2)
  · obtain ⟨c, h1, h2⟩ := under_some hb
    obtain ⟨c', h3, h4⟩ := under_some hb'
    have hne' : c ≠ c' := fun e => hne (hc.inj b b' c h1 (e ▸ h3))
    rcases hr.inj c c' g g' h2 h4 he hne' with h | h | ⟨h, h'⟩
    · refine .inl (CBk.dead (sel := sel) ?_); rw [← h]; exact hc.blk b c h1
    · refine .inr (.inl (CBk.dead (sel := sel) ?_)); rw [← h]; exact hc.blk b' c' h3
    · exact .inr (.inr ⟨(hc.blk b c h1).rw h, (hc.blk b' c' h3).rw h'⟩)
  · unfold under; rw [hc.top b hb]
  · obtain ⟨c, _, h2⟩ := under_some hb
    exact hr.lt c g h2

theorem CovH.fk {n : Nat} {h h0 : AH} {sel : Nat → Option Nat} (hc : CovH n h h0 sel) {ρ ρ' : Ren} {w w' : World} {h' : AH} (f : Fk n (under sel ρ) h0 w ρ' h' w') : Fk n ρ h w ρ' h' w' := by
  refine ⟨f.os, f.tape, f.output, f.size, fun c hlt hno => f.keep c hlt fun b g hb hg => ?_, fun b g hb hr => ?_, fun b hb => ?_⟩
  · obtain ⟨d, h1, h2⟩ := under_some hb
    exact (hc.blk b d h1).rw (hno d g h2 hg)
  · rcases f.img b g hb hr with ⟨b0, g0, h1, h2, h3⟩ | h
    · obtain ⟨d, h4, h5⟩ := under_some h1
      refine .inl ⟨d, g0, h5, ?_, h3⟩
      cases hd : (h.get d).rw with
      | true => rfl
      | false => rw [(hc.blk b0 d h4).rw hd] at h2; cases h2
    · exact .inr h
  · rw [f.old b hb, under_of (hc.same b hb)]

/-- The other way: what is forgotten at the end. -/
theorem CovH.fk' {n : Nat} {h h0 : AH} {sel : Nat → Option Nat} (hc : CovH n h h0 sel) {ρ0 ρ : Ren} {w0 w : World} {hh : AH} (f : Fk n ρ0 hh w0 ρ h w) : Fk n ρ0 hh w0 (under sel ρ) h0 w := by
  refine ⟨f.os, f.tape, f.output, f.size, f.keep, fun b g hb hr => ?_, fun b hb => ?_⟩
  · obtain ⟨d, h1, h2⟩ := under_some hb
    refine f.img d g h2 ?_
    cases hd : (h.get d).rw with
    | true => rfl
    | false => rw [(hc.blk b d h1).rw hd] at hr; cases hr
  · rw [under_of (hc.same b hb), f.old b hb]

structure Cov (C : Ctx) (n : Nat) (s s0 : St) : Prop where
  ex : ∃ sel, CovH n s.h s0.h sel ∧ (∀ g b, C.gs g = some b → sel b = some b) ∧ s0.n = s.n ∧ ∀ i v, s0.tmps.get i = some v → ∃ u, s.tmps.get i = some u ∧ CV sel v u

theorem Cov.rel {C : Ctx} {n : Nat} {s s0 : St} {sel : Nat → Option Nat} (hc : CovH n s.h s0.h sel) (hg : ∀ g b, C.gs g = some b → sel b = some b) (hn : s0.n = s.n)
    (ht : ∀ i v, s0.tmps.get i = some v → ∃ u, s.tmps.get i = some u ∧ CV sel v u) {ρ : Ren} {a : Act} {w : World} (hrel : Rel C ρ s a w) : Rel C (under sel ρ) s0 a w := by
  refine ⟨⟨fun i v hv => ?_, by rw [hn]; exact hrel.tmp.size, hrel.tmp.dfr⟩, hc.hr hrel.hr, fun g b hb => ?_⟩
  · obtain ⟨u, hu, hcv⟩ := ht i v hv
    obtain ⟨x, hx, hr⟩ := hrel.tmp.val i u hu
    exact ⟨x, hx, CV.vr v u x hcv hr⟩
  · rw [under_of (hg g b hb)]; exact hrel.gl g b hb

theorem AW.cov {C : Ctx} {n : Nat} {s s0 : St} {K : AExit → St → Prop} {c : Code} (h : Cov C n s s0) (haw : AW C n c s0 K) : AW C n c s K := by
  obtain ⟨sel, hc, hg, hn, ht⟩ := h.ex
  intro ρ a w Q _ _ hrel hQ
  exact haw (under sel ρ) a w Q hc.le hc.wf (Cov.rel hc hg hn ht hrel) fun x s' ρ' a' w' hK hn' hwf' hrel' hf => hQ x s' ρ' a' w' hK hn' hwf' hrel' (hc.fk hf)

/-- A loop, from states that are known up to what is forgotten. -/
theorem AW.loop {C : Ctx} {n : Nat} {K : AExit → St → Prop} {c : Code} {α : Type} (S : α → St) (I : α → Prop) (μ : α → Nat)
    (round : ∀ p, I p → AW C n c (S p) fun x s' => match x with | .normal => ∃ q, I q ∧ Cov C n s' (S q) ∧ μ q < μ p | x => K x s') : ∀ p, I p → AW C n (.loop c) (S p) K := by
  have key : ∀ m p, μ p = m → I p → ∀ (ρ : Ren) (a : Act) (w : World) (Q : Exit → Act → World → Prop), n ≤ (S p).h.next → WF (S p).h → Rel C ρ (S p) a w →
      (∀ x s' ρ' a' w', K x s' → n ≤ s'.h.next → WF s'.h → Rel C ρ' s' a' w' → Fk n ρ (S p).h w ρ' s'.h w' → Q x.exit' a' w') → LoopWp C.P c Q a w := by
    intro m
    induction m using Nat.strongRecOn with
    | _ m ih =>
      intro p hp hI ρ a w Q hn hwf hrel hQ
      refine .round (round p hI ρ a w _ hn hwf hrel fun x s1 ρ1 a1 w1 hK hn1 hwf1 hrel1 hf1 => ?_)
      cases x with
      | normal =>
        obtain ⟨q, hIq, hcov, hlt⟩ := hK
        obtain ⟨sel, hc, hg, hnn, ht⟩ := hcov.ex
        exact ih (μ q) (by omega) q rfl hIq (under sel ρ1) a1 w1 Q hc.le hc.wf (Cov.rel hc hg hnn ht hrel1) fun y s2 ρ2 a2 w2 hK2 hn2 hwf2 hrel2 hf2 =>
          hQ y s2 ρ2 a2 w2 hK2 hn2 hwf2 hrel2 (hf1.trans (hc.fk hf2))
      | exit id => exact hQ _ s1 ρ1 a1 w1 hK hn1 hwf1 hrel1 hf1
      | goto l => exact hQ _ s1 ρ1 a1 w1 hK hn1 hwf1 hrel1 hf1
      | ret => exact hQ _ s1 ρ1 a1 w1 hK hn1 hwf1 hrel1 hf1
  exact fun p hI ρ a w Q hn hwf hrel hQ => (key _ p rfl hI ρ a w Q hn hwf hrel hQ).loop

end Go.Abs
