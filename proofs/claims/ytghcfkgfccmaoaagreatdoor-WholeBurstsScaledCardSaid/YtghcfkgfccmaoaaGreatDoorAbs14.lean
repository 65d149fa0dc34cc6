/-
  Regions that draw their order: the invariant, and one step in any order. (Helper theorems; each says its own conditions.)
-/
import Derived.Test.YtghcfkgfccmaoaaGreatDoorAbs13b

/-! Regions that draw their order: the invariant, and one step in any order. -/
namespace Go.Abs
open Go

structure Ent where
  x : It
  sb : St
  sa : St
  l : Log
  r : AV

structure EntOK (C : Ctx) (cf : CallF) (ops : Array Oper) (e : Ent) : Prop where
  op : ops[e.x.i]? = some e.x.o
  cl : e.x.c = cls e.x.o.op
  n : e.sa.n = e.sb.n
  tm : e.sa.tmps.get = updT e.sb.tmps.get e.x.o.dst e.r
  dst : ∀ i, e.x.o.dst = some i → i < e.sb.n
  out : (wantedA ops e.sb.tmps.get e.x.o = some false ∧ e.r = .tup [] ∧ e.sa.h = e.sb.h ∧ e.l = []) ∨
        (wantedA ops e.sb.tmps.get e.x.o = some true ∧ ∃ R, opOut C cf e.x.o e.sb = some (R, e.l) ∧ R.v = e.r ∧ e.sa.h = R.h)

inductive Chain : St → List Ent → St → Prop
  | nil (s : St) : Chain s [] s
  | cons (e : Ent) (es : List Ent) (s' : St) : Chain e.sa es s' → Chain e.sb (e :: es) s'

theorem Chain.append {s s' : St} {xs ys : List Ent} (h : Chain s (xs ++ ys) s') : ∃ m, Chain s xs m ∧ Chain m ys s' := by
  induction xs generalizing s with
  | nil => exact ⟨s, .nil s, h⟩
  | cons e xs ih =>
    cases h with
    | cons _ _ _ h =>
      obtain ⟨m, h1, h2⟩ := ih h
      exact ⟨m, .cons e xs m h1, h2⟩

theorem Chain.head {s s' : St} {e : Ent} {es : List Ent} (h : Chain s (e :: es) s') : s = e.sb ∧ Chain e.sa es s' := by
  cases h with
  | cons _ _ _ h => exact ⟨rfl, h⟩

section
variable {C : Ctx} {cf : CallF} {ops : Array Oper}

def Wanted (ops : Array Oper) (e : Ent) : Prop := wantedA ops e.sb.tmps.get e.x.o = some true

theorem EntOK.heap (hcf : CallOK C cf) {e : Ent} (h : EntOK C cf ops e) : Mild e.sb.h e.sa.h (if e.x.c = .eff then e.l else []) ∧
    (e.x.c ≠ .eff → (e.sa.h = e.sb.h ∨ (e.x.c = .alloc ∧ Wanted ops e ∧ ∃ B, e.sa.h = e.sb.h.push B))) := by
  rcases h.out with ⟨_, _, hh, _⟩ | ⟨hw, R, hR, _, hh⟩
  · rw [hh]; exact ⟨.refl _ _, fun _ => .inl rfl⟩
  · have hm := opOutE_mild hcf (show opOutE C cf e.x.o (glob C.gs e.sb.tmps) e.sb.h = _ from hR)
    unfold opOut opOutE at hR
    rw [← h.cl] at hR
    split at hR
    · rename_i hc
      split at hR
      · injection hR with hR; injection hR with h1 h2; subst h1
        rw [hh]; exact ⟨.refl _ _, fun _ => .inl rfl⟩
      · cases hR
    · rename_i hc
      split at hR
      · injection hR with hR; injection hR with h1 h2; subst h1
        rw [hh]; exact ⟨.refl _ _, fun _ => .inl rfl⟩
      · cases hR
    · rename_i hc
      split at hR
      · rename_i v blk hv
        injection hR with hR; injection hR with h1 h2; subst h1
        rw [hh]; exact ⟨.push _ _ _, fun _ => .inr ⟨hc, hw, blk, rfl⟩⟩
      · cases hR
    · rename_i hc
      rw [hh]
      refine ⟨?_, fun hne => absurd hc hne⟩
      rw [if_pos hc]
      split at hR
      · injection hR with hR; injection hR with h1 h2; subst h1; rw [← h2]; exact hm
      · split at hR
        · injection hR with hR; injection hR with h1 h2; subst h1; rw [← h2]; exact hm
        · cases hR
      · cases hR
    · cases hR

theorem Chain.next (hcf : CallOK C cf) {s s' : St} {es : List Ent} (h : Chain s es s') (ho : ∀ e ∈ es, EntOK C cf ops e) : s.h.next ≤ s'.h.next ∧ s'.n = s.n := by
  induction h with
  | nil s => exact ⟨Nat.le_refl _, rfl⟩
  | cons e es s' h ih =>
    have h1 := (ho e (List.mem_cons_self)).heap hcf
    obtain ⟨h2, h3⟩ := ih fun x hx => ho x (List.mem_cons_of_mem _ hx)
    exact ⟨Nat.le_trans h1.1.next h2, by rw [h3, (ho e (List.mem_cons_self)).n]⟩

theorem Chain.keep (hcf : CallOK C cf) {s s' : St} {es : List Ent} (h : Chain s es s') (ho : ∀ e ∈ es, EntOK C cf ops e) {b : Nat} (hb : b < s.h.next) (hl : ∀ e ∈ es, e.x.c = .eff → b ∉ e.l) :
    s'.h.get b = s.h.get b := by
  induction h with
  | nil s => rfl
  | cons e es s' h ih =>
    have h1 := ((ho e (List.mem_cons_self)).heap hcf).1
    rw [ih (fun x hx => ho x (List.mem_cons_of_mem _ hx)) (Nat.lt_of_lt_of_le hb h1.next) (fun x hx => hl x (List.mem_cons_of_mem _ hx))]
    refine h1.keep b ?_ hb
    split
    · rename_i hc; exact hl e (List.mem_cons_self) hc
    · simp

theorem Fr.push {n : Nat} {ρ : Ren} {h : AH} {w : World} (hr : HR ρ h w) (B : ABlk) : Fr n ρ h w ρ (h.push B) w := by
  refine ⟨rfl, rfl, rfl, Nat.le_refl _, fun _ _ _ => rfl, fun b g hb hrw => ?_, fun _ _ => rfl, by simp [AH.push], Ext.refl _⟩
  rw [AH.get_push, if_neg] at hrw
  · exact .inl ⟨b, g, hb, hrw, rfl⟩
  · intro e; subst e; rw [hr.fresh _ (Nat.le_refl _)] at hb; cases hb

theorem Chain.mild (hcf : CallOK C cf) {s s' : St} {es : List Ent} (h : Chain s es s') (ho : ∀ e ∈ es, EntOK C cf ops e) (hne : ∀ e ∈ es, e.x.c ≠ .eff) {ρ : Ren} {w : World} (hr : HR ρ s.h w) (n : Nat) :
    HR ρ s'.h w ∧ Fr n ρ s.h w ρ s'.h w := by
  induction h with
  | nil s => exact ⟨hr, .refl _ _ _ _⟩
  | cons e es s' h ih =>
    have h1 := ((ho e (List.mem_cons_self)).heap hcf).2 (hne e (List.mem_cons_self))
    have key : HR ρ e.sa.h w ∧ Fr n ρ e.sb.h w ρ e.sa.h w := by
      rcases h1 with h1 | ⟨_, _, B, h1⟩
      · rw [h1]; exact ⟨hr, .refl _ _ _ _⟩
      · rw [h1]; exact ⟨hr.push B, .push hr B⟩
    obtain ⟨a, b⟩ := ih (fun x hx => ho x (List.mem_cons_of_mem _ hx)) (fun x hx => hne x (List.mem_cons_of_mem _ hx)) key.1
    exact ⟨a, key.2.trans b (Nat.le_refl _)⟩

/-! ## Temporaries: what they hold where a part of the operations is done -/
def TS (S : Nat → Bool) : List Ent → (Nat → Option AV) → Nat → Option AV
  | [], T => T
  | e :: es, T => TS S es (match S e.x.i with | true => updT T e.x.o.dst e.r | false => T)

theorem updT_apply (T : Nat → Option AV) (d : Option Tmp) (v : AV) (t : Nat) : updT T d v t = if d = some t then some v else T t := by
  cases d with
  | none => simp [updT]
  | some i =>
    by_cases h : t = i
    · subst h; simp [updT]
    · have : ¬ (some i = some t) := fun e => h (by injection e with e; exact e.symm)
      simp [updT, h, this]

theorem TS_append (S : Nat → Bool) : ∀ (xs ys : List Ent) (T : Nat → Option AV), TS S (xs ++ ys) T = TS S ys (TS S xs T)
  | [], _, _ => rfl
  | _ :: xs, ys, _ => TS_append S xs ys _

theorem TS_none {S : Nat → Bool} {t : Nat} : ∀ {es : List Ent} {T : Nat → Option AV}, (∀ e ∈ es, e.x.o.dst = some t → S e.x.i = false) → TS S es T t = T t
  | [], _, _ => rfl
  | e :: _, _, h => by
    simp only [TS]
    rw [TS_none fun x hx => h x (List.mem_cons_of_mem _ hx)]
    cases hs : S e.x.i with
    | false => rfl
    | true =>
      simp only [updT_apply]
      rw [if_neg]
      intro hd
      rw [h e (List.mem_cons_self) hd] at hs
      cases hs

theorem TS_same {S S' : Nat → Bool} {t : Nat} : ∀ {es : List Ent} {T T' : Nat → Option AV}, T t = T' t → (∀ e ∈ es, e.x.o.dst = some t → S e.x.i = S' e.x.i) → TS S es T t = TS S' es T' t
  | [], _, _, h, _ => h
  | e :: es, T, T', h, hs => by
    simp only [TS]
    refine TS_same ?_ fun x hx => hs x (List.mem_cons_of_mem _ hx)
    by_cases hd : e.x.o.dst = some t
    · rw [hs e (List.mem_cons_self) hd]
      cases S' e.x.i
      · exact h
      · simp only [updT_apply, hd, if_true]
    · have h1 : ∀ (S : Nat → Bool) (T : Nat → Option AV), (match S e.x.i with | true => updT T e.x.o.dst e.r | false => T) t = T t := by
        intro S T
        cases S e.x.i
        · rfl
        · simp only [updT_apply, hd, if_false]
      rw [h1, h1]; exact h

theorem Chain.tmps {s s' : St} {es : List Ent} (h : Chain s es s') (ho : ∀ e ∈ es, EntOK C cf ops e) : s'.tmps.get = TS (fun _ => true) es s.tmps.get := by
  induction h with
  | nil s => rfl
  | cons e es s' h ih =>
    rw [ih fun x hx => ho x (List.mem_cons_of_mem _ hx)]
    simp only [TS]
    rw [(ho e (List.mem_cons_self)).tm]

/-! ## The certificate -/
def Deps (o : Oper) (S : Nat → Bool) : Prop := ∀ e ∈ o.after, Region.binds .any e = true → S e.on = true
def Closed (ops : Array Oper) (S : Nat → Bool) : Prop := ∀ (j : Nat) (o : Oper), S j = true → ops[j]? = some o → Deps o S
def BitsOK (ops : Array Oper) (x : It) : Prop := ∀ S, Closed ops S → Deps x.o S → ∀ k, x.bits.testBit k = true → S k = true

structure Pair (ops : Array Oper) (a b : Ent) : Prop where
  ok : pairOk ops a.x b.x = true
  ne : a.x.i ≠ b.x.i
  re : a.x.c = .read → b.x.c = .eff → ordered a.x b.x = false → apartL a.l b.l = true
  er : a.x.c = .eff → b.x.c = .read → ordered a.x b.x = false → apartL b.l a.l = true
  ae : a.x.c = .alloc → b.x.c = .eff → ordered a.x b.x = false → apartL a.l b.l = true

structure RegOK (C : Ctx) (cf : CallF) (ops : Array Oper) (tr : List Ent) : Prop where
  ents : ∀ e ∈ tr, EntOK C cf ops e
  pw : tr.Pairwise (Pair ops)
  bits : ∀ e ∈ tr, BitsOK ops e.x
  nb : ∀ e ∈ tr, e.x.c ≠ .bad

theorem Pair.noBack {a b : Ent} (h : Pair ops a b) : a.x.bits.testBit b.x.i = false := by
  have := h.ok
  unfold pairOk at this
  simp only [Bool.and_eq_true, Bool.not_eq_true'] at this
  exact this.1.2

theorem memT_iff {t : Nat} : ∀ {l : List Nat}, memT t l = true ↔ t ∈ l
  | [] => by simp [memT]
  | x :: xs => by simp [memT, memT_iff, Nat.beq_eq]

/-- An earlier one that writes what a later one looks at, or writes, is ahead of it in every order. -/
theorem Pair.writes {a b : Ent} (h : Pair ops a b) {t : Nat} (hd : a.x.o.dst = some t) (ht : t ∈ looks ops b.x.o ∨ b.x.o.dst = some t) : b.x.bits.testBit a.x.i = true := by
  have hb := h.noBack
  have := h.ok
  unfold pairOk at this
  simp only [Bool.and_eq_true] at this
  have h1 := this.1.1.1
  unfold tmpsApart at h1
  rw [hd] at h1
  simp only [Bool.or_eq_true, Bool.and_eq_true] at h1
  rcases h1 with ⟨h2, h3⟩ | h2
  · rcases ht with ht | ht
    · rw [memT_iff.2 ht] at h2; cases h2
    · rw [ht] at h3; simp at h3
  · unfold ordered at h2
    rw [hb] at h2
    simpa using h2

/-- A later one that writes what an earlier one looks at, or writes, is behind it in every order. -/
theorem Pair.writes' {a b : Ent} (h : Pair ops a b) {t : Nat} (hd : b.x.o.dst = some t) (ht : t ∈ looks ops a.x.o ∨ a.x.o.dst = some t) : b.x.bits.testBit a.x.i = true := by
  have hb := h.noBack
  have := h.ok
  unfold pairOk at this
  simp only [Bool.and_eq_true] at this
  have h1 := this.1.1.2
  unfold tmpsApart at h1
  rw [hd] at h1
  simp only [Bool.or_eq_true, Bool.and_eq_true] at h1
  rcases h1 with ⟨h2, h3⟩ | h2
  · rcases ht with ht | ht
    · rw [memT_iff.2 ht] at h2; cases h2
    · rw [ht] at h3; simp at h3
  · unfold ordered at h2
    rw [hb] at h2
    simpa using h2

theorem Pair.effs {a b : Ent} (h : Pair ops a b) (ha : a.x.c = .eff) (hb : b.x.c = .eff ∨ b.x.c = .alloc) : b.x.bits.testBit a.x.i = true := by
  have := h.ok
  unfold pairOk at this
  rw [ha] at this
  rcases hb with hb | hb <;> rw [hb] at this <;> simp only [Bool.and_eq_true] at this <;> exact this.2

theorem apartL_spec {xs ys : Log} (h : apartL xs ys = true) : ∀ b ∈ xs, b ∉ ys := by
  intro b hb hy
  unfold apartL at h
  rw [List.all_eq_true] at h
  have := h b hb
  rw [memT_iff.2 hy] at this
  cases this

end
end Go.Abs
