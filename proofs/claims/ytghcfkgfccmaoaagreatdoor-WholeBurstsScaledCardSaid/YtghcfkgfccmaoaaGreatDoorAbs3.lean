/-
  The relation between abstract and real things, and its plain laws. (Helper theorems; each says its own conditions.)
-/
import Derived.Test.YtghcfkgfccmaoaaGreatDoorAbs2
import Derived.Laws.Sem
import Derived.Laws.World
import Derived.Laws.Rows
import Derived.Laws.Cells
import Derived.Laws.StructEq
import Derived.Laws.CopyRow
import Derived.Laws.Append
import Derived.Laws.AppendOwn

/-! The relation between abstract and real things, and its plain laws. -/
namespace Go.Abs
open Go

structure Pl where
  blk : Nat
  off : Nat
  ext : Nat

abbrev Ren := Nat → Option Pl

mutual
def VR (ρ : Ren) : AV → Value → Prop
  | .bool b, v => v = .bool b
  | .int k n, v => v = .int k n
  | .nilp, v => v = .pointer none
  | .ptr b o, v => ∃ g, ρ b = some g ∧ v = .pointer (some ⟨g.blk, g.off + o, none⟩)
  | .sl0, v => v = .slice none 0 0
  | .sl b o l c ex, v => ∃ g, ρ b = some g ∧ v = .slice (some ⟨g.blk, g.off + o, none⟩) l (if ex then c else c + g.ext)
  | .nilm, v => v = .map none
  | .mp b, v => ∃ g, ρ b = some g ∧ v = .map (some g.blk)
  | .nilf, v => v = .nilFunc
  | .fn f xs ys, v => ∃ as bs : List Value, v = .func (.func f) as.toArray bs.toArray ∧ VRs ρ xs as ∧ VRs ρ ys bs
  | .str s, v => v = .string s
  | .agg cs, v => ∃ vs : List Value, v = .agg vs.toArray ∧ VRs ρ cs vs
  | .tup ts, v => ∃ vs : List Value, v = .tuple vs.toArray ∧ VRs ρ ts vs
  | .junk, _ => True
def VRs (ρ : Ren) : List AV → List Value → Prop
  | [], vs => vs = []
  | a :: as, vs => ∃ v vs', vs = v :: vs' ∧ VR ρ a v ∧ VRs ρ as vs'
end

def Ext (ρ ρ' : Ren) : Prop := ∀ b g, ρ b = some g → ρ' b = some g

theorem Ext.refl (ρ : Ren) : Ext ρ ρ := fun _ _ h => h
theorem Ext.trans {ρ ρ' ρ'' : Ren} (h : Ext ρ ρ') (h' : Ext ρ' ρ'') : Ext ρ ρ'' := fun b g e => h' b g (h b g e)

mutual
theorem VR.mono {ρ ρ' : Ren} (h : Ext ρ ρ') : ∀ (a : AV) (v : Value), VR ρ a v → VR ρ' a v
  | .bool _, _, e => e
  | .int _ _, _, e => e
  | .nilp, _, e => e
  | .ptr _ _, _, ⟨g, e, e'⟩ => ⟨g, h _ _ e, e'⟩
  | .sl0, _, e => e
  | .sl _ _ _ _ _, _, ⟨g, e, e'⟩ => ⟨g, h _ _ e, e'⟩
  | .nilm, _, e => e
  | .mp _, _, ⟨g, e, e'⟩ => ⟨g, h _ _ e, e'⟩
  | .nilf, _, e => e
  | .fn _ xs ys, _, ⟨as, bs, e, e1, e2⟩ => ⟨as, bs, e, VRs.mono h xs as e1, VRs.mono h ys bs e2⟩
  | .str _, _, e => e
  | .agg cs, _, ⟨vs, e, e1⟩ => ⟨vs, e, VRs.mono h cs vs e1⟩
  | .tup ts, _, ⟨vs, e, e1⟩ => ⟨vs, e, VRs.mono h ts vs e1⟩
  | .junk, _, e => e
theorem VRs.mono {ρ ρ' : Ren} (h : Ext ρ ρ') : ∀ (as : List AV) (vs : List Value), VRs ρ as vs → VRs ρ' as vs
  | [], _, e => e
  | a :: as, _, ⟨v, vs', e, e1, e2⟩ => ⟨v, vs', e, VR.mono h a v e1, VRs.mono h as vs' e2⟩
end

section vrs
variable {ρ : Ren}
theorem VRs.length : ∀ {as : List AV} {vs : List Value}, VRs ρ as vs → as.length = vs.length
  | [], _, e => by subst e; rfl
  | _ :: as, _, ⟨_, _, e, _, h⟩ => by subst e; simp [VRs.length h]

theorem VRs.get : ∀ {as : List AV} {vs : List Value}, VRs ρ as vs → ∀ (i : Nat) (a : AV), as[i]? = some a → ∃ v, vs[i]? = some v ∧ VR ρ a v
  | [], _, _, i, a, h => by simp at h
  | _ :: as, _, ⟨v, vs', e, h1, h2⟩, i, a, h => by
    subst e
    cases i with
    | zero => simp at h; subst h; exact ⟨v, rfl, h1⟩
    | succ i => simp at h; obtain ⟨u, hu, hr⟩ := VRs.get h2 i a h; exact ⟨u, by simpa using hu, hr⟩

theorem VRs.of_get : ∀ {as : List AV} {vs : List Value}, as.length = vs.length → (∀ (i : Nat) (a : AV) (v : Value), as[i]? = some a → vs[i]? = some v → VR ρ a v) → VRs ρ as vs
  | [], vs, hl, _ => by cases vs with
    | nil => rfl
    | cons => simp at hl
  | a :: as, vs, hl, h => by
    cases vs with
    | nil => simp at hl
    | cons v vs => exact ⟨v, vs, rfl, h 0 a v rfl rfl, VRs.of_get (by simpa using hl) fun i x y hx hy => h (i + 1) x y (by simpa using hx) (by simpa using hy)⟩

theorem VRs.append {as bs : List AV} {vs us : List Value} (h : VRs ρ as vs) (h' : VRs ρ bs us) : VRs ρ (as ++ bs) (vs ++ us) := by
  induction as generalizing vs with
  | nil => cases h; exact h'
  | cons a as ih => obtain ⟨v, vs', rfl, h1, h2⟩ := h; exact ⟨v, vs' ++ us, rfl, h1, ih h2⟩

theorem VRs.nil : VRs ρ [] [] := rfl
theorem VRs.cons {a : AV} {v : Value} {as : List AV} {vs : List Value} (h : VR ρ a v) (h' : VRs ρ as vs) : VRs ρ (a :: as) (v :: vs) := ⟨v, vs, rfl, h, h'⟩

theorem VRs.take {as : List AV} {vs : List Value} (h : VRs ρ as vs) : ∀ n, VRs ρ (as.take n) (vs.take n) := by
  induction as generalizing vs with
  | nil => intro n; cases h; simp [VRs]
  | cons a as ih =>
    obtain ⟨v, vs', rfl, h1, h2⟩ := h
    intro n
    cases n with
    | zero => simp [VRs]
    | succ n => exact ⟨v, _, rfl, h1, ih h2 n⟩

theorem VRs.drop {as : List AV} {vs : List Value} (h : VRs ρ as vs) : ∀ n, VRs ρ (as.drop n) (vs.drop n) := by
  induction as generalizing vs with
  | nil => intro n; cases h; simp [VRs]
  | cons a as ih =>
    obtain ⟨v, vs', rfl, h1, h2⟩ := h
    intro n
    cases n with
    | zero => exact ⟨v, vs', rfl, h1, h2⟩
    | succ n => simpa using ih h2 n
end vrs

theorem nth_eq {α : Type} : ∀ (l : List α) (i : Nat), nth l i = l[i]?
  | [], i => by simp [nth]
  | x :: xs, 0 => rfl
  | x :: xs, i + 1 => by simp [nth, nth_eq xs i]

theorem VR.one {ρ : Ren} {a : AV} {v : Value} (h1 : a.one = true) (h : VR ρ a v) : v.oneCell' = true ∧ v.cells = #[v] := by
  cases a <;> simp only [AV.one, Bool.false_eq_true] at h1 <;> simp only [VR] at h
  case bool => subst h; exact ⟨rfl, rfl⟩
  case int => subst h; exact ⟨rfl, rfl⟩
  case nilp => subst h; exact ⟨rfl, rfl⟩
  case ptr => obtain ⟨_, _, rfl⟩ := h; exact ⟨rfl, rfl⟩
  case sl0 => subst h; exact ⟨rfl, rfl⟩
  case sl => obtain ⟨_, _, rfl⟩ := h; exact ⟨rfl, rfl⟩
  case nilm => subst h; exact ⟨rfl, rfl⟩
  case mp => obtain ⟨_, _, rfl⟩ := h; exact ⟨rfl, rfl⟩
  case nilf => subst h; exact ⟨rfl, rfl⟩
  case fn => obtain ⟨_, _, rfl, _⟩ := h; exact ⟨rfl, rfl⟩
  case str => subst h; exact ⟨rfl, rfl⟩

/-- A value's cells. -/
theorem VR.cells {ρ : Ren} {a : AV} {v : Value} {cs : List AV} (hc : a.cells = some cs) (h : VR ρ a v) : VRs ρ cs v.cells.toList := by
  by_cases h1 : a.one = true
  · have : cs = [a] := by cases a <;> simp_all [AV.cells, AV.one]
    subst this
    rw [(VR.one h1 h).2]
    exact ⟨v, [], rfl, h, rfl⟩
  · cases a <;> simp_all [AV.cells, AV.one]
    obtain ⟨vs, rfl, hv⟩ := h
    simpa [Value.cells] using hv

theorem allOne_spec : ∀ {as : List AV}, allOne as = true → ∀ a ∈ as, a.one = true
  | [], _, _, h => by cases h
  | x :: xs, h, a, ha => by
    simp only [allOne] at h
    split at h
    · rename_i hx
      cases ha with
      | head => exact hx
      | tail _ ha => exact allOne_spec h a ha
    · cases h

theorem VRs.ones {ρ : Ren} {as : List AV} {vs : List Value} (h1 : allOne as = true) (h : VRs ρ as vs) : ∀ v ∈ vs, v.oneCell' = true := by
  intro v hv
  obtain ⟨i, hi⟩ := List.getElem?_of_mem hv
  have hl := h.length
  have hlt : i < as.length := by rw [hl]; exact (List.getElem?_eq_some_iff.1 hi).1
  obtain ⟨u, hu, hr⟩ := h.get i _ (List.getElem?_eq_getElem hlt)
  rw [hi] at hu
  injection hu with hu
  subst hu
  exact (VR.one (allOne_spec h1 _ (List.getElem_mem hlt)) hr).1

theorem ofV_sound {v : Value} {a : AV} (h : ofV v = some a) (ρ : Ren) : VR ρ a v := by
  unfold ofV at h
  split at h <;> first | (injection h with h; subst h; simp [VR]; done) | cases h

theorem ofVs_sound : ∀ {vs : List Value} {as : List AV}, ofVs vs = some as → ∀ ρ, VRs ρ as vs
  | [], as, h, ρ => by simp [ofVs] at h; subst h; simp [VRs]
  | v :: vs, as, h, ρ => by
    simp only [ofVs] at h
    split at h
    · cases h
    · rename_i a ha
      split at h
      · cases h
      · rename_i as' has
        injection h with h; subst h
        exact ⟨v, vs, rfl, ofV_sound ha ρ, ofVs_sound has ρ⟩

theorem ofVA_sound {v : Value} {a : AV} (h : ofVA v = some a) (ρ : Ren) : VR ρ a v := by
  unfold ofVA at h
  split at h
  · rename_i cs
    split at h
    · rename_i as has
      injection h with h; subst h
      exact ⟨cs.toList, rfl, ofVs_sound has ρ⟩
    · cases h
  · rename_i vs
    split at h
    · rename_i hv
      injection h with h; subst h
      refine ⟨[], ?_, rfl⟩
      have : vs = #[] := by
        apply Array.ext'
        simpa using hv
      rw [this]
    · cases h
  · exact ofV_sound h ρ

/-! ## Tries -/
section tries
variable {α : Type}
theorem Tr.get_lf (k : Nat) : (Tr.lf : Tr α).get k = none := rfl

theorem Tr.get_zero (t : Tr α) : t.get 0 = t.val := by cases t <;> rfl
theorem Tr.get_even (t : Tr α) (k : Nat) (h : k % 2 = 0) : t.get (k + 1) = t.left.get (k / 2) := by
  cases t with
  | lf => rfl
  | nd o l r => simp only [Tr.get, Tr.left, h]
theorem Tr.get_odd (t : Tr α) (k : Nat) (h : k % 2 = 1) : t.get (k + 1) = t.right.get (k / 2) := by
  cases t with
  | lf => rfl
  | nd o l r => simp only [Tr.get, Tr.right, h]

theorem Tr.get_setF (v : α) : ∀ (f : Nat) (t : Tr α) (k j : Nat), k < f → (Tr.setF f t k v).get j = if j = k then some v else t.get j := by
  intro f
  induction f with
  | zero => intro t k j h; omega
  | succ f ih =>
    intro t k j h
    cases k with
    | zero =>
      cases j with
      | zero => simp [Tr.setF, Tr.get_zero, Tr.val]
      | succ j =>
        rcases Nat.mod_two_eq_zero_or_one j with hj | hj
        · rw [Tr.get_even _ _ hj, Tr.get_even _ _ hj]; simp [Tr.setF, Tr.left]
        · rw [Tr.get_odd _ _ hj, Tr.get_odd _ _ hj]; simp [Tr.setF, Tr.right]
    | succ k =>
      have hk2 : k / 2 < f := by omega
      rcases Nat.mod_two_eq_zero_or_one k with hk | hk
      · have e : Tr.setF (f + 1) t (k + 1) v = .nd t.val (Tr.setF f t.left (k / 2) v) t.right := by simp only [Tr.setF, hk]
        rw [e]
        cases j with
        | zero => simp [Tr.get_zero, Tr.val]
        | succ j =>
          rcases Nat.mod_two_eq_zero_or_one j with hj | hj
          · rw [Tr.get_even _ _ hj, Tr.get_even t _ hj]
            simp only [Tr.left]
            rw [ih _ _ _ hk2]
            by_cases hjk : j = k
            · subst hjk; simp
            · have : j / 2 ≠ k / 2 := by omega
              simp [hjk, this]
          · rw [Tr.get_odd _ _ hj, Tr.get_odd t _ hj]
            have : ¬ (j + 1 = k + 1) := by omega
            rw [if_neg this]; rfl
      · have e : Tr.setF (f + 1) t (k + 1) v = .nd t.val t.left (Tr.setF f t.right (k / 2) v) := by simp only [Tr.setF, hk]
        rw [e]
        cases j with
        | zero => simp [Tr.get_zero, Tr.val]
        | succ j =>
          rcases Nat.mod_two_eq_zero_or_one j with hj | hj
          · rw [Tr.get_even _ _ hj, Tr.get_even t _ hj]
            have : ¬ (j + 1 = k + 1) := by omega
            rw [if_neg this]; rfl
          · rw [Tr.get_odd _ _ hj, Tr.get_odd t _ hj]
            simp only [Tr.right]
            rw [ih _ _ _ hk2]
            by_cases hjk : j = k
            · subst hjk; simp
            · have : j / 2 ≠ k / 2 := by omega
              simp [hjk, this]

theorem Tr.get_set (t : Tr α) (k j : Nat) (v : α) : (t.set k v).get j = if j = k then some v else t.get j :=
  Tr.get_setF v (k + 1) t k j (by omega)
end tries

theorem Sto.get_set (s : Sto) (i j : Nat) (v : AV) : (s.set i v).get j = if j = i then v else s.get j := by
  cases s with
  | tr t d =>
    simp only [Sto.set, Sto.get, Tr.get_set]
    by_cases h : j = i <;> simp [h]
  | fn d =>
    simp only [Sto.set, Sto.get]
    by_cases h : j = i
    · subst h; simp
    · have : Nat.beq j i = false := by
        cases hb : Nat.beq j i with
        | false => rfl
        | true => exact absurd (Nat.eq_of_beq_eq_true hb) h
      simp [this, h]

theorem Sto.get_setL : ∀ (vs : List AV) (s : Sto) (i j : Nat), (s.setL i vs).get j = if i ≤ j ∧ j < i + vs.length then vs.getD (j - i) .junk else s.get j
  | [], s, i, j => by simp [Sto.setL]; omega
  | v :: vs, s, i, j => by
    simp only [Sto.setL, Sto.get_setL vs, Sto.get_set, List.length_cons]
    by_cases h1 : i + 1 ≤ j ∧ j < i + 1 + vs.length
    · have h2 : i ≤ j ∧ j < i + (vs.length + 1) := by omega
      rw [if_pos h1, if_pos h2, show j - i = (j - (i + 1)) + 1 by omega]
      rfl
    · rw [if_neg h1]
      by_cases h3 : j = i
      · subst h3; simp
      · have h2 : ¬ (i ≤ j ∧ j < i + (vs.length + 1)) := by omega
        rw [if_neg h3, if_neg h2]

theorem readL_length (s : Sto) : ∀ (n off : Nat), (readL s off n).length = n
  | 0, _ => rfl
  | n + 1, off => by simp [readL, readL_length s n]

theorem readL_get (s : Sto) : ∀ (n off i : Nat), i < n → (readL s off n)[i]? = some (s.get (off + i))
  | 0, _, _, h => by omega
  | n + 1, off, 0, _ => by simp [readL]
  | n + 1, off, i + 1, h => by
    simp only [readL, List.getElem?_cons_succ]
    rw [readL_get s n (off + 1) i (by omega), show off + 1 + i = off + (i + 1) by omega]

theorem listFn_get : ∀ (l : List AV) (i : Nat) (a : AV), l[i]? = some a → listFn l i = a
  | [], _, _, h => by simp at h
  | x :: xs, 0, a, h => by simp at h; subst h; rfl
  | x :: xs, i + 1, a, h => by simp at h; simpa [listFn] using listFn_get xs i a h

/-! ## Blocks and heaps -/
def MR (ρ : Ren) : List (AV × AV) → List MapEntry → Prop
  | [], es => es = []
  | (k, v) :: r, es => ∃ e es', es = e :: es' ∧ VR ρ k e.key ∧ VR ρ v e.val ∧ MR ρ r es'

theorem MR.mono {ρ ρ' : Ren} (h : Ext ρ ρ') : ∀ {l : List (AV × AV)} {es : List MapEntry}, MR ρ l es → MR ρ' l es
  | [], _, e => e
  | (_, _) :: _, _, ⟨e, es', he, h1, h2, h3⟩ => ⟨e, es', he, h1.mono h, h2.mono h, MR.mono h h3⟩

theorem MR.length {ρ : Ren} : ∀ {l : List (AV × AV)} {es : List MapEntry}, MR ρ l es → l.length = es.length
  | [], _, e => by subst e; rfl
  | (_, _) :: _, _, ⟨_, _, e, _, _, h⟩ => by subst e; simp [MR.length h]

def ABlk.rw : ABlk → Bool
  | .dead => false
  | .cells c => !c.ro
  | .map _ => true

def BR (ρ : Ren) (g : Pl) (B : ABlk) (w : World) : Prop := match B with
  | .dead => True
  | .cells c => match c.ro with
    | true => ∀ i, i < c.n → ∃ v, w.cell? ⟨g.blk, g.off + i, none⟩ = some v ∧ VR ρ (c.sto.get i) v
    | false => ∃ cur, w.heap[g.blk]? = some (.cells cur c.elem (0, 0)) ∧ cur.size = g.off + c.n + g.ext * c.esz ∧
        ∀ i, i < c.n → ∃ v, cur[g.off + i]? = some v ∧ VR ρ (c.sto.get i) v
  | .map es => ∃ ces clock, w.heap[g.blk]? = some (.map ces clock) ∧ MR ρ es ces.toList

/-- Two blocks that may lie in one: one is closed, or neither is written. -/
def Sep (x y : ABlk) : Prop := x = .dead ∨ y = .dead ∨ (x.rw = false ∧ y.rw = false)

structure HR (ρ : Ren) (h : AH) (w : World) : Prop where
  blk : ∀ b g, ρ b = some g → BR ρ g (h.get b) w
  inj : ∀ b b' g g', ρ b = some g → ρ b' = some g' → g.blk = g'.blk → b ≠ b' → Sep (h.get b) (h.get b')
  fresh : ∀ b, h.next ≤ b → ρ b = none
  lt : ∀ b g, ρ b = some g → g.blk < w.heap.size

theorem BR.mono {ρ ρ' : Ren} (h : Ext ρ ρ') {g : Pl} {B : ABlk} {w : World} (hb : BR ρ g B w) : BR ρ' g B w := by
  cases B with
  | dead => trivial
  | cells c =>
    unfold BR at *
    simp only at *
    cases hro : c.ro <;> simp only [hro] at *
    · obtain ⟨cur, h1, h2, h3⟩ := hb
      exact ⟨cur, h1, h2, fun i hi => let ⟨v, hv, hr⟩ := h3 i hi; ⟨v, hv, hr.mono h⟩⟩
    · exact fun i hi => let ⟨v, hv, hr⟩ := hb i hi; ⟨v, hv, hr.mono h⟩
  | map es => obtain ⟨ces, clock, h1, h2⟩ := hb; exact ⟨ces, clock, h1, h2.mono h⟩

/-- A block is as it was where its real block is. -/
theorem BR.same {ρ : Ren} {g : Pl} {B : ABlk} {w w' : World} (he : w'.heap[g.blk]? = w.heap[g.blk]?) (hb : BR ρ g B w) : BR ρ g B w' := by
  cases B with
  | dead => trivial
  | cells c =>
    unfold BR at *
    simp only at *
    cases hro : c.ro <;> simp only [hro] at *
    · rw [he]; exact hb
    · intro i hi
      obtain ⟨v, hv, hr⟩ := hb i hi
      refine ⟨v, ?_, hr⟩
      unfold World.cell? at *
      simpa only [he] using hv
  | map es => unfold BR at *; simp only at *; rw [he]; exact hb

/-- What an evaluation leaves as it was. ('n': abstract blocks below it stay where they lie.) -/
structure Fr (n : Nat) (ρ : Ren) (h : AH) (w : World) (ρ' : Ren) (h' : AH) (w' : World) : Prop where
  os : w'.os = w.os
  tape : w'.tape = w.tape
  output : w'.output = w.output
  size : w.heap.size ≤ w'.heap.size
  keep : ∀ c, c < w.heap.size → (∀ b g, ρ b = some g → g.blk = c → (h.get b).rw = false) → w'.heap[c]? = w.heap[c]?
  img : ∀ b g, ρ' b = some g → (h'.get b).rw = true → (∃ b0 g0, ρ b0 = some g0 ∧ (h.get b0).rw = true ∧ g0.blk = g.blk) ∨ w.heap.size ≤ g.blk
  old : ∀ b, b < n → ρ' b = ρ b
  next : h.next ≤ h'.next
  ext : Ext ρ ρ'

theorem Fr.refl (n : Nat) (ρ : Ren) (h : AH) (w : World) : Fr n ρ h w ρ h w :=
  ⟨rfl, rfl, rfl, Nat.le_refl _, fun _ _ _ => rfl, fun b g hb hr => .inl ⟨b, g, hb, hr, rfl⟩, fun _ _ => rfl, Nat.le_refl _, Ext.refl _⟩

theorem Fr.trans {n m : Nat} {ρ ρ1 ρ2 : Ren} {h h1 h2 : AH} {w w1 w2 : World} (a : Fr n ρ h w ρ1 h1 w1) (b : Fr m ρ1 h1 w1 ρ2 h2 w2) (hn : n ≤ m) : Fr n ρ h w ρ2 h2 w2 := by
  refine ⟨b.os.trans a.os, b.tape.trans a.tape, b.output.trans a.output, Nat.le_trans a.size b.size, ?_, ?_, ?_, Nat.le_trans a.next b.next, a.ext.trans b.ext⟩
  · intro c hc hno
    rw [b.keep c (Nat.lt_of_lt_of_le hc a.size) ?_, a.keep c hc hno]
    intro x g hx hg
    cases hr : (h1.get x).rw with
    | false => rfl
    | true =>
      rcases a.img x g hx hr with ⟨b0, g0, h0, hr0, he⟩ | hle
      · have := hno b0 g0 h0 (he.trans hg)
        rw [hr0] at this; cases this
      · omega
  · intro x g hx hr
    rcases b.img x g hx hr with ⟨b0, g0, h0, hr0, he⟩ | hle
    · rcases a.img b0 g0 h0 hr0 with ⟨b1, g1, h1', hr1, he1⟩ | hle1
      · exact .inl ⟨b1, g1, h1', hr1, he1.trans he⟩
      · exact .inr (by omega)
    · exact .inr (Nat.le_trans a.size hle)
  · intro x hx
    rw [b.old x (Nat.lt_of_lt_of_le hx hn), a.old x hx]

theorem AH.get_put (h : AH) (b c : Nat) (x : ABlk) : (h.put b x).get c = if c = b then x else h.get c := by
  unfold AH.get AH.put
  simp only [Tr.get_set]
  by_cases hc : c = b <;> simp [hc]

theorem AH.get_push (h : AH) (c : Nat) (x : ABlk) : (h.push x).get c = if c = h.next then x else h.get c := by
  unfold AH.get AH.push
  simp only [Tr.get_set]
  by_cases hc : c = h.next <;> simp [hc]

end Go.Abs
