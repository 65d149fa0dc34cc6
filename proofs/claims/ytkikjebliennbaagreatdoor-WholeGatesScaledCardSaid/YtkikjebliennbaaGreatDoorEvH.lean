/-
  Contracts: a call in a small heap; the same call in every heap that has such blocks. (Helper theorems; each says its own conditions.)
-/
import Derived.Test.YtkikjebliennbaaGreatDoorEvG
/-! Contracts: a call in a small heap; the same call in every heap that has such blocks. -/
namespace Go.Abs
open Go

/-! ## Renaming -/
mutual
def renV (τ : Nat → Nat) : AV → AV
  | .ptr b off => .ptr (τ b) off
  | .sl b off len cap ex => .sl (τ b) off len cap ex
  | .mp b => .mp (τ b)
  | .fn f xs ys => .fn f (renVs τ xs) (renVs τ ys)
  | .agg xs => .agg (renVs τ xs)
  | .tup xs => .tup (renVs τ xs)
  | .bool b => .bool b
  | .int k n => .int k n
  | .nilp => .nilp
  | .sl0 => .sl0
  | .nilm => .nilm
  | .nilf => .nilf
  | .str x => .str x
  | .junk => .junk
def renVs (τ : Nat → Nat) : List AV → List AV
  | [] => []
  | v :: vs => renV τ v :: renVs τ vs
end

mutual
theorem renV_vr {τ : Nat → Nat} {ρ ρ' : Ren} (hτ : ∀ j g, ρ j = some g → ρ' (τ j) = some g) : ∀ (v : AV) (x : Value), VR ρ v x → VR ρ' (renV τ v) x
  | .ptr b off, x, h => by obtain ⟨g, hg, he⟩ := h; exact ⟨g, hτ _ _ hg, he⟩
  | .sl b off len cap ex, x, h => by obtain ⟨g, hg, he⟩ := h; exact ⟨g, hτ _ _ hg, he⟩
  | .mp b, x, h => by obtain ⟨g, hg, he⟩ := h; exact ⟨g, hτ _ _ hg, he⟩
  | .fn f xs ys, x, h => by
    obtain ⟨as, bs, he, h1, h2⟩ := h
    exact ⟨as, bs, he, renVs_vr hτ _ _ h1, renVs_vr hτ _ _ h2⟩
  | .agg xs, x, h => by obtain ⟨as, he, h1⟩ := h; exact ⟨as, he, renVs_vr hτ _ _ h1⟩
  | .tup xs, x, h => by obtain ⟨as, he, h1⟩ := h; exact ⟨as, he, renVs_vr hτ _ _ h1⟩
  | .bool _, _, h => h
  | .int _ _, _, h => h
  | .nilp, _, h => h
  | .sl0, _, h => h
  | .nilm, _, h => h
  | .nilf, _, h => h
  | .str _, _, h => h
  | .junk, _, _ => trivial
theorem renVs_vr {τ : Nat → Nat} {ρ ρ' : Ren} (hτ : ∀ j g, ρ j = some g → ρ' (τ j) = some g) : ∀ (vs : List AV) (xs : List Value), VRs ρ vs xs → VRs ρ' (renVs τ vs) xs
  | [], _, h => h
  | v :: vs, _, h => by
    obtain ⟨x, xs, rfl, h1, h2⟩ := h
    exact ⟨x, xs, rfl, renV_vr hτ _ _ h1, renVs_vr hτ _ _ h2⟩
end

theorem renVs_length (τ : Nat → Nat) : ∀ vs : List AV, (renVs τ vs).length = vs.length
  | [] => rfl
  | _ :: vs => by simp [renVs, renVs_length τ vs]

theorem renVs_get (τ : Nat → Nat) : ∀ (vs : List AV) (i : Nat) (v : AV), vs[i]? = some v → (renVs τ vs)[i]? = some (renV τ v)
  | [], i, v, h => by simp at h
  | x :: xs, i, v, h => by
    cases i with
    | zero => simp only [List.getElem?_cons_zero, Option.some.injEq] at h; subst h; rfl
    | succ i => simp only [renVs, List.getElem?_cons_succ] at h ⊢; exact renVs_get τ xs i v h

/-- What must be so of a block that stays as it is. -/
def plainB : ABlk → Prop
  | .cells c => match c.sto with
    | .tr _ _ => True
    | .fn d => ∀ i, i < c.n → (d i).closed = true
  | _ => True

/-- New names in a block; one whose cells are a function has none. -/
def renBk (τ : Nat → Nat) : ABlk → ABlk
  | .dead => .dead
  | .cells c => match c.sto with
    | .tr _ _ => .cells { sto := .tr .lf (listFn (renVs τ (readL c.sto 0 c.n))), n := c.n, elem := c.elem, esz := c.esz, ro := c.ro }
    | .fn d => .cells { sto := .fn d, n := c.n, elem := c.elem, esz := c.esz, ro := c.ro }
  | .map es => .map (es.map fun p => (renV τ p.1, renV τ p.2))

theorem renBk_cells {τ : Nat → Nat} {ρ ρ' : Ren} (hτ : ∀ j g, ρ j = some g → ρ' (τ j) = some g) (c : CB) (hp : plainB (.cells c)) : ∃ sto, renBk τ (.cells c) = .cells { sto := sto, n := c.n, elem := c.elem, esz := c.esz, ro := c.ro } ∧
    ∀ i, i < c.n → ∀ x, VR ρ (c.sto.get i) x → VR ρ' (sto.get i) x := by
  obtain ⟨sto, n, e, z, ro⟩ := c
  cases sto with
  | tr t d =>
    refine ⟨.tr .lf (listFn (renVs τ (readL (.tr t d) 0 n))), rfl, fun i hi x hx => ?_⟩
    have h1 := readL_get (.tr t d) n 0 i hi
    rw [Nat.zero_add] at h1
    have h2 := renVs_get τ _ i _ h1
    show VR ρ' (listFn (renVs τ (readL (.tr t d) 0 n)) i) x
    rw [listFn_get _ i _ h2]
    exact renV_vr hτ _ _ hx
  | fn d => exact ⟨.fn d, rfl, fun i hi x hx => VR.anywhere _ _ (hp i hi) hx⟩

theorem MR.ren {τ : Nat → Nat} {ρ ρ' : Ren} (hτ : ∀ j g, ρ j = some g → ρ' (τ j) = some g) : ∀ {l : List (AV × AV)} {es : List MapEntry}, MR ρ l es → MR ρ' (l.map fun p => (renV τ p.1, renV τ p.2)) es
  | [], _, h => h
  | (_, _) :: _, _, h => by
    obtain ⟨e, es', he, h1, h2, h3⟩ := h
    exact ⟨e, es', he, renV_vr hτ _ _ h1, renV_vr hτ _ _ h2, MR.ren hτ h3⟩

theorem renBk_br {τ : Nat → Nat} {ρ ρ' : Ren} (hτ : ∀ j g, ρ j = some g → ρ' (τ j) = some g) {g : Pl} {B : ABlk} {w : World} (hp : plainB B) (h : BR ρ g B w) : BR ρ' g (renBk τ B) w := by
  cases B with
  | dead => trivial
  | cells c =>
    obtain ⟨sto, he, hget⟩ := renBk_cells hτ c hp
    rw [he]
    unfold BR at *
    simp only at *
    cases hro : c.ro <;> simp only [hro] at *
    · obtain ⟨cur, h1, h2, h3⟩ := h
      refine ⟨cur, h1, h2, fun i hi => ?_⟩
      obtain ⟨v, hv, hr⟩ := h3 i hi
      exact ⟨v, hv, hget i hi v hr⟩
    · intro i hi
      obtain ⟨v, hv, hr⟩ := h i hi
      exact ⟨v, hv, hget i hi v hr⟩
  | map es =>
    obtain ⟨ces, clock, h1, h2⟩ := h
    exact ⟨ces, clock, h1, h2.ren hτ⟩

theorem renBk_rw (τ : Nat → Nat) (B : ABlk) : (renBk τ B).rw = B.rw := by
  cases B with
  | dead => rfl
  | map es => rfl
  | cells c =>
    obtain ⟨sto, n, e, z, ro⟩ := c
    cases sto <;> rfl

/-! ## A call in a small heap -/
structure Small (C : Ctx) (g : Nat) (args : List AV) (h0 : AH) (v : AV) (h1 : AH) : Prop where
  enter : ∀ (xs : Array Value) (w : World), (callFunc g xs).run C.P w = .ok (.enter g xs) w
  calls : ∀ (ρ : Ren) (w : World) (vs : List Value), GlobR C.gs ρ → HR ρ h0 w → VRs ρ args vs →
    Calls C.P g vs.toArray w fun e w' => ∃ u ρ', e = .returned u ∧ VR ρ' v u ∧ HR ρ' h1 w' ∧ Fk h0.next ρ h0 w ρ' h1 w'
  next : h0.next ≤ h1.next
  news : ∀ j, h0.next ≤ j → j < h1.next → (h1.get j).rw = true
  plain : ∀ j, plainB (h1.get j)

def idAt (sg : List Nat) (m nx : Nat) (j : Nat) : Nat := match nth sg j with
  | some b => b
  | none => nx + (j - m)

/-- Blocks in the places of others: the ones that were there and may be written, then the new ones. -/
def putB (h0 h1 : AH) (τ : Nat → Nat) : List Nat → Nat → AH → AH
  | [], _, h => h
  | b :: bs, i, h => putB h0 h1 τ bs (i + 1) (match (h0.get i).rw with
    | true => h.put b (renBk τ (h1.get i))
    | false => h)

def pushB (h1 : AH) (τ : Nat → Nat) : Nat → Nat → AH → AH
  | 0, _, h => h
  | k + 1, j, h => pushB h1 τ k (j + 1) (h.push (renBk τ (h1.get j)))

def liftH (h0 h1 : AH) (sg : List Nat) (h : AH) : AH :=
  pushB h1 (idAt sg h0.next h.next) (h1.next - h0.next) h0.next (putB h0 h1 (idAt sg h0.next h.next) sg 0 h)

theorem putB_next (h0 h1 : AH) (τ : Nat → Nat) : ∀ (bs : List Nat) (i : Nat) (h : AH), (putB h0 h1 τ bs i h).next = h.next
  | [], _, _ => rfl
  | b :: bs, i, h => by
    simp only [putB]
    rw [putB_next h0 h1 τ bs]
    split <;> rfl

theorem putB_other (h0 h1 : AH) (τ : Nat → Nat) : ∀ (bs : List Nat) (i : Nat) (h : AH) (c : Nat), (∀ j b, nth bs j = some b → b = c → (h0.get (i + j)).rw = false) → (putB h0 h1 τ bs i h).get c = h.get c
  | [], _, _, _, _ => rfl
  | b :: bs, i, h, c, hn => by
    simp only [putB]
    rw [putB_other h0 h1 τ bs (i + 1) _ c fun j b' hj he => by
      have := hn (j + 1) b' (by simpa [nth] using hj) he
      rwa [show i + (j + 1) = i + 1 + j by omega] at this]
    split
    · rename_i hrw
      rw [AH.get_put, if_neg]
      intro e
      have := hn 0 b rfl e.symm
      rw [Nat.add_zero] at this
      rw [this] at hrw; cases hrw
    · rfl

theorem putB_at (h0 h1 : AH) (τ : Nat → Nat) : ∀ (bs : List Nat) (i : Nat) (h : AH), (∀ j k b, nth bs j = some b → nth bs k = some b → j = k) → ∀ (j c : Nat), nth bs j = some c → (h0.get (i + j)).rw = true →
    (putB h0 h1 τ bs i h).get c = renBk τ (h1.get (i + j))
  | [], _, _, _, _, _, hj, _ => by simp [nth] at hj
  | b :: bs, i, h, hd, j, c, hj, hrw => by
    have hd' : ∀ j k b, nth bs j = some b → nth bs k = some b → j = k := fun j k x h1 h2 => by
      have := hd (j + 1) (k + 1) x (by simpa [nth] using h1) (by simpa [nth] using h2)
      omega
    simp only [putB]
    cases j with
    | zero =>
      have hbc : b = c := by simpa [nth] using hj
      subst hbc
      rw [putB_other]
      · rw [Nat.add_zero] at hrw
        rw [hrw]
        simp only [AH.get_put, if_true, Nat.add_zero]
      · intro k b' hk he
        subst he
        have := hd (k + 1) 0 b' (by simpa [nth] using hk) rfl
        omega
    | succ j =>
      have := putB_at h0 h1 τ bs (i + 1) (match (h0.get i).rw with | true => h.put b (renBk τ (h1.get i)) | false => h) hd' j c (by simpa [nth] using hj) (by rwa [show i + 1 + j = i + (j + 1) by omega])
      rw [this, show i + 1 + j = i + (j + 1) by omega]

theorem pushB_next (h1 : AH) (τ : Nat → Nat) : ∀ (k j : Nat) (h : AH), (pushB h1 τ k j h).next = h.next + k
  | 0, _, _ => rfl
  | k + 1, j, h => by
    simp only [pushB]
    rw [pushB_next h1 τ k]
    simp only [AH.push]; omega

theorem pushB_old (h1 : AH) (τ : Nat → Nat) : ∀ (k j : Nat) (h : AH) (c : Nat), c < h.next → (pushB h1 τ k j h).get c = h.get c
  | 0, _, _, _, _ => rfl
  | k + 1, j, h, c, hc => by
    simp only [pushB]
    rw [pushB_old h1 τ k _ _ c (by simp only [AH.push]; omega), AH.get_push, if_neg (by omega)]

theorem pushB_new (h1 : AH) (τ : Nat → Nat) : ∀ (k j : Nat) (h : AH) (i : Nat), i < k → (pushB h1 τ k j h).get (h.next + i) = renBk τ (h1.get (j + i))
  | 0, _, _, _, hi => by omega
  | k + 1, j, h, i, hi => by
    simp only [pushB]
    cases i with
    | zero =>
      rw [pushB_old h1 τ k _ _ _ (by simp only [AH.push]; omega), AH.get_push, if_pos (Nat.add_zero _)]; rfl
    | succ i =>
      have := pushB_new h1 τ k (j + 1) (h.push (renBk τ (h1.get j))) i (by omega)
      rw [show h.next + (i + 1) = (h.push (renBk τ (h1.get j))).next + i by simp only [AH.push]; omega, this, show j + 1 + i = j + (i + 1) by omega]

/-- How a small heap lies in a great one. -/
structure Lies (C : Ctx) (h h0 : AH) (sg : List Nat) : Prop where
  len : sg.length = h0.next
  lt : ∀ j b, nth sg j = some b → b < h.next
  inj : ∀ j k b, nth sg j = some b → nth sg k = some b → j = k
  blk : ∀ j b, nth sg j = some b → CBk (nth sg) (h0.get j) (h.get b)
  glob : ∀ g b, C.gs g = some b → nth sg b = some b
  wf : WF h0

theorem nth_none {α : Type} {l : List α} {j : Nat} (h : l.length ≤ j) : nth l j = none := by
  rw [nth_eq]; exact List.getElem?_eq_none h

theorem nth_lt {α : Type} {l : List α} {j : Nat} {x : α} (h : nth l j = some x) : j < l.length := by
  rw [nth_eq] at h; exact (List.getElem?_eq_some_iff.1 h).1

theorem nth_some {α : Type} {l : List α} {j : Nat} (h : j < l.length) : ∃ x, nth l j = some x := ⟨l[j], by rw [nth_eq]; exact List.getElem?_eq_getElem h⟩

theorem Lies.cov {C : Ctx} {h h0 : AH} {sg : List Nat} (hl : Lies C h h0 sg) : CovH 0 h h0 (nth sg) :=
  ⟨fun b hb => by omega, hl.inj, fun b hb => nth_none (by rw [hl.len]; exact hb), hl.blk, hl.wf, Nat.zero_le _⟩

theorem Small.lift {C : Ctx} {g : Nat} {args0 args : List AV} {h0 h1 h : AH} {v : AV} (hs : Small C g args0 h0 v h1) {sg : List Nat} (hl : Lies C h h0 sg) (ha : CVs (nth sg) args0 args)
    {ρ : Ren} {w : World} {vs : List Value} (hg : GlobR C.gs ρ) (hr : HR ρ h w) (hv : VRs ρ args vs) :
    Calls C.P g vs.toArray w fun e w' => ∃ u ρ', e = .returned u ∧ VR ρ' (renV (idAt sg h0.next h.next) v) u ∧ HR ρ' (liftH h0 h1 sg h) w' ∧ Fr h.next ρ h w ρ' (liftH h0 h1 sg h) w' := by
  have hcov := hl.cov
  refine (hs.calls (under (nth sg) ρ) w vs (fun g' b hb => by rw [under_of (hl.glob g' b hb)]; exact hg g' b hb) (hcov.hr hr) (CVs.vr _ _ _ ha hv)).mono fun e w' hew => ?_
  obtain ⟨u, ρ1, he, hu, hr1, hf⟩ := hew
  -- the renaming of what is now
  let τ := idAt sg h0.next h.next
  let ρ' : Ren := fun b => if b < h.next then ρ b else ρ1 (h0.next + (b - h.next))
  have τlow : ∀ j b, nth sg j = some b → τ j = b := fun j b hj => by simp only [τ, idAt, hj]
  have τhigh : ∀ j, h0.next ≤ j → τ j = h.next + (j - h0.next) := fun j hj => by simp only [τ, idAt, nth_none (show sg.length ≤ j by rw [hl.len]; exact hj)]
  have ρlow : ∀ b, b < h.next → ρ' b = ρ b := fun b hb => by simp only [ρ', hb, if_true]
  have ρhigh : ∀ k, ρ' (h.next + k) = ρ1 (h0.next + k) := fun k => by
    simp only [ρ']
    rw [if_neg (by omega), show h.next + k - h.next = k by omega]
  have ρ1low : ∀ j b, nth sg j = some b → ρ1 j = ρ b := fun j b hj => by
    rw [hf.old j (by have := nth_lt hj; rw [hl.len] at this; exact this), under_of hj]
  have hτ : ∀ j g, ρ1 j = some g → ρ' (τ j) = some g := by
    intro j g hj
    cases Nat.lt_or_ge j h0.next with
    | inl hlt =>
      obtain ⟨b, hb⟩ := nth_some (l := sg) (j := j) (by rw [hl.len]; exact hlt)
      rw [τlow j b hb, ρlow b (hl.lt j b hb), ← ρ1low j b hb]; exact hj
    | inr hge =>
      rw [τhigh j hge, ρhigh, show h0.next + (j - h0.next) = j by omega]; exact hj
  -- the heap that is now
  have hPn : (putB h0 h1 τ sg 0 h).next = h.next := putB_next _ _ _ _ _ _
  have hnext : (liftH h0 h1 sg h).next = h.next + (h1.next - h0.next) := by
    show (pushB h1 τ _ _ (putB h0 h1 τ sg 0 h)).next = _
    rw [pushB_next, hPn]
  have getLow : ∀ b, b < h.next → (liftH h0 h1 sg h).get b = (putB h0 h1 τ sg 0 h).get b := fun b hb => by
    show (pushB h1 τ _ _ (putB h0 h1 τ sg 0 h)).get b = _
    rw [pushB_old]
    rw [hPn]; exact hb
  have getHigh : ∀ k, k < h1.next - h0.next → (liftH h0 h1 sg h).get (h.next + k) = renBk τ (h1.get (h0.next + k)) := fun k hk => by
    show (pushB h1 τ _ _ (putB h0 h1 τ sg 0 h)).get _ = _
    have := pushB_new h1 τ (h1.next - h0.next) h0.next (putB h0 h1 τ sg 0 h) k hk
    rw [hPn] at this; exact this
  have getRw : ∀ j b, nth sg j = some b → (h0.get j).rw = true → (liftH h0 h1 sg h).get b = renBk τ (h1.get j) := fun j b hj hrw => by
    rw [getLow b (hl.lt j b hj)]
    have := putB_at h0 h1 τ sg 0 h hl.inj j b hj (by rw [Nat.zero_add]; exact hrw)
    rw [Nat.zero_add] at this; exact this
  have getKeep : ∀ b, b < h.next → (∀ j, nth sg j = some b → (h0.get j).rw = false) → (liftH h0 h1 sg h).get b = h.get b := fun b hb hno => by
    rw [getLow b hb]
    exact putB_other h0 h1 τ sg 0 h b fun j b' hj hbe => by subst hbe; rw [Nat.zero_add]; exact hno j hj
  -- a block that no written one lies in is as it was
  have still : ∀ b gb, ρ b = some gb → h.get b ≠ .dead → (∀ j, nth sg j = some b → (h0.get j).rw = false) → w'.heap[gb.blk]? = w.heap[gb.blk]? := by
    intro b gb hb hlive hno
    refine hf.keep _ (hr.lt b gb hb) fun j gj hj hje => ?_
    obtain ⟨c, hc, hcg⟩ := under_some hj
    by_cases hbc : c = b
    · subst hbc; exact hno j hc
    · rcases hr.inj c b gj gb hcg hb hje hbc with hdd | hdd | ⟨h2, _⟩
      · have := hl.blk j c hc
        rw [hdd] at this
        rw [CBk.dead this]; rfl
      · exact absurd hdd hlive
      · exact (hl.blk j c hc).rw h2
  have hextρ : Ext ρ ρ' := fun b gb hb => by
    rw [ρlow b]
    · exact hb
    · cases Nat.lt_or_ge b h.next with
      | inl hlt => exact hlt
      | inr hge => rw [hr.fresh b hge] at hb; cases hb
  -- which block a name names
  have named : ∀ b gb, ρ' b = some gb → (∃ j, nth sg j = some b ∧ (h0.get j).rw = true ∧ ρ b = some gb ∧ b < h.next) ∨ (b < h.next ∧ ρ b = some gb ∧ ∀ j, nth sg j = some b → (h0.get j).rw = false) ∨
      ∃ k, b = h.next + k ∧ k < h1.next - h0.next ∧ ρ1 (h0.next + k) = some gb := by
    intro b gb hb
    cases Nat.lt_or_ge b h.next with
    | inl hlt =>
      rw [ρlow b hlt] at hb
      by_cases hex : ∃ j, nth sg j = some b ∧ (h0.get j).rw = true
      · obtain ⟨j, h1', h2'⟩ := hex
        exact .inl ⟨j, h1', h2', hb, hlt⟩
      · refine .inr (.inl ⟨hlt, hb, fun j hj => ?_⟩)
        cases hrw : (h0.get j).rw with
        | false => rfl
        | true => exact absurd ⟨j, hj, hrw⟩ hex
    | inr hge =>
      obtain ⟨k, rfl⟩ : ∃ k, b = h.next + k := ⟨b - h.next, by omega⟩
      rw [ρhigh] at hb
      refine .inr (.inr ⟨k, rfl, ?_, hb⟩)
      cases Nat.lt_or_ge (h0.next + k) h1.next with
      | inl hlt => omega
      | inr hge' => rw [hr1.fresh _ hge'] at hb; cases hb
  -- where a block that is written in the small heap lies, no other one lies
  have alone : ∀ j gj, ρ1 j = some gj → (h1.get j).rw = true → ∀ b gb, ρ b = some gb → gb.blk = gj.blk → (∀ i, nth sg i = some b → (h0.get i).rw = false) → h.get b = .dead := by
    intro j gj hj hrw b gb hb hbe hno
    rcases hf.img j gj hj hrw with ⟨i, gi, hi, hirw, hie⟩ | hge
    · obtain ⟨c, hc, hcg⟩ := under_some hi
      have hcb : c ≠ b := fun e => by subst e; rw [hno i hc] at hirw; cases hirw
      rcases hr.inj c b gi gb hcg hb (hie.trans hbe.symm) hcb with hdd | hdd | ⟨h2, _⟩
      · have := hl.blk i c hc
        rw [hdd] at this
        rw [CBk.dead this] at hirw; cases hirw
      · exact hdd
      · rw [(hl.blk i c hc).rw h2] at hirw; cases hirw
    · have := hr.lt b gb hb; omega
  have smallOf : ∀ j b gb, nth sg j = some b → ρ b = some gb → ρ1 j = some gb := fun j b gb hj hb => by rw [ρ1low j b hj]; exact hb
  have hHR : HR ρ' (liftH h0 h1 sg h) w' := by
    refine ⟨fun b gb hb => ?_, fun b b' gb gb' hb hb' hbe hne => ?_, fun b hb => ?_, fun b gb hb => ?_⟩
    · rcases named b gb hb with ⟨j, hj, hrw, hρ, hlt⟩ | ⟨hlt, hρ, hno⟩ | ⟨k, rfl, hk, hρ⟩
      · rw [getRw j b hj hrw]
        exact renBk_br hτ (hs.plain j) (hr1.blk j gb (smallOf j b gb hj hρ))
      · rw [getKeep b hlt hno]
        by_cases hd : h.get b = .dead
        · rw [hd]; trivial
        · exact ((hr.blk b gb hρ).mono hextρ).same (still b gb hρ hd hno)
      · rw [getHigh k hk]
        exact renBk_br hτ (hs.plain _) (hr1.blk _ gb hρ)
    · -- two names of one place
      have mixed : ∀ j gj, ρ1 j = some gj → ((∃ i, nth sg j = some i ∧ (h0.get j).rw = true) ∨ (h1.get j).rw = true) → ∀ b gb, ρ b = some gb → b < h.next → gb.blk = gj.blk → (∀ i, nth sg i = some b → (h0.get i).rw = false) →
          h.get b = .dead ∨ renBk τ (h1.get j) = .dead ∨ ((h.get b).rw = false ∧ (renBk τ (h1.get j)).rw = false) := by
        intro j gj hj hor b gb hb hlt hbe hno
        cases hrw : (h1.get j).rw with
        | true => exact .inl (alone j gj hj hrw b gb hb hbe hno)
        | false =>
          rcases hor with ⟨i, hi, hirw⟩ | hrw'
          · have hib : i ≠ b := fun e => by subst e; rw [hno j hi] at hirw; cases hirw
            have hig : ρ i = some gj := by rw [← ρ1low j i hi]; exact hj
            rcases hr.inj i b gj gb hig hb hbe.symm hib with hdd | hdd | ⟨h2, _⟩
            · have := hl.blk j i hi
              rw [hdd] at this
              rw [CBk.dead this] at hirw; cases hirw
            · exact .inl hdd
            · rw [(hl.blk j i hi).rw h2] at hirw; cases hirw
          · rw [hrw] at hrw'; cases hrw'
      have both : ∀ j j' gj gj', ρ1 j = some gj → ρ1 j' = some gj' → gj.blk = gj'.blk → j ≠ j' → Sep (renBk τ (h1.get j)) (renBk τ (h1.get j')) := by
        intro j j' gj gj' hj hj' hje hne
        rcases hr1.inj j j' gj gj' hj hj' hje hne with h | h | ⟨h, h'⟩
        · exact .inl (by rw [h]; rfl)
        · exact .inr (.inl (by rw [h]; rfl))
        · exact .inr (.inr ⟨by rw [renBk_rw]; exact h, by rw [renBk_rw]; exact h'⟩)
      rcases named b gb hb with ⟨j, hj, hrw, hρ, hlt⟩ | ⟨hlt, hρ, hno⟩ | ⟨k, rfl, hk, hρ⟩ <;> rcases named b' gb' hb' with ⟨j', hj', hrw', hρ', hlt'⟩ | ⟨hlt', hρ', hno'⟩ | ⟨k', rfl, hk', hρ'⟩
      · rw [getRw j b hj hrw, getRw j' b' hj' hrw']
        exact both j j' gb gb' (smallOf j b gb hj hρ) (smallOf j' b' gb' hj' hρ') hbe fun e => hne (by subst e; rw [hj] at hj'; exact Option.some.inj hj')
      · rw [getRw j b hj hrw, getKeep b' hlt' hno']
        rcases mixed j gb (smallOf j b gb hj hρ) (.inl ⟨b, hj, hrw⟩) b' gb' hρ' hlt' hbe.symm hno' with h | h | ⟨h, h'⟩
        · exact .inr (.inl h)
        · exact .inl h
        · exact .inr (.inr ⟨h', h⟩)
      · rw [getRw j b hj hrw, getHigh k' hk']
        refine both j (h0.next + k') gb gb' (smallOf j b gb hj hρ) hρ' hbe fun e => ?_
        have := nth_lt hj; rw [hl.len] at this; omega
      · rw [getKeep b hlt hno, getRw j' b' hj' hrw']
        rcases mixed j' gb' (smallOf j' b' gb' hj' hρ') (.inl ⟨b', hj', hrw'⟩) b gb hρ hlt hbe hno with h | h | ⟨h, h'⟩
        · exact .inl h
        · exact .inr (.inl h)
        · exact .inr (.inr ⟨h, h'⟩)
      · rw [getKeep b hlt hno, getKeep b' hlt' hno']
        exact hr.inj b b' gb gb' hρ hρ' hbe hne
      · rw [getKeep b hlt hno, getHigh k' hk']
        rcases mixed (h0.next + k') gb' hρ' (.inr (hs.news _ (by omega) (by omega))) b gb hρ hlt hbe hno with h | h | ⟨h, h'⟩
        · exact .inl h
        · exact .inr (.inl h)
        · exact .inr (.inr ⟨h, h'⟩)
      · rw [getHigh k hk, getRw j' b' hj' hrw']
        refine both (h0.next + k) j' gb gb' hρ (smallOf j' b' gb' hj' hρ') hbe fun e => ?_
        have := nth_lt hj'; rw [hl.len] at this; omega
      · rw [getHigh k hk, getKeep b' hlt' hno']
        rcases mixed (h0.next + k) gb hρ (.inr (hs.news _ (by omega) (by omega))) b' gb' hρ' hlt' hbe.symm hno' with h | h | ⟨h, h'⟩
        · exact .inr (.inl h)
        · exact .inl h
        · exact .inr (.inr ⟨h', h⟩)
      · rw [getHigh k hk, getHigh k' hk']
        exact both _ _ gb gb' hρ hρ' hbe fun e => hne (by omega)
    · rw [hnext] at hb
      obtain ⟨k, rfl⟩ : ∃ k, b = h.next + k := ⟨b - h.next, by omega⟩
      rw [ρhigh]
      exact hr1.fresh _ (by omega)
    · rcases named b gb hb with ⟨j, hj, hrw, hρ, hlt⟩ | ⟨hlt, hρ, hno⟩ | ⟨k, rfl, hk, hρ⟩
      · exact Nat.lt_of_lt_of_le (hr.lt b gb hρ) hf.size
      · exact Nat.lt_of_lt_of_le (hr.lt b gb hρ) hf.size
      · exact hr1.lt _ gb hρ
  refine ⟨u, ρ', he, renV_vr hτ v u hu, hHR, hf.os, hf.tape, hf.output, hf.size, fun c hc hno => hf.keep c hc fun j gj hj hje => ?_, fun b gb hb hrw => ?_, fun b hb => ρlow b hb, by rw [hnext]; omega, hextρ⟩
  · obtain ⟨d, hd, hdg⟩ := under_some hj
    exact (hl.blk j d hd).rw (hno d gj hdg hje)
  · have imgs : ∀ j, ρ1 j = some gb → (h1.get j).rw = true → (∃ b0 g0, ρ b0 = some g0 ∧ (h.get b0).rw = true ∧ g0.blk = gb.blk) ∨ w.heap.size ≤ gb.blk := by
      intro j hj hjrw
      rcases hf.img j gb hj hjrw with ⟨i, gi, hi, hirw, hie⟩ | hge
      · obtain ⟨c, hc, hcg⟩ := under_some hi
        refine .inl ⟨c, gi, hcg, ?_, hie⟩
        cases hx : (h.get c).rw with
        | true => rfl
        | false => rw [(hl.blk i c hc).rw hx] at hirw; cases hirw
      · exact .inr hge
    rcases named b gb hb with ⟨j, hj, hjrw, hρ, hlt⟩ | ⟨hlt, hρ, hno⟩ | ⟨k, rfl, hk, hρ⟩
    · rw [getRw j b hj hjrw, renBk_rw] at hrw
      exact imgs j (smallOf j b gb hj hρ) hrw
    · rw [getKeep b hlt hno] at hrw
      exact .inl ⟨b, gb, hρ, hrw, rfl⟩
    · rw [getHigh k hk, renBk_rw] at hrw
      exact imgs _ hρ hrw

end Go.Abs

/-! Canonical heaps; contracts from runs; contracts as oracles. -/
namespace Go.Abs
open Go

/-! ## Heaps from lists of blocks -/
def pushL : List ABlk → AH → AH
  | [], h => h
  | b :: bs, h => pushL bs (h.push b)

def hOf (bs : List ABlk) : AH := pushL bs ⟨.lf, 0⟩

theorem pushL_next : ∀ (bs : List ABlk) (h : AH), (pushL bs h).next = h.next + bs.length
  | [], _ => rfl
  | b :: bs, h => by
    simp only [pushL]
    rw [pushL_next bs]
    simp only [AH.push, List.length_cons]; omega

theorem pushL_get : ∀ (bs : List ABlk) (h : AH) (j : Nat), (pushL bs h).get j = if h.next ≤ j then (match nth bs (j - h.next) with | some b => b | none => h.get j) else h.get j
  | [], h, j => by simp [pushL, nth]
  | b :: bs, h, j => by
    simp only [pushL]
    rw [pushL_get bs, show (h.push b).next = h.next + 1 from rfl]
    by_cases h1 : h.next + 1 ≤ j
    · rw [if_pos h1, if_pos (by omega)]
      obtain ⟨k, hk⟩ : ∃ k, j - h.next = k + 1 := ⟨j - h.next - 1, by omega⟩
      rw [hk, show j - (h.next + 1) = k by omega]
      simp only [nth]
      cases nth bs k with
      | some x => rfl
      | none =>
        exact (AH.get_push h j b).trans (if_neg (by omega))
    · rw [if_neg h1]
      rw [AH.get_push]
      by_cases h2 : j = h.next
      · subst h2
        rw [if_pos rfl, if_pos (Nat.le_refl _), Nat.sub_self]; rfl
      · rw [if_neg h2, if_neg (by omega)]

theorem hOf_get (bs : List ABlk) (j : Nat) : (hOf bs).get j = (match nth bs j with | some b => b | none => .dead) := by
  unfold hOf
  rw [pushL_get, if_pos (Nat.zero_le _)]
  cases nth bs j <;> rfl

theorem hOf_next (bs : List ABlk) : (hOf bs).next = bs.length := by
  unfold hOf; rw [pushL_next]; simp

theorem hOf_wf (bs : List ABlk) : WF (hOf bs) := fun b hb => by
  rw [hOf_get, nth_none]
  rw [hOf_next] at hb; exact hb

/-! ## Numbers anew -/
def posOf : List Nat → Nat → Option Nat
  | [], _ => none
  | x :: xs, b => match Nat.beq x b with
    | true => some 0
    | false => match posOf xs b with
      | some j => some (j + 1)
      | none => none

theorem posOf_nth : ∀ {ids : List Nat} {b j : Nat}, posOf ids b = some j → nth ids j = some b
  | [], _, _, h => by simp [posOf] at h
  | x :: xs, b, j, h => by
    simp only [posOf] at h
    split at h
    · rename_i hb
      injection h with h; subst h
      rw [Nat.eq_of_beq_eq_true hb]; rfl
    · split at h
      · rename_i k hk
        injection h with h; subst h
        show nth xs k = some b
        exact posOf_nth hk
      · cases h

mutual
def renJ (inv : Nat → Option Nat) : AV → AV
  | .ptr b off => match inv b with
    | some j => .ptr j off
    | none => .junk
  | .sl b off len cap ex => match inv b with
    | some j => .sl j off len cap ex
    | none => .junk
  | .mp b => match inv b with
    | some j => .mp j
    | none => .junk
  | .fn f xs ys => .fn f (renJs inv xs) (renJs inv ys)
  | .agg xs => .agg (renJs inv xs)
  | .tup xs => .tup (renJs inv xs)
  | .bool b => .bool b
  | .int k n => .int k n
  | .nilp => .nilp
  | .sl0 => .sl0
  | .nilm => .nilm
  | .nilf => .nilf
  | .str x => .str x
  | .junk => .junk
def renJs (inv : Nat → Option Nat) : List AV → List AV
  | [] => []
  | v :: vs => renJ inv v :: renJs inv vs
end

mutual
theorem renJ_cv {inv sel : Nat → Option Nat} (hi : ∀ b j, inv b = some j → sel j = some b) : ∀ v : AV, CV sel (renJ inv v) v
  | .ptr b off => by
    unfold renJ
    split
    · rename_i j hj; exact ⟨b, hi b j hj, rfl⟩
    · trivial
  | .sl b off len cap ex => by
    unfold renJ
    split
    · rename_i j hj; exact ⟨b, hi b j hj, rfl⟩
    · trivial
  | .mp b => by
    unfold renJ
    split
    · rename_i j hj; exact ⟨b, hi b j hj, rfl⟩
    · trivial
  | .fn f xs ys => ⟨xs, ys, rfl, renJs_cv hi xs, renJs_cv hi ys⟩
  | .agg xs => ⟨xs, rfl, renJs_cv hi xs⟩
  | .tup xs => ⟨xs, rfl, renJs_cv hi xs⟩
  | .bool _ => rfl
  | .int _ _ => rfl
  | .nilp => rfl
  | .sl0 => rfl
  | .nilm => rfl
  | .nilf => rfl
  | .str _ => rfl
  | .junk => trivial
theorem renJs_cv {inv sel : Nat → Option Nat} (hi : ∀ b j, inv b = some j → sel j = some b) : ∀ vs : List AV, CVs sel (renJs inv vs) vs
  | [] => rfl
  | v :: vs => ⟨v, vs, rfl, renJ_cv hi v, renJs_cv hi vs⟩
end

theorem CVs.get {sel : Nat → Option Nat} : ∀ {vs us : List AV}, CVs sel vs us → ∀ (i : Nat) (v : AV), vs[i]? = some v → ∃ u, us[i]? = some u ∧ CV sel v u
  | [], _, _, i, v, h => by simp at h
  | x :: xs, _, ⟨u, us, rfl, h1, h2⟩, i, v, h => by
    cases i with
    | zero => simp only [List.getElem?_cons_zero, Option.some.injEq] at h; subst h; exact ⟨u, rfl, h1⟩
    | succ i => exact CVs.get h2 i v (by simpa using h)

theorem renJs_length (inv : Nat → Option Nat) : ∀ vs : List AV, (renJs inv vs).length = vs.length
  | [] => rfl
  | _ :: vs => by simp [renJs, renJs_length inv vs]

def obj (e z : Nat) (l : List AV) : ABlk := blkOf l e z

def renM (inv : Nat → Option Nat) : List (AV × AV) → List (AV × AV)
  | [] => []
  | p :: ps => (renJ inv p.1, renJ inv p.2) :: renM inv ps

theorem renM_cm {inv sel : Nat → Option Nat} (hi : ∀ b j, inv b = some j → sel j = some b) : ∀ l : List (AV × AV), CMs sel (renM inv l) l
  | [] => rfl
  | p :: ps => ⟨p, ps, rfl, renJ_cv hi _, renJ_cv hi _, renM_cm hi ps⟩

mutual
theorem CV.closed {sel : Nat → Option Nat} : ∀ v : AV, v.closed = true → CV sel v v
  | .ptr _ _, h => by simp [AV.closed] at h
  | .sl .., h => by simp [AV.closed] at h
  | .mp _, h => by simp [AV.closed] at h
  | .fn _ xs ys, h => by
    simp only [AV.closed, Bool.and_eq_true] at h
    exact ⟨xs, ys, rfl, CVs.closed xs h.1, CVs.closed ys h.2⟩
  | .agg xs, h => by simp only [AV.closed] at h; exact ⟨xs, rfl, CVs.closed xs h⟩
  | .tup xs, h => by simp only [AV.closed] at h; exact ⟨xs, rfl, CVs.closed xs h⟩
  | .junk, _ => trivial
  | .bool _, _ => rfl
  | .int _ _, _ => rfl
  | .nilp, _ => rfl
  | .sl0, _ => rfl
  | .nilm, _ => rfl
  | .nilf, _ => rfl
  | .str _, _ => rfl
theorem CVs.closed {sel : Nat → Option Nat} : ∀ vs : List AV, AV.closeds vs = true → CVs sel vs vs
  | [], _ => rfl
  | v :: vs, h => by
    simp only [AV.closeds, Bool.and_eq_true] at h
    exact ⟨v, vs, rfl, CV.closed v h.1, CVs.closed vs h.2⟩
end

/-- Blocks that aren't looked into, by their elements' types: their cells are closed. -/
abbrev Opq := Nat → Bool
def noOpq : Opq := fun _ => false

/-- A block as it is seen: what isn't looked into is a function. -/
def asFn (oq : Opq) : ABlk → ABlk
  | .cells c => match c.sto with
    | .fn _ => .cells c
    | .tr t d => match oq c.elem with
      | true => .cells { sto := .fn (Sto.get (.tr t d)), n := c.n, elem := c.elem, esz := c.esz, ro := c.ro }
      | false => .cells c
  | B => B

def viewB (oq : Opq) (h : AH) (b : Nat) : ABlk := asFn oq (h.get b)

/-- A block with the new numbers; one that is a function stays as it is. -/
def snapC (inv : Nat → Option Nat) : ABlk → ABlk
  | .dead => .dead
  | .map es => .map (renM inv es)
  | .cells c => match c.sto with
    | .tr _ _ => .cells { sto := .tr .lf (listFn (renJs inv (readL c.sto 0 c.n))), n := c.n, elem := c.elem, esz := c.esz, ro := c.ro }
    | .fn _ => .cells c

def needs : ABlk → Prop → Prop
  | .cells c, p => match c.sto with
    | .tr _ _ => p
    | .fn d => (∀ i, i < c.n → (d i).closed = true) ∧ p
  | _, p => p

theorem needs_iff {B : ABlk} {p : Prop} (h : needs B p) : plainB B ∧ p := by
  cases B with
  | dead => exact ⟨trivial, h⟩
  | map es => exact ⟨trivial, h⟩
  | cells c =>
    unfold needs at h
    unfold plainB
    simp only at h ⊢
    cases hs : c.sto with
    | tr t d => rw [hs] at h; exact ⟨trivial, h⟩
    | fn d => rw [hs] at h; exact h

theorem snapC_cb {inv sel : Nat → Option Nat} (hi : ∀ b j, inv b = some j → sel j = some b) {B : ABlk} (hp : plainB B) : CBk sel (snapC inv B) B := by
  cases B with
  | dead => trivial
  | map es => exact renM_cm hi es
  | cells c =>
    unfold plainB at hp
    unfold snapC
    simp only at hp ⊢
    cases hs : c.sto with
    | tr t d =>
      refine ⟨rfl, rfl, rfl, rfl, fun i hi' => ?_⟩
      simp only at hi'
      have h1 := readL_get (.tr t d) c.n 0 i hi'
      rw [Nat.zero_add] at h1
      have h2 : (renJs inv (readL (.tr t d) 0 c.n))[i]? = some ((renJs inv (readL (.tr t d) 0 c.n))[i]'(by rw [renJs_length, readL_length]; exact hi')) := List.getElem?_eq_getElem _
      obtain ⟨u, hu, hcv⟩ := (renJs_cv hi (readL (.tr t d) 0 c.n)).get i _ h2
      rw [h1] at hu; injection hu with hu; subst hu
      simp only [Sto.get, Tr.get_lf]
      rw [listFn_get _ i _ h2, hs]
      exact hcv
    | fn d =>
      simp only [hs] at hp ⊢
      refine ⟨rfl, rfl, rfl, rfl, fun i hi' => ?_⟩
      simp only [hs, Sto.get]
      exact CV.closed _ (hp i hi')

theorem snapC_plain {inv : Nat → Option Nat} {B : ABlk} (hp : plainB B) : plainB (snapC inv B) := by
  cases B with
  | dead => trivial
  | map es => trivial
  | cells c =>
    unfold snapC
    simp only
    cases hs : c.sto with
    | tr t d => trivial
    | fn d => exact hp

theorem asFn_cb {sel : Nat → Option Nat} {oq : Opq} {B0 B : ABlk} (h : CBk sel B0 (asFn oq B)) : CBk sel B0 B := by
  cases B with
  | dead => exact h
  | map es => exact h
  | cells c =>
    unfold asFn at h
    simp only at h
    cases hs : c.sto with
    | fn d => rw [hs] at h; exact h
    | tr t d =>
      rw [hs] at h
      simp only at h
      cases ho : oq c.elem with
      | false => rw [ho] at h; exact h
      | true =>
        rw [ho] at h
        simp only at h
        cases B0 with
        | dead => trivial
        | map es => exact h.elim
        | cells c0 =>
          obtain ⟨h1, h2, h3, h4, h5⟩ := h
          refine ⟨h1, h2, h3, h4, fun i hi => ?_⟩
          have := h5 i hi
          simp only [Sto.get] at this
          rw [hs]; exact this

/-! ## What is reached -/
def addId (b : Nat) (acc : List Nat) : List Nat := match memT b acc with
  | true => acc
  | false => acc ++ [b]

mutual
def idsV : AV → List Nat → List Nat
  | .ptr b _, acc => addId b acc
  | .sl b _ _ _ _, acc => addId b acc
  | .mp b, acc => addId b acc
  | .fn _ xs ys, acc => idsVs ys (idsVs xs acc)
  | .agg xs, acc => idsVs xs acc
  | .tup xs, acc => idsVs xs acc
  | _, acc => acc
def idsVs : List AV → List Nat → List Nat
  | [], acc => acc
  | v :: vs, acc => idsVs vs (idsV v acc)
end

def idsM : List (AV × AV) → List Nat → List Nat
  | [], acc => acc
  | p :: ps, acc => idsM ps (idsV p.2 (idsV p.1 acc))

def idsB : ABlk → List Nat → List Nat
  | .dead, acc => acc
  | .map es, acc => idsM es acc
  | .cells c, acc => match c.sto with
    | .tr _ _ => idsVs (readL c.sto 0 c.n) acc
    | .fn _ => acc

def reach (oq : Opq) (h : AH) : Nat → Nat → List Nat → List Nat
  | 0, _, acc => acc
  | f + 1, i, acc => match nth acc i with
    | none => acc
    | some b => reach oq h f (i + 1) (idsB (viewB oq h b) acc)

def upTo : Nat → Nat → List Nat
  | 0, _ => []
  | n + 1, i => i :: upTo n (i + 1)

def sameB : Nat → List Nat → Bool
  | _, [] => true
  | i, x :: xs => Nat.beq x i && sameB (i + 1) xs

def distinct : List Nat → Bool
  | [] => true
  | x :: xs => !(memT x xs) && distinct xs

theorem distinct_spec : ∀ {l : List Nat}, distinct l = true → ∀ j k b, nth l j = some b → nth l k = some b → j = k
  | [], _, j, k, b, h, _ => by simp [nth] at h
  | x :: xs, hd, j, k, b, hj, hk => by
    simp only [distinct, Bool.and_eq_true, Bool.not_eq_true'] at hd
    have hm : ∀ i, nth xs i = some x → False := fun i hi => by
      rw [nth_eq] at hi
      have : x ∈ xs := List.mem_of_getElem? hi
      rw [memT_iff.2 this] at hd
      exact absurd hd.1 (by simp)
    cases j with
    | zero =>
      cases k with
      | zero => rfl
      | succ k =>
        have h1 : x = b := by simpa [nth] using hj
        subst h1
        exact (hm k (by simpa [nth] using hk)).elim
    | succ j =>
      cases k with
      | zero =>
        have h1 : x = b := by simpa [nth] using hk
        subst h1
        exact (hm j (by simpa [nth] using hj)).elim
      | succ k =>
        have := distinct_spec hd.2 j k b (by simpa [nth] using hj) (by simpa [nth] using hk)
        omega

theorem sameB_spec : ∀ {l : List Nat} {i : Nat}, sameB i l = true → ∀ j, j < l.length → nth l j = some (i + j)
  | [], _, _, j, hj => by simp at hj
  | x :: xs, i, h, j, hj => by
    simp only [sameB, Bool.and_eq_true] at h
    cases j with
    | zero => simp [nth, Nat.eq_of_beq_eq_true h.1]
    | succ j =>
      have := sameB_spec h.2 j (by simpa using hj)
      simp only [nth]
      rw [this]; congr 1; omega

def allRw : List ABlk → Bool
  | [] => true
  | b :: bs => b.rw && allRw bs

theorem allRw_spec : ∀ {l : List ABlk}, allRw l = true → ∀ j b, nth l j = some b → b.rw = true
  | [], _, j, b, h => by simp [nth] at h
  | x :: xs, h, j, b, hj => by
    simp only [allRw, Bool.and_eq_true] at h
    cases j with
    | zero =>
      have h1 : x = b := by simpa [nth] using hj
      rw [← h1]; exact h.1
    | succ j => exact allRw_spec h.2 j b (by simpa [nth] using hj)

def snapL (oq : Opq) (inv : Nat → Option Nat) (h : AH) : List Nat → List ABlk
  | [] => []
  | b :: bs => snapC inv (viewB oq h b) :: snapL oq inv h bs

theorem snapL_nth (oq : Opq) (inv : Nat → Option Nat) (h : AH) : ∀ (l : List Nat) (j : Nat), nth (snapL oq inv h l) j = (nth l j).map fun b => snapC inv (viewB oq h b)
  | [], j => by simp [snapL, nth]
  | b :: bs, j => by
    cases j with
    | zero => rfl
    | succ j => simp only [snapL, nth]; exact snapL_nth oq inv h bs j

theorem snapL_length (oq : Opq) (inv : Nat → Option Nat) (h : AH) : ∀ (l : List Nat), (snapL oq inv h l).length = l.length
  | [] => rfl
  | _ :: bs => by simp [snapL, snapL_length oq inv h bs]

def needAll (oq : Opq) (h : AH) : List Nat → Prop → Prop
  | [], p => p
  | b :: bs, p => needs (viewB oq h b) (needAll oq h bs p)

theorem needAll_iff {oq : Opq} {h : AH} : ∀ {l : List Nat} {p : Prop}, needAll oq h l p → (∀ j b, nth l j = some b → plainB (viewB oq h b)) ∧ p
  | [], p, hp => ⟨fun j b hj => by simp [nth] at hj, hp⟩
  | b :: bs, p, hp => by
    obtain ⟨h1, h2⟩ := needs_iff (show needs (viewB oq h b) (needAll oq h bs p) from hp)
    obtain ⟨h3, h4⟩ := needAll_iff h2
    refine ⟨fun j c hj => ?_, h4⟩
    cases j with
    | zero =>
      have : b = c := by simpa [nth] using hj
      rw [← this]; exact h1
    | succ j => exact h3 j c (by simpa [nth] using hj)

/-- What a run of a function comes to: the value and the blocks that are reached, numbered anew. -/
def fin (oq : Opq) (n : Nat) (v : AV) (h : AH) (K : AV → List ABlk → Prop) : Prop :=
  let ids := reach oq h 100 0 (idsV v (upTo n 0))
  match distinct ids && sameB 0 (ids.take n) && Nat.ble n ids.length && allRw ((snapL oq (posOf ids) h ids).drop n) with
  | true => needAll oq h ids (K (renJ (posOf ids) v) (snapL oq (posOf ids) h ids))
  | false => False

theorem nth_take {α : Type} : ∀ (l : List α) (n j : Nat), j < n → nth (l.take n) j = nth l j
  | [], n, j, _ => by simp [nth]
  | x :: xs, 0, j, h => by omega
  | x :: xs, n + 1, j, h => by
    cases j with
    | zero => rfl
    | succ j => simp only [List.take_succ_cons, nth]; exact nth_take xs n j (by omega)

theorem nth_drop {α : Type} : ∀ (l : List α) (n j : Nat), nth (l.drop n) j = nth l (n + j)
  | [], n, j => by simp [nth]
  | x :: xs, 0, j => by simp
  | x :: xs, n + 1, j => by
    rw [List.drop_succ_cons, nth_drop xs n j, show n + 1 + j = (n + j) + 1 by omega]; rfl

theorem plain_hOf {L : List ABlk} (h : ∀ j b, nth L j = some b → plainB b) (j : Nat) : plainB ((hOf L).get j) := by
  rw [hOf_get]
  cases hj : nth L j with
  | none => trivial
  | some b => exact h j b hj

theorem snapL_plain {oq : Opq} {inv : Nat → Option Nat} {h : AH} {l : List Nat} (hp : ∀ j b, nth l j = some b → plainB (viewB oq h b)) : ∀ j b, nth (snapL oq inv h l) j = some b → plainB b := by
  intro j b hj
  rw [snapL_nth] at hj
  cases hl : nth l j with
  | none => rw [hl] at hj; cases hj
  | some x =>
    rw [hl] at hj
    simp only [Option.map] at hj
    injection hj with hj
    rw [← hj]
    exact snapC_plain (hp j x hl)

theorem fin_spec {oq : Opq} {n : Nat} {v : AV} {h : AH} {K : AV → List ABlk → Prop} (hf : fin oq n v h K) :
    ∃ V L, K V L ∧ (∀ j, plainB ((hOf L).get j)) ∧ ∃ sel, CovH n h (hOf L) sel ∧ CV sel V v ∧ ∀ j, n ≤ j → j < (hOf L).next → ((hOf L).get j).rw = true := by
  unfold fin at hf
  simp only at hf
  split at hf
  · rename_i hb
    simp only [Bool.and_eq_true] at hb
    obtain ⟨⟨⟨h1, h2⟩, h3⟩, h4⟩ := hb
    generalize reach oq h 100 0 (idsV v (upTo n 0)) = ids at *
    have hlen := Nat.le_of_ble_eq_true h3
    have hi : ∀ b j, posOf ids b = some j → nth ids j = some b := fun b j => posOf_nth
    obtain ⟨h5, h6⟩ := needAll_iff hf
    refine ⟨_, _, h6, plain_hOf (snapL_plain h5), nth ids, ⟨fun b hb => ?_, fun b b' c hb hb' => distinct_spec h1 b b' c hb hb', fun b hb => ?_, fun b c hb => ?_, hOf_wf _, ?_⟩, renJ_cv hi v, fun j hj hlt => ?_⟩
    · have := sameB_spec h2 b (by rw [List.length_take]; omega)
      rw [nth_take _ _ _ hb, Nat.zero_add] at this; exact this
    · rw [hOf_next, snapL_length] at hb
      exact nth_none hb
    · rw [hOf_get, snapL_nth, hb]
      exact asFn_cb (snapC_cb hi (h5 b c hb))
    · rw [hOf_next, snapL_length]; exact hlen
    · rw [hOf_get]
      rw [hOf_next, snapL_length] at hlt
      obtain ⟨x, hx⟩ := nth_some (l := ids) (j := j) hlt
      rw [snapL_nth, hx]
      refine allRw_spec h4 (j - n) _ ?_
      rw [nth_drop, show n + (j - n) = j by omega, snapL_nth, hx]; rfl
  · exact hf.elim

/-- A contract from a run. -/
theorem Small.of_wcall {C : Ctx} (hfit : Fit C.P) (horc : CallOK C C.orc) {X : Rdr} (hX : X.ok C) {oq : Opq} {f g : Nat} {args : List AV} {bs : List ABlk} {V : AV} {L : List ABlk}
    (h : wcall C X f g args (hOf bs) fun r => fin oq bs.length r.v r.h fun v l => v = V ∧ l = L) : Small C g args (hOf bs) V (hOf L) := by
  obtain ⟨r, hr, hfin⟩ := (wdet hX f).2.2 g args _ _ h
  obtain ⟨v, l, ⟨rfl, rfl⟩, hpl, sel, hc, hcv, hnew⟩ := fin_spec hfin
  obtain ⟨h1, _, h3⟩ := acall_ok hfit horc f g args _ r hr
  refine ⟨h1, fun ρ w vs hg hh hvs => ?_, by rw [hOf_next]; exact hc.le, fun j hj => hnew j (by rw [hOf_next] at hj; exact hj), hpl⟩
  refine (h3 ρ w vs (hOf_wf bs) hg hh hvs).mono fun e w' hew => ?_
  obtain ⟨u, ρ', he, hu, hr', hf⟩ := hew
  refine ⟨u, under sel ρ', he, CV.vr _ _ _ hcv hu, hc.hr hr', ?_⟩
  have := hf.fk (n := bs.length) (by rw [hOf_next]; exact Nat.le_refl _)
  rw [hOf_next]
  exact hc.fk' this

/-! ## Contracts as oracles -/
/-- A block as a contract sees it. -/
inductive Raw where
  | dead
  | obj (elem esz n : Nat) (l : List AV) (ro : Bool)
  | fnc (d : Nat → AV) (elem esz n : Nat) (ro : Bool)
  | map (es : List (AV × AV))

def Raw.blk : Raw → ABlk
  | .dead => .dead
  | .obj e z n l ro => .cells { sto := .tr .lf (listFn l), n, elem := e, esz := z, ro }
  | .fnc d e z n ro => .cells { sto := .fn d, n, elem := e, esz := z, ro }
  | .map es => .map es

def snapRaw (inv : Nat → Option Nat) : ABlk → Raw
  | .dead => .dead
  | .map es => .map (renM inv es)
  | .cells c => match c.sto with
    | .tr _ _ => .obj c.elem c.esz c.n (renJs inv (readL c.sto 0 c.n)) c.ro
    | .fn d => .fnc d c.elem c.esz c.n c.ro

theorem snapRaw_blk (inv : Nat → Option Nat) (B : ABlk) : (snapRaw inv B).blk = snapC inv B := by
  cases B with
  | dead => rfl
  | map es => rfl
  | cells c =>
    obtain ⟨sto, n, e, z, ro⟩ := c
    cases sto <;> rfl

def Raw.plain : Raw → Prop
  | .fnc d _ _ n _ => ∀ i, i < n → (d i).closed = true
  | _ => True

def plainR : List Raw → Prop
  | [] => True
  | r :: rs => r.plain ∧ plainR rs

theorem snapRaw_plain {inv : Nat → Option Nat} {B : ABlk} (h : (snapRaw inv B).plain) : plainB B := by
  cases B with
  | dead => trivial
  | map es => trivial
  | cells c =>
    obtain ⟨sto, n, e, z, ro⟩ := c
    cases sto with
    | tr t d => trivial
    | fn d => exact h

/-- What a contract sees of a heap: the blocks that its arguments reach, numbered anew. -/
structure Seen where
  sg : List Nat
  args : List AV
  bs : List Raw

def blks : List Raw → List ABlk
  | [] => []
  | r :: rs => r.blk :: blks rs

def snapR (oq : Opq) (inv : Nat → Option Nat) (h : AH) : List Nat → List Raw
  | [] => []
  | b :: bs => snapRaw inv (viewB oq h b) :: snapR oq inv h bs

theorem snapR_nth (oq : Opq) (inv : Nat → Option Nat) (h : AH) : ∀ (l : List Nat) (j : Nat), nth (snapR oq inv h l) j = (nth l j).map fun b => snapRaw inv (viewB oq h b)
  | [], j => by simp [snapR, nth]
  | b :: bs, j => by
    cases j with
    | zero => rfl
    | succ j => simp only [snapR, nth]; exact snapR_nth oq inv h bs j

theorem snapR_length (oq : Opq) (inv : Nat → Option Nat) (h : AH) : ∀ (l : List Nat), (snapR oq inv h l).length = l.length
  | [] => rfl
  | _ :: bs => by simp [snapR, snapR_length oq inv h bs]

theorem blks_nth : ∀ (l : List Raw) (j : Nat), nth (blks l) j = (nth l j).map Raw.blk
  | [], j => by simp [blks, nth]
  | r :: rs, j => by
    cases j with
    | zero => rfl
    | succ j => simp only [blks, nth]; exact blks_nth rs j

theorem blks_length : ∀ (l : List Raw), (blks l).length = l.length
  | [] => rfl
  | _ :: rs => by simp [blks, blks_length rs]

theorem plainR_nth : ∀ {l : List Raw}, plainR l → ∀ j r, nth l j = some r → r.plain
  | [], _, j, r, h => by simp [nth] at h
  | x :: xs, hp, j, r, h => by
    cases j with
    | zero =>
      have : x = r := by simpa [nth] using h
      rw [← this]; exact hp.1
    | succ j => exact plainR_nth hp.2 j r (by simpa [nth] using h)

def allBelow (n : Nat) : List Nat → Bool
  | [] => true
  | x :: xs => Nat.blt x n && allBelow n xs

theorem allBelow_spec {n : Nat} : ∀ {l : List Nat}, allBelow n l = true → ∀ j b, nth l j = some b → b < n
  | [], _, j, b, h => by simp [nth] at h
  | x :: xs, h, j, b, hj => by
    simp only [allBelow, Bool.and_eq_true] at h
    cases j with
    | zero =>
      have h1 : x = b := by simpa [nth] using hj
      rw [← h1]; simpa [Nat.blt_eq] using h.1
    | succ j => exact allBelow_spec h.2 j b (by simpa [nth] using hj)

/-- The table's block: only where it is asked for. -/
def maskB (tab : Bool) (bs : List Raw) : List Raw := match tab, bs with
  | false, _ :: rs => .dead :: rs
  | _, bs => bs

theorem maskB_length (tab : Bool) (bs : List Raw) : (maskB tab bs).length = bs.length := by
  cases tab <;> cases bs <;> rfl

theorem maskB_nth (tab : Bool) (bs : List Raw) (j : Nat) : nth (maskB tab bs) j = nth bs j ∨ nth (maskB tab bs) j = some .dead := by
  cases tab with
  | true => exact .inl rfl
  | false =>
    cases bs with
    | nil => exact .inl rfl
    | cons r rs =>
      cases j with
      | zero => exact .inr rfl
      | succ j => exact .inl rfl

def see (oq : Opq) (tab : Bool) (args : List AV) (h : AH) : Option Seen :=
  let sg := reach oq h 100 0 (idsVs args [0])
  match distinct sg && allBelow h.next sg && sameB 0 (sg.take 1) && Nat.ble 1 sg.length with
  | true => some ⟨sg, renJs (posOf sg) args, maskB tab (snapR oq (posOf sg) h sg)⟩
  | false => none

/-- A block that stands for one that is seen: the same one, or other cells that are alike. -/
def stands (B : ABlk) : Raw → Prop
  | .fnc d e z n ro => ∃ d0, B = .cells { sto := .fn d0, n, elem := e, esz := z, ro } ∧ ∀ i, i < n → d0 i = d i
  | r => B = r.blk

def standsL : List ABlk → List Raw → Prop
  | [], [] => True
  | B :: Bs, r :: rs => stands B r ∧ standsL Bs rs
  | _, _ => False

theorem standsL_nth : ∀ {Bs : List ABlk} {rs : List Raw}, standsL Bs rs → ∀ j r, nth rs j = some r → ∃ B, nth Bs j = some B ∧ stands B r
  | [], [], _, j, r, h => by simp [nth] at h
  | B :: Bs, x :: rs, hs, j, r, h => by
    cases j with
    | zero =>
      have : x = r := by simpa [nth] using h
      exact ⟨B, rfl, this ▸ hs.1⟩
    | succ j => exact standsL_nth hs.2 j r (by simpa [nth] using h)
  | [], _ :: _, hs, _, _, _ => hs.elim
  | _ :: _, [], hs, _, _, _ => hs.elim

theorem standsL_length : ∀ {Bs : List ABlk} {rs : List Raw}, standsL Bs rs → Bs.length = rs.length
  | [], [], _ => rfl
  | _ :: _, _ :: _, hs => by simp [standsL_length hs.2]
  | [], _ :: _, hs => hs.elim
  | _ :: _, [], hs => hs.elim

theorem stands_refl : ∀ r : Raw, stands r.blk r
  | .dead => rfl
  | .obj .. => rfl
  | .map _ => rfl
  | .fnc d _ _ _ _ => ⟨d, rfl, fun _ _ => rfl⟩

theorem standsL_refl : ∀ rs : List Raw, standsL (blks rs) rs
  | [] => trivial
  | r :: rs => ⟨stands_refl r, standsL_refl rs⟩

theorem stands_rw {B : ABlk} {r : Raw} (h : stands B r) : B.rw = r.blk.rw := by
  cases r with
  | fnc d e z n ro => obtain ⟨d0, rfl, _⟩ := h; rfl
  | dead => rw [show B = _ from h]
  | obj => rw [show B = _ from h]
  | map => rw [show B = _ from h]

theorem stands_cb {sel : Nat → Option Nat} {B B' : ABlk} {r : Raw} (h : stands B r) (hp : r.plain) (hc : CBk sel r.blk B') : CBk sel B B' := by
  cases r with
  | fnc d e z n ro =>
    obtain ⟨d0, rfl, hd⟩ := h
    cases B' with
    | dead => exact hc.elim
    | map es => exact hc.elim
    | cells c =>
      obtain ⟨h1, h2, h3, h4, h5⟩ := hc
      refine ⟨h1, h2, h3, h4, fun i hi => ?_⟩
      have := h5 i hi
      simp only [Sto.get] at this hi ⊢
      rw [hd i hi]; exact this
  | dead => rw [show B = _ from h]; exact hc
  | obj => rw [show B = _ from h]; exact hc
  | map => rw [show B = _ from h]; exact hc

theorem see_spec {C : Ctx} {G : Nat} (hG : C.gs = gsOf G) {oq : Opq} {tab : Bool} {args : List AV} {h : AH} {s : Seen} (hs : see oq tab args h = some s) {bs0 : List ABlk} (hst : standsL bs0 s.bs) (hp : plainR s.bs) :
    Lies C h (hOf bs0) s.sg ∧ CVs (nth s.sg) s.args args := by
  unfold see at hs
  simp only at hs
  split at hs
  · rename_i hb
    simp only [Bool.and_eq_true] at hb
    obtain ⟨⟨⟨h1, h2⟩, h3⟩, h4⟩ := hb
    injection hs with hs; subst hs
    generalize reach oq h 100 0 (idsVs args [0]) = sg at *
    have hi : ∀ b j, posOf sg b = some j → nth sg j = some b := fun b j => posOf_nth
    simp only at hst hp
    refine ⟨⟨by rw [hOf_next, standsL_length hst, maskB_length, snapR_length], fun j b => allBelow_spec h2 j b, distinct_spec h1, fun j b hj => ?_, fun g b hg => ?_, hOf_wf _⟩, renJs_cv hi args⟩
    · rw [hOf_get]
      have hlen : j < (maskB tab (snapR oq (posOf sg) h sg)).length := by rw [maskB_length, snapR_length]; exact nth_lt hj
      obtain ⟨r, hr⟩ := nth_some hlen
      obtain ⟨B, hB, hstB⟩ := standsL_nth hst j r hr
      have hpr := plainR_nth hp j r hr
      rw [hB]
      refine stands_cb hstB hpr ?_
      rcases maskB_nth tab (snapR oq (posOf sg) h sg) j with h5 | h5
      · rw [h5, snapR_nth, hj] at hr
        injection hr with hr
        rw [← hr] at hpr ⊢
        rw [snapRaw_blk]
        exact asFn_cb (snapC_cb hi (snapRaw_plain hpr))
      · rw [h5] at hr; injection hr with hr
        rw [← hr]; trivial
    · rw [hG] at hg
      obtain ⟨_, rfl⟩ := gsOf_eq hg
      have := sameB_spec h3 0 (by rw [List.length_take]; have := Nat.le_of_ble_eq_true h4; omega)
      rw [nth_take _ _ _ (by omega)] at this
      exact this
  · cases hs

abbrev Con := List AV → List Raw → Option (AV × List ABlk)

structure Entry where
  g : Nat
  tab : Bool
  run : Con

/-- A contract: the call does so in a small heap whose blocks stand for those that are seen. -/
def Fits (C : Ctx) (g : Nat) (args : List AV) (bs : List Raw) (v : AV) (l : List ABlk) : Prop :=
  plainR bs ∧ ∃ bs0, standsL bs0 bs ∧ Small C g args (hOf bs0) v (hOf l)

theorem Fits.same {C : Ctx} {g : Nat} {args : List AV} {bs : List Raw} {v : AV} {l : List ABlk} (hp : plainR bs) (h : Small C g args (hOf (blks bs)) v (hOf l)) : Fits C g args bs v l := ⟨hp, _, standsL_refl bs, h⟩

def Entry.ok (C : Ctx) (e : Entry) : Prop := ∀ args bs v l, e.run args bs = some (v, l) → Fits C e.g args bs v l

theorem putB_congr {h0 h0' h1 : AH} {τ : Nat → Nat} (hrw : ∀ j, (h0.get j).rw = (h0'.get j).rw) : ∀ (bs : List Nat) (i : Nat) (h : AH), putB h0 h1 τ bs i h = putB h0' h1 τ bs i h
  | [], _, _ => rfl
  | b :: bs, i, h => by simp only [putB, hrw i]; exact putB_congr hrw bs (i + 1) _

theorem liftH_congr {h0 h0' h1 h : AH} {sg : List Nat} (hn : h0.next = h0'.next) (hrw : ∀ j, (h0.get j).rw = (h0'.get j).rw) : liftH h0 h1 sg h = liftH h0' h1 sg h := by
  unfold liftH
  rw [hn, putB_congr hrw]

theorem stands_get_rw {bs0 : List ABlk} {bs : List Raw} (h : standsL bs0 bs) (j : Nat) : ((hOf bs0).get j).rw = ((hOf (blks bs)).get j).rw := by
  rw [hOf_get, hOf_get, blks_nth]
  cases hj : nth bs j with
  | none =>
    have : nth bs0 j = none := nth_none (by
      rw [standsL_length h]
      cases Nat.lt_or_ge j bs.length with
      | inl hlt => obtain ⟨x, hx⟩ := nth_some (l := bs) hlt; rw [hx] at hj; cases hj
      | inr hge => exact hge)
    rw [this]; rfl
  | some r =>
    obtain ⟨B, hB, hst⟩ := standsL_nth h j r hj
    rw [hB]
    exact stands_rw hst

def logOf (h0 : AH) : List Nat → Nat → Log
  | [], _ => []
  | b :: bs, i => match (h0.get i).rw with
    | true => b :: logOf h0 bs (i + 1)
    | false => logOf h0 bs (i + 1)

theorem logOf_mem (h0 : AH) : ∀ (bs : List Nat) (i j b : Nat), nth bs j = some b → (h0.get (i + j)).rw = true → b ∈ logOf h0 bs i
  | [], _, _, _, h, _ => by simp [nth] at h
  | x :: xs, i, j, b, hj, hrw => by
    simp only [logOf]
    cases j with
    | zero =>
      have h1 : x = b := by simpa [nth] using hj
      subst h1
      rw [Nat.add_zero] at hrw
      rw [hrw]; exact List.mem_cons_self
    | succ j =>
      have := logOf_mem h0 xs (i + 1) j b (by simpa [nth] using hj) (by rwa [show i + 1 + j = i + (j + 1) by omega])
      split
      · exact List.mem_cons_of_mem _ this
      · exact this

theorem logOf_congr {h0 h0' : AH} (hrw : ∀ j, (h0.get j).rw = (h0'.get j).rw) : ∀ (bs : List Nat) (i : Nat), logOf h0 bs i = logOf h0' bs i
  | [], _ => rfl
  | b :: bs, i => by simp only [logOf, hrw i]; rw [logOf_congr hrw bs]

def orcE (oq : Opq) : List Entry → CallF
  | [], _, _, _ => none
  | e :: es, g, args, h => match Nat.beq g e.g with
    | false => orcE oq es g args h
    | true => match see oq e.tab args h with
      | none => none
      | some s => match e.run s.args s.bs with
        | none => none
        | some (v, l) => some ⟨renV (idAt s.sg (hOf (blks s.bs)).next h.next) v, liftH (hOf (blks s.bs)) (hOf l) s.sg h, logOf (hOf (blks s.bs)) s.sg 0⟩

theorem liftH_mild {C : Ctx} {h h0 h1 : AH} {sg : List Nat} (hl : Lies C h h0 sg) : Mild h (liftH h0 h1 sg h) (logOf h0 sg 0) := by
  have hPn : (putB h0 h1 (idAt sg h0.next h.next) sg 0 h).next = h.next := putB_next _ _ _ _ _ _
  have hnext : (liftH h0 h1 sg h).next = h.next + (h1.next - h0.next) := by
    unfold liftH; rw [pushB_next, hPn]
  have low : ∀ b, b < h.next → (liftH h0 h1 sg h).get b = (putB h0 h1 (idAt sg h0.next h.next) sg 0 h).get b := fun b hb => by
    unfold liftH
    rw [pushB_old]
    rw [hPn]; exact hb
  refine ⟨by omega, fun hwf b hb => ?_, fun b hb hlt => ?_⟩
  · have hput : ∀ c, h.next ≤ c → (putB h0 h1 (idAt sg h0.next h.next) sg 0 h).get c = .dead := fun c hc => by
      rw [putB_other]
      · exact hwf c hc
      · intro j b' hj he
        subst he
        have := hl.lt j b' hj; omega
    have beyond : ∀ (k j : Nat) (h' : AH), (∀ c, h'.next ≤ c → h'.get c = .dead) → ∀ c, h'.next + k ≤ c → (pushB h1 (idAt sg h0.next h.next) k j h').get c = .dead := by
      intro k
      induction k with
      | zero => intro j h' hd c hc; exact hd c hc
      | succ k ih =>
        intro j h' hd c hc
        simp only [pushB]
        refine ih (j + 1) _ (fun c' hc' => ?_) c (by simp only [AH.push]; omega)
        simp only [AH.push] at hc'
        rw [AH.get_push, if_neg (by omega)]
        exact hd c' (by omega)
    rw [hnext] at hb
    unfold liftH
    exact beyond _ _ _ (fun c hc => hput c (by rw [hPn] at hc; exact hc)) b (by rw [hPn]; exact hb)
  · rw [low b hlt]
    refine putB_other _ _ _ _ _ _ _ fun j b' hj he => ?_
    subst he
    cases hrw : (h0.get (0 + j)).rw with
    | false => rfl
    | true => exact absurd (logOf_mem h0 sg 0 j b' hj hrw) hb

theorem Fits.call {C : Ctx} {G : Nat} (hG : C.gs = gsOf G) {oq : Opq} {g : Nat} {tab : Bool} {args : List AV} {h : AH} {s : Seen} {v : AV} {l : List ABlk} (hs : see oq tab args h = some s) (hf : Fits C g s.args s.bs v l) :
    (∀ (xs : Array Value) (w : World), (callFunc g xs).run C.P w = .ok (.enter g xs) w) ∧ Mild h (liftH (hOf (blks s.bs)) (hOf l) s.sg h) (logOf (hOf (blks s.bs)) s.sg 0) ∧
    ∀ ρ w vs, GlobR C.gs ρ → HR ρ h w → VRs ρ args vs → Calls C.P g vs.toArray w fun e w' => ∃ u ρ', e = .returned u ∧ VR ρ' (renV (idAt s.sg (hOf (blks s.bs)).next h.next) v) u ∧
      HR ρ' (liftH (hOf (blks s.bs)) (hOf l) s.sg h) w' ∧ Fr h.next ρ h w ρ' (liftH (hOf (blks s.bs)) (hOf l) s.sg h) w' := by
  obtain ⟨hp, bs0, hst, hsm⟩ := hf
  obtain ⟨hl, ha⟩ := see_spec (C := C) hG hs hst hp
  have hn : (hOf bs0).next = (hOf (blks s.bs)).next := by rw [hOf_next, hOf_next, blks_length, standsL_length hst]
  have e1 : liftH (hOf bs0) (hOf l) s.sg h = liftH (hOf (blks s.bs)) (hOf l) s.sg h := liftH_congr hn (stands_get_rw hst)
  have e2 : logOf (hOf bs0) s.sg 0 = logOf (hOf (blks s.bs)) s.sg 0 := logOf_congr (stands_get_rw hst) _ _
  rw [← e1, ← e2, ← hn]
  exact ⟨hsm.enter, liftH_mild hl, fun ρ w vs hg hh hvs => hsm.lift hl ha hg hh hvs⟩

theorem orcE_ok {C : Ctx} {G : Nat} (hG : C.gs = gsOf G) {oq : Opq} : ∀ {es : List Entry}, (∀ e ∈ es, e.ok C) → CallOK C (orcE oq es)
  | [], _ => fun g args h r hr => by simp [orcE] at hr
  | e :: es, he => fun g args h r hr => by
    simp only [orcE] at hr
    split at hr
    · exact orcE_ok hG (fun x hx => he x (List.mem_cons_of_mem _ hx)) g args h r hr
    · rename_i hb
      have hge := Nat.eq_of_beq_eq_true hb
      subst hge
      split at hr
      · cases hr
      · rename_i s hs
        split at hr
        · cases hr
        · rename_i v l hrun
          injection hr with hr; subst hr
          obtain ⟨h1, h2, h3⟩ := Fits.call hG hs (he e List.mem_cons_self _ _ _ _ hrun)
          exact ⟨h1, h2, fun ρ w vs _ hg hh hvs => h3 ρ w vs hg hh hvs⟩

/-! ## Contracts with a condition -/
abbrev CCon := List AV → List Raw → Option (Prop × AV × List ABlk)

structure CEntry where
  g : Nat
  tab : Bool
  run : CCon

def CEntry.ok (C : Ctx) (e : CEntry) : Prop := ∀ args bs c v l, e.run args bs = some (c, v, l) → c → Fits C e.g args bs v l

def condE (oq : Opq) : List CEntry → Nat → List AV → AH → Option (Prop × R)
  | [], _, _, _ => none
  | e :: es, g, args, h => match Nat.beq g e.g with
    | false => condE oq es g args h
    | true => match see oq e.tab args h with
      | none => none
      | some s => match e.run s.args s.bs with
        | none => none
        | some (c, v, l) => some (c, ⟨renV (idAt s.sg (hOf (blks s.bs)).next h.next) v, liftH (hOf (blks s.bs)) (hOf l) s.sg h, logOf (hOf (blks s.bs)) s.sg 0⟩)

theorem condE_ok {C : Ctx} {G : Nat} (hG : C.gs = gsOf G) {oq : Opq} : ∀ {es : List CEntry}, (∀ e ∈ es, e.ok C) → ∀ g args h c r, condE oq es g args h = some (c, r) → c →
    (∀ (xs : Array Value) (w : World), (callFunc g xs).run C.P w = .ok (.enter g xs) w) ∧ Mild h r.h r.log ∧
    ∀ ρ w vs, GlobR C.gs ρ → HR ρ h w → VRs ρ args vs → Calls C.P g vs.toArray w fun e w' => ∃ v ρ', e = .returned v ∧ VR ρ' r.v v ∧ HR ρ' r.h w' ∧ Fr h.next ρ h w ρ' r.h w'
  | [], _ => fun g args h c r hr => by simp [condE] at hr
  | e :: es, he => fun g args h c r hr hc => by
    simp only [condE] at hr
    split at hr
    · exact condE_ok hG (fun x hx => he x (List.mem_cons_of_mem _ hx)) g args h c r hr hc
    · rename_i hb
      have hge := Nat.eq_of_beq_eq_true hb
      subst hge
      split at hr
      · cases hr
      · rename_i s hs
        split at hr
        · cases hr
        · rename_i c' v l hrun
          injection hr with hr; injection hr with h1 h2; subst h1 h2
          exact Fits.call hG hs (he e List.mem_cons_self _ _ _ _ _ hrun hc)

open Classical in
noncomputable def orcC (oq : Opq) (es : List CEntry) : CallF := fun g args h => match condE oq es g args h with
  | some (c, r) => if c then some r else none
  | none => none

theorem orcC_ok {C : Ctx} {G : Nat} (hG : C.gs = gsOf G) {oq : Opq} {es : List CEntry} (he : ∀ e ∈ es, e.ok C) : CallOK C (orcC oq es) := by
  intro g args h r hr
  unfold orcC at hr
  split at hr
  · rename_i c r' hc
    split at hr
    · rename_i hcc
      injection hr with hr; subst hr
      obtain ⟨h1, h2, h3⟩ := condE_ok hG he g args h c _ hc hcc
      exact ⟨h1, h2, fun ρ w vs _ => h3 ρ w vs⟩
    · cases hr
  · cases hr

theorem orcC_cond {oq : Opq} {es : List CEntry} {g : Nat} {args : List AV} {h : AH} {c : Prop} {r : R} (hc : condE oq es g args h = some (c, r)) (hcc : c) : orcC oq es g args h = some r := by
  unfold orcC
  rw [hc]
  simp only [hcc, if_true]

end Go.Abs
