/-
  Contracts: a call in a small heap; the same call in every heap that has such blocks. (Helper theorems; each says its own conditions.)
-/
import Derived.Test.YtghcfkgfccmaoaaGreatDoorAbs20

/-! Contracts: a call in a small heap; the same call in every heap that has such blocks. -/
namespace Go.Abs
open Go

/-! ## Renaming -/
mutual
def renV (τ : Nat → Nat) : AV → AV
  | .ptr b off => .ptr (τ b) off
  | .sl b off len cap ex => .sl (τ b) off len cap ex
  | .mp b => .mp (τ b)
  | .fn f xs ys => .fn f (renVs τ xs) (renVs τ ys)
  | .agg xs => .agg (renVs τ xs)
  | .tup xs => .tup (renVs τ xs)
  | .bool b => .bool b
  | .int k n => .int k n
  | .nilp => .nilp
  | .sl0 => .sl0
  | .nilm => .nilm
  | .nilf => .nilf
  | .str x => .str x
  | .junk => .junk
def renVs (τ : Nat → Nat) : List AV → List AV
  | [] => []
  | v :: vs => renV τ v :: renVs τ vs
end

mutual
theorem renV_vr {τ : Nat → Nat} {ρ ρ' : Ren} (hτ : ∀ j g, ρ j = some g → ρ' (τ j) = some g) : ∀ (v : AV) (x : Value), VR ρ v x → VR ρ' (renV τ v) x
  | .ptr b off, x, h => by obtain ⟨g, hg, he⟩ := h; exact ⟨g, hτ _ _ hg, he⟩
  | .sl b off len cap ex, x, h => by obtain ⟨g, hg, he⟩ := h; exact ⟨g, hτ _ _ hg, he⟩
  | .mp b, x, h => by obtain ⟨g, hg, he⟩ := h; exact ⟨g, hτ _ _ hg, he⟩
  | .fn f xs ys, x, h => by
    obtain ⟨as, bs, he, h1, h2⟩ := h
    exact ⟨as, bs, he, renVs_vr hτ _ _ h1, renVs_vr hτ _ _ h2⟩
  | .agg xs, x, h => by obtain ⟨as, he, h1⟩ := h; exact ⟨as, he, renVs_vr hτ _ _ h1⟩
  | .tup xs, x, h => by obtain ⟨as, he, h1⟩ := h; exact ⟨as, he, renVs_vr hτ _ _ h1⟩
  | .bool _, _, h => h
  | .int _ _, _, h => h
  | .nilp, _, h => h
  | .sl0, _, h => h
  | .nilm, _, h => h
  | .nilf, _, h => h
  | .str _, _, h => h
  | .junk, _, _ => trivial
theorem renVs_vr {τ : Nat → Nat} {ρ ρ' : Ren} (hτ : ∀ j g, ρ j = some g → ρ' (τ j) = some g) : ∀ (vs : List AV) (xs : List Value), VRs ρ vs xs → VRs ρ' (renVs τ vs) xs
  | [], _, h => h
  | v :: vs, _, h => by
    obtain ⟨x, xs, rfl, h1, h2⟩ := h
    exact ⟨x, xs, rfl, renV_vr hτ _ _ h1, renVs_vr hτ _ _ h2⟩
end

theorem renVs_length (τ : Nat → Nat) : ∀ vs : List AV, (renVs τ vs).length = vs.length
  | [] => rfl
  | _ :: vs => by simp [renVs, renVs_length τ vs]

theorem renVs_get (τ : Nat → Nat) : ∀ (vs : List AV) (i : Nat) (v : AV), vs[i]? = some v → (renVs τ vs)[i]? = some (renV τ v)
  | [], i, v, h => by simp at h
  | x :: xs, i, v, h => by
    cases i with
    | zero => simp only [List.getElem?_cons_zero, Option.some.injEq] at h; subst h; rfl
    | succ i => simp only [renVs, List.getElem?_cons_succ] at h ⊢; exact renVs_get τ xs i v h

/-- What must be so of a block that stays as it is. -/
def plainB : ABlk → Prop
  | .cells c => match c.sto with
    | .tr _ _ => True
    | .fn d => ∀ i, i < c.n → (d i).closed = true
  | _ => True

/-- New names in a block; one whose cells are a function has none. -/
def renBk (τ : Nat → Nat) : ABlk → ABlk
  | .dead => .dead
  | .cells c => match c.sto with
    | .tr _ _ => .cells { sto := .tr .lf (listFn (renVs τ (readL c.sto 0 c.n))), n := c.n, elem := c.elem, esz := c.esz, ro := c.ro }
    | .fn d => .cells { sto := .fn d, n := c.n, elem := c.elem, esz := c.esz, ro := c.ro }
  | .map es => .map (es.map fun p => (renV τ p.1, renV τ p.2))

theorem renBk_cells {τ : Nat → Nat} {ρ ρ' : Ren} (hτ : ∀ j g, ρ j = some g → ρ' (τ j) = some g) (c : CB) (hp : plainB (.cells c)) : ∃ sto, renBk τ (.cells c) = .cells { sto := sto, n := c.n, elem := c.elem, esz := c.esz, ro := c.ro } ∧
    ∀ i, i < c.n → ∀ x, VR ρ (c.sto.get i) x → VR ρ' (sto.get i) x := by
  obtain ⟨sto, n, e, z, ro⟩ := c
  cases sto with
  | tr t d =>
    refine ⟨.tr .lf (listFn (renVs τ (readL (.tr t d) 0 n))), rfl, fun i hi x hx => ?_⟩
    have h1 := readL_get (.tr t d) n 0 i hi
    rw [Nat.zero_add] at h1
    have h2 := renVs_get τ _ i _ h1
    show VR ρ' (listFn (renVs τ (readL (.tr t d) 0 n)) i) x
    rw [listFn_get _ i _ h2]
    exact renV_vr hτ _ _ hx
  | fn d => exact ⟨.fn d, rfl, fun i hi x hx => VR.anywhere _ _ (hp i hi) hx⟩

theorem MR.ren {τ : Nat → Nat} {ρ ρ' : Ren} (hτ : ∀ j g, ρ j = some g → ρ' (τ j) = some g) : ∀ {l : List (AV × AV)} {es : List MapEntry}, MR ρ l es → MR ρ' (l.map fun p => (renV τ p.1, renV τ p.2)) es
  | [], _, h => h
  | (_, _) :: _, _, h => by
    obtain ⟨e, es', he, h1, h2, h3⟩ := h
    exact ⟨e, es', he, renV_vr hτ _ _ h1, renV_vr hτ _ _ h2, MR.ren hτ h3⟩

theorem renBk_br {τ : Nat → Nat} {ρ ρ' : Ren} (hτ : ∀ j g, ρ j = some g → ρ' (τ j) = some g) {g : Pl} {B : ABlk} {w : World} (hp : plainB B) (h : BR ρ g B w) : BR ρ' g (renBk τ B) w := by
  cases B with
  | dead => trivial
  | cells c =>
    obtain ⟨sto, he, hget⟩ := renBk_cells hτ c hp
    rw [he]
    unfold BR at *
    simp only at *
    cases hro : c.ro <;> simp only [hro] at *
    · obtain ⟨cur, h1, h2, h3⟩ := h
      refine ⟨cur, h1, h2, fun i hi => ?_⟩
      obtain ⟨v, hv, hr⟩ := h3 i hi
      exact ⟨v, hv, hget i hi v hr⟩
    · intro i hi
      obtain ⟨v, hv, hr⟩ := h i hi
      exact ⟨v, hv, hget i hi v hr⟩
  | map es =>
    obtain ⟨ces, clock, h1, h2⟩ := h
    exact ⟨ces, clock, h1, h2.ren hτ⟩

theorem renBk_rw (τ : Nat → Nat) (B : ABlk) : (renBk τ B).rw = B.rw := by
  cases B with
  | dead => rfl
  | map es => rfl
  | cells c =>
    obtain ⟨sto, n, e, z, ro⟩ := c
    cases sto <;> rfl

/-! ## A call in a small heap -/
structure Small (C : Ctx) (g : Nat) (args : List AV) (h0 : AH) (v : AV) (h1 : AH) : Prop where
  enter : ∀ (xs : Array Value) (w : World), (callFunc g xs).run C.P w = .ok (.enter g xs) w
  calls : ∀ (ρ : Ren) (w : World) (vs : List Value), GlobR C.gs ρ → HR ρ h0 w → VRs ρ args vs →
    Calls C.P g vs.toArray w fun e w' => ∃ u ρ', e = .returned u ∧ VR ρ' v u ∧ HR ρ' h1 w' ∧ Fk h0.next ρ h0 w ρ' h1 w'
  next : h0.next ≤ h1.next
  news : ∀ j, h0.next ≤ j → j < h1.next → (h1.get j).rw = true
  plain : ∀ j, plainB (h1.get j)

def idAt (sg : List Nat) (m nx : Nat) (j : Nat) : Nat := match nth sg j with
  | some b => b
  | none => nx + (j - m)

/-- Blocks in the places of others: the ones that were there and may be written, then the new ones. -/
def putB (h0 h1 : AH) (τ : Nat → Nat) : List Nat → Nat → AH → AH
  | [], _, h => h
  | b :: bs, i, h => putB h0 h1 τ bs (i + 1) (match (h0.get i).rw with
    | true => h.put b (renBk τ (h1.get i))
    | false => h)

def pushB (h1 : AH) (τ : Nat → Nat) : Nat → Nat → AH → AH
  | 0, _, h => h
  | k + 1, j, h => pushB h1 τ k (j + 1) (h.push (renBk τ (h1.get j)))

def liftH (h0 h1 : AH) (sg : List Nat) (h : AH) : AH :=
  pushB h1 (idAt sg h0.next h.next) (h1.next - h0.next) h0.next (putB h0 h1 (idAt sg h0.next h.next) sg 0 h)

theorem putB_next (h0 h1 : AH) (τ : Nat → Nat) : ∀ (bs : List Nat) (i : Nat) (h : AH), (putB h0 h1 τ bs i h).next = h.next
  | [], _, _ => rfl
  | b :: bs, i, h => by
    simp only [putB]
    rw [putB_next h0 h1 τ bs]
    split <;> rfl

theorem putB_other (h0 h1 : AH) (τ : Nat → Nat) : ∀ (bs : List Nat) (i : Nat) (h : AH) (c : Nat), (∀ j b, nth bs j = some b → b = c → (h0.get (i + j)).rw = false) → (putB h0 h1 τ bs i h).get c = h.get c
  | [], _, _, _, _ => rfl
  | b :: bs, i, h, c, hn => by
    simp only [putB]
    rw [putB_other h0 h1 τ bs (i + 1) _ c fun j b' hj he => by
      have := hn (j + 1) b' (by simpa [nth] using hj) he
      rwa [show i + (j + 1) = i + 1 + j by omega] at this]
    split
    · rename_i hrw
      rw [AH.get_put, if_neg]
      intro e
      have := hn 0 b rfl e.symm
      rw [Nat.add_zero] at this
      rw [this] at hrw; cases hrw
    · rfl

theorem putB_at (h0 h1 : AH) (τ : Nat → Nat) : ∀ (bs : List Nat) (i : Nat) (h : AH), (∀ j k b, nth bs j = some b → nth bs k = some b → j = k) → ∀ (j c : Nat), nth bs j = some c → (h0.get (i + j)).rw = true →
    (putB h0 h1 τ bs i h).get c = renBk τ (h1.get (i + j))
  | [], _, _, _, _, _, hj, _ => by simp [nth] at hj
  | b :: bs, i, h, hd, j, c, hj, hrw => by
    have hd' : ∀ j k b, nth bs j = some b → nth bs k = some b → j = k := fun j k x h1 h2 => by
      have := hd (j + 1) (k + 1) x (by simpa [nth] using h1) (by simpa [nth] using h2)
      omega
    simp only [putB]
    cases j with
    | zero =>
      have hbc : b = c := by simpa [nth] using hj
      subst hbc
      rw [putB_other]
      · rw [Nat.add_zero] at hrw
        rw [hrw]
        simp only [AH.get_put, if_true, Nat.add_zero]
      · intro k b' hk he
        subst he
        have := hd (k + 1) 0 b' (by simpa [nth] using hk) rfl
        omega
    | succ j =>
      have := putB_at h0 h1 τ bs (i + 1) (match (h0.get i).rw with | true => h.put b (renBk τ (h1.get i)) | false => h) hd' j c (by simpa [nth] using hj) (by rwa [show i + 1 + j = i + (j + 1) by omega])
      rw [this, show i + 1 + j = i + (j + 1) by omega]

theorem pushB_next (h1 : AH) (τ : Nat → Nat) : ∀ (k j : Nat) (h : AH), (pushB h1 τ k j h).next = h.next + k
  | 0, _, _ => rfl
  | k + 1, j, h => by
    simp only [pushB]
    rw [pushB_next h1 τ k]
    simp only [AH.push]; omega

theorem pushB_old (h1 : AH) (τ : Nat → Nat) : ∀ (k j : Nat) (h : AH) (c : Nat), c < h.next → (pushB h1 τ k j h).get c = h.get c
  | 0, _, _, _, _ => rfl
  | k + 1, j, h, c, hc => by
    simp only [pushB]
    rw [pushB_old h1 τ k _ _ c (by simp only [AH.push]; omega), AH.get_push, if_neg (by omega)]

theorem pushB_new (h1 : AH) (τ : Nat → Nat) : ∀ (k j : Nat) (h : AH) (i : Nat), i < k → (pushB h1 τ k j h).get (h.next + i) = renBk τ (h1.get (j + i))
  | 0, _, _, _, hi => by omega
  | k + 1, j, h, i, hi => by
    simp only [pushB]
    cases i with
    | zero =>
      rw [pushB_old h1 τ k _ _ _ (by simp only [AH.push]; omega), AH.get_push, if_pos (Nat.add_zero _)]; rfl
    | succ i =>
      have := pushB_new h1 τ k (j + 1) (h.push (renBk τ (h1.get j))) i (by omega)
      rw [show h.next + (i + 1) = (h.push (renBk τ (h1.get j))).next + i by simp only [AH.push]; omega, this, show j + 1 + i = j + (i + 1) by omega]

/-- How a small heap lies in a great one. -/
structure Lies (C : Ctx) (h h0 : AH) (sg : List Nat) : Prop where
  len : sg.length = h0.next
  lt : ∀ j b, nth sg j = some b → b < h.next
  inj : ∀ j k b, nth sg j = some b → nth sg k = some b → j = k
  blk : ∀ j b, nth sg j = some b → CBk (nth sg) (h0.get j) (h.get b)
  glob : ∀ g b, C.gs g = some b → nth sg b = some b
  wf : WF h0

theorem nth_none {α : Type} {l : List α} {j : Nat} (h : l.length ≤ j) : nth l j = none := by
  rw [nth_eq]; exact List.getElem?_eq_none h

theorem nth_lt {α : Type} {l : List α} {j : Nat} {x : α} (h : nth l j = some x) : j < l.length := by
  rw [nth_eq] at h; exact (List.getElem?_eq_some_iff.1 h).1

theorem nth_some {α : Type} {l : List α} {j : Nat} (h : j < l.length) : ∃ x, nth l j = some x := ⟨l[j], by rw [nth_eq]; exact List.getElem?_eq_getElem h⟩

theorem Lies.cov {C : Ctx} {h h0 : AH} {sg : List Nat} (hl : Lies C h h0 sg) : CovH 0 h h0 (nth sg) :=
  ⟨fun b hb => by omega, hl.inj, fun b hb => nth_none (by rw [hl.len]; exact hb), hl.blk, hl.wf, Nat.zero_le _⟩

theorem Small.lift {C : Ctx} {g : Nat} {args0 args : List AV} {h0 h1 h : AH} {v : AV} (hs : Small C g args0 h0 v h1) {sg : List Nat} (hl : Lies C h h0 sg) (ha : CVs (nth sg) args0 args)
    {ρ : Ren} {w : World} {vs : List Value} (hg : GlobR C.gs ρ) (hr : HR ρ h w) (hv : VRs ρ args vs) :
    Calls C.P g vs.toArray w fun e w' => ∃ u ρ', e = .returned u ∧ VR ρ' (renV (idAt sg h0.next h.next) v) u ∧ HR ρ' (liftH h0 h1 sg h) w' ∧ Fr h.next ρ h w ρ' (liftH h0 h1 sg h) w' := by
  have hcov := hl.cov
  refine (hs.calls (under (nth sg) ρ) w vs (fun g' b hb => by rw [under_of (hl.glob g' b hb)]; exact hg g' b hb) (hcov.hr hr) (CVs.vr _ _ _ ha hv)).mono fun e w' hew => ?_
  obtain ⟨u, ρ1, he, hu, hr1, hf⟩ := hew
  -- the renaming of what is now
  let τ := idAt sg h0.next h.next
  let ρ' : Ren := fun b => if b < h.next then ρ b else ρ1 (h0.next + (b - h.next))
  have τlow : ∀ j b, nth sg j = some b → τ j = b := fun j b hj => by simp only [τ, idAt, hj]
  have τhigh : ∀ j, h0.next ≤ j → τ j = h.next + (j - h0.next) := fun j hj => by simp only [τ, idAt, nth_none (show sg.length ≤ j by rw [hl.len]; exact hj)]
  have ρlow : ∀ b, b < h.next → ρ' b = ρ b := fun b hb => by simp only [ρ', hb, if_true]
  have ρhigh : ∀ k, ρ' (h.next + k) = ρ1 (h0.next + k) := fun k => by
    simp only [ρ']
    rw [if_neg (by omega), show h.next + k - h.next = k by omega]
  have ρ1low : ∀ j b, nth sg j = some b → ρ1 j = ρ b := fun j b hj => by
    rw [hf.old j (by have := nth_lt hj; rw [hl.len] at this; exact this), under_of hj]
  have hτ : ∀ j g, ρ1 j = some g → ρ' (τ j) = some g := by
    intro j g hj
    cases Nat.lt_or_ge j h0.next with
    | inl hlt =>
      obtain ⟨b, hb⟩ := nth_some (l := sg) (j := j) (by rw [hl.len]; exact hlt)
      rw [τlow j b hb, ρlow b (hl.lt j b hb), ← ρ1low j b hb]; exact hj
    | inr hge =>
      rw [τhigh j hge, ρhigh, show h0.next + (j - h0.next) = j by omega]; exact hj
  -- the heap that is now
  have hPn : (putB h0 h1 τ sg 0 h).next = h.next := putB_next _ _ _ _ _ _
  have hnext : (liftH h0 h1 sg h).next = h.next + (h1.next - h0.next) := by
    show (pushB h1 τ _ _ (putB h0 h1 τ sg 0 h)).next = _
    rw [pushB_next, hPn]
  have getLow : ∀ b, b < h.next → (liftH h0 h1 sg h).get b = (putB h0 h1 τ sg 0 h).get b := fun b hb => by
    show (pushB h1 τ _ _ (putB h0 h1 τ sg 0 h)).get b = _
    rw [pushB_old]
    rw [hPn]; exact hb
  have getHigh : ∀ k, k < h1.next - h0.next → (liftH h0 h1 sg h).get (h.next + k) = renBk τ (h1.get (h0.next + k)) := fun k hk => by
    show (pushB h1 τ _ _ (putB h0 h1 τ sg 0 h)).get _ = _
    have := pushB_new h1 τ (h1.next - h0.next) h0.next (putB h0 h1 τ sg 0 h) k hk
    rw [hPn] at this; exact this
  have getRw : ∀ j b, nth sg j = some b → (h0.get j).rw = true → (liftH h0 h1 sg h).get b = renBk τ (h1.get j) := fun j b hj hrw => by
    rw [getLow b (hl.lt j b hj)]
    have := putB_at h0 h1 τ sg 0 h hl.inj j b hj (by rw [Nat.zero_add]; exact hrw)
    rw [Nat.zero_add] at this; exact this
  have getKeep : ∀ b, b < h.next → (∀ j, nth sg j = some b → (h0.get j).rw = false) → (liftH h0 h1 sg h).get b = h.get b := fun b hb hno => by
    rw [getLow b hb]
    exact putB_other h0 h1 τ sg 0 h b fun j b' hj hbe => by subst hbe; rw [Nat.zero_add]; exact hno j hj
  -- a block that no written one lies in is as it was
  have still : ∀ b gb, ρ b = some gb → h.get b ≠ .dead → (∀ j, nth sg j = some b → (h0.get j).rw = false) → w'.heap[gb.blk]? = w.heap[gb.blk]? := by
    intro b gb hb hlive hno
    refine hf.keep _ (hr.lt b gb hb) fun j gj hj hje => ?_
    obtain ⟨c, hc, hcg⟩ := under_some hj
    by_cases hbc : c = b
    · subst hbc; exact hno j hc
    · rcases hr.inj c b gj gb hcg hb hje hbc with hdd | hdd | ⟨h2, _⟩
      · have := hl.blk j c hc
        rw [hdd] at this
        rw [CBk.dead this]; rfl
      · exact absurd hdd hlive
      · exact (hl.blk j c hc).rw h2
  have hextρ : Ext ρ ρ' := fun b gb hb => by
    rw [ρlow b]
    · exact hb
    · cases Nat.lt_or_ge b h.next with
      | inl hlt => exact hlt
      | inr hge => rw [hr.fresh b hge] at hb; cases hb
  -- which block a name names
  have named : ∀ b gb, ρ' b = some gb → (∃ j, nth sg j = some b ∧ (h0.get j).rw = true ∧ ρ b = some gb ∧ b < h.next) ∨ (b < h.next ∧ ρ b = some gb ∧ ∀ j, nth sg j = some b → (h0.get j).rw = false) ∨
      ∃ k, b = h.next + k ∧ k < h1.next - h0.next ∧ ρ1 (h0.next + k) = some gb := by
    intro b gb hb
    cases Nat.lt_or_ge b h.next with
    | inl hlt =>
      rw [ρlow b hlt] at hb
      by_cases hex : ∃ j, nth sg j = some b ∧ (h0.get j).rw = true
      · obtain ⟨j, h1', h2'⟩ := hex
        exact .inl ⟨j, h1', h2', hb, hlt⟩
      · refine .inr (.inl ⟨hlt, hb, fun j hj => ?_⟩)
        cases hrw : (h0.get j).rw with
        | false => rfl
        | true => exact absurd ⟨j, hj, hrw⟩ hex
    | inr hge =>
      obtain ⟨k, rfl⟩ : ∃ k, b = h.next + k := ⟨b - h.next, by omega⟩
      rw [ρhigh] at hb
      refine .inr (.inr ⟨k, rfl, ?_, hb⟩)
      cases Nat.lt_or_ge (h0.next + k) h1.next with
      | inl hlt => omega
      | inr hge' => rw [hr1.fresh _ hge'] at hb; cases hb
  -- where a block that is written in the small heap lies, no other one lies
  have alone : ∀ j gj, ρ1 j = some gj → (h1.get j).rw = true → ∀ b gb, ρ b = some gb → gb.blk = gj.blk → (∀ i, nth sg i = some b → (h0.get i).rw = false) → h.get b = .dead := by
    intro j gj hj hrw b gb hb hbe hno
    rcases hf.img j gj hj hrw with ⟨i, gi, hi, hirw, hie⟩ | hge
    · obtain ⟨c, hc, hcg⟩ := under_some hi
      have hcb : c ≠ b := fun e => by subst e; rw [hno i hc] at hirw; cases hirw
      rcases hr.inj c b gi gb hcg hb (hie.trans hbe.symm) hcb with hdd | hdd | ⟨h2, _⟩
      · have := hl.blk i c hc
        rw [hdd] at this
        rw [CBk.dead this] at hirw; cases hirw
      · exact hdd
      · rw [(hl.blk i c hc).rw h2] at hirw; cases hirw
    · have := hr.lt b gb hb; omega
  have smallOf : ∀ j b gb, nth sg j = some b → ρ b = some gb → ρ1 j = some gb := fun j b gb hj hb => by rw [ρ1low j b hj]; exact hb
  have hHR : HR ρ' (liftH h0 h1 sg h) w' := by
    refine ⟨fun b gb hb => ?_, fun b b' gb gb' hb hb' hbe hne => ?_, fun b hb => ?_, fun b gb hb => ?_⟩
    · rcases named b gb hb with ⟨j, hj, hrw, hρ, hlt⟩ | ⟨hlt, hρ, hno⟩ | ⟨k, rfl, hk, hρ⟩
      · rw [getRw j b hj hrw]
        exact renBk_br hτ (hs.plain j) (hr1.blk j gb (smallOf j b gb hj hρ))
      · rw [getKeep b hlt hno]
        by_cases hd : h.get b = .dead
        · rw [hd]; trivial
        · exact ((hr.blk b gb hρ).mono hextρ).same (still b gb hρ hd hno)
      · rw [getHigh k hk]
        exact renBk_br hτ (hs.plain _) (hr1.blk _ gb hρ)
    · -- two names of one place
      have mixed : ∀ j gj, ρ1 j = some gj → ((∃ i, nth sg j = some i ∧ (h0.get j).rw = true) ∨ (h1.get j).rw = true) → ∀ b gb, ρ b = some gb → b < h.next → gb.blk = gj.blk → (∀ i, nth sg i = some b → (h0.get i).rw = false) →
          h.get b = .dead ∨ renBk τ (h1.get j) = .dead ∨ ((h.get b).rw = false ∧ (renBk τ (h1.get j)).rw = false) := by
        intro j gj hj hor b gb hb hlt hbe hno
        cases hrw : (h1.get j).rw with
        | true => exact .inl (alone j gj hj hrw b gb hb hbe hno)
        | false =>
          rcases hor with ⟨i, hi, hirw⟩ | hrw'
          · have hib : i ≠ b := fun e => by subst e; rw [hno j hi] at hirw; cases hirw
            have hig : ρ i = some gj := by rw [← ρ1low j i hi]; exact hj
            rcases hr.inj i b gj gb hig hb hbe.symm hib with hdd | hdd | ⟨h2, _⟩
            · have := hl.blk j i hi
              rw [hdd] at this
              rw [CBk.dead this] at hirw; cases hirw
            · exact .inl hdd
            · rw [(hl.blk j i hi).rw h2] at hirw; cases hirw
          · rw [hrw] at hrw'; cases hrw'
      have both : ∀ j j' gj gj', ρ1 j = some gj → ρ1 j' = some gj' → gj.blk = gj'.blk → j ≠ j' → Sep (renBk τ (h1.get j)) (renBk τ (h1.get j')) := by
        intro j j' gj gj' hj hj' hje hne
        rcases hr1.inj j j' gj gj' hj hj' hje hne with h | h | ⟨h, h'⟩
        · exact .inl (by rw [h]; rfl)
        · exact .inr (.inl (by rw [h]; rfl))
        · exact .inr (.inr ⟨by rw [renBk_rw]; exact h, by rw [renBk_rw]; exact h'⟩)
      rcases named b gb hb with ⟨j, hj, hrw, hρ, hlt⟩ | ⟨hlt, hρ, hno⟩ | ⟨k, rfl, hk, hρ⟩ <;> rcases named b' gb' hb' with ⟨j', hj', hrw', hρ', hlt'⟩ | ⟨hlt', hρ', hno'⟩ | ⟨k', rfl, hk', hρ'⟩
      · rw [getRw j b hj hrw, getRw j' b' hj' hrw']
        exact both j j' gb gb' (smallOf j b gb hj hρ) (smallOf j' b' gb' hj' hρ') hbe fun e => hne (by subst e; rw [hj] at hj'; exact Option.some.inj hj')
      · rw [getRw j b hj hrw, getKeep b' hlt' hno']
        rcases mixed j gb (smallOf j b gb hj hρ) (.inl ⟨b, hj, hrw⟩) b' gb' hρ' hlt' hbe.symm hno' with h | h | ⟨h, h'⟩
        · exact .inr (.inl h)
        · exact .inl h
        · exact .inr (.inr ⟨h', h⟩)
      · rw [getRw j b hj hrw, getHigh k' hk']
        refine both j (h0.next + k') gb gb' (smallOf j b gb hj hρ) hρ' hbe fun e => ?_
        have := nth_lt hj; rw [hl.len] at this; omega
      · rw [getKeep b hlt hno, getRw j' b' hj' hrw']
        rcases mixed j' gb' (smallOf j' b' gb' hj' hρ') (.inl ⟨b', hj', hrw'⟩) b gb hρ hlt hbe hno with h | h | ⟨h, h'⟩
        · exact .inl h
        · exact .inr (.inl h)
        · exact .inr (.inr ⟨h, h'⟩)
      · rw [getKeep b hlt hno, getKeep b' hlt' hno']
        exact hr.inj b b' gb gb' hρ hρ' hbe hne
      · rw [getKeep b hlt hno, getHigh k' hk']
        rcases mixed (h0.next + k') gb' hρ' (.inr (hs.news _ (by omega) (by omega))) b gb hρ hlt hbe hno with h | h | ⟨h, h'⟩
        · exact .inl h
        · exact .inr (.inl h)
        · exact .inr (.inr ⟨h, h'⟩)
      · rw [getHigh k hk, getRw j' b' hj' hrw']
        refine both (h0.next + k) j' gb gb' hρ (smallOf j' b' gb' hj' hρ') hbe fun e => ?_
        have := nth_lt hj'; rw [hl.len] at this; omega
      · rw [getHigh k hk, getKeep b' hlt' hno']
        rcases mixed (h0.next + k) gb hρ (.inr (hs.news _ (by omega) (by omega))) b' gb' hρ' hlt' hbe.symm hno' with h | h | ⟨h, h'⟩
        · exact .inr (.inl h)
        · exact .inl h
        · exact .inr (.inr ⟨h', h⟩)
      · rw [getHigh k hk, getHigh k' hk']
        exact both _ _ gb gb' hρ hρ' hbe fun e => hne (by omega)
    · rw [hnext] at hb
      obtain ⟨k, rfl⟩ : ∃ k, b = h.next + k := ⟨b - h.next, by omega⟩
      rw [ρhigh]
      exact hr1.fresh _ (by omega)
    · rcases named b gb hb with ⟨j, hj, hrw, hρ, hlt⟩ | ⟨hlt, hρ, hno⟩ | ⟨k, rfl, hk, hρ⟩
      · exact Nat.lt_of_lt_of_le (hr.lt b gb hρ) hf.size
      · exact Nat.lt_of_lt_of_le (hr.lt b gb hρ) hf.size
      · exact hr1.lt _ gb hρ
  refine ⟨u, ρ', he, renV_vr hτ v u hu, hHR, hf.os, hf.tape, hf.output, hf.size, fun c hc hno => hf.keep c hc fun j gj hj hje => ?_, fun b gb hb hrw => ?_, fun b hb => ρlow b hb, by rw [hnext]; omega, hextρ⟩
  · obtain ⟨d, hd, hdg⟩ := under_some hj
    exact (hl.blk j d hd).rw (hno d gj hdg hje)
  · have imgs : ∀ j, ρ1 j = some gb → (h1.get j).rw = true → (∃ b0 g0, ρ b0 = some g0 ∧ (h.get b0).rw = true ∧ g0.blk = gb.blk) ∨ w.heap.size ≤ gb.blk := by
      intro j hj hjrw
      rcases hf.img j gb hj hjrw with ⟨i, gi, hi, hirw, hie⟩ | hge
      · obtain ⟨c, hc, hcg⟩ := under_some hi
        refine .inl ⟨c, gi, hcg, ?_, hie⟩
        cases hx : (h.get c).rw with
        | true => rfl
        | false => rw [(hl.blk i c hc).rw hx] at hirw; cases hirw
      · exact .inr hge
    rcases named b gb hb with ⟨j, hj, hjrw, hρ, hlt⟩ | ⟨hlt, hρ, hno⟩ | ⟨k, rfl, hk, hρ⟩
    · rw [getRw j b hj hjrw, renBk_rw] at hrw
      exact imgs j (smallOf j b gb hj hρ) hrw
    · rw [getKeep b hlt hno] at hrw
      exact .inl ⟨b, gb, hρ, hrw, rfl⟩
    · rw [getHigh k hk, renBk_rw] at hrw
      exact imgs _ hρ hrw

end Go.Abs
