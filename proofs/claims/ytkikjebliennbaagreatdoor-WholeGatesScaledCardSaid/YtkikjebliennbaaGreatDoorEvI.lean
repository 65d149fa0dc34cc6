/-
  Loops of a law: canonical states, runs up to a loop, from round to round. (Helper theorems; each says its own conditions.)
-/
import Derived.Test.YtkikjebliennbaaGreatDoorEvH
import Derived.Below
import Derived.ChangeSame
import Derived.WideKeyArgs
import Derived.Deep.Slices
import Derived.Deep.Fields
import Derived.Lib.LaidTab
import Derived.ProofKit
/-! Loops of a law: canonical states, runs up to a loop, from round to round. -/
namespace Go.Abs
open Go

def getTs (T : Tr AV) : List Nat → Option (List AV)
  | [] => some []
  | t :: ts => match T.get t with
    | some v => match getTs T ts with
      | some vs => some (v :: vs)
      | none => none
    | none => none

def setTs : List Nat → List AV → Tr AV
  | t :: ts, v :: vs => (setTs ts vs).set t v
  | _, _ => .lf

theorem setTs_get {T : Tr AV} {inv sel : Nat → Option Nat} (hi : ∀ b j, inv b = some j → sel j = some b) : ∀ {ts : List Nat} {vs : List AV}, getTs T ts = some vs →
    ∀ i v, (setTs ts (renJs inv vs)).get i = some v → ∃ u, T.get i = some u ∧ CV sel v u
  | [], vs, h, i, v, hv => by
    simp only [getTs] at h; injection h with h; subst h
    simp [setTs, Tr.get_lf] at hv
  | t :: ts, vs, h, i, v, hv => by
    simp only [getTs] at h
    split at h
    · rename_i x hx
      split at h
      · rename_i xs hxs
        injection h with h; subst h
        simp only [renJs, setTs, Tr.get_set] at hv
        split at hv
        · rename_i hit
          injection hv with hv; subst hv hit
          exact ⟨x, hx, renJ_cv hi x⟩
        · exact setTs_get hi hxs i v hv
      · cases h
    · cases h

/-- A canonical state. -/
def stOf (N : Nat) (ts : List Nat) (vs : List AV) (bs : List ABlk) : St := ⟨N, setTs ts vs, hOf bs, []⟩

/-- What a state comes to where only some temporaries count. -/
def finS (oq : Opq) (N n : Nat) (ts : List Nat) (s : St) (K : List AV → List ABlk → Prop) : Prop := match Nat.beq s.n N, getTs s.tmps ts with
  | true, some vs =>
    let ids := reach oq s.h 100 0 (idsVs vs (upTo n 0))
    match distinct ids && sameB 0 (ids.take n) && Nat.ble n ids.length with
    | true => needAll oq s.h ids (K (renJs (posOf ids) vs) (snapL oq (posOf ids) s.h ids))
    | false => False
  | _, _ => False

theorem finS_spec {C : Ctx} {oq : Opq} {N n : Nat} (hg : ∀ g b, C.gs g = some b → b < n) {ts : List Nat} {s : St} {K : List AV → List ABlk → Prop} (h : finS oq N n ts s K) :
    ∃ V L, K V L ∧ Cov C n s (stOf N ts V L) := by
  unfold finS at h
  split at h
  · rename_i vs hN hvs
    have hN := Nat.eq_of_beq_eq_true hN
    simp only at h
    split at h
    · rename_i hb
      simp only [Bool.and_eq_true] at hb
      obtain ⟨⟨h1, h2⟩, h3⟩ := hb
      generalize reach oq s.h 100 0 (idsVs vs (upTo n 0)) = ids at *
      have hlen := Nat.le_of_ble_eq_true h3
      have hi : ∀ b j, posOf ids b = some j → nth ids j = some b := fun b j => posOf_nth
      obtain ⟨h4, h5⟩ := needAll_iff h
      have hsame : ∀ b, b < n → nth ids b = some b := fun b hb => by
        have := sameB_spec h2 b (by rw [List.length_take]; omega)
        rw [nth_take _ _ _ hb, Nat.zero_add] at this; exact this
      refine ⟨_, _, h5, ⟨nth ids, ⟨hsame, fun b b' c hb hb' => distinct_spec h1 b b' c hb hb', fun b hb => ?_, fun b c hb => ?_, hOf_wf _, ?_⟩, fun g b hgb => hsame b (hg g b hgb), hN.symm, setTs_get hi hvs⟩⟩
      · simp only [stOf] at hb
        rw [hOf_next, snapL_length] at hb
        exact nth_none hb
      · simp only [stOf]
        rw [hOf_get, snapL_nth, hb]
        exact asFn_cb (snapC_cb hi (h4 b c hb))
      · simp only [stOf]
        rw [hOf_next, snapL_length]; exact hlen
    · exact h.elim
  · exact h.elim

/-- Where a piece of a function comes to: on with it, out of a block, back with a result. -/
def leaf (oq : Opq) (P : Program) (rs : List ResultVar) (N n : Nat) (ts : List Nat) (KN : List AV → List ABlk → Prop) (KE : Nat → List AV → List ABlk → Prop) (KV : AV → Prop) : AExit → St → Prop := fun x s => match x with
  | .normal => finS oq N n ts s KN
  | .exit id => finS oq N n ts s (KE id)
  | .ret => match resultsA P s.h s.tmps rs with
    | some vs => KV (oneOrTup vs)
    | none => False
  | .goto _ => False

/-- What counts at the end of a function: the result. -/
def Ends (P : Program) (rs : List ResultVar) (V : AV → Prop) : AExit → St → Prop := fun x s => (x = .normal ∨ x = .ret) ∧ ∃ vs, resultsA P s.h s.tmps rs = some vs ∧ V (oneOrTup vs)

end Go.Abs

/-! Pieces of a body: a list of codes, run one behind the other. -/
namespace Go.Abs
open Go

def flatC : Code → List Code → List Code
  | .seq a b, r => flatC a (flatC b r)
  | c, r => c :: r

def AWL (C : Ctx) (n : Nat) : List Code → St → (AExit → St → Prop) → Prop
  | [], s, K => K .normal s
  | c :: cs, s, K => AW C n c s fun x s1 => match x with
    | .normal => AWL C n cs s1 K
    | x => K x s1

section
variable {C : Ctx} {n : Nat}

theorem AWL.mono : ∀ {cs : List Code} {s : St} {K K' : AExit → St → Prop}, AWL C n cs s K → (∀ x s', K x s' → K' x s') → AWL C n cs s K'
  | [], s, _, _, h, hk => hk _ _ h
  | c :: cs, s, K, K', h, hk => AW.mono (show AW C n c s _ from h) fun x s1 hx => by
    cases x with
    | normal => exact AWL.mono (show AWL C n cs s1 K from hx) hk
    | exit id => exact hk _ _ hx
    | goto l => exact hk _ _ hx
    | ret => exact hk _ _ hx

theorem flat_aw : ∀ (c : Code) (r : List Code) (s : St) (K : AExit → St → Prop), AWL C n (flatC c r) s K → AW C n c s fun x s1 => match x with | .normal => AWL C n r s1 K | x => K x s1 := by
  intro c
  induction c with
  | seq a b iha ihb =>
    intro r s K h
    simp only [flatC] at h
    refine AW.seq (AW.mono (iha _ _ _ h) fun x s1 hx => ?_)
    cases x with
    | normal => exact ihb r s1 K hx
    | exit id => exact hx
    | goto l => exact hx
    | ret => exact hx
  | _ =>
    intro r s K h
    exact h

theorem AW.of_flat {c : Code} {s : St} {K : AExit → St → Prop} (h : AWL C n (flatC c []) s K) : AW C n c s K := by
  refine AW.mono (flat_aw c [] s K h) fun x s1 hx => ?_
  cases x <;> exact hx

theorem AWL.append : ∀ {cs ds : List Code} {s : St} {K : AExit → St → Prop}, AWL C n cs s (fun x s1 => match x with | .normal => AWL C n ds s1 K | x => K x s1) → AWL C n (cs ++ ds) s K
  | [], _, _, _, h => h
  | c :: cs, ds, s, K, h => AW.mono (show AW C n c s _ from h) fun x s1 hx => by
    cases x with
    | normal => exact AWL.append (show AWL C n cs s1 _ from hx)
    | exit id => exact hx
    | goto l => exact hx
    | ret => exact hx

theorem AWL.split (k : Nat) {cs : List Code} {s : St} {K : AExit → St → Prop} (h : AWL C n (cs.take k) s (fun x s1 => match x with | .normal => AWL C n (cs.drop k) s1 K | x => K x s1)) : AWL C n cs s K := by
  have := AWL.append h
  rwa [List.take_append_drop] at this

theorem AWL.cov {cs : List Code} {s s0 : St} {K : AExit → St → Prop} (hne : cs ≠ []) (h : Cov C n s s0) (ha : AWL C n cs s0 K) : AWL C n cs s K := by
  cases cs with
  | nil => exact absurd rfl hne
  | cons c cs => exact AW.cov h (show AW C n c s0 _ from ha)

/-- A list of codes, split at conditions. -/
def wexecL (C : Ctx) (X : Rdr) (f : Nat) : List Code → St → (AExit → St → Prop) → Prop
  | [], s, K => K .normal s
  | c :: cs, s, K => wexec C X f c s fun x s1 => match x with
    | .normal => wexecL C X f cs s1 K
    | x => K x s1

theorem AWL.exec (hfit : Fit C.P) (horc : CallOK C C.orc) {X : Rdr} (hX : X.ok C) {f : Nat} : ∀ {cs : List Code} {s : St} {K : AExit → St → Prop}, wexecL C X f cs s K → AWL C n cs s K
  | [], _, _, h => h
  | c :: cs, s, K, h => AW.mono (AW.exec hfit horc hX (show wexec C X f c s _ from h)) fun x s1 hx => by
    cases x with
    | normal => exact AWL.exec hfit horc hX (show wexecL C X f cs s1 K from hx)
    | exit id => exact hx
    | goto l => exact hx
    | ret => exact hx

/-- A body that ends well: what its callers see. -/
theorem AW.calls {g : Nat} {fn : Func} {c : Code} (hf : C.P.funcs[g]? = some fn) (hb : fn.body = some c) {args : List AV} {h : AH} {V : AV → Prop}
    (haw : AW C n c ⟨args.length + (fn.ntmps - args.length), argsT args 0 .lf, h, []⟩ (Ends C.P fn.results.toList V)) (hn : n ≤ h.next) (hwf : WF h) {ρ : Ren} {w : World} {vs : List Value} (hg : GlobR C.gs ρ) (hr : HR ρ h w)
    (hvs : VRs ρ args vs) : Calls C.P g vs.toArray w fun e w' => ∃ v u ρ' h', e = .returned u ∧ V v ∧ VR ρ' v u ∧ HR ρ' h' w' ∧ Fk n ρ h w ρ' h' w' := by
  refine calls_of_wp hf hb ?_
  have hlen := hvs.length
  have hsz : vs.toArray.size = args.length := by simp [hlen]
  rw [hsz]
  refine haw ρ _ w _ hn hwf ⟨args_rel hvs _, hr, hg⟩ fun x s' ρ' a' w' hK hn' hwf' hrel' hf' => ?_
  obtain ⟨hx, rs, hrs, hV⟩ := hK
  obtain ⟨u, hu1, hu2⟩ := results_sound (P := C.P) hrel'.hr hrel'.tmp.val hrs
  rcases hx with rfl | rfl
  · exact ⟨hrel'.tmp.dfr, u, hu1, _, u, ρ', s'.h, rfl, hV, hu2, hrel'.hr, hf'⟩
  · exact ⟨hrel'.tmp.dfr, u, hu1, _, u, ρ', s'.h, rfl, hV, hu2, hrel'.hr, hf'⟩

end

/-- Two oracles, one behind the other. -/
def orElse (a b : CallF) : CallF := fun g args h => match a g args h with
  | some r => some r
  | none => b g args h

theorem orElse_ok {C : Ctx} {a b : CallF} (ha : CallOK C a) (hb : CallOK C b) : CallOK C (orElse a b) := by
  intro g args h r hr
  unfold orElse at hr
  split at hr
  · rename_i r' hr'
    injection hr with hr; subst hr
    exact ha g args h r' hr'
  · exact hb g args h r hr

end Go.Abs

/-! Functions with loops: contracts from pieces. -/
namespace Go.Abs
open Go

/-- The end of a function: the value, and the blocks that are reached. -/
def EndsF (oq : Opq) (P : Program) (rs : List ResultVar) (m : Nat) (K : AV → List ABlk → Prop) : AExit → St → Prop := fun x s => match x with
  | .normal | .ret => match resultsA P s.h s.tmps rs with
    | some vs => fin oq m (oneOrTup vs) s.h K
    | none => False
  | _ => False

/-- Where a piece of a function comes to: on with it, out of a block, back with a result. -/
def leafF (oq : Opq) (P : Program) (rs : List ResultVar) (N n m : Nat) (ts : List Nat) (KN : List AV → List ABlk → Prop) (KE : Nat → List AV → List ABlk → Prop) (KF : AV → List ABlk → Prop) : AExit → St → Prop := fun x s => match x with
  | .normal => finS oq N n ts s KN
  | .exit id => finS oq N n ts s (KE id)
  | .ret => match resultsA P s.h s.tmps rs with
    | some vs => fin oq m (oneOrTup vs) s.h KF
    | none => False
  | .goto _ => False

theorem fin_mono {oq : Opq} {n : Nat} {v : AV} {h : AH} {K K' : AV → List ABlk → Prop} (hf : fin oq n v h K) (hk : ∀ V L, K V L → K' V L) : fin oq n v h K' := by
  have key : ∀ (l : List Nat) (p q : Prop), (p → q) → needAll oq h l p → needAll oq h l q := by
    intro l
    induction l with
    | nil => exact fun p q hpq hp => hpq hp
    | cons b bs ih =>
      intro p q hpq hp
      have : ∀ (B : ABlk) (p q : Prop), (p → q) → needs B p → needs B q := by
        intro B p q hpq hp
        cases B with
        | dead => exact hpq hp
        | map es => exact hpq hp
        | cells c =>
          unfold needs at *
          simp only at *
          cases hs : c.sto with
          | tr t d => rw [hs] at hp; exact hpq hp
          | fn d => rw [hs] at hp; exact ⟨hp.1, hpq hp.2⟩
      exact this _ _ _ (ih p q hpq) hp
  unfold fin at *
  simp only at *
  split at hf
  · rename_i hb
    exact key _ _ _ (hk _ _) hf
  · exact hf.elim

section
variable {C : Ctx} {n : Nat}

theorem enter_of (hfit : Fit C.P) {g : Nat} {fn : Func} {c : Code} (hf : C.P.funcs[g]? = some fn) (hb : fn.body = some c) (xs : Array Value) (w : World) : (callFunc g xs).run C.P w = .ok (.enter g xs) w := by
  have hn := hfit.named g fn hf (by rw [hb]; simp)
  simp only [callFunc, Sem.run_bind, run_program, Result.andThen_ok, hf, hn, hb, Option.isNone_some, Bool.false_eq_true, if_false, Sem.run_pure]

def plains : List ABlk → Prop
  | [] => True
  | B :: Bs => plainB B ∧ plains Bs

theorem plains_nth : ∀ {l : List ABlk}, plains l → ∀ j b, nth l j = some b → plainB b
  | [], _, j, b, h => by simp [nth] at h
  | x :: xs, hp, j, b, h => by
    cases j with
    | zero =>
      have : x = b := by simpa [nth] using h
      rw [← this]; exact hp.1
    | succ j => exact plains_nth hp.2 j b (by simpa [nth] using h)

/-- A contract from the pieces of a body. -/
theorem Small.of_flat (hfit : Fit C.P) {oq : Opq} {g : Nat} {fn : Func} {c : Code} (hf : C.P.funcs[g]? = some fn) (hb : fn.body = some c) {args : List AV} {bs : List ABlk} {V : AV} {L : List ABlk}
    (hle : Nat.ble bs.length L.length = true) (hrw : allRw (L.drop bs.length) = true) (hpl : plains L) (h : AWL C bs.length (flatC c []) ⟨args.length + (fn.ntmps - args.length), argsT args 0 .lf, hOf bs, []⟩ (EndsF oq C.P fn.results.toList bs.length fun v l => v = V ∧ l = L)) : Small C g args (hOf bs) V (hOf L) := by
  have haw := AW.of_flat h
  -- what the end shows
  have ends : ∀ x s, EndsF oq C.P fn.results.toList bs.length (fun v l => v = V ∧ l = L) x s → (x = .normal ∨ x = .ret) ∧ ∃ vs, resultsA C.P s.h s.tmps fn.results.toList = some vs ∧ fin oq bs.length (oneOrTup vs) s.h fun v l => v = V ∧ l = L := by
    intro x s hx
    unfold EndsF at hx
    cases x with
    | normal =>
      simp only at hx
      split at hx
      · rename_i vs hvs; exact ⟨.inl rfl, vs, hvs, hx⟩
      · exact hx.elim
    | ret =>
      simp only at hx
      split at hx
      · rename_i vs hvs; exact ⟨.inr rfl, vs, hvs, hx⟩
      · exact hx.elim
    | exit id => exact hx.elim
    | goto l => exact hx.elim
  refine ⟨enter_of hfit hf hb, fun ρ w vs hg hr hvs => ?_, ?_, fun j hj hlt => ?_, plain_hOf (plains_nth hpl)⟩
  · refine calls_of_wp hf hb ?_
    have hlen := hvs.length
    have hsz : vs.toArray.size = args.length := by simp [hlen]
    rw [hsz]
    refine haw ρ _ w _ (by rw [hOf_next]; exact Nat.le_refl _) (hOf_wf bs) ⟨args_rel hvs _, hr, hg⟩ fun x s' ρ' a' w' hK hn' hwf' hrel' hf' => ?_
    have hK' : EndsF oq C.P fn.results.toList bs.length (fun v l => v = V ∧ l = L) x s' := by
      cases x <;> exact hK
    obtain ⟨hx, rs, hrs, hfin⟩ := ends x s' hK'
    obtain ⟨v, l, ⟨rfl, rfl⟩, hpl', sel, hc, hcv, hnew⟩ := fin_spec hfin
    obtain ⟨u, hu1, hu2⟩ := results_sound (P := C.P) hrel'.hr hrel'.tmp.val hrs
    have hgood : ∃ u' ρ', Ending.returned u = .returned u' ∧ VR ρ' v u' ∧ HR ρ' (hOf l) w' ∧ Fk (hOf bs).next ρ (hOf bs) w ρ' (hOf l) w' := by
      refine ⟨u, under sel ρ', rfl, CV.vr _ _ _ hcv hu2, hc.hr hrel'.hr, ?_⟩
      rw [hOf_next]
      exact hc.fk' hf'
    rcases hx with rfl | rfl
    · exact ⟨hrel'.tmp.dfr, u, hu1, hgood⟩
    · exact ⟨hrel'.tmp.dfr, u, hu1, hgood⟩
  · rw [hOf_next, hOf_next]; exact Nat.le_of_ble_eq_true hle
  · rw [hOf_next] at hj hlt
    rw [hOf_get]
    obtain ⟨x, hx⟩ := nth_some (l := L) (j := j) hlt
    rw [hx]
    refine allRw_spec hrw (j - bs.length) _ ?_
    rw [nth_drop, show bs.length + (j - bs.length) = j by omega, hx]

/-- A piece, up to a canonical state. -/
theorem AWL.piece (hfit : Fit C.P) (horc : CallOK C C.orc) {X : Rdr} (hX : X.ok C) (hg : ∀ g b, C.gs g = some b → b < n) {oq : Opq} {N m f : Nat} {rs : List ResultVar} {ts : List Nat} (k : Nat) {cs : List Code} {s : St}
    {K : AV → List ABlk → Prop} (hne : cs.drop k ≠ [])
    (h : wexecL C X f (cs.take k) s (leafF oq C.P rs N n m ts (fun V L => AWL C n (cs.drop k) (stOf N ts V L) (EndsF oq C.P rs m K)) (fun _ _ _ => False) K)) : AWL C n cs s (EndsF oq C.P rs m K) := by
  refine AWL.split k (AWL.mono (AWL.exec hfit horc hX h) fun x s1 hx => ?_)
  cases x with
  | normal =>
    obtain ⟨V, L, hk, hcov⟩ := finS_spec hg (K := fun V L => AWL C n (cs.drop k) (stOf N ts V L) (EndsF oq C.P rs m K)) hx
    exact AWL.cov hne hcov hk
  | exit id =>
    obtain ⟨V, L, hk, _⟩ := finS_spec hg (K := fun _ _ => False) hx
    exact hk.elim
  | goto l => exact hx.elim
  | ret => exact hx

/-- The last piece. -/
theorem AWL.last (hfit : Fit C.P) (horc : CallOK C C.orc) {X : Rdr} (hX : X.ok C) {oq : Opq} {m f : Nat} {rs : List ResultVar} {cs : List Code} {s : St}
    {K : AV → List ABlk → Prop} (h : wexecL C X f cs s (EndsF oq C.P rs m K)) : AWL C n cs s (EndsF oq C.P rs m K) := AWL.exec hfit horc hX h

/-- A loop in its block: from a canonical state, by an invariant and a measure. -/
theorem AWL.loop (hfit : Fit C.P) (horc : CallOK C C.orc) {α : Type} (X : α → Rdr) (hX : ∀ p, (X p).ok C) (hg : ∀ g b, C.gs g = some b → b < n) {oq : Opq} {N m f : Nat} {rs : List ResultVar} {ts : List Nat} {id : Nat} {c : Code} {rest : List Code}
    {K : AV → List ABlk → Prop} (vals : α → List AV) (blks : α → List ABlk) (I : α → Prop) (μ : α → Nat) (hne : rest ≠ [])
    (round : ∀ p, I p → wexec C (X p) f c (stOf N ts (vals p) (blks p)) (leafF oq C.P rs N n m ts (fun V L => ∃ q, V = vals q ∧ L = blks q ∧ I q ∧ μ q < μ p)
      (fun i V L => i = id ∧ AWL C n rest (stOf N ts V L) (EndsF oq C.P rs m K)) K))
    (p : α) (hp : I p) : AWL C n (.block id (.loop c) :: rest) (stOf N ts (vals p) (blks p)) (EndsF oq C.P rs m K) := by
  refine AW.block (AW.mono (AW.loop (fun p => stOf N ts (vals p) (blks p)) I μ (K := fun x s1 => match x with
    | .normal => False
    | .exit i => i = id ∧ AWL C n rest s1 (EndsF oq C.P rs m K)
    | .ret => EndsF oq C.P rs m K .ret s1
    | .goto _ => False) (fun p hp => ?_) p hp) fun x s1 hx => ?_)
  · refine AW.mono (AW.exec hfit horc (hX p) (round p hp)) fun x s1 hx => ?_
    cases x with
    | normal =>
      obtain ⟨V, L, ⟨q, rfl, rfl, hq, hlt⟩, hcov⟩ := finS_spec hg (K := fun V L => ∃ q, V = vals q ∧ L = blks q ∧ I q ∧ μ q < μ p) hx
      exact ⟨q, hq, hcov, hlt⟩
    | exit i =>
      obtain ⟨V, L, ⟨rfl, hk⟩, hcov⟩ := finS_spec hg (K := fun V L => i = id ∧ AWL C n rest (stOf N ts V L) (EndsF oq C.P rs m K)) hx
      exact ⟨rfl, AWL.cov hne hcov hk⟩
    | goto l => exact hx.elim
    | ret => exact hx
  · cases x with
    | normal => exact hx.elim
    | exit i =>
      obtain ⟨rfl, hk⟩ := hx
      have : Nat.beq i i = true := Nat.beq_refl i
      simp only [this]
      exact hk
    | goto l => exact hx.elim
    | ret => exact hx

end
end Go.Abs

/-! A law: from its walk to what its row asks. -/
namespace Go.Abs
open Go Go.RowKit

theorem AWL.law {C : Ctx} {g : Nat} {fn : Func} {c : Code} (hf : C.P.funcs[g]? = some fn) (hb : fn.body = some c) {args : List AV} {bs : List ABlk} (hro : ∀ j B, nth bs j = some B → B.rw = false) {oq : Opq} {n : Nat} (hn : n ≤ bs.length)
    {N : Nat} {cs : List Code} {rs : List ResultVar} (hN : args.length + (fn.ntmps - args.length) = N) (hcs : flatC c [] = cs) (hrs : fn.results.toList = rs)
    (h' : AWL C n cs ⟨N, argsT args 0 .lf, hOf bs, []⟩ (EndsF oq C.P rs 0 fun v L => v = .bool true ∧ L = []))
    {ρ : Ren} {w : World} {vs : List Value} (hg : GlobR C.gs ρ) (hr : HR ρ (hOf bs) w) (hvs : VRs ρ args vs) :
    Calls C.P g vs.toArray w fun e w' => e = .returned (.bool true) ∧ Below w.heap.size w w' := by
  have h := h'
  rw [← hN, ← hcs, ← hrs] at h
  refine calls_of_wp hf hb ?_
  have hlen := hvs.length
  have hsz : vs.toArray.size = args.length := by simp [hlen]
  rw [hsz]
  refine AW.of_flat h ρ _ w _ (by rw [hOf_next]; exact hn) (hOf_wf bs) ⟨args_rel hvs _, hr, hg⟩ fun x s' ρ' a' w' hK hn' hwf' hrel' hf' => ?_
  have hbelow : Below w.heap.size w w' := by
    refine ⟨hf'.os, hf'.tape, hf'.output, hf'.size, fun k hk => hf'.keep k hk fun b g' hb' _ => ?_⟩
    show ((hOf bs).get b).rw = false
    rw [hOf_get]
    cases hj : nth bs b with
    | none => rfl
    | some B => exact hro b B hj
  have key : ∀ vs', resultsA C.P s'.h s'.tmps fn.results.toList = some vs' → fin oq 0 (oneOrTup vs') s'.h (fun v L => v = .bool true ∧ L = []) →
      ∃ v, (results fn a'.tmps).run C.P w' = .ok v w' ∧ (Ending.returned v = .returned (.bool true) ∧ Below w.heap.size w w') := by
    intro vs' hvs' hfin
    obtain ⟨v, L, ⟨rfl, rfl⟩, _, sel, hc, hcv, _⟩ := fin_spec hfin
    obtain ⟨u, hu1, hu2⟩ := results_sound (P := C.P) hrel'.hr hrel'.tmp.val hvs'
    have hu3 : oneOrTup vs' = .bool true := hcv
    rw [hu3] at hu2
    have hu4 : u = .bool true := hu2
    subst hu4
    exact ⟨_, hu1, rfl, hbelow⟩
  have hK' : EndsF oq C.P fn.results.toList 0 (fun v L => v = .bool true ∧ L = []) x s' := by
    cases x <;> exact hK
  unfold EndsF at hK'
  cases x with
  | normal =>
    simp only at hK'
    split at hK'
    · rename_i vs' hvs'; exact ⟨hrel'.tmp.dfr, key vs' hvs' hK'⟩
    · exact hK'.elim
  | ret =>
    simp only at hK'
    split at hK'
    · rename_i vs' hvs'; exact ⟨hrel'.tmp.dfr, key vs' hvs' hK'⟩
    · exact hK'.elim
  | exit id => exact hK'.elim
  | goto l => exact hK'.elim

/-! ## A heap of blocks that are only read -/
theorem HR.ro {bs : List ABlk} {gs : List Pl} {w : World} (h : ∀ j B, nth bs j = some B → B.rw = false ∧ ∃ g, nth gs j = some g ∧ BR (nth gs) g B w ∧ g.blk < w.heap.size) (hlen : gs.length = bs.length) : HR (nth gs) (hOf bs) w := by
  have at' : ∀ j g, nth gs j = some g → ∃ B, nth bs j = some B ∧ (hOf bs).get j = B ∧ B.rw = false ∧ BR (nth gs) g B w ∧ g.blk < w.heap.size := by
    intro j g hj
    obtain ⟨B, hB⟩ := nth_some (l := bs) (j := j) (by rw [← hlen]; exact nth_lt hj)
    obtain ⟨h1, g', hg', h2, h3⟩ := h j B hB
    rw [hj] at hg'; injection hg' with hg'; subst hg'
    exact ⟨B, hB, by rw [hOf_get, hB], h1, h2, h3⟩
  refine ⟨fun b g hb => ?_, fun b b' g g' hb hb' _ _ => ?_, fun b hb => ?_, fun b g hb => ?_⟩
  · obtain ⟨B, _, hB, _, hbr, _⟩ := at' b g hb
    rw [hB]; exact hbr
  · obtain ⟨B, _, hB, hrw, _, _⟩ := at' b g hb
    obtain ⟨B', _, hB', hrw', _, _⟩ := at' b' g' hb'
    exact .inr (.inr ⟨by rw [hB]; exact hrw, by rw [hB']; exact hrw'⟩)
  · rw [hOf_next] at hb
    exact nth_none (by rw [hlen]; exact hb)
  · obtain ⟨_, _, _, _, _, hlt⟩ := at' b g hb
    exact hlt

/-- A cell of the world, as far as it is seen. -/
def cellV : Option Value → AV
  | some (.int k n) => .int k n
  | some (.bool b) => .bool b
  | _ => .junk

theorem cellV_vr {ρ : Ren} {v : Value} : VR ρ (cellV (some v)) v := by
  unfold cellV
  split
  · rename_i h; injection h with h
  · rename_i h; injection h with h
  · trivial

theorem cellV_closed (o : Option Value) : (cellV o).closed = true := by
  unfold cellV
  split <;> rfl

def seen (w : World) (a : Addr) (i : Nat) : AV := cellV (w.cell? (a.add i))

theorem tab_world {w : World} {P : Program} (ht : Lib.TabIs P w "math/bits.deBruijn32tab" .u8 [0, 1, 28, 2, 29, 14, 24, 3, 30, 22, 20, 15, 25, 17, 4, 8, 31, 27, 13, 23, 21, 19, 16, 7, 26, 12, 18, 6, 11, 5, 10, 9]) (hg : P.globalNamed "math/bits.deBruijn32tab" = some 0) :
    HR (only0 0) tabH w := by
  have hc : ∀ (i n : Nat), tabL[i]? = some n → w.cell? ⟨0, i, none⟩ = some (.int .u8 n) := by
    intro i n hn
    have hi : i < 32 := by
      have := (List.getElem?_eq_some_iff.1 hn).1
      simpa [tabL] using this
    rw [ht.cell hg i (by simpa using hi)]
    have key : ∀ j : Fin 32, (tabL[j.1]?).map (fun n : Nat => (n : Int)) = some (([0, 1, 28, 2, 29, 14, 24, 3, 30, 22, 20, 15, 25, 17, 4, 8, 31, 27, 13, 23, 21, 19, 16, 7, 26, 12, 18, 6, 11, 5, 10, 9] : List Int).getD j.1 0) := by decide
    have := key ⟨i, hi⟩
    simp only [hn, Option.map] at this
    injection this with this
    rw [this]
  refine tab_of_world ?_ hc
  have h0 := hc 0 0 rfl
  unfold World.cell? at h0
  cases Nat.lt_or_ge 0 w.heap.size with
  | inl h => exact h
  | inr h =>
    have : w.heap[0]? = none := Array.getElem?_eq_none h
    simp [this] at h0

theorem tab_br {w : World} {ρ : Ren} (h : HR (only0 0) tabH w) : BR ρ ⟨0, 0, 0⟩ tabB w ∧ 0 < w.heap.size := by
  refine ⟨?_, h.lt 0 ⟨0, 0, 0⟩ rfl⟩
  have hb := h.blk 0 ⟨0, 0, 0⟩ rfl
  rw [tabH_get, if_pos rfl] at hb
  unfold BR tabB at *
  simp only at *
  intro i hi
  obtain ⟨v, hv, hr⟩ := hb i hi
  refine ⟨v, hv, VR.anywhere _ _ ?_ hr⟩
  have key : ∀ j : Fin 32, (listFn tabV j.1).closed = true := by decide
  exact key ⟨i, hi⟩

theorem blk_lt {w : World} {a : Addr} {v : Value} (h : w.cell? a = some v) : a.block < w.heap.size := by
  unfold World.cell? at h
  cases Nat.lt_or_ge a.block w.heap.size with
  | inl h => exact h
  | inr hge =>
    have : w.heap[a.block]? = none := Array.getElem?_eq_none hge
    simp [this] at h

/-- An input: cells of the world that are there. -/
theorem seen_br {w : World} {ρ : Ren} {b o : Nat} {n e z : Nat} (h : ∀ i, i < n → ∃ v, w.cell? ⟨b, o + i, none⟩ = some v) : BR ρ ⟨b, o, 0⟩ (.cells { sto := .fn (fun i => cellV (w.cell? ⟨b, o + i, none⟩)), n := n, elem := e, esz := z, ro := true }) w := by
  unfold BR
  simp only
  intro i hi
  obtain ⟨v, hv⟩ := h i hi
  refine ⟨v, hv, ?_⟩
  show VR ρ (cellV (w.cell? ⟨b, o + i, none⟩)) v
  rw [hv]
  exact cellV_vr

/-! ## What the row asks behind the call -/
open Go.ChangeShapes Go.WideShapes Go.ChangeAt in
theorem trodAll_stays {H : Type} {enc : TypeId × Value → H} {P : Program} (hl : laidOutB P = true) {W W' : World} (hb : Below W.heap.size W W') {sp : Nat → Bool} :
    ∀ {ts : List TypeId} {vs : List Value} {ds : List (DataW H)} {ps : List MemPlace}, ts.all (fun t => P.readableRec t && decide (t < P.types.size)) = true →
      DataW.TrodAll enc P W 0 (fun _ => true) true ts vs ds ps → (∀ p ∈ ps, p.block < W.heap.size) → (∀ p ∈ ps, sp p.block = true) → DataW.TrodAll enc P W' 0 sp true ts vs ds ps
  | [], [], [], _, _, h, _, _ => h
  | t :: ts, v :: vs, d :: ds, _, ht, h, hlt, hsp => by
    obtain ⟨p, q, h1, h2, rfl⟩ := h
    simp only [List.all_cons, Bool.and_eq_true, decide_eq_true_eq] at ht
    obtain ⟨⟨ht1, ht2⟩, ht3⟩ := ht
    refine ⟨p, q, ?_, ?_, rfl⟩
    · exact WideElems.Trod_stays hl ht1 ht2 h1 (fun x hx => hb.same (hlt x (List.mem_append_left _ hx))) (fun x hx => hsp x (List.mem_append_left _ hx))
    · exact trodAll_stays hl hb (by simpa using ht3) h2 (fun x hx => hlt x (List.mem_append_right _ hx)) (fun x hx => hsp x (List.mem_append_right _ hx))
  | [], _ :: _, _, _, _, h, _, _ => by simp [DataW.TrodAll] at h
  | [], [], _ :: _, _, _, h, _, _ => by simp [DataW.TrodAll] at h
  | _ :: _, [], _, _, _, h, _, _ => by simp [DataW.TrodAll] at h
  | _ :: _, _ :: _, [], _, _, h, _, _ => by simp [DataW.TrodAll] at h

/-- What a law's row asks: it answers true, and nothing that was there has turned. -/
theorem law_post {H : Type} {enc : TypeId × Value → H} {P : Program} {f : Func} {s : ChangeSpec} {W W' : World} {args : Array Value} {ds gs : List (DataW H)} {before : List MemPlace} {tb : TypeId}
    (hl : laidOutB P = true) (hps : f.params.toList.all (fun t => P.readableRec t && decide (t < P.types.size)) = true) (hr : f.resultTypes = #[tb]) (hb : P.underlying tb = some .bool) (hvars : s.vars = [])
    (hfn : gs = [] → s.fn H (ds ++ gs) = { results := [.lit (.bool true)], args := ds })
    (hW : DataW.Whole enc P f.params.toList s.vars false W args.toList ds gs before) (hbel : Below W.heap.size W W') : s.post enc P f false true false false W args (.bool true) W' := by
  have hlt : ∀ p ∈ before, p.block < W.heap.size := fun p hp => hW.lt p hp
  have hW' := hW
  obtain ⟨p, q, hA, hV, hps', _, _⟩ := hW
  rw [hvars] at hV
  have hgs : gs = [] ∧ q = [] := by
    cases gs with
    | nil => exact ⟨rfl, hV⟩
    | cons g gs => simp [DataW.TrodVars] at hV
  obtain ⟨rfl, rfl⟩ := hgs
  rw [List.append_nil] at hps'
  subst hps'
  have e := hfn rfl
  refine ⟨ds, [], before, [], before, [], hW', ?_, ?_, ?_, World.keptBut_mono (fun x hx => ⟨hx, .inr (.inl hx)⟩) (hbel.frame (· ∈ before)), fun h => by cases h⟩
  · rw [e, hr]
    exact ⟨[], [], ⟨1, by simp [DataW.trod, Value.cells, hb]⟩, rfl, rfl⟩
  · rw [e]
    exact trodAll_stays hl hbel hps hA hlt (fun x hx => by simpa using hlt x hx)
  · rw [e, hvars]
    rfl

/-! ## Arguments -/
open Go.ChangeShapes Go.WideShapes Go.ChangeAt in
/-- A slice of structs of one-cell fields that came in. -/
theorem slice_in {H : Type} {enc : TypeId × Value → H} {P : Program} {w : World} {t e : TypeId} {fs : Array Field} {v : Value} {d : DataW H} {ps : List MemPlace} {b0 : Nat}
    (ht : P.underlying t = some (.slice e)) (he : P.underlying e = some (.struct fs)) (hone : Deep.oneCellFields P fs = true) (hC : P.cellsOf e = fs.size) (hok : Value.okWide P w .any b0 t v) (h : DataW.Trod enc P w 0 (fun _ => true) true t v d ps) :
    v = .slice none 0 0 ∨ ∃ b o len cap, v = .slice (some ⟨b, o, none⟩) len cap ∧ len ≤ cap ∧ cap ≤ maxLen ∧ b < w.heap.size ∧ (∀ i, i < cap * fs.size → ∃ x, w.cell? ⟨b, o + i, none⟩ = some x) ∧
      ∀ i j f, i < cap → fs[j]? = some f → ∃ x y n, w.cell? ⟨b, o + (i * fs.size + j), none⟩ = some x ∧ DataW.trod enc P w 0 (fun _ => true) true n f.type [x] = some y := by
  obtain ⟨a0, len, cap, rfl⟩ := okWide_slice ht hok
  obtain ⟨fuel, hf⟩ := h
  rcases Deep.open_slice ht hf with ⟨h0, _⟩ | ⟨a, len', cap', m, n, D, Pl, hcs, _, hl, hm, hmm, _, hi⟩
  · refine .inl ?_
    have h1 : #[Value.slice a0 len cap].toList = [.slice none 0 0] := h0
    simpa using h1
  · refine .inr ?_
    have h1 : #[Value.slice a0 len cap].toList = [.slice (some a) len' cap'] := hcs
    have h2 : Value.slice a0 len cap = .slice (some a) len' cap' := by simpa using h1
    injection h2 with h3 h4 h5
    subst h3 h4 h5
    have hmc : m = cap := by rw [hmm]; rfl
    subst hmc
    -- the place
    have hspot : a.spot = none ∧ a.block < w.heap.size := by
      simp only [Value.okWide, ht, Cell.okWide, Cell.ok] at hok
      obtain ⟨_, _, _, hs, row, cells, hsh, _⟩ := hok
      refine ⟨hs, ?_⟩
      unfold World.shape? at hsh
      cases Nat.lt_or_ge a.block w.heap.size with
      | inl h => exact h
      | inr hge =>
        have : w.heap[a.block]? = none := Array.getElem?_eq_none hge
        rw [this] at hsh; cases hsh
    obtain ⟨b, o, sp⟩ := a
    obtain ⟨rfl, hlt⟩ := hspot
    have hadd : ∀ o k, (⟨b, o, none⟩ : Addr).add k = ⟨b, o + k, none⟩ := by
      intro o k
      unfold Addr.add
      split
      · rename_i hk; subst hk; rfl
      · rfl
    have fields : ∀ i j f, i < m → fs[j]? = some f → ∃ x y n, w.cell? ⟨b, o + (i * fs.size + j), none⟩ = some x ∧ DataW.trod enc P w 0 (fun _ => true) true n f.type [x] = some y := by
      intro i j f him hj
      obtain ⟨cs', hc, ht'⟩ := hi i him
      rw [hC] at hc
      obtain ⟨ys, n', hn', hy, hlen, hyl, hff⟩ := DataW.trod_struct he ht'
      obtain ⟨_, hcl, hat⟩ := World.cells?_some hc
      obtain ⟨ho, hk⟩ := Deep.hone_of hone j f hj
      have hjl : j < fs.size := (Array.getElem?_eq_some_iff.1 hj).1
      have hcell := hat j hjl
      have h1 := hff j f hj
      rw [ho, hk] at h1
      have hv : cs'[j]? = some (cs'[j]'(by omega)) := List.getElem?_eq_getElem (by omega)
      have hone' : (cs'.drop j).take 1 = [cs'[j]'(by omega)] := by
        rw [List.drop_eq_getElem_cons (by omega)]
        rfl
      rw [hone'] at h1
      have hys : ys[j]? = some (ys[j]'(by omega)) := List.getElem?_eq_getElem (by omega)
      refine ⟨_, _, n', ?_, h1.trans hys⟩
      rw [hadd, hadd] at hcell
      rw [show o + (i * fs.size + j) = o + i * fs.size + j by omega]
      exact hcell.trans hv
    refine ⟨b, o, len, m, rfl, hl, hm, hlt, fun i hilt => ?_, fields⟩
    have hpos : 0 < fs.size := by
      cases hz : fs.size with
      | zero => rw [hz] at hilt; omega
      | succ k => omega
    have hmod := Nat.mod_lt i hpos
    have hdiv : i / fs.size < m := Nat.div_lt_of_lt_mul (by rw [Nat.mul_comm]; exact hilt)
    obtain ⟨x, _, _, hx, _⟩ := fields (i / fs.size) (i % fs.size) (fs[i % fs.size]'hmod) hdiv (Array.getElem?_eq_getElem hmod)
    exact ⟨x, by rw [← hx, Nat.mul_comm, Nat.div_add_mod]⟩

open Go.ChangeShapes Go.WideShapes Go.ChangeAt in
/-- A field that is a number. -/
theorem field_int {H : Type} {enc : TypeId × Value → H} {P : Program} {w : World} {base : Nat} {sp : Nat → Bool} {hd : Bool} {n : Nat} {t : TypeId} {k : IntKind} {x : Value} {y : DataW H × List MemPlace} (ht : P.underlying t = some (.int k)) (h : DataW.trod enc P w base sp hd n t [x] = some y) :
    ∃ z, x = .int k z ∧ k.min ≤ z ∧ z ≤ k.max := by
  obtain ⟨z, h1, _, h3⟩ := DataW.trod_int ht h
  refine ⟨z, by simpa using h1, ?_⟩
  simpa [Lit.wf] using h3

end Go.Abs

/-! Blocks that are alike; lists of numbers as blocks. -/
namespace Go.Abs
open Go

/-- The same block, but for what cells hold that aren't there. -/
def likeB : ABlk → ABlk → Prop
  | .cells c, B => match c.sto with
    | .fn d => ∃ d', B = .cells { sto := .fn d', n := c.n, elem := c.elem, esz := c.esz, ro := c.ro } ∧ ∀ i, i < c.n → d i = d' i
    | .tr _ _ => B = .cells c
  | A, B => B = A

def likeL : List ABlk → List ABlk → Prop
  | [], L => L = []
  | A :: As, L => ∃ B Bs, L = B :: Bs ∧ likeB A B ∧ likeL As Bs

theorem likeB_refl (A : ABlk) : likeB A A := by
  cases A with
  | dead => rfl
  | map es => rfl
  | cells c =>
    obtain ⟨sto, n, e, z, ro⟩ := c
    cases sto with
    | tr t d => rfl
    | fn d => exact ⟨d, rfl, fun _ _ => rfl⟩

theorem likeL_refl : ∀ L : List ABlk, likeL L L
  | [] => rfl
  | A :: As => ⟨A, As, rfl, likeB_refl A, likeL_refl As⟩

theorem likeL_nth : ∀ {L L' : List ABlk}, likeL L L' → ∀ j B, nth L' j = some B → ∃ A, nth L j = some A ∧ likeB A B
  | [], _, h, j, B, hj => by rw [show _ = [] from h] at hj; simp [nth] at hj
  | A :: As, _, ⟨B', Bs, rfl, h1, h2⟩, j, B, hj => by
    cases j with
    | zero =>
      have : B' = B := by simpa [nth] using hj
      exact ⟨A, rfl, this ▸ h1⟩
    | succ j => exact likeL_nth h2 j B (by simpa [nth] using hj)

theorem likeL_length : ∀ {L L' : List ABlk}, likeL L L' → L'.length = L.length
  | [], _, h => by rw [show _ = [] from h]
  | _ :: _, _, ⟨_, _, rfl, _, h2⟩ => by simp [likeL_length h2]

theorem likeB_cb {sel : Nat → Option Nat} {A A' B : ABlk} (h : likeB A A') (hc : CBk sel A B) : CBk sel A' B := by
  cases A with
  | dead => rw [show A' = _ from h]; trivial
  | map es => rw [show A' = _ from h]; exact hc
  | cells c =>
    obtain ⟨sto, n, e, z, ro⟩ := c
    cases sto with
    | tr t d => rw [show A' = _ from h]; exact hc
    | fn d =>
      obtain ⟨d', rfl, hd⟩ := h
      cases B with
      | dead => exact hc.elim
      | map es => exact hc.elim
      | cells c' =>
        obtain ⟨h1, h2, h3, h4, h5⟩ := hc
        refine ⟨h1, h2, h3, h4, fun i hi => ?_⟩
        have := h5 i hi
        simp only [Sto.get] at this hi ⊢
        rw [← hd i hi]; exact this

theorem likeB_rw {A A' : ABlk} (h : likeB A A') : A'.rw = A.rw := by
  cases A with
  | dead => rw [show A' = _ from h]
  | map es => rw [show A' = _ from h]
  | cells c =>
    obtain ⟨sto, n, e, z, ro⟩ := c
    cases sto with
    | tr t d => rw [show A' = _ from h]
    | fn d => obtain ⟨d', rfl, hd⟩ := h; rfl

theorem cov_like_h {n : Nat} {h : AH} {L L' : List ABlk} {sel : Nat → Option Nat} (hl : likeL L L') (hc : CovH n h (hOf L) sel) : CovH n h (hOf L') sel := by
  have hn : (hOf L').next = (hOf L).next := by rw [hOf_next, hOf_next, likeL_length hl]
  refine ⟨hc.same, hc.inj, fun b hb => hc.top b (by rw [hn] at hb; exact hb), fun b c hb => ?_, hOf_wf _, by rw [hn]; exact hc.le⟩
  have h1 := hc.blk b c hb
  rw [hOf_get] at h1 ⊢
  cases hj : nth L' b with
  | none => trivial
  | some B =>
    obtain ⟨A, hA, hl'⟩ := likeL_nth hl b B hj
    rw [hA] at h1
    exact likeB_cb hl' h1

theorem cov_like {C : Ctx} {n N : Nat} {ts : List Nat} {s : St} {V : List AV} {L L' : List ABlk} (hl : likeL L L') (h : Cov C n s (stOf N ts V L)) : Cov C n s (stOf N ts V L') := by
  obtain ⟨sel, h1, h2, h3, h4⟩ := h.ex
  exact ⟨sel, cov_like_h hl h1, h2, h3, h4⟩

section
variable {C : Ctx} {n : Nat}

theorem Small.of_flatL (hfit : Fit C.P) {oq : Opq} {g : Nat} {fn : Func} {c : Code} (hf : C.P.funcs[g]? = some fn) (hb : fn.body = some c) {args : List AV} {bs : List ABlk} {V : AV} {L : List ABlk}
    (hle : Nat.ble bs.length L.length = true) (hrw : allRw (L.drop bs.length) = true) (hpl : plains L) (h : AWL C bs.length (flatC c []) ⟨args.length + (fn.ntmps - args.length), argsT args 0 .lf, hOf bs, []⟩ (EndsF oq C.P fn.results.toList bs.length fun v l => v = V ∧ likeL l L)) : Small C g args (hOf bs) V (hOf L) := by
  have haw := AW.of_flat h
  -- what the end shows
  have ends : ∀ x s, EndsF oq C.P fn.results.toList bs.length (fun v l => v = V ∧ likeL l L) x s → (x = .normal ∨ x = .ret) ∧ ∃ vs, resultsA C.P s.h s.tmps fn.results.toList = some vs ∧ fin oq bs.length (oneOrTup vs) s.h fun v l => v = V ∧ likeL l L := by
    intro x s hx
    unfold EndsF at hx
    cases x with
    | normal =>
      simp only at hx
      split at hx
      · rename_i vs hvs; exact ⟨.inl rfl, vs, hvs, hx⟩
      · exact hx.elim
    | ret =>
      simp only at hx
      split at hx
      · rename_i vs hvs; exact ⟨.inr rfl, vs, hvs, hx⟩
      · exact hx.elim
    | exit id => exact hx.elim
    | goto l => exact hx.elim
  refine ⟨enter_of hfit hf hb, fun ρ w vs hg hr hvs => ?_, ?_, fun j hj hlt => ?_, plain_hOf (plains_nth hpl)⟩
  · refine calls_of_wp hf hb ?_
    have hlen := hvs.length
    have hsz : vs.toArray.size = args.length := by simp [hlen]
    rw [hsz]
    refine haw ρ _ w _ (by rw [hOf_next]; exact Nat.le_refl _) (hOf_wf bs) ⟨args_rel hvs _, hr, hg⟩ fun x s' ρ' a' w' hK hn' hwf' hrel' hf' => ?_
    have hK' : EndsF oq C.P fn.results.toList bs.length (fun v l => v = V ∧ likeL l L) x s' := by
      cases x <;> exact hK
    obtain ⟨hx, rs, hrs, hfin⟩ := ends x s' hK'
    obtain ⟨v, l, ⟨rfl, hlike⟩, hpl', sel, hc0, hcv, hnew⟩ := fin_spec hfin
    have hc := cov_like_h hlike hc0
    obtain ⟨u, hu1, hu2⟩ := results_sound (P := C.P) hrel'.hr hrel'.tmp.val hrs
    have hgood : ∃ u' ρ', Ending.returned u = .returned u' ∧ VR ρ' v u' ∧ HR ρ' (hOf L) w' ∧ Fk (hOf bs).next ρ (hOf bs) w ρ' (hOf L) w' := by
      refine ⟨u, under sel ρ', rfl, CV.vr _ _ _ hcv hu2, hc.hr hrel'.hr, ?_⟩
      rw [hOf_next]
      exact hc.fk' hf'
    rcases hx with rfl | rfl
    · exact ⟨hrel'.tmp.dfr, u, hu1, hgood⟩
    · exact ⟨hrel'.tmp.dfr, u, hu1, hgood⟩
  · rw [hOf_next, hOf_next]; exact Nat.le_of_ble_eq_true hle
  · rw [hOf_next] at hj hlt
    rw [hOf_get]
    obtain ⟨x, hx⟩ := nth_some (l := L) (j := j) hlt
    rw [hx]
    refine allRw_spec hrw (j - bs.length) _ ?_
    rw [nth_drop, show bs.length + (j - bs.length) = j by omega, hx]


/-- A contract from a run. -/
theorem Small.of_wcallL (hfit : Fit C.P) (horc : CallOK C C.orc) {X : Rdr} (hX : X.ok C) {oq : Opq} {f g : Nat} {args : List AV} {bs : List ABlk} {V : AV} {L : List ABlk}
    (hle : Nat.ble bs.length L.length = true) (hrw : allRw (L.drop bs.length) = true) (hpl : plains L)
    (h : wcall C X f g args (hOf bs) fun r => fin oq bs.length r.v r.h fun v l => v = V ∧ likeL l L) : Small C g args (hOf bs) V (hOf L) := by
  obtain ⟨r, hr, hfin⟩ := (wdet hX f).2.2 g args _ _ h
  obtain ⟨v, l, ⟨rfl, hlike⟩, _, sel, hc0, hcv, _⟩ := fin_spec hfin
  have hc := cov_like_h hlike hc0
  obtain ⟨h1, _, h3⟩ := acall_ok hfit horc f g args _ r hr
  refine ⟨h1, fun ρ w vs hg hh hvs => ?_, by rw [hOf_next]; exact hc.le, fun j hj hlt => ?_, plain_hOf (plains_nth hpl)⟩
  · refine (h3 ρ w vs (hOf_wf bs) hg hh hvs).mono fun e w' hew => ?_
    obtain ⟨u, ρ', he, hu, hr', hf⟩ := hew
    refine ⟨u, under sel ρ', he, CV.vr _ _ _ hcv hu, hc.hr hr', ?_⟩
    have := hf.fk (n := bs.length) (by rw [hOf_next]; exact Nat.le_refl _)
    rw [hOf_next]
    exact hc.fk' this
  · rw [hOf_next] at hj hlt
    rw [hOf_get]
    obtain ⟨x, hx⟩ := nth_some (l := L) (j := j) hlt
    rw [hx]
    refine allRw_spec hrw (j - bs.length) _ ?_
    rw [nth_drop, show bs.length + (j - bs.length) = j by omega, hx]

end

/-! ## Walks: pieces of a body, one behind the other -/
/-- A statement that isn't to be looked into. -/
structure Holds (p : Prop) : Prop where
  out : p

theorem Holds.tree {p q : Prop} (h : p = q) (hq : q) : Holds p := ⟨h.mpr hq⟩

structure Walk (C : Ctx) (n : Nat) (cs : List Code) (s : St) (K : AExit → St → Prop) : Prop where
  aw : AWL C n cs s K

/-- A contract from the walk through a body. -/
theorem Walk.small {C : Ctx} (hfit : Fit C.P) {oq : Opq} {g : Nat} {fn : Func} {c : Code} {N n : Nat} {rs : List ResultVar} {cs : List Code} {args : List AV} {bs : List ABlk} {V : AV} {L : List ABlk}
    (hf : C.P.funcs[g]? = some fn) (hb : fn.body = some c) (hN : args.length + (fn.ntmps - args.length) = N) (hcs : flatC c [] = cs) (hrs : fn.results.toList = rs) (hn : bs.length = n)
    (hle : Nat.ble n L.length = true) (hrw : allRw (L.drop n) = true) (hpl : plains L)
    (h : Walk C n cs ⟨N, argsT args 0 .lf, hOf bs, []⟩ (EndsF oq C.P rs n fun v l => v = V ∧ likeL l L)) : Small C g args (hOf bs) V (hOf L) := by
  subst hN hcs hrs hn
  exact Small.of_flatL hfit hf hb hle hrw hpl h.aw

theorem Walk.piece {C : Ctx} {n : Nat} (hfit : Fit C.P) (horc : CallOK C C.orc) {X : Rdr} (hX : X.ok C) (hg : ∀ g b, C.gs g = some b → b < n) {oq : Opq} {N m f : Nat} {rs : List ResultVar} {ts : List Nat} {pre : List Code} {c : Code} {post : List Code} {s : St}
    {K : AV → List ABlk → Prop}
    (h : Holds (wexecL C X f pre s (leafF oq C.P rs N n m ts (fun V L => ∃ L', likeL L L' ∧ Walk C n (c :: post) (stOf N ts V L') (EndsF oq C.P rs m K)) (fun _ _ _ => False) K))) : Walk C n (pre ++ c :: post) s (EndsF oq C.P rs m K) := by
  refine ⟨AWL.append (AWL.mono (AWL.exec hfit horc hX h.out) fun x s1 hx => ?_)⟩
  cases x with
  | normal =>
    obtain ⟨V, L, ⟨L', hl, hk⟩, hcov⟩ := finS_spec hg (K := fun V L => ∃ L', likeL L L' ∧ Walk C n (c :: post) (stOf N ts V L') (EndsF oq C.P rs m K)) hx
    exact AWL.cov (List.cons_ne_nil _ _) (cov_like hl hcov) hk.aw
  | exit id =>
    obtain ⟨V, L, hk, _⟩ := finS_spec hg (K := fun _ _ => False) hx
    exact hk.elim
  | goto l => exact hx.elim
  | ret => exact hx

theorem Walk.last {C : Ctx} {n : Nat} (hfit : Fit C.P) (horc : CallOK C C.orc) {X : Rdr} (hX : X.ok C) {oq : Opq} {m f : Nat} {rs : List ResultVar} {cs : List Code} {s : St}
    {K : AV → List ABlk → Prop} (h : Holds (wexecL C X f cs s (EndsF oq C.P rs m K))) : Walk C n cs s (EndsF oq C.P rs m K) := ⟨AWL.exec hfit horc hX h.out⟩

theorem Walk.loop {C : Ctx} {n : Nat} (hfit : Fit C.P) (horc : CallOK C C.orc) {α : Type} (X : α → Rdr) (hX : ∀ p, (X p).ok C) (hg : ∀ g b, C.gs g = some b → b < n) {oq : Opq} {N m f : Nat} {rs : List ResultVar} {ts : List Nat} {id : Nat} {c : Code} {rest : List Code}
    {K : AV → List ABlk → Prop} (vals : α → List AV) (blks : α → List ABlk) (I : α → Prop) (μ : α → Nat) (hne : rest.isEmpty = false)
    (round : ∀ p, I p → Holds (wexec C (X p) f c (stOf N ts (vals p) (blks p)) (leafF oq C.P rs N n m ts (fun V L => ∃ q, V = vals q ∧ likeL L (blks q) ∧ I q ∧ μ q < μ p)
      (fun i V L => i = id ∧ ∃ L', likeL L L' ∧ Walk C n rest (stOf N ts V L') (EndsF oq C.P rs m K)) K)))
    (p : α) (hp : I p) : Walk C n (.block id (.loop c) :: rest) (stOf N ts (vals p) (blks p)) (EndsF oq C.P rs m K) := by
  have hne' : rest ≠ [] := fun e => by rw [e] at hne; cases hne
  refine ⟨AW.block (AW.mono (AW.loop (fun p => stOf N ts (vals p) (blks p)) I μ (K := fun x s1 => match x with
    | .normal => False
    | .exit i => i = id ∧ AWL C n rest s1 (EndsF oq C.P rs m K)
    | .ret => EndsF oq C.P rs m K .ret s1
    | .goto _ => False) (fun p hp => ?_) p hp) fun x s1 hx => ?_)⟩
  · refine AW.mono (AW.exec hfit horc (hX p) (round p hp).out) fun x s1 hx => ?_
    cases x with
    | normal =>
      obtain ⟨V, L, ⟨q, rfl, hl, hq, hlt⟩, hcov⟩ := finS_spec hg (K := fun V L => ∃ q, V = vals q ∧ likeL L (blks q) ∧ I q ∧ μ q < μ p) hx
      exact ⟨q, hq, cov_like hl hcov, hlt⟩
    | exit i =>
      obtain ⟨V, L, ⟨rfl, L', hl, hk⟩, hcov⟩ := finS_spec hg (K := fun V L => i = id ∧ ∃ L', likeL L L' ∧ Walk C n rest (stOf N ts V L') (EndsF oq C.P rs m K)) hx
      exact ⟨rfl, AWL.cov hne' (cov_like hl hcov) hk.aw⟩
    | goto l => exact hx.elim
    | ret => exact hx
  · cases x with
    | normal => exact hx.elim
    | exit i =>
      obtain ⟨rfl, hk⟩ := hx
      have : Nat.beq i i = true := Nat.beq_refl i
      simp only [this]
      exact hk
    | goto l => exact hx.elim
    | ret => exact hx

/-- A contract from a run, in plain numbers. -/
theorem Small.of_run {C : Ctx} (hfit : Fit C.P) (horc : CallOK C C.orc) {X : Rdr} (hX : X.ok C) {oq : Opq} {f g n : Nat} {args : List AV} {bs : List ABlk} {V : AV} {L : List ABlk} (hn : bs.length = n)
    (hle : Nat.ble n L.length = true) (hrw : allRw (L.drop n) = true) (hpl : plains L)
    (h : Holds (wcall C X f g args (hOf bs) fun r => fin oq n r.v r.h fun v l => v = V ∧ likeL l L)) : Small C g args (hOf bs) V (hOf L) := by
  subst hn
  exact Small.of_wcallL hfit horc hX hle hrw hpl h.out

/-! ## Lists of numbers -/
def ints (l : List Int) : List AV := l.map (.int .i64)

/-- A block of cells that are listed. -/
def lstB (e z : Nat) (cs : List AV) (n : Nat) : ABlk := .cells { sto := .fn (listFn cs), n := n, elem := e, esz := z, ro := false }

@[simp] theorem ints_length (l : List Int) : (ints l).length = l.length := by simp [ints]

theorem listFn_getD : ∀ (cs : List AV) (i : Nat), listFn cs i = (cs[i]?).getD .junk
  | [], i => by simp [listFn]
  | x :: xs, i => by
    cases i with
    | zero => simp [listFn]
    | succ i => simp only [listFn, List.getElem?_cons_succ]; exact listFn_getD xs i

theorem listFn_ints {l : List Int} {i : Nat} (h : i < l.length) : listFn (ints l) i = .int .i64 (l.getD i 0) := by
  rw [listFn_getD]
  simp [ints, h]

theorem listFn_set {cs : List AV} {i : Nat} {v : AV} (h : i < cs.length) : (fun j => bif Nat.beq j i then v else listFn cs j) = listFn (cs.set i v) := by
  funext j
  rw [listFn_getD, listFn_getD, List.getElem?_set]
  by_cases hj : j = i
  · subst hj
    rw [Nat.beq_refl, if_pos rfl, if_pos h]; rfl
  · have : Nat.beq j i = false := by
      cases hb : Nat.beq j i with
      | false => rfl
      | true => exact absurd (Nat.eq_of_beq_eq_true hb) hj
    rw [this, if_neg (fun e => hj e.symm)]; rfl

theorem ints_set (l : List Int) (i : Nat) (v : Int) : (ints l).set i (.int .i64 v) = ints (l.set i v) := by
  simp [ints, List.map_set]

theorem readL_list {cs : List AV} : ∀ {n k : Nat}, k + n ≤ cs.length → readL (.fn (listFn cs)) k n = (cs.drop k).take n
  | 0, k, _ => by simp [readL]
  | n + 1, k, h => by
    simp only [readL, Sto.get]
    rw [readL_list (n := n) (k := k + 1) (by omega), listFn_getD, List.getElem?_eq_getElem (by omega), List.drop_eq_getElem_cons (by omega : k < cs.length), List.take_succ_cons]
    rfl

theorem readL_all {cs : List AV} {n : Nat} (h : n = cs.length) : readL (.fn (listFn cs)) 0 n = cs := by
  rw [readL_list (by omega), h]; simp

theorem closeds_ints (l : List Int) : AV.closeds (ints l) = true := by
  induction l with
  | nil => rfl
  | cons x xs ih => simpa [ints, AV.closeds, AV.closed] using ih

theorem listFn_closed {cs : List AV} (h : AV.closeds cs = true) (j : Nat) : (listFn cs j).closed = true := by
  induction cs generalizing j with
  | nil => rfl
  | cons x xs ih =>
    simp only [AV.closeds, Bool.and_eq_true] at h
    cases j with
    | zero => exact h.1
    | succ j => exact ih h.2 j

theorem plain_lst {e z : Nat} {cs : List AV} {n : Nat} (h : AV.closeds cs = true) : plainB (lstB e z cs n) := fun i _ => listFn_closed h i

end Go.Abs
