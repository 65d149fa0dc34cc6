/-
  Pieces of a body: a list of codes, run one behind the other. (Helper theorems; each says its own conditions.)
-/
import Derived.Test.YtghcfkgfccmaoaaGreatDoorAbs23

/-! Pieces of a body: a list of codes, run one behind the other. -/
namespace Go.Abs
open Go

def flatC : Code → List Code → List Code
  | .seq a b, r => flatC a (flatC b r)
  | c, r => c :: r

def AWL (C : Ctx) (n : Nat) : List Code → St → (AExit → St → Prop) → Prop
  | [], s, K => K .normal s
  | c :: cs, s, K => AW C n c s fun x s1 => match x with
    | .normal => AWL C n cs s1 K
    | x => K x s1

section
variable {C : Ctx} {n : Nat}

theorem AWL.mono : ∀ {cs : List Code} {s : St} {K K' : AExit → St → Prop}, AWL C n cs s K → (∀ x s', K x s' → K' x s') → AWL C n cs s K'
  | [], s, _, _, h, hk => hk _ _ h
  | c :: cs, s, K, K', h, hk => AW.mono (show AW C n c s _ from h) fun x s1 hx => by
    cases x with
    | normal => exact AWL.mono (show AWL C n cs s1 K from hx) hk
    | exit id => exact hk _ _ hx
    | goto l => exact hk _ _ hx
    | ret => exact hk _ _ hx

theorem flat_aw : ∀ (c : Code) (r : List Code) (s : St) (K : AExit → St → Prop), AWL C n (flatC c r) s K → AW C n c s fun x s1 => match x with | .normal => AWL C n r s1 K | x => K x s1 := by
  intro c
  induction c with
  | seq a b iha ihb =>
    intro r s K h
    simp only [flatC] at h
    refine AW.seq (AW.mono (iha _ _ _ h) fun x s1 hx => ?_)
    cases x with
    | normal => exact ihb r s1 K hx
    | exit id => exact hx
    | goto l => exact hx
    | ret => exact hx
  | _ =>
    intro r s K h
    exact h

theorem AW.of_flat {c : Code} {s : St} {K : AExit → St → Prop} (h : AWL C n (flatC c []) s K) : AW C n c s K := by
  refine AW.mono (flat_aw c [] s K h) fun x s1 hx => ?_
  cases x <;> exact hx

theorem AWL.append : ∀ {cs ds : List Code} {s : St} {K : AExit → St → Prop}, AWL C n cs s (fun x s1 => match x with | .normal => AWL C n ds s1 K | x => K x s1) → AWL C n (cs ++ ds) s K
  | [], _, _, _, h => h
  | c :: cs, ds, s, K, h => AW.mono (show AW C n c s _ from h) fun x s1 hx => by
    cases x with
    | normal => exact AWL.append (show AWL C n cs s1 _ from hx)
    | exit id => exact hx
    | goto l => exact hx
    | ret => exact hx

theorem AWL.split (k : Nat) {cs : List Code} {s : St} {K : AExit → St → Prop} (h : AWL C n (cs.take k) s (fun x s1 => match x with | .normal => AWL C n (cs.drop k) s1 K | x => K x s1)) : AWL C n cs s K := by
  have := AWL.append h
  rwa [List.take_append_drop] at this

theorem AWL.cov {cs : List Code} {s s0 : St} {K : AExit → St → Prop} (hne : cs ≠ []) (h : Cov C n s s0) (ha : AWL C n cs s0 K) : AWL C n cs s K := by
  cases cs with
  | nil => exact absurd rfl hne
  | cons c cs => exact AW.cov h (show AW C n c s0 _ from ha)

/-- A list of codes, split at conditions. -/
def wexecL (C : Ctx) (X : Rdr) (f : Nat) : List Code → St → (AExit → St → Prop) → Prop
  | [], s, K => K .normal s
  | c :: cs, s, K => wexec C X f c s fun x s1 => match x with
    | .normal => wexecL C X f cs s1 K
    | x => K x s1

theorem AWL.exec (hfit : Fit C.P) (horc : CallOK C C.orc) {X : Rdr} (hX : X.ok C) {f : Nat} : ∀ {cs : List Code} {s : St} {K : AExit → St → Prop}, wexecL C X f cs s K → AWL C n cs s K
  | [], _, _, h => h
  | c :: cs, s, K, h => AW.mono (AW.exec hfit horc hX (show wexec C X f c s _ from h)) fun x s1 hx => by
    cases x with
    | normal => exact AWL.exec hfit horc hX (show wexecL C X f cs s1 K from hx)
    | exit id => exact hx
    | goto l => exact hx
    | ret => exact hx

/-- A body that ends well: what its callers see. -/
theorem AW.calls {g : Nat} {fn : Func} {c : Code} (hf : C.P.funcs[g]? = some fn) (hb : fn.body = some c) {args : List AV} {h : AH} {V : AV → Prop}
    (haw : AW C n c ⟨args.length + (fn.ntmps - args.length), argsT args 0 .lf, h, []⟩ (Ends C.P fn.results.toList V)) (hn : n ≤ h.next) (hwf : WF h) {ρ : Ren} {w : World} {vs : List Value} (hg : GlobR C.gs ρ) (hr : HR ρ h w)
    (hvs : VRs ρ args vs) : Calls C.P g vs.toArray w fun e w' => ∃ v u ρ' h', e = .returned u ∧ V v ∧ VR ρ' v u ∧ HR ρ' h' w' ∧ Fk n ρ h w ρ' h' w' := by
  refine calls_of_wp hf hb ?_
  have hlen := hvs.length
  have hsz : vs.toArray.size = args.length := by simp [hlen]
  rw [hsz]
  refine haw ρ _ w _ hn hwf ⟨args_rel hvs _, hr, hg⟩ fun x s' ρ' a' w' hK hn' hwf' hrel' hf' => ?_
  obtain ⟨hx, rs, hrs, hV⟩ := hK
  obtain ⟨u, hu1, hu2⟩ := results_sound (P := C.P) hrel'.hr hrel'.tmp.val hrs
  rcases hx with rfl | rfl
  · exact ⟨hrel'.tmp.dfr, u, hu1, _, u, ρ', s'.h, rfl, hV, hu2, hrel'.hr, hf'⟩
  · exact ⟨hrel'.tmp.dfr, u, hu1, _, u, ρ', s'.h, rfl, hV, hu2, hrel'.hr, hf'⟩

end

/-- Two oracles, one behind the other. -/
def orElse (a b : CallF) : CallF := fun g args h => match a g args h with
  | some r => some r
  | none => b g args h

theorem orElse_ok {C : Ctx} {a b : CallF} (ha : CallOK C a) (hb : CallOK C b) : CallOK C (orElse a b) := by
  intro g args h r hr
  unfold orElse at hr
  split at hr
  · rename_i r' hr'
    injection hr with hr; subst hr
    exact ha g args h r' hr'
  · exact hb g args h r hr

end Go.Abs
