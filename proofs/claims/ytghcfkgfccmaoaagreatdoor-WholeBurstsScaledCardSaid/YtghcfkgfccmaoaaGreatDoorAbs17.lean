/-
  Soundness: regions, control, calls. (Helper theorems; each says its own conditions.)
-/
import Derived.Test.YtghcfkgfccmaoaaGreatDoorAbs16
import Derived.Scope

/-! Soundness: regions, control, calls. -/
namespace Go.Abs
open Go

/-! ## What an evaluation leaves -/
structure Later (s s' : St) : Prop where
  n : s'.n = s.n
  log : ∃ l, s'.log = l ++ s.log ∧ Mild s.h s'.h l

theorem Later.refl (s : St) : Later s s := ⟨rfl, [], rfl, .refl _ _⟩

theorem Later.trans {s s1 s2 : St} (a : Later s s1) (b : Later s1 s2) : Later s s2 := by
  obtain ⟨l, h1, h2⟩ := a.log
  obtain ⟨l', h3, h4⟩ := b.log
  exact ⟨b.n.trans a.n, l' ++ l, by rw [h3, h1, List.append_assoc], h2.trans h4⟩

theorem Later.wf {s s' : St} (a : Later s s') (h : WF s.h) : WF s'.h := by
  obtain ⟨l, _, h2⟩ := a.log
  exact h2.wf h

section
variable {C : Ctx} {cf : CallF}

theorem stepOp_later (hcf : CallOK C cf) {ops : Array Oper} {o : Oper} {s s' : St} {l : Log} (hs : stepOp C cf ops o s = some (s', l)) : Later s s' := by
  unfold stepOp at hs
  split at hs
  · split at hs
    · rename_i s1 hp
      injection hs with hs; injection hs with h1 h2; subst h1 h2
      obtain ⟨e1, e2, e3, _, _⟩ := putTmp_spec hp
      exact ⟨e1, [], by rw [e3]; rfl, by rw [e2]; exact .refl _ _⟩
    · cases hs
  · split at hs
    · rename_i r l' hop
      split at hs
      · rename_i s1 hp
        injection hs with hs; injection hs with h1 h2; subst h1 h2
        obtain ⟨e1, e2, e3, _, _⟩ := putTmp_spec hp
        have hm := opOutE_mild hcf (show opOutE C cf o (glob C.gs s.tmps) s.h = _ from hop)
        exact ⟨e1, r.log, e3, by rw [e2]; exact hm⟩
      · cases hs
    · cases hs
  · cases hs

theorem runOps_later (hcf : CallOK C cf) {ops : Array Oper} : ∀ {os : List Oper} {s s' : St}, runOps C cf ops os s = some s' → Later s s'
  | [], s, s', h => by simp only [runOps] at h; injection h with h; subst h; exact .refl _
  | o :: os, s, s', h => by
    simp only [runOps] at h
    split at h
    · rename_i s1 l hs
      exact (stepOp_later hcf hs).trans (runOps_later hcf h)
    · cases h

theorem runRec_later (hcf : CallOK C cf) {ops : Array Oper} : ∀ {xs : List It} {s s' : St} {rs rs' : List (Nat × Log)}, runRec C cf ops xs s rs = some (s', rs') → Later s s'
  | [], s, s', rs, rs', h => by simp only [runRec] at h; injection h with h; injection h with h1 h2; subst h1; exact .refl _
  | x :: xs, s, s', rs, rs', h => by
    simp only [runRec] at h
    split at h
    · rename_i s1 l hs
      exact (stepOp_later hcf hs).trans (runRec_later hcf h)
    · cases h

theorem runRegion_later (hcf : CallOK C cf) {ops : Array Oper} {draw : Bool} {s s' : St} (h : runRegion C cf ops draw s = some s') : Later s s' := by
  unfold runRegion at h
  split at h
  · exact runOps_later hcf h
  · split at h
    · split at h
      · rename_i s1 rs hr
        split at h
        · injection h with h; subst h; exact runRec_later hcf hr
        · cases h
      · cases h
    · cases h

theorem HR.drawn {ρ : Ren} {h : AH} {w : World} (hr : HR ρ h w) (n : Nat) : HR ρ h { w with drawn := n } :=
  ⟨fun b g hg => (hr.blk b g hg).same rfl, hr.inj, hr.fresh, hr.lt⟩

theorem Fr.drawn (n : Nat) (ρ : Ren) (h : AH) (w : World) (d : Nat) : Fr n ρ h w ρ h { w with drawn := d } :=
  ⟨rfl, rfl, rfl, Nat.le_refl _, fun _ _ _ => rfl, fun b g hb hr => .inl ⟨b, g, hb, hr, rfl⟩, fun _ _ => rfl, Nat.le_refl _, Ext.refl _⟩

theorem region_wp (hm : C.P.follows .mixedOrders = true) (hcf : CallOK C cf) {id : Nat} {ops : Array Oper} {draw : Bool} {Q : Exit → Act → World → Prop} {s s' : St} {ρ : Ren} {a : Act} {w : World}
    (hr : runRegion C cf ops draw s = some s') (hwf : WF s.h) (hrel : Rel C ρ s a w)
    (hQ : ∀ ρ' a' w', Rel C ρ' s' a' w' → Fr s.h.next ρ s.h w ρ' s'.h w' → Q .normal a' w') : (Code.region id ops draw).wp C.P Q a w := by
  cases draw with
  | false => exact region_text_wp hcf (show runOps C cf ops ops.toList s = some s' from hr) hwf hrel fun ρ' a' w' h1 _ h3 => hQ ρ' a' w' h1 h3
  | true =>
    simp only [runRegion] at hr
    split at hr
    · rename_i g hg
      split at hr
      · rename_i s1 rs hrun
        split at hr
        · rename_i hre
          injection hr with hr; subst hr
          obtain ⟨tr, h1, h2, h3⟩ := runRec_ok hg hrun hre
          have hord := (regOf_spec hg).1
          rw [← h1] at hord
          have hn := (h2.next hcf h3.ents).2
          refine wp_region_any hm ?_
          obtain ⟨mid, rest, hs, hne, hhead⟩ := firstEff tr
          subst hs
          obtain ⟨m, hc1, hc2⟩ := h2.append
          have hmidE : ∀ e ∈ mid, EntOK C cf ops e := fun e he => h3.ents e (List.mem_append_left _ he)
          have hr1 := hrel.hr.drawn (w.drawn + 1)
          obtain ⟨hm1, hm2⟩ := hc1.mild hcf hmidE hne hr1 s.h.next
          have hlast := hc2.last
          have hfalse : ∀ j, (Array.replicate ops.size false).getD j false = false := fun j => by
            rw [Array.getD_eq_getD_getElem?, Array.getElem?_replicate]
            split <;> rfl
          refine wpAny_all hcf hwf h3 h2 hord (ρ0 := ρ) (w0 := w) (fun a' w' ρ' e1 e2 e3 e4 => hQ ρ' a' w' ⟨by rw [hn]; exact e1, e2, e3⟩ e4) ops.size _ (List.range ops.size) a _ ρ mid rest (by simp) (by simp) (fun j hj _ => List.mem_range.2 hj) ?_
          refine ⟨rfl, fun e he hc => absurd hc (hne e he), fun e es he => ⟨hhead e es he, hfalse _⟩, by rw [hlast]; exact hm1, ?_, hrel.gl, ?_, fun e he _ _ _ => hr1.fresh _ ((hc1.bounds hcf hmidE he).1), fun j o hj _ => by simp only [hfalse] at hj; cases hj⟩
          · have : TS (fun j => (Array.replicate ops.size false).getD j false) (mid ++ rest) s.tmps.get = s.tmps.get := by
              funext t
              exact TS_none fun e _ _ => hfalse _
            rw [this]; exact hrel.tmp
          · rw [hlast]
            exact (Fr.drawn s.h.next ρ s.h w (w.drawn + 1)).trans hm2 (Nat.le_refl _)
        · cases hr
      · cases hr
    · cases hr

end

/-! ## Results, arguments -/
section
variable {P : Program}

def resF (tmps : Array Value) : ResultVar → Sem Value
  | .tmp t => pure (tmps.getD t undef)
  | .cell a t => do loadVar t (← asAddr (tmps.getD a undef))

theorem results_eq (fn : Func) (tmps : Array Value) : results fn tmps = (do
    let vs ← fn.results.mapM (resF tmps)
    pure (if h : vs.size = 1 then vs[0] else .tuple vs)) := by
  unfold results
  congr 1

theorem resultsA_run {ρ : Ren} {h : AH} {w : World} (hr : HR ρ h w) {T : Tr AV} {tmps : Array Value} (ht : ∀ i v, T.get i = some v → ∃ u, tmps[i]? = some u ∧ VR ρ v u) :
    ∀ {rs : List ResultVar} {vs : List AV}, resultsA P h T rs = some vs →
    ∃ us, VRs ρ vs us ∧ (rs.mapM (resF tmps)).run P w = .ok us w
  | [], vs, h => by
    simp only [resultsA] at h; injection h with h; subst h
    exact ⟨[], .nil, by simp [Sem.run_pure]⟩
  | r :: rs, vs, h => by
    simp only [resultsA] at h
    split at h
    · rename_i x hx
      split at h
      · rename_i xs hxs
        injection h with h; subst h
        obtain ⟨us, hus, hrun⟩ := resultsA_run hr ht hxs
        cases r with
        | tmp t =>
          simp only at hx
          obtain ⟨u, hu, hur⟩ := ht t x hx
          refine ⟨u :: us, .cons hur hus, ?_⟩
          have : tmps.getD t undef = u := by rw [Array.getD_eq_getD_getElem?, hu]; rfl
          simp only [List.mapM_cons, resF, Sem.run_bind, Sem.run_pure, Result.andThen_ok, hrun, this]
        | cell a t =>
          simp only at hx
          split at hx
          · rename_i v hv
            obtain ⟨u, hu, hur⟩ := ht a v hv
            obtain ⟨z, hz, hl⟩ := load_sound (P := P) hr hx hur
            refine ⟨z :: us, .cons hz hus, ?_⟩
            have he : tmps.getD a undef = u := by rw [Array.getD_eq_getD_getElem?, hu]; rfl
            have hptr : (do loadVar t (← asAddr u) : Sem Value).run P w = .ok z w := by
              unfold loadA at hx
              split at hx
              · obtain ⟨g, hg, rfl⟩ := hur
                simpa [Instr.loadAt, Instr.sureAddr, asAddr, Sem.run_bind, Sem.run_pure, Result.andThen_ok] using hl
              · cases hx
            have hF : (resF tmps (.cell a t)).run P w = .ok z w := by simp only [resF, he]; exact hptr
            rw [List.mapM_cons, Sem.run_bind, hF]
            simp only [Sem.run_bind, Sem.run_pure, Result.andThen_ok, hrun]
          · cases hx
      · cases h
    · cases h

theorem oneOrTup_run {ρ : Ren} {vs : List AV} {us : List Value} (h : VRs ρ vs us) : VR ρ (oneOrTup vs) (if h : us.toArray.size = 1 then us.toArray[0] else .tuple us.toArray) := by
  have hl := h.length
  match vs, us, h, hl with
  | [], [], h, _ => exact ⟨[], rfl, h⟩
  | [v], [u], h, _ => obtain ⟨_, _, he, h1, _⟩ := h; injection he with e1 e2; subst e1; exact h1
  | a :: b :: vs, x :: y :: us, h, _ =>
    simp only [List.size_toArray, List.length_cons]
    rw [dif_neg (by omega)]
    exact ⟨_, rfl, h⟩

theorem results_sound {ρ : Ren} {h : AH} {w : World} (hr : HR ρ h w) {T : Tr AV} {tmps : Array Value} (ht : ∀ i v, T.get i = some v → ∃ u, tmps[i]? = some u ∧ VR ρ v u) {fn : Func} {vs : List AV}
    (hs : resultsA P h T fn.results.toList = some vs) : ∃ v, (results fn tmps).run P w = .ok v w ∧ VR ρ (oneOrTup vs) v := by
  obtain ⟨us, hus, hrun⟩ := resultsA_run (P := P) hr ht hs
  refine ⟨_, ?_, oneOrTup_run hus⟩
  rw [results_eq, Array.mapM_eq_mapM_toList]
  simp only [map_eq_pure_bind, bind_assoc, pure_bind]
  rw [Sem.run_bind, hrun]
  rfl

theorem argsT_get : ∀ (vs : List AV) (i : Nat) (t : Tr AV) (j : Nat), (argsT vs i t).get j = if i ≤ j ∧ j < i + vs.length then vs[j - i]? else t.get j
  | [], i, t, j => by
    simp only [argsT, List.length_nil]
    rw [if_neg (by omega)]
  | v :: vs, i, t, j => by
    simp only [argsT]
    rw [argsT_get vs (i + 1) _ j, Tr.get_set]
    by_cases h1 : j = i
    · subst h1
      rw [if_neg (by omega), if_pos rfl, if_pos (by simp)]
      simp
    · by_cases h2 : i + 1 ≤ j ∧ j < i + 1 + vs.length
      · rw [if_pos h2, if_pos (by simp only [List.length_cons]; omega)]
        have : j - i = (j - (i + 1)) + 1 := by omega
        rw [this]; simp
      · rw [if_neg h2, if_neg h1, if_neg (by simp only [List.length_cons]; omega)]

theorem args_rel {ρ : Ren} {args : List AV} {vs : List Value} (h : VRs ρ args vs) (k : Nat) : TmpR ρ (argsT args 0 .lf).get (args.length + k) { tmps := vs.toArray ++ Array.replicate k undef, defers := [] } := by
  have hl := h.length
  refine ⟨fun i v hv => ?_, by simp [hl], rfl⟩
  rw [argsT_get] at hv
  split at hv
  · rename_i hi
    simp only [Nat.sub_zero] at hv
    obtain ⟨u, hu, hur⟩ := h.get i v hv
    refine ⟨u, ?_, hur⟩
    rw [Array.getElem?_append_left (by simp; omega)]
    simpa using hu
  · rw [Tr.get_lf] at hv; cases hv

end

/-! ## Control -/
def AExit.exit' : AExit → Exit
  | .normal => .normal
  | .exit id => .exit id
  | .goto l => .goto l
  | .ret => .ret

/-- From inside a loop. -/
def LoopWp (P : Program) (c : Code) (Q : Exit → Act → World → Prop) (a : Act) (w : World) : Prop :=
  ∀ (b : Frame) (k : List Item) (cs : List Frame), ∃ e a' w', Q e a' w' ∧ Arrives P (lone (b.at a (.code c :: .inLoop c :: k)) cs w) b k cs e a' w'

/-- From inside a scope. -/
def ScopeWp (P : Program) (body c : Code) (Q : Exit → Act → World → Prop) (a : Act) (w : World) : Prop :=
  ∀ (b : Frame) (k : List Item) (cs : List Frame), ∃ e a' w', Q e a' w' ∧ Arrives P (lone (b.at a (.code c :: .inScope body :: k)) cs w) b k cs e a' w'

section
variable {P : Program} {Q : Exit → Act → World → Prop} {a : Act} {w : World}

theorem LoopWp.loop {c : Code} (h : LoopWp P c Q a w) : (Code.loop c).wp P Q a w := by
  intro b k cs
  obtain ⟨e, a', w', hq, harr⟩ := h b k cs
  exact ⟨e, a', w', hq, .of_steps (.one step_loop) harr⟩

theorem LoopWp.round {c : Code} (h : c.wp P (Exit.then (LoopWp P c Q) Q) a w) : LoopWp P c Q a w := by
  intro b k cs
  obtain ⟨e, a₁, w₁, hq, harr⟩ := h b (.inLoop c :: k) cs
  cases e with
  | normal =>
    obtain ⟨e₂, a₂, w₂, hq₂, harr₂⟩ := hq b k cs
    exact ⟨e₂, a₂, w₂, hq₂, .of_steps (Steps.trans harr (.one step_inLoop)) harr₂⟩
  | exit id => exact ⟨_, a₁, w₁, hq, .pass (x := .inLoop c) rfl (fun _ _ => .inl (by simp)) harr⟩
  | goto l => exact ⟨_, a₁, w₁, hq, .pass (x := .inLoop c) rfl (fun _ _ => .inl (by simp)) harr⟩
  | ret => exact ⟨_, a₁, w₁, hq, .pass (x := .inLoop c) rfl (fun _ _ => .inl (by simp)) harr⟩
  | panic ch => exact ⟨_, a₁, w₁, hq, .pass (x := .inLoop c) rfl (fun _ _ => .inl (by simp)) harr⟩
  | outgrown => exact ⟨_, a₁, w₁, hq, .pass (x := .inLoop c) rfl (fun _ _ => .inl (by simp)) harr⟩

/-- A goto to a label of the scope: on from there; else out of it. -/
def Exit.inScope (body : Code) (Q : Exit → Act → World → Prop) (G : Code → Act → World → Prop) : Exit → Act → World → Prop
  | .goto l, a, w => match findLabel body l with
    | some rest => G rest a w
    | none => Q (.goto l) a w
  | e, a, w => Q e a w

theorem ScopeWp.enter {body c : Code} (h : c.wp P (Exit.inScope body Q (fun rest => ScopeWp P body rest Q)) a w) : ScopeWp P body c Q a w := by
  intro b k cs
  obtain ⟨e, a₁, w₁, hq, harr⟩ := h b (.inScope body :: k) cs
  cases e with
  | normal => exact ⟨.normal, a₁, w₁, hq, Steps.trans harr (.one step_inScope)⟩
  | exit id => exact ⟨.exit id, a₁, w₁, hq, fun k' hk => harr k' (by simp [exitTo, hk])⟩
  | goto l =>
    simp only [Exit.inScope] at hq
    cases hf : findLabel body l with
    | some rest =>
      rw [hf] at hq
      obtain ⟨e₂, a₂, w₂, hq₂, harr₂⟩ := hq b k cs
      exact ⟨e₂, a₂, w₂, hq₂, .of_steps (harr _ (by simp [gotoIn, hf])) harr₂⟩
    | none =>
      rw [hf] at hq
      exact ⟨.goto l, a₁, w₁, hq, fun k' hk => harr k' (by simp [gotoIn, hf, hk])⟩
  | ret => exact ⟨_, a₁, w₁, hq, harr⟩
  | panic ch => exact ⟨_, a₁, w₁, hq, harr⟩
  | outgrown => exact ⟨_, a₁, w₁, hq, harr⟩

theorem ScopeWp.scope {c : Code} (h : ScopeWp P c c Q a w) : (Code.scope c).wp P Q a w := by
  intro b k cs
  obtain ⟨e, a', w', hq, harr⟩ := h b k cs
  exact ⟨e, a', w', hq, .of_steps (.one step_scope) harr⟩
end

/-- What the program must be like: its regions draw their order; no function with a text bears the one name that the dispatcher knows. -/
structure Fit (P : Program) : Prop where
  mixed : P.follows .mixedOrders = true
  named : ∀ (f : Nat) (fn : Func), P.funcs[f]? = some fn → fn.body ≠ none → (fn.name == "runtime.NumGoroutine") = false

section
variable {C : Ctx}

def Walks (C : Ctx) (W : (Exit → Act → World → Prop) → Act → World → Prop) (s : St) (x : AExit) (s' : St) : Prop :=
  Later s s' ∧ ∀ (ρ : Ren) (a : Act) (w : World) (Q : Exit → Act → World → Prop), WF s.h → Rel C ρ s a w →
    (∀ ρ' a' w', Rel C ρ' s' a' w' → Fr s.h.next ρ s.h w ρ' s'.h w' → Q x.exit' a' w') → W Q a w

theorem Walks.here {W : (Exit → Act → World → Prop) → Act → World → Prop} {s : St} {x : AExit} (h : ∀ Q a w, Q x.exit' a w → W Q a w) : Walks C W s x s :=
  ⟨.refl s, fun ρ a w Q _ hrel hQ => h Q a w (hQ ρ a w hrel (.refl _ _ _ _))⟩

theorem controls (hfit : Fit C.P) (horc : CallOK C C.orc) : ∀ f : Nat,
    (∀ c s x s', aexec C f c s = some (x, s') → Walks C (fun Q => c.wp C.P Q) s x s' ∧ ∀ d, c = .loop d → Walks C (fun Q => LoopWp C.P d Q) s x s') ∧
    (∀ b c s x s', ascope C f b c s = some (x, s') → Walks C (fun Q => ScopeWp C.P b c Q) s x s') ∧
    CallOK C (acall C f) := by
  intro f
  induction f with
  | zero => exact ⟨fun c s x s' h => by simp [aexec] at h, fun b c s x s' h => by simp [ascope] at h, fun f args h r hr => by simp [acall] at hr⟩
  | succ f ih =>
    obtain ⟨ihE, ihS, ihC⟩ := ih
    have ihW : ∀ c s x s', aexec C f c s = some (x, s') → Walks C (fun Q => c.wp C.P Q) s x s' := fun c s x s' h => (ihE c s x s' h).1
    refine ⟨fun c s x s' h => ?_, fun b c s x s' h => ?_, fun g args h r hr => ?_⟩
    · have other : (∀ d, c ≠ .loop d) → Walks C (fun Q => c.wp C.P Q) s x s' → Walks C (fun Q => c.wp C.P Q) s x s' ∧ ∀ d, c = .loop d → Walks C (fun Q => LoopWp C.P d Q) s x s' :=
        fun hn hw => ⟨hw, fun d hd => absurd hd (hn d)⟩
      cases c with
      | skip => simp only [aexec] at h; injection h with h; injection h with h1 h2; subst h1 h2; exact other (by simp) (.here fun Q a w hq => wp_skip hq)
      | label l => simp only [aexec] at h; injection h with h; injection h with h1 h2; subst h1 h2; exact other (by simp) (.here fun Q a w hq => wp_label hq)
      | exit id => simp only [aexec] at h; injection h with h; injection h with h1 h2; subst h1 h2; exact other (by simp) (.here fun Q a w hq => wp_exit hq)
      | goto l => simp only [aexec] at h; injection h with h; injection h with h1 h2; subst h1 h2; exact other (by simp) (.here fun Q a w hq => wp_goto hq)
      | ret => simp only [aexec] at h; injection h with h; injection h with h1 h2; subst h1 h2; exact other (by simp) (.here fun Q a w hq => wp_ret hq)
      | region id ops draw =>
        simp only [aexec] at h
        split at h
        · rename_i s1 hr
          injection h with h; injection h with h1 h2; subst h1 h2
          exact other (by simp) ⟨runRegion_later ihC hr, fun ρ a w Q hwf hrel hQ => region_wp hfit.mixed ihC hr hwf hrel hQ⟩
        · cases h
      | seq c d =>
        refine other (by simp) ?_
        simp only [aexec] at h
        split at h
        · rename_i s1 h1
          obtain ⟨hl1, hw1⟩ := ihW c s _ _ h1
          obtain ⟨hl2, hw2⟩ := ihW d s1 _ _ h
          refine ⟨hl1.trans hl2, fun ρ a w Q hwf hrel hQ => wp_seq (hw1 ρ a w _ hwf hrel fun ρ1 a1 w1 hrel1 hf1 => ?_)⟩
          exact hw2 ρ1 a1 w1 _ (hl1.wf hwf) hrel1 fun ρ2 a2 w2 hrel2 hf2 => hQ ρ2 a2 w2 hrel2 (hf1.trans hf2 hf1.next)
        · rename_i r hne
          obtain ⟨hl1, hw1⟩ := ihW c s _ _ h
          refine ⟨hl1, fun ρ a w Q hwf hrel hQ => wp_seq (hw1 ρ a w _ hwf hrel fun ρ1 a1 w1 hrel1 hf1 => ?_)⟩
          have := hQ ρ1 a1 w1 hrel1 hf1
          cases x with
          | normal => exact absurd h (hne s')
          | _ => exact this
      | cond e c d =>
        refine other (by simp) ?_
        simp only [aexec] at h
        split at h
        · rename_i hc
          obtain ⟨hl1, hw1⟩ := ihW c s _ _ h
          exact ⟨hl1, fun ρ a w Q hwf hrel hQ => wp_cond_true (envR hrel.gl hrel.tmp e _ hc) (hw1 ρ a w _ hwf hrel hQ)⟩
        · rename_i hc
          obtain ⟨hl1, hw1⟩ := ihW d s _ _ h
          exact ⟨hl1, fun ρ a w Q hwf hrel hQ => wp_cond_false (envR hrel.gl hrel.tmp e _ hc) (hw1 ρ a w _ hwf hrel hQ)⟩
        · cases h
      | block id c =>
        refine other (by simp) ?_
        simp only [aexec] at h
        split at h
        · rename_i id' s1 h1
          obtain ⟨hl1, hw1⟩ := ihW c s _ _ h1
          split at h
          · rename_i hid
            injection h with h; injection h with e1 e2; subst e1 e2
            refine ⟨hl1, fun ρ a w Q hwf hrel hQ => wp_block (hw1 ρ a w _ hwf hrel fun ρ1 a1 w1 hrel1 hf1 => ?_)⟩
            simp only [AExit.exit', Exit.inBlock]
            rw [if_pos (Nat.eq_of_beq_eq_true hid)]
            exact hQ ρ1 a1 w1 hrel1 hf1
          · rename_i hid
            injection h with h; injection h with e1 e2; subst e1 e2
            refine ⟨hl1, fun ρ a w Q hwf hrel hQ => wp_block (hw1 ρ a w _ hwf hrel fun ρ1 a1 w1 hrel1 hf1 => ?_)⟩
            simp only [AExit.exit', Exit.inBlock]
            rw [if_neg (Nat.ne_of_beq_eq_false hid)]
            exact hQ ρ1 a1 w1 hrel1 hf1
        · rename_i r hne
          obtain ⟨hl1, hw1⟩ := ihW c s _ _ h
          refine ⟨hl1, fun ρ a w Q hwf hrel hQ => wp_block (hw1 ρ a w _ hwf hrel fun ρ1 a1 w1 hrel1 hf1 => ?_)⟩
          have := hQ ρ1 a1 w1 hrel1 hf1
          cases x with
          | exit id' => exact absurd h (hne id' s')
          | _ => exact this
      | loop c =>
        have key : Walks C (fun Q => LoopWp C.P c Q) s x s' := by
          simp only [aexec] at h
          split at h
          · rename_i s1 h1
            obtain ⟨hl1, hw1⟩ := ihW c s _ _ h1
            obtain ⟨hl2, hw2⟩ := (ihE (.loop c) s1 _ _ h).2 c rfl
            refine ⟨hl1.trans hl2, fun ρ a w Q hwf hrel hQ => .round (hw1 ρ a w _ hwf hrel fun ρ1 a1 w1 hrel1 hf1 => ?_)⟩
            exact hw2 ρ1 a1 w1 _ (hl1.wf hwf) hrel1 fun ρ2 a2 w2 hrel2 hf2 => hQ ρ2 a2 w2 hrel2 (hf1.trans hf2 hf1.next)
          · rename_i r hne
            obtain ⟨hl1, hw1⟩ := ihW c s _ _ h
            refine ⟨hl1, fun ρ a w Q hwf hrel hQ => .round (hw1 ρ a w _ hwf hrel fun ρ1 a1 w1 hrel1 hf1 => ?_)⟩
            have := hQ ρ1 a1 w1 hrel1 hf1
            cases x with
            | normal => exact absurd h (hne s')
            | _ => exact this
        exact ⟨⟨key.1, fun ρ a w Q hwf hrel hQ => (key.2 ρ a w Q hwf hrel hQ).loop⟩, fun d hd => by injection hd with hd; subst hd; exact key⟩
      | scope c =>
        refine other (by simp) ?_
        simp only [aexec] at h
        obtain ⟨hl1, hw1⟩ := ihS c c s _ _ h
        exact ⟨hl1, fun ρ a w Q hwf hrel hQ => (hw1 ρ a w Q hwf hrel hQ).scope⟩
      | _ => simp [aexec] at h
    · simp only [ascope] at h
      split at h
      · rename_i l s1 h1
        obtain ⟨hl1, hw1⟩ := ihW c s _ _ h1
        split at h
        · rename_i rest hf
          obtain ⟨hl2, hw2⟩ := ihS b rest s1 _ _ h
          refine ⟨hl1.trans hl2, fun ρ a w Q hwf hrel hQ => .enter (hw1 ρ a w _ hwf hrel fun ρ1 a1 w1 hrel1 hf1 => ?_)⟩
          simp only [AExit.exit', Exit.inScope, hf]
          exact hw2 ρ1 a1 w1 _ (hl1.wf hwf) hrel1 fun ρ2 a2 w2 hrel2 hf2 => hQ ρ2 a2 w2 hrel2 (hf1.trans hf2 hf1.next)
        · rename_i hf
          injection h with h; injection h with e1 e2; subst e1 e2
          refine ⟨hl1, fun ρ a w Q hwf hrel hQ => .enter (hw1 ρ a w _ hwf hrel fun ρ1 a1 w1 hrel1 hf1 => ?_)⟩
          simp only [AExit.exit', Exit.inScope, hf]
          exact hQ ρ1 a1 w1 hrel1 hf1
      · rename_i r hne
        obtain ⟨hl1, hw1⟩ := ihW c s _ _ h
        refine ⟨hl1, fun ρ a w Q hwf hrel hQ => .enter (hw1 ρ a w _ hwf hrel fun ρ1 a1 w1 hrel1 hf1 => ?_)⟩
        have := hQ ρ1 a1 w1 hrel1 hf1
        cases x with
        | goto l => exact absurd h (hne l s')
        | _ => exact this
    · simp only [acall] at hr
      split at hr
      · rename_i r' hr'
        injection hr with hr; subst hr
        exact horc g args h r' hr'
      split at hr
      · cases hr
      · rename_i fn hfn
        split at hr
        · cases hr
        · rename_i c hbody
          have fin : ∀ x s, aexec C f c ⟨args.length + (fn.ntmps - args.length), argsT args 0 .lf, h, []⟩ = some (x, s) → (x = .normal ∨ x = .ret) →
              (match resultsA C.P s.h s.tmps fn.results.toList with | some vs => some (⟨oneOrTup vs, s.h, s.log⟩ : R) | none => none) = some r →
              (∀ (xs : Array Value) (w : World), (callFunc g xs).run C.P w = .ok (.enter g xs) w) ∧ Mild h r.h r.log ∧
              ∀ ρ w vs, WF h → GlobR C.gs ρ → HR ρ h w → VRs ρ args vs → Calls C.P g vs.toArray w fun e w' => ∃ v ρ', e = .returned v ∧ VR ρ' r.v v ∧ HR ρ' r.h w' ∧ Fr h.next ρ h w ρ' r.h w' := by
            intro x s hx hxx hres
            split at hres
            · rename_i vs hvs
              injection hres with hres; subst hres
              obtain ⟨hl, hw⟩ := ihW c _ _ _ hx
              obtain ⟨l, hl1, hl2⟩ := hl.log
              simp only [List.append_nil] at hl1
              refine ⟨fun xs w => ?_, by simp only; rw [hl1]; exact hl2, fun ρ w us hwf hg hh hus => ?_⟩
              · have hn := hfit.named g fn hfn (by rw [hbody]; simp)
                simp only [callFunc, Sem.run_bind, run_program, Result.andThen_ok, hfn, hn, hbody, Option.isNone_some, Bool.false_eq_true, if_false, Sem.run_pure]
              · refine calls_of_wp hfn hbody ?_
                have hlen := hus.length
                have hsz : us.toArray.size = args.length := by simp [hlen]
                rw [hsz]
                refine hw ρ _ w _ hwf ⟨args_rel hus _, hh, hg⟩ fun ρ' a' w' hrel' hf' => ?_
                obtain ⟨v, hv1, hv2⟩ := results_sound (P := C.P) hrel'.hr hrel'.tmp.val hvs
                rcases hxx with rfl | rfl
                · exact ⟨hrel'.tmp.dfr, v, hv1, v, ρ', rfl, hv2, hrel'.hr, hf'⟩
                · exact ⟨hrel'.tmp.dfr, v, hv1, v, ρ', rfl, hv2, hrel'.hr, hf'⟩
            · cases hres
          split at hr
          · rename_i s hx; exact fin _ _ hx (.inl rfl) hr
          · rename_i s hx; exact fin _ _ hx (.inr rfl) hr
          · cases hr

theorem acall_ok (hfit : Fit C.P) (horc : CallOK C C.orc) (f : Nat) : CallOK C (acall C f) := (controls hfit horc f).2.2
theorem aexec_ok (hfit : Fit C.P) (horc : CallOK C C.orc) (f : Nat) {c : Code} {s s' : St} {x : AExit} (h : aexec C f c s = some (x, s')) : Walks C (fun Q => c.wp C.P Q) s x s' := ((controls hfit horc f).1 c s x s' h).1

end
end Go.Abs
