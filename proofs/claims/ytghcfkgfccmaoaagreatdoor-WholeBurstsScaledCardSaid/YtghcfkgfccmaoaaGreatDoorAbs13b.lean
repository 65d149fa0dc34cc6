/-
  Soundness: one operation; regions in the order of the text. (Helper theorems; each says its own conditions.)
-/
import Derived.Test.YtghcfkgfccmaoaaGreatDoorAbs13

/-! Soundness: one operation; regions in the order of the text. -/
namespace Go.Abs
open Go

section
variable {C : Ctx} {cf : CallF}

/-- One operation that is wanted, at related states. -/
theorem opOut_wp (hcf : CallOK C cf) {o : Oper} {env : Env} {h : AH} {r : R} {l : Log} (hs : opOutE C cf o env h = some (r, l)) (hwf : WF h) {ρ : Ren} {a : Act} {w : World} (hg : GlobR C.gs ρ)
    (he : EnvR ρ env a.eval) (hr : HR ρ h w) {K : Act → World → Prop} {Q : Exit → Act → World → Prop}
    (hK : ∀ u ρ' w', VR ρ' r.v u → HR ρ' r.h w' → Fr h.next ρ h w ρ' r.h w' → K (a.put o.dst u) w') : o.wp C.P a w K Q := by
  unfold opOutE at hs
  unfold Oper.wp
  split at hs
  · rename_i hc
    split at hs
    · rename_i v hv
      injection hs with hs; injection hs with h1 h2; subst h1 h2
      obtain ⟨u, hu, hrun⟩ := pureA_sound (P := C.P) he hc hv
      rw [hrun w]
      exact hK u ρ w hu hr (Fr.refl _ _ _ _)
    · cases hs
  · rename_i hc
    split at hs
    · rename_i v hv
      injection hs with hs; injection hs with h1 h2; subst h1 h2
      obtain ⟨u, hu, hrun⟩ := readA_sound (P := C.P) he hr hc hv
      rw [hrun]
      exact hK u ρ w hu hr (Fr.refl _ _ _ _)
    · cases hs
  · rename_i hc
    split at hs
    · rename_i v blk hv
      injection hs with hs; injection hs with h1 h2; subst h1 h2
      obtain ⟨ob, u, hrun, hall⟩ := allocA_sound (P := C.P) he hc hv w
      have hn : ρ h.next = none := hr.fresh _ (Nat.le_refl _)
      have hx := updR_ext (g := ⟨w.heap.size, 0, 0⟩) hn
      obtain ⟨h1, h2⟩ := hall (updR ρ h.next ⟨w.heap.size, 0, 0⟩) hx (by simp [updR])
      rw [hrun]
      have hget : (h.push blk).get h.next = blk := by rw [AH.get_push, if_pos rfl]
      refine hK u _ _ h1 (alloc_bind (hr.push blk) (by simp [AH.push]) hn (by rw [hget]; exact h2)) (Fr.alloc hn (fun x hx => ?_) (by simp [AH.push]) (Nat.le_refl _))
      rw [AH.get_push, if_neg]
      intro e; subst e; exact hx hn
    · cases hs
  · rename_i hc
    split at hs
    · rename_i r' hv
      injection hs with hs; injection hs with h1 h2; subst h1 h2
      obtain ⟨ρ', w', u, hrun, h1, h2, h3⟩ := effA_sound (P := C.P) he hr hc hv
      rcases hrun with hrun | ⟨hrun, rfl⟩
      · rw [hrun]; exact hK u ρ' w' h1 h2 h3
      · rw [hrun]; exact hK undef ρ' w' h1 h2 h3
    · rename_i f args hv
      split at hs
      · rename_i r' hr'
        injection hs with hs; injection hs with h1 h2; subst h1 h2
        obtain ⟨hcall, _, hcs⟩ := hcf f args h r' hr'
        obtain ⟨vs, hvs, hrun⟩ := effA_call (P := C.P) he hv hcall
        rw [hrun w]
        refine (hcs ρ w vs hwf hg hr hvs).mono fun e w' hew => ?_
        obtain ⟨v, ρ', rfl, h1, h2, h3⟩ := hew
        exact hK v ρ' w' h1 h2 h3
      · cases hs
    · cases hs
  · cases hs

theorem putTmp_spec {s s' : St} {d : Option Tmp} {v : AV} (h : putTmp s d v = some s') : s'.n = s.n ∧ s'.h = s.h ∧ s'.log = s.log ∧ s'.tmps.get = updT s.tmps.get d v ∧ ∀ i, d = some i → i < s.n := by
  unfold putTmp at h
  split at h
  · injection h with h; subst h; exact ⟨rfl, rfl, rfl, rfl, fun i hi => by cases hi⟩
  · rename_i i
    split at h
    · rename_i hlt
      injection h with h; subst h
      refine ⟨rfl, rfl, rfl, ?_, fun j hj => by injection hj with hj; subst hj; simpa [Nat.blt_eq] using hlt⟩
      funext j
      simp only [Tr.get_set, updT]
    · cases h

theorem stepOp_wp (hcf : CallOK C cf) {ops : Array Oper} {i : Nat} {o : Oper} (hi : ops[i]? = some o) {s s' : St} {l : Log} (hs : stepOp C cf ops o s = some (s', l)) (hwf : WF s.h) {ρ : Ren} {a : Act} {w : World}
    (hrel : Rel C ρ s a w) {K : Act → World → Prop} {Q : Exit → Act → World → Prop}
    (hK : ∀ ρ' a' w', Rel C ρ' s' a' w' → WF s'.h → Fr s.h.next ρ s.h w ρ' s'.h w' → K a' w') : wpOp C.P ops Q i K a w := by
  unfold stepOp at hs
  unfold wpOp
  simp only [hi]
  split at hs
  · rename_i hw
    have hwt := wanted_sound hw hrel.tmp
    simp only [hwt, Bool.false_eq_true, if_false]
    split at hs
    · rename_i s1 hp
      injection hs with hs; injection hs with h1 h2; subst h1 h2
      obtain ⟨e1, e2, e3, e4, e5⟩ := putTmp_spec hp
      refine hK ρ _ w ⟨?_, by rw [e2]; exact hrel.hr, hrel.gl⟩ (by rw [e2]; exact hwf) (by rw [e2]; exact Fr.refl _ _ _ _)
      rw [e1, e4]
      exact hrel.tmp.put e5 ⟨[], rfl, rfl⟩
    · cases hs
  · rename_i hw
    have hwt := wanted_sound hw hrel.tmp
    simp only [hwt, if_true]
    split at hs
    · rename_i r l' hop
      split at hs
      · rename_i s1 hp
        injection hs with hs; injection hs with h1 h2; subst h1 h2
        obtain ⟨e1, e2, e3, e4, e5⟩ := putTmp_spec hp
        have hm := opOutE_mild hcf (show opOutE C cf o (glob C.gs s.tmps) s.h = _ from hop)
        refine .inl (opOut_wp hcf (show opOutE C cf o (glob C.gs s.tmps) s.h = _ from hop) hwf hrel.gl (envR hrel.gl hrel.tmp) hrel.hr fun u ρ' w' hu hh hf => hK ρ' _ w' ⟨?_, by rw [e2]; exact hh, hrel.gl.ext hf.ext⟩ (by rw [e2]; exact hm.wf hwf) (by rw [e2]; exact hf))
        rw [e1, e4]
        exact (hrel.tmp.ext hf.ext).put e5 hu
      · cases hs
    · cases hs
  · cases hs

theorem runOps_wp (hcf : CallOK C cf) {ops : Array Oper} {Q : Exit → Act → World → Prop} : ∀ (os : List Oper) (i : Nat) (s s' : St) (ρ : Ren) (a : Act) (w : World), ops.toList.drop i = os → runOps C cf ops os s = some s' → WF s.h →
    Rel C ρ s a w → (∀ ρ' a' w', Rel C ρ' s' a' w' → WF s'.h → Fr s.h.next ρ s.h w ρ' s'.h w' → Q .normal a' w') → wpOps C.P ops Q (List.range' i os.length) a w := by
  intro os
  induction os with
  | nil =>
    intro i s s' ρ a w _ hr hwf hrel hQ
    simp only [runOps] at hr; injection hr with hr; subst hr
    exact hQ ρ a w hrel hwf (Fr.refl _ _ _ _)
  | cons o os ih =>
    intro i s s' ρ a w hd hr hwf hrel hQ
    simp only [runOps] at hr
    split at hr
    · rename_i s1 l hs
      have hi : ops[i]? = some o := by
        have : (ops.toList.drop i)[0]? = some o := by rw [hd]; rfl
        rw [List.getElem?_drop] at this
        simpa using this
      have hd' : ops.toList.drop (i + 1) = os := by rw [← List.drop_drop, hd]; rfl
      simp only [List.length_cons, List.range'_succ]
      rw [wpOps_cons]
      refine stepOp_wp hcf hi hs hwf hrel fun ρ' a' w' hrel' hwf' hf => ih (i + 1) s1 s' ρ' a' w' hd' hr hwf' hrel' fun ρ2 a2 w2 hrel2 hwf2 hf2 => hQ ρ2 a2 w2 hrel2 hwf2 (hf.trans hf2 hf.next)
    · cases hr

theorem region_text_wp (hcf : CallOK C cf) {id : Nat} {ops : Array Oper} {Q : Exit → Act → World → Prop} {s s' : St} {ρ : Ren} {a : Act} {w : World} (hr : runOps C cf ops ops.toList s = some s') (hwf : WF s.h)
    (hrel : Rel C ρ s a w) (hQ : ∀ ρ' a' w', Rel C ρ' s' a' w' → WF s'.h → Fr s.h.next ρ s.h w ρ' s'.h w' → Q .normal a' w') : (Code.region id ops false).wp C.P Q a w := by
  refine wp_region ?_
  have := runOps_wp hcf (Q := Q) ops.toList 0 s s' ρ a w rfl hr hwf hrel hQ
  rw [List.range_eq_range']
  simpa using this

end
end Go.Abs
