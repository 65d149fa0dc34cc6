/-
  What an operation does to the abstract heap; what it looks at. (Helper theorems; each says its own conditions.)
-/
import Derived.Test.YtkikjebliennbaaGreatDoorEvD
/-! What an operation does to the abstract heap; what it looks at. -/
namespace Go.Abs
open Go

theorem Mild.refl (h : AH) (l : Log) : Mild h h l := ⟨Nat.le_refl _, id, fun _ _ _ => rfl⟩

theorem Mild.trans {h h1 h2 : AH} {l1 l2 : Log} (a : Mild h h1 l1) (b : Mild h1 h2 l2) : Mild h h2 (l2 ++ l1) :=
  ⟨Nat.le_trans a.next b.next, fun hw => b.wf (a.wf hw), fun x hx hlt => by
    rw [b.keep x (fun hm => hx (List.mem_append_left _ hm)) (Nat.lt_of_lt_of_le hlt a.next), a.keep x (fun hm => hx (List.mem_append_right _ hm)) hlt]⟩

theorem Mild.push (h : AH) (B : ABlk) (l : Log) : Mild h (h.push B) l :=
  ⟨by simp [AH.push], fun hw b hb => by
    simp only [AH.push] at hb
    rw [AH.get_push, if_neg (by omega)]; exact hw b (by omega), fun b _ hb => by rw [AH.get_push, if_neg (by omega)]⟩

theorem Mild.put {h : AH} {b : Nat} {B : ABlk} (hl : h.get b ≠ .dead) : Mild h (h.put b B) [b] :=
  ⟨Nat.le_refl _, fun hw x hx => by
    rw [AH.get_put, if_neg]
    · exact hw x hx
    · intro e; subst e; exact hl (hw x hx), fun x hx _ => by rw [AH.get_put, if_neg (by simpa using hx)]⟩

theorem setCells_mild {h h' : AH} {b off : Nat} {vs : List AV} (hs : setCells h b off vs = some h') : Mild h h' [b] := by
  unfold setCells at hs
  split at hs
  · rename_i c hget
    cases hro : c.ro with
    | true => rw [hro] at hs; simp at hs
    | false =>
      rw [hro] at hs; simp only [cond_false] at hs
      cases hlt : Nat.ble (off + vs.length) c.n with
      | false => rw [hlt] at hs; simp at hs
      | true =>
        rw [hlt] at hs; simp at hs; subst hs
        exact .put (by rw [hget]; simp)
  · cases hs

section
variable {P : Program}

theorem storeA_mild {h : AH} {t : TypeId} {a v : AV} {r : R} (hs : storeA P h t a v = some r) : Mild h r.h r.log := by
  unfold storeA at hs
  split at hs
  · split at hs
    · split at hs
      · split at hs
        · rename_i h' hset
          injection hs with hs; subst hs
          exact setCells_mild hset
        · cases hs
      · cases hs
    · cases hs
  · cases hs

theorem mapUpdateA_mild {h : AH} {t : TypeId} {m k v : AV} {r : R} (hs : mapUpdateA P h t m k v = some r) : Mild h r.h r.log := by
  unfold mapUpdateA at hs
  split at hs
  · split at hs
    · split at hs
      · rename_i es hget
        split at hs
        · injection hs with hs; subst hs
          exact .put (by rw [hget]; simp)
        · cases hs
      · cases hs
    · cases hs
  · cases hs

theorem deleteA_mild {h : AH} {t : TypeId} {m k : AV} {r : R} (hs : deleteA P h t m k = some r) : Mild h r.h r.log := by
  unfold deleteA at hs
  split at hs
  · split at hs
    · injection hs with hs; subst hs; exact .refl _ _
    · split at hs
      · rename_i es hget
        split at hs
        · injection hs with hs; subst hs
          exact .put (by rw [hget]; simp)
        · cases hs
      · cases hs
    · cases hs
  · cases hs

theorem clearA_mild {h : AH} {t : TypeId} {x : AV} {r : R} (hs : clearA P h t x = some r) : Mild h r.h r.log := by
  unfold clearA at hs
  split at hs
  · split at hs
    · injection hs with hs; subst hs; exact .refl _ _
    · split at hs
      · split at hs
        · rename_i h' hset
          injection hs with hs; subst hs
          exact setCells_mild hset
        · cases hs
      · cases hs
    · cases hs
  · injection hs with hs; subst hs; exact .refl _ _
  · cases hs

theorem copyA_mild {h : AH} {t : TypeId} {d s : AV} {r : R} (hs : copyA P h t d s = some r) : Mild h r.h r.log := by
  unfold copyA at hs
  split at hs
  · split at hs
    · injection hs with hs; subst hs; exact .refl _ _
    · split at hs
      · split at hs
        · split at hs
          · rename_i h' hset _
            injection hs with hs; subst hs
            exact setCells_mild hset
          · cases hs
        · cases hs
      · cases hs
  · cases hs

theorem appendA_mild {h : AH} {t t2 : TypeId} {s x : AV} {r : R} (hs : appendA P h t t2 s x = some r) : Mild h r.h r.log := by
  unfold appendA at hs
  split at hs
  · split at hs
    · cases hs
    · split at hs
      · injection hs with hs; subst hs; exact .refl _ _
      · split at hs
        · injection hs with hs; subst hs; exact .refl _ _
        · cases hs
      · cases hs
    · split at hs
      · split at hs
        · cases hs
        · split at hs
          · split at hs
            · injection hs with hs; subst hs; exact .push _ _ _
            · cases hs
          · split at hs
            · split at hs
              · rename_i h' hset
                injection hs with hs; subst hs
                exact setCells_mild hset
              · cases hs
            · split at hs
              · split at hs
                · injection hs with hs; subst hs; exact .push _ _ _
                · split at hs
                  · rename_i c hget
                    split at hs
                    · injection hs with hs; subst hs
                      have h1 : Mild h (h.put _ .dead) [_] := .put (B := .dead) (by rw [hget]; simp)
                      simpa [newCells] using h1.trans (Mild.push (h.put _ .dead) _ [])
                    · cases hs
                  · cases hs
              · cases hs
          · cases hs
      · cases hs
  · cases hs

theorem effA_mild {env : Env} {h : AH} {op : Op} {r : R} (hs : effA P env h op = some (.val r)) : Mild h r.h r.log := by
  cases op <;> simp only [effA] at hs <;> first | (cases hs; done) | skip
  case store t a x =>
    simp only [on2, valO] at hs
    split at hs
    · split at hs
      · split at hs
        · rename_i hr; injection hs with hs; injection hs with hs; subst hs; exact storeA_mild hr
        · cases hs
      · cases hs
    · cases hs
  case mapUpdate t m k x =>
    simp only [on2, on1, valO] at hs
    split at hs
    · split at hs
      · split at hs
        · split at hs
          · rename_i hr; injection hs with hs; injection hs with hs; subst hs; exact mapUpdateA_mild hr
          · cases hs
        · cases hs
      · cases hs
    · cases hs
  case call c =>
    split at hs
    · split at hs
      · simp only [valO] at hs
        split at hs
        · rename_i hr; injection hs with hs; injection hs with hs; subst hs; exact appendA_mild hr
        · cases hs
      · simp only [valO] at hs
        split at hs
        · rename_i hr; injection hs with hs; injection hs with hs; subst hs; exact copyA_mild hr
        · cases hs
      · simp only [valO] at hs
        split at hs
        · rename_i hr; injection hs with hs; injection hs with hs; subst hs; exact deleteA_mild hr
        · cases hs
      · simp only [valO] at hs
        split at hs
        · rename_i hr; injection hs with hs; injection hs with hs; subst hs; exact clearA_mild hr
        · cases hs
      · cases hs
    · split at hs
      · split at hs
        · injection hs with hs; cases hs
        · cases hs
      · cases hs
    · cases hs

theorem opOutE_mild {C : Ctx} {cf : CallF} (hcf : CallOK C cf) {o : Oper} {env : Env} {h : AH} {r : R} {l : Log} (hs : opOutE C cf o env h = some (r, l)) : Mild h r.h r.log := by
  unfold opOutE at hs
  split at hs
  · split at hs
    · injection hs with hs; injection hs with h1 h2; subst h1; exact .refl _ _
    · cases hs
  · split at hs
    · injection hs with hs; injection hs with h1 h2; subst h1; exact .refl _ _
    · cases hs
  · split at hs
    · injection hs with hs; injection hs with h1 h2; subst h1; exact .push _ _ _
    · cases hs
  · split at hs
    · rename_i r' hv
      injection hs with hs; injection hs with h1 h2; subst h1; exact effA_mild hv
    · split at hs
      · rename_i r' hr'
        injection hs with hs; injection hs with h1 h2; subst h1
        exact (hcf _ _ _ _ hr').2.1
      · cases hs
    · cases hs
  · cases hs

/-! ## What an operation looks at -/
theorem evs_congr {env env' : Env} : ∀ {xs : List Operand}, (∀ x ∈ xs, env x = env' x) → evs env xs = evs env' xs
  | [], _ => rfl
  | x :: xs, h => by
    simp only [evs, h x (List.mem_cons_self), evs_congr fun y hy => h y (List.mem_cons_of_mem _ hy)]

theorem evp_congr {env env' : Env} : ∀ {xs : List (Nat × Operand)}, (∀ x ∈ xs.map (·.2), env x = env' x) → evp env xs = evp env' xs
  | [], _ => rfl
  | (i, x) :: xs, h => by
    simp only [evp, h x (by simp), evp_congr fun y hy => h y (by simp at hy ⊢; exact .inr hy)]

theorem evo_congr {env env' : Env} {x : Option Operand} (h : ∀ y, x = some y → env y = env' y) : evo env x = evo env' x := by
  cases x with
  | none => rfl
  | some y => simp only [evo, h y rfl]

theorem call_args_congr {env env' : Env} {c : Call} (h : ∀ x ∈ (Op.call c).operands, env x = env' x) : evs env c.args.toList = evs env' c.args.toList :=
  evs_congr fun x hx => h x (by simp [Op.operands, Call.operands]; exact .inr (by simpa using hx))

theorem pureA_congr {env env' : Env} {op : Op} (h : ∀ x ∈ op.operands, env x = env' x) : pureA P env op = pureA P env' op := by
  cases op <;> try rfl
  case move x => exact h x (by simp [Op.operands])
  case assign x => exact h x (by simp [Op.operands])
  case pick c a b => simp only [pureA, h c (by simp [Op.operands]), h a (by simp [Op.operands]), h b (by simp [Op.operands])]
  case build t ps => simp only [pureA, evp_congr (env := env) (env' := env') (xs := ps.toList) fun x hx => h x (by simpa [Op.operands] using hx)]
  case nilCheck x => simp only [pureA, h x (by simp [Op.operands])]
  case binOp op t x y yt => simp only [pureA, on2, h x (by simp [Op.operands]), h y (by simp [Op.operands])]
  case unOp op t x => simp only [pureA, on1, h x (by simp [Op.operands])]
  case convert s d x => simp only [pureA, on1, h x (by simp [Op.operands])]
  case makeFunc fn first cap =>
    simp only [pureA, evs_congr (env := env) (env' := env') (xs := first.toList) fun x hx => h x (by simp [Op.operands]; exact .inl (by simpa using hx)),
      evs_congr (env := env) (env' := env') (xs := cap.toList) fun x hx => h x (by simp [Op.operands]; exact .inr (by simpa using hx))]
  case slice t x lo hi mx =>
    simp only [pureA, on1, h x (by simp [Op.operands]), evo_congr (env := env) (env' := env') (x := lo) fun y hy => h y (by subst hy; simp [Op.operands]),
      evo_congr (env := env) (env' := env') (x := hi) fun y hy => h y (by subst hy; simp [Op.operands]), evo_congr (env := env) (env' := env') (x := mx) fun y hy => h y (by subst hy; simp [Op.operands])]
  case fieldAddr t x f => simp only [pureA, on1, h x (by simp [Op.operands])]
  case field t x f => simp only [pureA, on1, h x (by simp [Op.operands])]
  case indexAddr t x i => simp only [pureA, on2, h x (by simp [Op.operands]), h i (by simp [Op.operands])]
  case index t x i => simp only [pureA, on2, h x (by simp [Op.operands]), h i (by simp [Op.operands])]
  case extract t i => simp only [pureA, h t (by simp [Op.operands])]
  case call c => simp only [pureA, call_args_congr h]

theorem readA_congr {env env' : Env} {h : AH} {op : Op} (he : ∀ x ∈ op.operands, env x = env' x) : readA P env h op = readA P env' h op := by
  cases op <;> try rfl
  case load t a => simp only [readA, on1, he a (by simp [Op.operands])]
  case lookup t m k ok => simp only [readA, on2, he m (by simp [Op.operands]), he k (by simp [Op.operands])]
  case call c => simp only [readA, call_args_congr he]

theorem allocA_congr {env env' : Env} {b : Nat} {op : Op} (he : ∀ x ∈ op.operands, env x = env' x) : allocA P env b op = allocA P env' b op := by
  cases op <;> try rfl
  case box e x => simp only [allocA, on1, he x (by simp [Op.operands])]
  case buildSlice t n ps => simp only [allocA, evp_congr (env := env) (env' := env') (xs := ps.toList) fun x hx => he x (by simpa [Op.operands] using hx)]
  case makeSlice t l c => simp only [allocA, on2, he l (by simp [Op.operands]), he c (by simp [Op.operands])]

theorem effA_congr {env env' : Env} {h : AH} {op : Op} (he : ∀ x ∈ op.operands, env x = env' x) : effA P env h op = effA P env' h op := by
  cases op <;> try rfl
  case store t a x => simp only [effA, on2, he a (by simp [Op.operands]), he x (by simp [Op.operands])]
  case mapUpdate t m k x => simp only [effA, on2, on1, he m (by simp [Op.operands]), he k (by simp [Op.operands]), he x (by simp [Op.operands])]
  case call c =>
    simp only [effA, call_args_congr he]
    cases hc : c.callee with
    | value f => simp only [he f (by simp [Op.operands, Call.operands, hc])]
    | _ => rfl

theorem readAt_congr {env env' : Env} {op : Op} (he : ∀ x ∈ op.operands, env x = env' x) : readAt env op = readAt env' op := by
  cases op <;> try rfl
  case load t a => simp only [readAt, he a (by simp [Op.operands])]
  case lookup t m k ok => simp only [readAt, he m (by simp [Op.operands])]
  case call c =>
    simp only [readAt]
    split
    · rename_i x hx
      rw [he x]
      simp [Op.operands, Call.operands]
      exact .inr (by rw [← Array.mem_toList_iff, hx]; simp)
    · rfl

theorem evs_one {env : Env} {xs : List Operand} {v : AV} (h : evs env xs = some [v]) : ∃ y, xs = [y] ∧ env y = some v := by
  cases xs with
  | nil => simp [evs] at h
  | cons y ys =>
    simp only [evs] at h
    split at h
    · rename_i u hu
      split at h
      · rename_i vs hvs
        injection h with h; injection h with h1 h2; subst h1 h2
        cases ys with
        | nil => exact ⟨y, rfl, hu⟩
        | cons z zs =>
          simp only [evs] at hvs
          split at hvs
          · split at hvs
            · injection hvs with hvs; cases hvs
            · cases hvs
          · cases hvs
      · cases h
    · cases h

theorem lenA_heap {h h' : AH} {t : TypeId} {x : AV} (hb : ∀ b, x = .mp b → h'.get b = h.get b) : lenA P h' t x = lenA P h t x := by
  cases x <;> try rfl
  case mp b => simp only [lenA, hb b rfl]

/-- What is read hangs on the block alone that is told. -/
theorem readA_heap {env : Env} {h h' : AH} {op : Op} (hb : ∀ b ∈ readAt env op, h'.get b = h.get b) : readA P env h' op = readA P env h op := by
  cases op <;> try rfl
  case load t a =>
    simp only [readA, on1, readAt] at *
    cases ha : env a with
    | none => rfl
    | some v =>
      simp only [ha] at hb ⊢
      cases v <;> try rfl
      case ptr b off =>
        have := hb b (by simp)
        simp only [loadA, cellsAt, cellAt, this]
  case lookup t m k ok =>
    simp only [readA, on2, readAt] at *
    cases hm : env m with
    | none => rfl
    | some v =>
      simp only [hm] at hb ⊢
      cases env k with
      | none => rfl
      | some u =>
        cases v <;> try rfl
        case mp b =>
          have := hb b (by simp)
          simp only [lookupA, this]
  case call c =>
    simp only [readA]
    split
    · rename_i t ts x e1 e2 e3
      refine lenA_heap fun b hxb => ?_
      subst hxb
      obtain ⟨y, hy1, hy2⟩ := evs_one e3
      exact hb b (by simp only [readAt, hy1, hy2]; simp)
    · rfl

/-- What is read is there. -/
theorem readA_live {env : Env} {h : AH} {op : Op} {v : AV} (hr : readA P env h op = some v) : ∀ b ∈ readAt env op, h.get b ≠ .dead := by
  intro b hb
  cases op <;> simp only [readAt] at hb <;> first | (cases hb; done) | skip
  case load t a =>
    simp only [readA, on1] at hr
    split at hb
    · rename_i b' off ha
      rw [ha] at hr
      simp only [List.mem_singleton] at hb; subst hb
      simp only [loadA] at hr
      intro hdead
      split at hr
      · split at hr
        · split at hr
          · rename_i hc; simp [cellsAt, hdead] at hc
          · cases hr
        · simp [cellAt, hdead] at hr
      · cases hr
    · cases hb
  case lookup t m k ok =>
    simp only [readA, on2] at hr
    split at hb
    · rename_i b' ha
      rw [ha] at hr
      simp only [List.mem_singleton] at hb; subst hb
      intro hdead
      cases hku : env k with
      | none => rw [hku] at hr; cases hr
      | some u =>
        rw [hku] at hr
        simp only [lookupA, hdead] at hr
        split at hr
        · split at hr <;> cases hr
        · cases hr
    · cases hb
  case call c =>
    simp only [readA] at hr
    split at hr
    · rename_i t ts x e1 e2 e3
      obtain ⟨y, hy1, hy2⟩ := evs_one e3
      rw [hy1] at hb
      simp only [hy2] at hb
      cases x <;> simp only at hb <;> first | (cases hb; done) | skip
      case mp b' =>
        simp only [List.mem_singleton] at hb; subst hb
        intro hdead
        simp only [lenA, hdead] at hr
        split at hr <;> cases hr
    · cases hr

/-- What is read is named by an operand. -/
theorem readAt_named {ρ : Ren} {env : Env} {ev : Operand → Value} (he : EnvR ρ env ev) {op : Op} : ∀ b ∈ readAt env op, ρ b ≠ none := by
  intro b hb
  cases op <;> simp only [readAt] at hb <;> first | (cases hb; done) | skip
  case load t a =>
    split at hb
    · rename_i b' off ha
      simp only [List.mem_singleton] at hb; subst hb
      obtain ⟨g, hg, _⟩ := he a _ ha
      rw [hg]; simp
    · cases hb
  case lookup t m k ok =>
    split at hb
    · rename_i b' ha
      simp only [List.mem_singleton] at hb; subst hb
      obtain ⟨g, hg, _⟩ := he m _ ha
      rw [hg]; simp
    · cases hb
  case call c =>
    split at hb
    · split at hb
      · rename_i x _ _ b' ha
        simp only [List.mem_singleton] at hb; subst hb
        obtain ⟨g, hg, _⟩ := he x _ ha
        rw [hg]; simp
      · cases hb
    · cases hb

theorem opOutE_congr {C : Ctx} {cf : CallF} {o : Oper} {env env' : Env} {h : AH} (he : ∀ x ∈ o.op.operands, env x = env' x) : opOutE C cf o env h = opOutE C cf o env' h := by
  simp only [opOutE, pureA_congr he, readA_congr he, allocA_congr he, effA_congr he, readAt_congr he]

theorem wantedA_congr {ops : Array Oper} {T T' : Nat → Option AV} {o : Oper} (h : ∀ t ∈ looks ops o, T t = T' t) : wantedA ops T o = wantedA ops T' o := by
  unfold wantedA
  unfold looks at h
  cases hg : o.guard with
  | none => rfl
  | some gw =>
    obtain ⟨j, want⟩ := gw
    simp only [hg] at h ⊢
    cases hd : (ops[j]?).bind (·.dst) with
    | none => rfl
    | some d =>
      simp only [hd] at h ⊢
      rw [h d (by simp)]

theorem mem_tmpsOf {t : Tmp} : ∀ {xs : List Operand}, Operand.tmp t ∈ xs → t ∈ tmpsOf xs
  | x :: xs, h => by
    cases h with
    | head => simp [tmpsOf]
    | tail _ h =>
      have := mem_tmpsOf h
      cases x <;> simp [tmpsOf, this]

theorem globF_congr {gs : Nat → Option Nat} {ops : Array Oper} {T T' : Nat → Option AV} {o : Oper} (h : ∀ t ∈ looks ops o, T t = T' t) : ∀ x ∈ o.op.operands, globF gs T x = globF gs T' x := by
  intro x hx
  cases x with
  | tmp t => exact h t (List.mem_append_left _ (mem_tmpsOf (by simpa using hx)))
  | _ => rfl

end
end Go.Abs

/-! Soundness: one operation; regions in the order of the text. -/
namespace Go.Abs
open Go

section
variable {C : Ctx} {cf : CallF}

/-- One operation that is wanted, at related states. -/
theorem opOut_wp (hcf : CallOK C cf) {o : Oper} {env : Env} {h : AH} {r : R} {l : Log} (hs : opOutE C cf o env h = some (r, l)) (hwf : WF h) {ρ : Ren} {a : Act} {w : World} (hg : GlobR C.gs ρ)
    (he : EnvR ρ env a.eval) (hr : HR ρ h w) {K : Act → World → Prop} {Q : Exit → Act → World → Prop}
    (hK : ∀ u ρ' w', VR ρ' r.v u → HR ρ' r.h w' → Fr h.next ρ h w ρ' r.h w' → K (a.put o.dst u) w') : o.wp C.P a w K Q := by
  unfold opOutE at hs
  unfold Oper.wp
  split at hs
  · rename_i hc
    split at hs
    · rename_i v hv
      injection hs with hs; injection hs with h1 h2; subst h1 h2
      obtain ⟨u, hu, hrun⟩ := pureA_sound (P := C.P) he hc hv
      rw [hrun w]
      exact hK u ρ w hu hr (Fr.refl _ _ _ _)
    · cases hs
  · rename_i hc
    split at hs
    · rename_i v hv
      injection hs with hs; injection hs with h1 h2; subst h1 h2
      obtain ⟨u, hu, hrun⟩ := readA_sound (P := C.P) he hr hc hv
      rw [hrun]
      exact hK u ρ w hu hr (Fr.refl _ _ _ _)
    · cases hs
  · rename_i hc
    split at hs
    · rename_i v blk hv
      injection hs with hs; injection hs with h1 h2; subst h1 h2
      obtain ⟨ob, u, hrun, hall⟩ := allocA_sound (P := C.P) he hc hv w
      have hn : ρ h.next = none := hr.fresh _ (Nat.le_refl _)
      have hx := updR_ext (g := ⟨w.heap.size, 0, 0⟩) hn
      obtain ⟨h1, h2⟩ := hall (updR ρ h.next ⟨w.heap.size, 0, 0⟩) hx (by simp [updR])
      rw [hrun]
      have hget : (h.push blk).get h.next = blk := by rw [AH.get_push, if_pos rfl]
      refine hK u _ _ h1 (alloc_bind (hr.push blk) (by simp [AH.push]) hn (by rw [hget]; exact h2)) (Fr.alloc hn (fun x hx => ?_) (by simp [AH.push]) (Nat.le_refl _))
      rw [AH.get_push, if_neg]
      intro e; subst e; exact hx hn
    · cases hs
  · rename_i hc
    split at hs
    · rename_i r' hv
      injection hs with hs; injection hs with h1 h2; subst h1 h2
      obtain ⟨ρ', w', u, hrun, h1, h2, h3⟩ := effA_sound (P := C.P) he hr hc hv
      rcases hrun with hrun | ⟨hrun, rfl⟩
      · rw [hrun]; exact hK u ρ' w' h1 h2 h3
      · rw [hrun]; exact hK undef ρ' w' h1 h2 h3
    · rename_i f args hv
      split at hs
      · rename_i r' hr'
        injection hs with hs; injection hs with h1 h2; subst h1 h2
        obtain ⟨hcall, _, hcs⟩ := hcf f args h r' hr'
        obtain ⟨vs, hvs, hrun⟩ := effA_call (P := C.P) he hv hcall
        rw [hrun w]
        refine (hcs ρ w vs hwf hg hr hvs).mono fun e w' hew => ?_
        obtain ⟨v, ρ', rfl, h1, h2, h3⟩ := hew
        exact hK v ρ' w' h1 h2 h3
      · cases hs
    · cases hs
  · cases hs

theorem putTmp_spec {s s' : St} {d : Option Tmp} {v : AV} (h : putTmp s d v = some s') : s'.n = s.n ∧ s'.h = s.h ∧ s'.log = s.log ∧ s'.tmps.get = updT s.tmps.get d v ∧ ∀ i, d = some i → i < s.n := by
  unfold putTmp at h
  split at h
  · injection h with h; subst h; exact ⟨rfl, rfl, rfl, rfl, fun i hi => by cases hi⟩
  · rename_i i
    split at h
    · rename_i hlt
      injection h with h; subst h
      refine ⟨rfl, rfl, rfl, ?_, fun j hj => by injection hj with hj; subst hj; simpa [Nat.blt_eq] using hlt⟩
      funext j
      simp only [Tr.get_set, updT]
    · cases h

theorem stepOp_wp (hcf : CallOK C cf) {ops : Array Oper} {i : Nat} {o : Oper} (hi : ops[i]? = some o) {s s' : St} {l : Log} (hs : stepOp C cf ops o s = some (s', l)) (hwf : WF s.h) {ρ : Ren} {a : Act} {w : World}
    (hrel : Rel C ρ s a w) {K : Act → World → Prop} {Q : Exit → Act → World → Prop}
    (hK : ∀ ρ' a' w', Rel C ρ' s' a' w' → WF s'.h → Fr s.h.next ρ s.h w ρ' s'.h w' → K a' w') : wpOp C.P ops Q i K a w := by
  unfold stepOp at hs
  unfold wpOp
  simp only [hi]
  split at hs
  · rename_i hw
    have hwt := wanted_sound hw hrel.tmp
    simp only [hwt, Bool.false_eq_true, if_false]
    split at hs
    · rename_i s1 hp
      injection hs with hs; injection hs with h1 h2; subst h1 h2
      obtain ⟨e1, e2, e3, e4, e5⟩ := putTmp_spec hp
      refine hK ρ _ w ⟨?_, by rw [e2]; exact hrel.hr, hrel.gl⟩ (by rw [e2]; exact hwf) (by rw [e2]; exact Fr.refl _ _ _ _)
      rw [e1, e4]
      exact hrel.tmp.put e5 ⟨[], rfl, rfl⟩
    · cases hs
  · rename_i hw
    have hwt := wanted_sound hw hrel.tmp
    simp only [hwt, if_true]
    split at hs
    · rename_i r l' hop
      split at hs
      · rename_i s1 hp
        injection hs with hs; injection hs with h1 h2; subst h1 h2
        obtain ⟨e1, e2, e3, e4, e5⟩ := putTmp_spec hp
        have hm := opOutE_mild hcf (show opOutE C cf o (glob C.gs s.tmps) s.h = _ from hop)
        refine .inl (opOut_wp hcf (show opOutE C cf o (glob C.gs s.tmps) s.h = _ from hop) hwf hrel.gl (envR hrel.gl hrel.tmp) hrel.hr fun u ρ' w' hu hh hf => hK ρ' _ w' ⟨?_, by rw [e2]; exact hh, hrel.gl.ext hf.ext⟩ (by rw [e2]; exact hm.wf hwf) (by rw [e2]; exact hf))
        rw [e1, e4]
        exact (hrel.tmp.ext hf.ext).put e5 hu
      · cases hs
    · cases hs
  · cases hs

theorem runOps_wp (hcf : CallOK C cf) {ops : Array Oper} {Q : Exit → Act → World → Prop} : ∀ (os : List Oper) (i : Nat) (s s' : St) (ρ : Ren) (a : Act) (w : World), ops.toList.drop i = os → runOps C cf ops os s = some s' → WF s.h →
    Rel C ρ s a w → (∀ ρ' a' w', Rel C ρ' s' a' w' → WF s'.h → Fr s.h.next ρ s.h w ρ' s'.h w' → Q .normal a' w') → wpOps C.P ops Q (List.range' i os.length) a w := by
  intro os
  induction os with
  | nil =>
    intro i s s' ρ a w _ hr hwf hrel hQ
    simp only [runOps] at hr; injection hr with hr; subst hr
    exact hQ ρ a w hrel hwf (Fr.refl _ _ _ _)
  | cons o os ih =>
    intro i s s' ρ a w hd hr hwf hrel hQ
    simp only [runOps] at hr
    split at hr
    · rename_i s1 l hs
      have hi : ops[i]? = some o := by
        have : (ops.toList.drop i)[0]? = some o := by rw [hd]; rfl
        rw [List.getElem?_drop] at this
        simpa using this
      have hd' : ops.toList.drop (i + 1) = os := by rw [← List.drop_drop, hd]; rfl
      simp only [List.length_cons, List.range'_succ]
      rw [wpOps_cons]
      refine stepOp_wp hcf hi hs hwf hrel fun ρ' a' w' hrel' hwf' hf => ih (i + 1) s1 s' ρ' a' w' hd' hr hwf' hrel' fun ρ2 a2 w2 hrel2 hwf2 hf2 => hQ ρ2 a2 w2 hrel2 hwf2 (hf.trans hf2 hf.next)
    · cases hr

theorem region_text_wp (hcf : CallOK C cf) {id : Nat} {ops : Array Oper} {Q : Exit → Act → World → Prop} {s s' : St} {ρ : Ren} {a : Act} {w : World} (hr : runOps C cf ops ops.toList s = some s') (hwf : WF s.h)
    (hrel : Rel C ρ s a w) (hQ : ∀ ρ' a' w', Rel C ρ' s' a' w' → WF s'.h → Fr s.h.next ρ s.h w ρ' s'.h w' → Q .normal a' w') : (Code.region id ops false).wp C.P Q a w := by
  refine wp_region ?_
  have := runOps_wp hcf (Q := Q) ops.toList 0 s s' ρ a w rfl hr hwf hrel hQ
  rw [List.range_eq_range']
  simpa using this

end
end Go.Abs

/-! Regions that draw their order: the invariant, and one step in any order. -/
namespace Go.Abs
open Go

structure Ent where
  x : It
  sb : St
  sa : St
  l : Log
  r : AV

structure EntOK (C : Ctx) (cf : CallF) (ops : Array Oper) (e : Ent) : Prop where
  op : ops[e.x.i]? = some e.x.o
  cl : e.x.c = cls e.x.o.op
  n : e.sa.n = e.sb.n
  tm : e.sa.tmps.get = updT e.sb.tmps.get e.x.o.dst e.r
  dst : ∀ i, e.x.o.dst = some i → i < e.sb.n
  out : (wantedA ops e.sb.tmps.get e.x.o = some false ∧ e.r = .tup [] ∧ e.sa.h = e.sb.h ∧ e.l = []) ∨
        (wantedA ops e.sb.tmps.get e.x.o = some true ∧ ∃ R, opOut C cf e.x.o e.sb = some (R, e.l) ∧ R.v = e.r ∧ e.sa.h = R.h)

inductive Chain : St → List Ent → St → Prop
  | nil (s : St) : Chain s [] s
  | cons (e : Ent) (es : List Ent) (s' : St) : Chain e.sa es s' → Chain e.sb (e :: es) s'

theorem Chain.append {s s' : St} {xs ys : List Ent} (h : Chain s (xs ++ ys) s') : ∃ m, Chain s xs m ∧ Chain m ys s' := by
  induction xs generalizing s with
  | nil => exact ⟨s, .nil s, h⟩
  | cons e xs ih =>
    cases h with
    | cons _ _ _ h =>
      obtain ⟨m, h1, h2⟩ := ih h
      exact ⟨m, .cons e xs m h1, h2⟩

theorem Chain.head {s s' : St} {e : Ent} {es : List Ent} (h : Chain s (e :: es) s') : s = e.sb ∧ Chain e.sa es s' := by
  cases h with
  | cons _ _ _ h => exact ⟨rfl, h⟩

section
variable {C : Ctx} {cf : CallF} {ops : Array Oper}

def Wanted (ops : Array Oper) (e : Ent) : Prop := wantedA ops e.sb.tmps.get e.x.o = some true

theorem EntOK.heap (hcf : CallOK C cf) {e : Ent} (h : EntOK C cf ops e) : Mild e.sb.h e.sa.h (if e.x.c = .eff then e.l else []) ∧
    (e.x.c ≠ .eff → (e.sa.h = e.sb.h ∨ (e.x.c = .alloc ∧ Wanted ops e ∧ ∃ B, e.sa.h = e.sb.h.push B))) := by
  rcases h.out with ⟨_, _, hh, _⟩ | ⟨hw, R, hR, _, hh⟩
  · rw [hh]; exact ⟨.refl _ _, fun _ => .inl rfl⟩
  · have hm := opOutE_mild hcf (show opOutE C cf e.x.o (glob C.gs e.sb.tmps) e.sb.h = _ from hR)
    unfold opOut opOutE at hR
    rw [← h.cl] at hR
    split at hR
    · rename_i hc
      split at hR
      · injection hR with hR; injection hR with h1 h2; subst h1
        rw [hh]; exact ⟨.refl _ _, fun _ => .inl rfl⟩
      · cases hR
    · rename_i hc
      split at hR
      · injection hR with hR; injection hR with h1 h2; subst h1
        rw [hh]; exact ⟨.refl _ _, fun _ => .inl rfl⟩
      · cases hR
    · rename_i hc
      split at hR
      · rename_i v blk hv
        injection hR with hR; injection hR with h1 h2; subst h1
        rw [hh]; exact ⟨.push _ _ _, fun _ => .inr ⟨hc, hw, blk, rfl⟩⟩
      · cases hR
    · rename_i hc
      rw [hh]
      refine ⟨?_, fun hne => absurd hc hne⟩
      rw [if_pos hc]
      split at hR
      · injection hR with hR; injection hR with h1 h2; subst h1; rw [← h2]; exact hm
      · split at hR
        · injection hR with hR; injection hR with h1 h2; subst h1; rw [← h2]; exact hm
        · cases hR
      · cases hR
    · cases hR

theorem Chain.next (hcf : CallOK C cf) {s s' : St} {es : List Ent} (h : Chain s es s') (ho : ∀ e ∈ es, EntOK C cf ops e) : s.h.next ≤ s'.h.next ∧ s'.n = s.n := by
  induction h with
  | nil s => exact ⟨Nat.le_refl _, rfl⟩
  | cons e es s' h ih =>
    have h1 := (ho e (List.mem_cons_self)).heap hcf
    obtain ⟨h2, h3⟩ := ih fun x hx => ho x (List.mem_cons_of_mem _ hx)
    exact ⟨Nat.le_trans h1.1.next h2, by rw [h3, (ho e (List.mem_cons_self)).n]⟩

theorem Chain.keep (hcf : CallOK C cf) {s s' : St} {es : List Ent} (h : Chain s es s') (ho : ∀ e ∈ es, EntOK C cf ops e) {b : Nat} (hb : b < s.h.next) (hl : ∀ e ∈ es, e.x.c = .eff → b ∉ e.l) :
    s'.h.get b = s.h.get b := by
  induction h with
  | nil s => rfl
  | cons e es s' h ih =>
    have h1 := ((ho e (List.mem_cons_self)).heap hcf).1
    rw [ih (fun x hx => ho x (List.mem_cons_of_mem _ hx)) (Nat.lt_of_lt_of_le hb h1.next) (fun x hx => hl x (List.mem_cons_of_mem _ hx))]
    refine h1.keep b ?_ hb
    split
    · rename_i hc; exact hl e (List.mem_cons_self) hc
    · simp

theorem Fr.push {n : Nat} {ρ : Ren} {h : AH} {w : World} (hr : HR ρ h w) (B : ABlk) : Fr n ρ h w ρ (h.push B) w := by
  refine ⟨rfl, rfl, rfl, Nat.le_refl _, fun _ _ _ => rfl, fun b g hb hrw => ?_, fun _ _ => rfl, by simp [AH.push], Ext.refl _⟩
  rw [AH.get_push, if_neg] at hrw
  · exact .inl ⟨b, g, hb, hrw, rfl⟩
  · intro e; subst e; rw [hr.fresh _ (Nat.le_refl _)] at hb; cases hb

theorem Chain.mild (hcf : CallOK C cf) {s s' : St} {es : List Ent} (h : Chain s es s') (ho : ∀ e ∈ es, EntOK C cf ops e) (hne : ∀ e ∈ es, e.x.c ≠ .eff) {ρ : Ren} {w : World} (hr : HR ρ s.h w) (n : Nat) :
    HR ρ s'.h w ∧ Fr n ρ s.h w ρ s'.h w := by
  induction h with
  | nil s => exact ⟨hr, .refl _ _ _ _⟩
  | cons e es s' h ih =>
    have h1 := ((ho e (List.mem_cons_self)).heap hcf).2 (hne e (List.mem_cons_self))
    have key : HR ρ e.sa.h w ∧ Fr n ρ e.sb.h w ρ e.sa.h w := by
      rcases h1 with h1 | ⟨_, _, B, h1⟩
      · rw [h1]; exact ⟨hr, .refl _ _ _ _⟩
      · rw [h1]; exact ⟨hr.push B, .push hr B⟩
    obtain ⟨a, b⟩ := ih (fun x hx => ho x (List.mem_cons_of_mem _ hx)) (fun x hx => hne x (List.mem_cons_of_mem _ hx)) key.1
    exact ⟨a, key.2.trans b (Nat.le_refl _)⟩

/-! ## Temporaries: what they hold where a part of the operations is done -/
def TS (S : Nat → Bool) : List Ent → (Nat → Option AV) → Nat → Option AV
  | [], T => T
  | e :: es, T => TS S es (match S e.x.i with | true => updT T e.x.o.dst e.r | false => T)

theorem updT_apply (T : Nat → Option AV) (d : Option Tmp) (v : AV) (t : Nat) : updT T d v t = if d = some t then some v else T t := by
  cases d with
  | none => simp [updT]
  | some i =>
    by_cases h : t = i
    · subst h; simp [updT]
    · have : ¬ (some i = some t) := fun e => h (by injection e with e; exact e.symm)
      simp [updT, h, this]

theorem TS_append (S : Nat → Bool) : ∀ (xs ys : List Ent) (T : Nat → Option AV), TS S (xs ++ ys) T = TS S ys (TS S xs T)
  | [], _, _ => rfl
  | _ :: xs, ys, _ => TS_append S xs ys _

theorem TS_none {S : Nat → Bool} {t : Nat} : ∀ {es : List Ent} {T : Nat → Option AV}, (∀ e ∈ es, e.x.o.dst = some t → S e.x.i = false) → TS S es T t = T t
  | [], _, _ => rfl
  | e :: _, _, h => by
    simp only [TS]
    rw [TS_none fun x hx => h x (List.mem_cons_of_mem _ hx)]
    cases hs : S e.x.i with
    | false => rfl
    | true =>
      simp only [updT_apply]
      rw [if_neg]
      intro hd
      rw [h e (List.mem_cons_self) hd] at hs
      cases hs

theorem TS_same {S S' : Nat → Bool} {t : Nat} : ∀ {es : List Ent} {T T' : Nat → Option AV}, T t = T' t → (∀ e ∈ es, e.x.o.dst = some t → S e.x.i = S' e.x.i) → TS S es T t = TS S' es T' t
  | [], _, _, h, _ => h
  | e :: es, T, T', h, hs => by
    simp only [TS]
    refine TS_same ?_ fun x hx => hs x (List.mem_cons_of_mem _ hx)
    by_cases hd : e.x.o.dst = some t
    · rw [hs e (List.mem_cons_self) hd]
      cases S' e.x.i
      · exact h
      · simp only [updT_apply, hd, if_true]
    · have h1 : ∀ (S : Nat → Bool) (T : Nat → Option AV), (match S e.x.i with | true => updT T e.x.o.dst e.r | false => T) t = T t := by
        intro S T
        cases S e.x.i
        · rfl
        · simp only [updT_apply, hd, if_false]
      rw [h1, h1]; exact h

theorem Chain.tmps {s s' : St} {es : List Ent} (h : Chain s es s') (ho : ∀ e ∈ es, EntOK C cf ops e) : s'.tmps.get = TS (fun _ => true) es s.tmps.get := by
  induction h with
  | nil s => rfl
  | cons e es s' h ih =>
    rw [ih fun x hx => ho x (List.mem_cons_of_mem _ hx)]
    simp only [TS]
    rw [(ho e (List.mem_cons_self)).tm]

/-! ## The certificate -/
def Deps (o : Oper) (S : Nat → Bool) : Prop := ∀ e ∈ o.after, Region.binds .any e = true → S e.on = true
def Closed (ops : Array Oper) (S : Nat → Bool) : Prop := ∀ (j : Nat) (o : Oper), S j = true → ops[j]? = some o → Deps o S
def BitsOK (ops : Array Oper) (x : It) : Prop := ∀ S, Closed ops S → Deps x.o S → ∀ k, x.bits.testBit k = true → S k = true

structure Pair (ops : Array Oper) (a b : Ent) : Prop where
  ok : pairOk ops a.x b.x = true
  ne : a.x.i ≠ b.x.i
  re : a.x.c = .read → b.x.c = .eff → ordered a.x b.x = false → apartL a.l b.l = true
  er : a.x.c = .eff → b.x.c = .read → ordered a.x b.x = false → apartL b.l a.l = true
  ae : a.x.c = .alloc → b.x.c = .eff → ordered a.x b.x = false → apartL a.l b.l = true

structure RegOK (C : Ctx) (cf : CallF) (ops : Array Oper) (tr : List Ent) : Prop where
  ents : ∀ e ∈ tr, EntOK C cf ops e
  pw : tr.Pairwise (Pair ops)
  bits : ∀ e ∈ tr, BitsOK ops e.x
  nb : ∀ e ∈ tr, e.x.c ≠ .bad

theorem Pair.noBack {a b : Ent} (h : Pair ops a b) : a.x.bits.testBit b.x.i = false := by
  have := h.ok
  unfold pairOk at this
  simp only [Bool.and_eq_true, Bool.not_eq_true'] at this
  exact this.1.2

theorem memT_iff {t : Nat} : ∀ {l : List Nat}, memT t l = true ↔ t ∈ l
  | [] => by simp [memT]
  | x :: xs => by simp [memT, memT_iff, Nat.beq_eq]

/-- An earlier one that writes what a later one looks at, or writes, is ahead of it in every order. -/
theorem Pair.writes {a b : Ent} (h : Pair ops a b) {t : Nat} (hd : a.x.o.dst = some t) (ht : t ∈ looks ops b.x.o ∨ b.x.o.dst = some t) : b.x.bits.testBit a.x.i = true := by
  have hb := h.noBack
  have := h.ok
  unfold pairOk at this
  simp only [Bool.and_eq_true] at this
  have h1 := this.1.1.1
  unfold tmpsApart at h1
  rw [hd] at h1
  simp only [Bool.or_eq_true, Bool.and_eq_true] at h1
  rcases h1 with ⟨h2, h3⟩ | h2
  · rcases ht with ht | ht
    · rw [memT_iff.2 ht] at h2; cases h2
    · rw [ht] at h3; simp at h3
  · unfold ordered at h2
    rw [hb] at h2
    simpa using h2

/-- A later one that writes what an earlier one looks at, or writes, is behind it in every order. -/
theorem Pair.writes' {a b : Ent} (h : Pair ops a b) {t : Nat} (hd : b.x.o.dst = some t) (ht : t ∈ looks ops a.x.o ∨ a.x.o.dst = some t) : b.x.bits.testBit a.x.i = true := by
  have hb := h.noBack
  have := h.ok
  unfold pairOk at this
  simp only [Bool.and_eq_true] at this
  have h1 := this.1.1.2
  unfold tmpsApart at h1
  rw [hd] at h1
  simp only [Bool.or_eq_true, Bool.and_eq_true] at h1
  rcases h1 with ⟨h2, h3⟩ | h2
  · rcases ht with ht | ht
    · rw [memT_iff.2 ht] at h2; cases h2
    · rw [ht] at h3; simp at h3
  · unfold ordered at h2
    rw [hb] at h2
    simpa using h2

theorem Pair.effs {a b : Ent} (h : Pair ops a b) (ha : a.x.c = .eff) (hb : b.x.c = .eff ∨ b.x.c = .alloc) : b.x.bits.testBit a.x.i = true := by
  have := h.ok
  unfold pairOk at this
  rw [ha] at this
  rcases hb with hb | hb <;> rw [hb] at this <;> simp only [Bool.and_eq_true] at this <;> exact this.2

theorem apartL_spec {xs ys : Log} (h : apartL xs ys = true) : ∀ b ∈ xs, b ∉ ys := by
  intro b hb hy
  unfold apartL at h
  rw [List.all_eq_true] at h
  have := h b hb
  rw [memT_iff.2 hy] at this
  cases this

end
end Go.Abs
