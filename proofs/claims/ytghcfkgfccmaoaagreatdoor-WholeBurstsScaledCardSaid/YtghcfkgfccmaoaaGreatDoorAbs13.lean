/-
  What an operation does to the abstract heap; what it looks at. (Helper theorems; each says its own conditions.)
-/
import Derived.Test.YtghcfkgfccmaoaaGreatDoorAbs12

/-! What an operation does to the abstract heap; what it looks at. -/
namespace Go.Abs
open Go

theorem Mild.refl (h : AH) (l : Log) : Mild h h l := ⟨Nat.le_refl _, id, fun _ _ _ => rfl⟩

theorem Mild.trans {h h1 h2 : AH} {l1 l2 : Log} (a : Mild h h1 l1) (b : Mild h1 h2 l2) : Mild h h2 (l2 ++ l1) :=
  ⟨Nat.le_trans a.next b.next, fun hw => b.wf (a.wf hw), fun x hx hlt => by
    rw [b.keep x (fun hm => hx (List.mem_append_left _ hm)) (Nat.lt_of_lt_of_le hlt a.next), a.keep x (fun hm => hx (List.mem_append_right _ hm)) hlt]⟩

theorem Mild.push (h : AH) (B : ABlk) (l : Log) : Mild h (h.push B) l :=
  ⟨by simp [AH.push], fun hw b hb => by
    simp only [AH.push] at hb
    rw [AH.get_push, if_neg (by omega)]; exact hw b (by omega), fun b _ hb => by rw [AH.get_push, if_neg (by omega)]⟩

theorem Mild.put {h : AH} {b : Nat} {B : ABlk} (hl : h.get b ≠ .dead) : Mild h (h.put b B) [b] :=
  ⟨Nat.le_refl _, fun hw x hx => by
    rw [AH.get_put, if_neg]
    · exact hw x hx
    · intro e; subst e; exact hl (hw x hx), fun x hx _ => by rw [AH.get_put, if_neg (by simpa using hx)]⟩

theorem setCells_mild {h h' : AH} {b off : Nat} {vs : List AV} (hs : setCells h b off vs = some h') : Mild h h' [b] := by
  unfold setCells at hs
  split at hs
  · rename_i c hget
    cases hro : c.ro with
    | true => rw [hro] at hs; simp at hs
    | false =>
      rw [hro] at hs; simp only [cond_false] at hs
      cases hlt : Nat.ble (off + vs.length) c.n with
      | false => rw [hlt] at hs; simp at hs
      | true =>
        rw [hlt] at hs; simp at hs; subst hs
        exact .put (by rw [hget]; simp)
  · cases hs

section
variable {P : Program}

theorem storeA_mild {h : AH} {t : TypeId} {a v : AV} {r : R} (hs : storeA P h t a v = some r) : Mild h r.h r.log := by
  unfold storeA at hs
  split at hs
  · split at hs
    · split at hs
      · split at hs
        · rename_i h' hset
          injection hs with hs; subst hs
          exact setCells_mild hset
        · cases hs
      · cases hs
    · cases hs
  · cases hs

theorem mapUpdateA_mild {h : AH} {t : TypeId} {m k v : AV} {r : R} (hs : mapUpdateA P h t m k v = some r) : Mild h r.h r.log := by
  unfold mapUpdateA at hs
  split at hs
  · split at hs
    · split at hs
      · rename_i es hget
        split at hs
        · injection hs with hs; subst hs
          exact .put (by rw [hget]; simp)
        · cases hs
      · cases hs
    · cases hs
  · cases hs

theorem deleteA_mild {h : AH} {t : TypeId} {m k : AV} {r : R} (hs : deleteA P h t m k = some r) : Mild h r.h r.log := by
  unfold deleteA at hs
  split at hs
  · split at hs
    · injection hs with hs; subst hs; exact .refl _ _
    · split at hs
      · rename_i es hget
        split at hs
        · injection hs with hs; subst hs
          exact .put (by rw [hget]; simp)
        · cases hs
      · cases hs
    · cases hs
  · cases hs

theorem clearA_mild {h : AH} {t : TypeId} {x : AV} {r : R} (hs : clearA P h t x = some r) : Mild h r.h r.log := by
  unfold clearA at hs
  split at hs
  · split at hs
    · injection hs with hs; subst hs; exact .refl _ _
    · split at hs
      · split at hs
        · rename_i h' hset
          injection hs with hs; subst hs
          exact setCells_mild hset
        · cases hs
      · cases hs
    · cases hs
  · injection hs with hs; subst hs; exact .refl _ _
  · cases hs

theorem copyA_mild {h : AH} {t : TypeId} {d s : AV} {r : R} (hs : copyA P h t d s = some r) : Mild h r.h r.log := by
  unfold copyA at hs
  split at hs
  · split at hs
    · injection hs with hs; subst hs; exact .refl _ _
    · split at hs
      · split at hs
        · split at hs
          · rename_i h' hset _
            injection hs with hs; subst hs
            exact setCells_mild hset
          · cases hs
        · cases hs
      · cases hs
  · cases hs

theorem appendA_mild {h : AH} {t t2 : TypeId} {s x : AV} {r : R} (hs : appendA P h t t2 s x = some r) : Mild h r.h r.log := by
  unfold appendA at hs
  split at hs
  · split at hs
    · cases hs
    · split at hs
      · injection hs with hs; subst hs; exact .refl _ _
      · split at hs
        · injection hs with hs; subst hs; exact .refl _ _
        · cases hs
      · cases hs
    · split at hs
      · split at hs
        · cases hs
        · split at hs
          · split at hs
            · injection hs with hs; subst hs; exact .push _ _ _
            · cases hs
          · split at hs
            · split at hs
              · rename_i h' hset
                injection hs with hs; subst hs
                exact setCells_mild hset
              · cases hs
            · split at hs
              · split at hs
                · injection hs with hs; subst hs; exact .push _ _ _
                · split at hs
                  · rename_i c hget
                    split at hs
                    · injection hs with hs; subst hs
                      have h1 : Mild h (h.put _ .dead) [_] := .put (B := .dead) (by rw [hget]; simp)
                      simpa [newCells] using h1.trans (Mild.push (h.put _ .dead) _ [])
                    · cases hs
                  · cases hs
              · cases hs
          · cases hs
      · cases hs
  · cases hs

theorem effA_mild {env : Env} {h : AH} {op : Op} {r : R} (hs : effA P env h op = some (.val r)) : Mild h r.h r.log := by
  cases op <;> simp only [effA] at hs <;> first | (cases hs; done) | skip
  case store t a x =>
    simp only [on2, valO] at hs
    split at hs
    · split at hs
      · split at hs
        · rename_i hr; injection hs with hs; injection hs with hs; subst hs; exact storeA_mild hr
        · cases hs
      · cases hs
    · cases hs
  case mapUpdate t m k x =>
    simp only [on2, on1, valO] at hs
    split at hs
    · split at hs
      · split at hs
        · split at hs
          · rename_i hr; injection hs with hs; injection hs with hs; subst hs; exact mapUpdateA_mild hr
          · cases hs
        · cases hs
      · cases hs
    · cases hs
  case call c =>
    split at hs
    · split at hs
      · simp only [valO] at hs
        split at hs
        · rename_i hr; injection hs with hs; injection hs with hs; subst hs; exact appendA_mild hr
        · cases hs
      · simp only [valO] at hs
        split at hs
        · rename_i hr; injection hs with hs; injection hs with hs; subst hs; exact copyA_mild hr
        · cases hs
      · simp only [valO] at hs
        split at hs
        · rename_i hr; injection hs with hs; injection hs with hs; subst hs; exact deleteA_mild hr
        · cases hs
      · simp only [valO] at hs
        split at hs
        · rename_i hr; injection hs with hs; injection hs with hs; subst hs; exact clearA_mild hr
        · cases hs
      · cases hs
    · split at hs
      · split at hs
        · injection hs with hs; cases hs
        · cases hs
      · cases hs
    · cases hs

theorem opOutE_mild {C : Ctx} {cf : CallF} (hcf : CallOK C cf) {o : Oper} {env : Env} {h : AH} {r : R} {l : Log} (hs : opOutE C cf o env h = some (r, l)) : Mild h r.h r.log := by
  unfold opOutE at hs
  split at hs
  · split at hs
    · injection hs with hs; injection hs with h1 h2; subst h1; exact .refl _ _
    · cases hs
  · split at hs
    · injection hs with hs; injection hs with h1 h2; subst h1; exact .refl _ _
    · cases hs
  · split at hs
    · injection hs with hs; injection hs with h1 h2; subst h1; exact .push _ _ _
    · cases hs
  · split at hs
    · rename_i r' hv
      injection hs with hs; injection hs with h1 h2; subst h1; exact effA_mild hv
    · split at hs
      · rename_i r' hr'
        injection hs with hs; injection hs with h1 h2; subst h1
        exact (hcf _ _ _ _ hr').2.1
      · cases hs
    · cases hs
  · cases hs

/-! ## What an operation looks at -/
theorem evs_congr {env env' : Env} : ∀ {xs : List Operand}, (∀ x ∈ xs, env x = env' x) → evs env xs = evs env' xs
  | [], _ => rfl
  | x :: xs, h => by
    simp only [evs, h x (List.mem_cons_self), evs_congr fun y hy => h y (List.mem_cons_of_mem _ hy)]

theorem evp_congr {env env' : Env} : ∀ {xs : List (Nat × Operand)}, (∀ x ∈ xs.map (·.2), env x = env' x) → evp env xs = evp env' xs
  | [], _ => rfl
  | (i, x) :: xs, h => by
    simp only [evp, h x (by simp), evp_congr fun y hy => h y (by simp at hy ⊢; exact .inr hy)]

theorem evo_congr {env env' : Env} {x : Option Operand} (h : ∀ y, x = some y → env y = env' y) : evo env x = evo env' x := by
  cases x with
  | none => rfl
  | some y => simp only [evo, h y rfl]

theorem call_args_congr {env env' : Env} {c : Call} (h : ∀ x ∈ (Op.call c).operands, env x = env' x) : evs env c.args.toList = evs env' c.args.toList :=
  evs_congr fun x hx => h x (by simp [Op.operands, Call.operands]; exact .inr (by simpa using hx))

theorem pureA_congr {env env' : Env} {op : Op} (h : ∀ x ∈ op.operands, env x = env' x) : pureA P env op = pureA P env' op := by
  cases op <;> try rfl
  case move x => exact h x (by simp [Op.operands])
  case assign x => exact h x (by simp [Op.operands])
  case pick c a b => simp only [pureA, h c (by simp [Op.operands]), h a (by simp [Op.operands]), h b (by simp [Op.operands])]
  case build t ps => simp only [pureA, evp_congr (env := env) (env' := env') (xs := ps.toList) fun x hx => h x (by simpa [Op.operands] using hx)]
  case nilCheck x => simp only [pureA, h x (by simp [Op.operands])]
  case binOp op t x y yt => simp only [pureA, on2, h x (by simp [Op.operands]), h y (by simp [Op.operands])]
  case unOp op t x => simp only [pureA, on1, h x (by simp [Op.operands])]
  case convert s d x => simp only [pureA, on1, h x (by simp [Op.operands])]
  case makeFunc fn first cap =>
    simp only [pureA, evs_congr (env := env) (env' := env') (xs := first.toList) fun x hx => h x (by simp [Op.operands]; exact .inl (by simpa using hx)),
      evs_congr (env := env) (env' := env') (xs := cap.toList) fun x hx => h x (by simp [Op.operands]; exact .inr (by simpa using hx))]
  case slice t x lo hi mx =>
    simp only [pureA, on1, h x (by simp [Op.operands]), evo_congr (env := env) (env' := env') (x := lo) fun y hy => h y (by subst hy; simp [Op.operands]),
      evo_congr (env := env) (env' := env') (x := hi) fun y hy => h y (by subst hy; simp [Op.operands]), evo_congr (env := env) (env' := env') (x := mx) fun y hy => h y (by subst hy; simp [Op.operands])]
  case fieldAddr t x f => simp only [pureA, on1, h x (by simp [Op.operands])]
  case field t x f => simp only [pureA, on1, h x (by simp [Op.operands])]
  case indexAddr t x i => simp only [pureA, on2, h x (by simp [Op.operands]), h i (by simp [Op.operands])]
  case index t x i => simp only [pureA, on2, h x (by simp [Op.operands]), h i (by simp [Op.operands])]
  case extract t i => simp only [pureA, h t (by simp [Op.operands])]
  case call c => simp only [pureA, call_args_congr h]

theorem readA_congr {env env' : Env} {h : AH} {op : Op} (he : ∀ x ∈ op.operands, env x = env' x) : readA P env h op = readA P env' h op := by
  cases op <;> try rfl
  case load t a => simp only [readA, on1, he a (by simp [Op.operands])]
  case lookup t m k ok => simp only [readA, on2, he m (by simp [Op.operands]), he k (by simp [Op.operands])]
  case call c => simp only [readA, call_args_congr he]

theorem allocA_congr {env env' : Env} {b : Nat} {op : Op} (he : ∀ x ∈ op.operands, env x = env' x) : allocA P env b op = allocA P env' b op := by
  cases op <;> try rfl
  case box e x => simp only [allocA, on1, he x (by simp [Op.operands])]
  case buildSlice t n ps => simp only [allocA, evp_congr (env := env) (env' := env') (xs := ps.toList) fun x hx => he x (by simpa [Op.operands] using hx)]
  case makeSlice t l c => simp only [allocA, on2, he l (by simp [Op.operands]), he c (by simp [Op.operands])]

theorem effA_congr {env env' : Env} {h : AH} {op : Op} (he : ∀ x ∈ op.operands, env x = env' x) : effA P env h op = effA P env' h op := by
  cases op <;> try rfl
  case store t a x => simp only [effA, on2, he a (by simp [Op.operands]), he x (by simp [Op.operands])]
  case mapUpdate t m k x => simp only [effA, on2, on1, he m (by simp [Op.operands]), he k (by simp [Op.operands]), he x (by simp [Op.operands])]
  case call c =>
    simp only [effA, call_args_congr he]
    cases hc : c.callee with
    | value f => simp only [he f (by simp [Op.operands, Call.operands, hc])]
    | _ => rfl

theorem readAt_congr {env env' : Env} {op : Op} (he : ∀ x ∈ op.operands, env x = env' x) : readAt env op = readAt env' op := by
  cases op <;> try rfl
  case load t a => simp only [readAt, he a (by simp [Op.operands])]
  case lookup t m k ok => simp only [readAt, he m (by simp [Op.operands])]
  case call c =>
    simp only [readAt]
    split
    · rename_i x hx
      rw [he x]
      simp [Op.operands, Call.operands]
      exact .inr (by rw [← Array.mem_toList_iff, hx]; simp)
    · rfl

theorem evs_one {env : Env} {xs : List Operand} {v : AV} (h : evs env xs = some [v]) : ∃ y, xs = [y] ∧ env y = some v := by
  cases xs with
  | nil => simp [evs] at h
  | cons y ys =>
    simp only [evs] at h
    split at h
    · rename_i u hu
      split at h
      · rename_i vs hvs
        injection h with h; injection h with h1 h2; subst h1 h2
        cases ys with
        | nil => exact ⟨y, rfl, hu⟩
        | cons z zs =>
          simp only [evs] at hvs
          split at hvs
          · split at hvs
            · injection hvs with hvs; cases hvs
            · cases hvs
          · cases hvs
      · cases h
    · cases h

theorem lenA_heap {h h' : AH} {t : TypeId} {x : AV} (hb : ∀ b, x = .mp b → h'.get b = h.get b) : lenA P h' t x = lenA P h t x := by
  cases x <;> try rfl
  case mp b => simp only [lenA, hb b rfl]

/-- What is read hangs on the block alone that is told. -/
theorem readA_heap {env : Env} {h h' : AH} {op : Op} (hb : ∀ b ∈ readAt env op, h'.get b = h.get b) : readA P env h' op = readA P env h op := by
  cases op <;> try rfl
  case load t a =>
    simp only [readA, on1, readAt] at *
    cases ha : env a with
    | none => rfl
    | some v =>
      simp only [ha] at hb ⊢
      cases v <;> try rfl
      case ptr b off =>
        have := hb b (by simp)
        simp only [loadA, cellsAt, cellAt, this]
  case lookup t m k ok =>
    simp only [readA, on2, readAt] at *
    cases hm : env m with
    | none => rfl
    | some v =>
      simp only [hm] at hb ⊢
      cases env k with
      | none => rfl
      | some u =>
        cases v <;> try rfl
        case mp b =>
          have := hb b (by simp)
          simp only [lookupA, this]
  case call c =>
    simp only [readA]
    split
    · rename_i t ts x e1 e2 e3
      refine lenA_heap fun b hxb => ?_
      subst hxb
      obtain ⟨y, hy1, hy2⟩ := evs_one e3
      exact hb b (by simp only [readAt, hy1, hy2]; simp)
    · rfl

/-- What is read is there. -/
theorem readA_live {env : Env} {h : AH} {op : Op} {v : AV} (hr : readA P env h op = some v) : ∀ b ∈ readAt env op, h.get b ≠ .dead := by
  intro b hb
  cases op <;> simp only [readAt] at hb <;> first | (cases hb; done) | skip
  case load t a =>
    simp only [readA, on1] at hr
    split at hb
    · rename_i b' off ha
      rw [ha] at hr
      simp only [List.mem_singleton] at hb; subst hb
      simp only [loadA] at hr
      intro hdead
      split at hr
      · split at hr
        · split at hr
          · rename_i hc; simp [cellsAt, hdead] at hc
          · cases hr
        · simp [cellAt, hdead] at hr
      · cases hr
    · cases hb
  case lookup t m k ok =>
    simp only [readA, on2] at hr
    split at hb
    · rename_i b' ha
      rw [ha] at hr
      simp only [List.mem_singleton] at hb; subst hb
      intro hdead
      cases hku : env k with
      | none => rw [hku] at hr; cases hr
      | some u =>
        rw [hku] at hr
        simp only [lookupA, hdead] at hr
        split at hr
        · split at hr <;> cases hr
        · cases hr
    · cases hb
  case call c =>
    simp only [readA] at hr
    split at hr
    · rename_i t ts x e1 e2 e3
      obtain ⟨y, hy1, hy2⟩ := evs_one e3
      rw [hy1] at hb
      simp only [hy2] at hb
      cases x <;> simp only at hb <;> first | (cases hb; done) | skip
      case mp b' =>
        simp only [List.mem_singleton] at hb; subst hb
        intro hdead
        simp only [lenA, hdead] at hr
        split at hr <;> cases hr
    · cases hr

/-- What is read is named by an operand. -/
theorem readAt_named {ρ : Ren} {env : Env} {ev : Operand → Value} (he : EnvR ρ env ev) {op : Op} : ∀ b ∈ readAt env op, ρ b ≠ none := by
  intro b hb
  cases op <;> simp only [readAt] at hb <;> first | (cases hb; done) | skip
  case load t a =>
    split at hb
    · rename_i b' off ha
      simp only [List.mem_singleton] at hb; subst hb
      obtain ⟨g, hg, _⟩ := he a _ ha
      rw [hg]; simp
    · cases hb
  case lookup t m k ok =>
    split at hb
    · rename_i b' ha
      simp only [List.mem_singleton] at hb; subst hb
      obtain ⟨g, hg, _⟩ := he m _ ha
      rw [hg]; simp
    · cases hb
  case call c =>
    split at hb
    · split at hb
      · rename_i x _ _ b' ha
        simp only [List.mem_singleton] at hb; subst hb
        obtain ⟨g, hg, _⟩ := he x _ ha
        rw [hg]; simp
      · cases hb
    · cases hb

theorem opOutE_congr {C : Ctx} {cf : CallF} {o : Oper} {env env' : Env} {h : AH} (he : ∀ x ∈ o.op.operands, env x = env' x) : opOutE C cf o env h = opOutE C cf o env' h := by
  simp only [opOutE, pureA_congr he, readA_congr he, allocA_congr he, effA_congr he, readAt_congr he]

theorem wantedA_congr {ops : Array Oper} {T T' : Nat → Option AV} {o : Oper} (h : ∀ t ∈ looks ops o, T t = T' t) : wantedA ops T o = wantedA ops T' o := by
  unfold wantedA
  unfold looks at h
  cases hg : o.guard with
  | none => rfl
  | some gw =>
    obtain ⟨j, want⟩ := gw
    simp only [hg] at h ⊢
    cases hd : (ops[j]?).bind (·.dst) with
    | none => rfl
    | some d =>
      simp only [hd] at h ⊢
      rw [h d (by simp)]

theorem mem_tmpsOf {t : Tmp} : ∀ {xs : List Operand}, Operand.tmp t ∈ xs → t ∈ tmpsOf xs
  | x :: xs, h => by
    cases h with
    | head => simp [tmpsOf]
    | tail _ h =>
      have := mem_tmpsOf h
      cases x <;> simp [tmpsOf, this]

theorem globF_congr {gs : Nat → Option Nat} {ops : Array Oper} {T T' : Nat → Option AV} {o : Oper} (h : ∀ t ∈ looks ops o, T t = T' t) : ∀ x ∈ o.op.operands, globF gs T x = globF gs T' x := by
  intro x hx
  cases x with
  | tmp t => exact h t (List.mem_append_left _ (mem_tmpsOf (by simpa using hx)))
  | _ => rfl

end
end Go.Abs
