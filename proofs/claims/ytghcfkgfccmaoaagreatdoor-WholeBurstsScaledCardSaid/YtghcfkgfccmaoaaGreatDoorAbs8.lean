/-
  Soundness: maps; all that read. (Helper theorems; each says its own conditions.)
-/
import Derived.Test.YtghcfkgfccmaoaaGreatDoorAbs7

/-! Soundness: maps; all that read. -/
namespace Go.Abs
open Go

theorem MR.get {ρ : Ren} : ∀ {es : List (AV × AV)} {ces : List MapEntry}, MR ρ es ces → ∀ (j : Nat) (k v : AV), es[j]? = some (k, v) → ∃ e, ces[j]? = some e ∧ VR ρ k e.key ∧ VR ρ v e.val
  | [], _, _, j, k, v, h => by simp at h
  | (a, b) :: es, _, ⟨e, es', he, h1, h2, h3⟩, j, k, v, h => by
    subst he
    cases j with
    | zero => simp at h; obtain ⟨rfl, rfl⟩ := h; exact ⟨e, rfl, h1, h2⟩
    | succ j => simp at h; obtain ⟨e', he', hh⟩ := MR.get h3 j k v h; exact ⟨e', by simpa using he', hh⟩

theorem MR.set {ρ : Ren} {k v : AV} {f : MapEntry → MapEntry} (hf : ∀ e, VR ρ k (f e).key ∧ VR ρ v (f e).val) : ∀ {es : List (AV × AV)} {ces : List MapEntry}, MR ρ es ces → ∀ (j : Nat), MR ρ (es.set j (k, v)) (ces.modify j f)
  | [], _, h, j => by simp only [MR] at h; subst h; simp [MR]
  | (a, b) :: es, _, ⟨e, es', he, h1, h2, h3⟩, j => by
    subst he
    cases j with
    | zero => simpa using ⟨f e, es', rfl, (hf e).1, (hf e).2, h3⟩
    | succ j => simpa using ⟨e, _, rfl, h1, h2, MR.set hf h3 j⟩

theorem MR.push {ρ : Ren} {k v : AV} {e : MapEntry} (h1 : VR ρ k e.key) (h2 : VR ρ v e.val) : ∀ {es : List (AV × AV)} {ces : List MapEntry}, MR ρ es ces → MR ρ (es ++ [(k, v)]) (ces ++ [e])
  | [], _, h => by simp only [MR] at h; subst h; exact ⟨e, [], rfl, h1, h2, rfl⟩
  | (a, b) :: es, _, ⟨e', es', he, a1, a2, a3⟩ => by subst he; exact ⟨e', _, rfl, a1, a2, MR.push h1 h2 a3⟩

theorem MR.erase {ρ : Ren} : ∀ {es : List (AV × AV)} {ces : List MapEntry}, MR ρ es ces → ∀ (j : Nat), MR ρ (es.eraseIdx j) (ces.eraseIdx j)
  | [], _, h, j => by simp only [MR] at h; subst h; simp [MR]
  | (a, b) :: es, _, ⟨e, es', he, h1, h2, h3⟩, j => by
    subst he
    cases j with
    | zero => simpa using h3
    | succ j => simpa using ⟨e, _, rfl, h1, h2, MR.erase h3 j⟩

theorem scalEq_true {d : Option TypeDesc} {a b : AV} (h : scalEq d a b = some true) : a = b ∧ ((∃ k n, a = .int k n) ∨ ∃ c, a = .bool c) := by
  unfold scalEq at h
  split at h
  · split at h
    · rename_i hk
      injection h with h
      rw [ieq_eq] at h
      have := kindEq_eq hk
      subst this
      have := eq_of_beq h
      subst this
      exact ⟨rfl, .inl ⟨_, _, rfl⟩⟩
    · cases h
  · injection h with h
    have := eq_of_beq h
    subst this
    exact ⟨rfl, .inr ⟨_, rfl⟩⟩
  · cases h

theorem same_scal {a : AV} (ha : (∃ k n, a = .int k n) ∨ ∃ c, a = .bool c) {ρ : Ren} {x y : Value} (hx : VR ρ a x) (hy : VR ρ a y) (n : Nat) : Instr.sameBits n x y = true ∧ x = y := by
  rcases ha with ⟨k, m, rfl⟩ | ⟨c, rfl⟩ <;> simp only [VR] at hx hy <;> subst hx hy
  · exact ⟨by cases n <;> simp [Instr.sameBits], rfl⟩
  · exact ⟨by cases n <;> simp [Instr.sameBits], rfl⟩

section
variable {P : Program}

theorem eqFieldsA_true : ∀ {fs : List Field} {n : Nat} {as bs : List AV}, eqFieldsA P fs n as bs = some true → as = bs ∧ ∀ a ∈ as, (∃ k n, a = .int k n) ∨ ∃ c, a = .bool c
  | [], n, as, bs, h => by
    cases as <;> cases bs <;> simp only [eqFieldsA] at h <;> first | cases h | skip
    exact ⟨rfl, fun a ha => by cases ha⟩
  | f :: fs, n, as, bs, h => by
    cases as with
    | nil => simp [eqFieldsA] at h
    | cons a as =>
    cases bs with
    | nil => simp [eqFieldsA] at h
    | cons b bs =>
    simp only [eqFieldsA] at h
    split at h
    · rename_i p q ho hnm hs hr
      injection h with h
      simp only [Bool.and_eq_true] at h
      obtain ⟨rfl, rfl⟩ := h
      obtain ⟨rfl, h1⟩ := scalEq_true hs
      obtain ⟨rfl, h2⟩ := eqFieldsA_true hr
      exact ⟨rfl, fun c hc => by cases hc with
        | head => exact h1
        | tail _ hc => exact h2 c hc⟩
    · cases h

theorem eqElemsA_true {d : Option TypeDesc} : ∀ {as bs : List AV}, eqElemsA d as bs = some true → as = bs ∧ ∀ a ∈ as, (∃ k n, a = .int k n) ∨ ∃ c, a = .bool c
  | as, bs, h => by
    cases as with
    | nil =>
      cases bs <;> simp only [eqElemsA] at h <;> first | cases h | skip
      exact ⟨rfl, fun a ha => by cases ha⟩
    | cons a as =>
    cases bs with
    | nil => simp [eqElemsA] at h
    | cons b bs =>
    simp only [eqElemsA] at h
    split at h
    · rename_i p q hs hr
      injection h with h
      simp only [Bool.and_eq_true] at h
      obtain ⟨rfl, rfl⟩ := h
      obtain ⟨rfl, h1⟩ := scalEq_true hs
      obtain ⟨rfl, h2⟩ := eqElemsA_true hr
      exact ⟨rfl, fun c hc => by cases hc with
        | head => exact h1
        | tail _ hc => exact h2 c hc⟩
    · cases h

theorem eqAgg_true {t : TypeId} {as bs : List AV} (h : eqAgg P t as bs = some true) : as = bs ∧ ∀ a ∈ as, (∃ k n, a = .int k n) ∨ ∃ c, a = .bool c := by
  unfold eqAgg at h
  split at h
  · cases h
  · split at h
    · split at h
      · cases h
      · exact eqFieldsA_true h
    · split at h
      · split at h
        · exact eqElemsA_true h
        · cases h
      · cases h
    · cases h

theorem same_aggs {ρ : Ren} : ∀ {as : List AV} {xs ys : List Value}, (∀ a ∈ as, (∃ k n, a = AV.int k n) ∨ ∃ c, a = AV.bool c) → VRs ρ as xs → VRs ρ as ys → xs = ys ∧ ∀ n, ((xs.zip ys).all fun (p : Value × Value) => Instr.sameBits n p.1 p.2) = true
  | [], _, _, _, hx, hy => by simp only [VRs] at hx hy; subst hx hy; simp
  | a :: as, _, _, h, ⟨x, xs, hx, hx1, hx2⟩, ⟨y, ys, hy, hy1, hy2⟩ => by
    subst hx hy
    obtain ⟨e, hs⟩ := same_aggs (fun b hb => h b (List.mem_cons_of_mem _ hb)) hx2 hy2
    have h0 := fun n => same_scal (h a (List.mem_cons_self)) hx1 hy1 n
    refine ⟨by rw [(h0 0).2, e], fun n => ?_⟩
    simp [(h0 n).1, hs n]

theorem keyEq_same {ρ : Ren} {t : TypeId} {a b : AV} {x y : Value} (h : keyEq P t a b = some true) (hx : VR ρ a x) (hy : VR ρ b y) : Instr.sameBits 10000 y x = true := by
  unfold keyEq at h
  split at h
  · split at h
    · rename_i hk
      injection h with h
      rw [ieq_eq] at h
      have := kindEq_eq hk; subst this
      have := eq_of_beq h; subst this
      simp only [VR] at hx hy; subst hx hy
      simp [Instr.sameBits]
    · cases h
  · obtain ⟨rfl, hs⟩ := eqAgg_true h
    obtain ⟨xs, rfl, hxs⟩ := hx
    obtain ⟨ys, rfl, hys⟩ := hy
    obtain ⟨rfl, hall⟩ := same_aggs hs hys hxs
    have := hall 9999
    show Instr.sameBits (9999 + 1) _ _ = true
    simp only [Instr.sameBits, List.size_toArray, beq_self_eq_true, Bool.true_and]
    exact this
  · cases h

theorem checkKey_sound {ρ : Ren} {t : TypeId} {k : AV} {v : Value} (h : keyFits P t k = true) (hv : VR ρ k v) (em : Bool) (w : World) : (Instr.checkKey em 10000 t v).run P w = .ok () w := by
  unfold keyFits at h
  split at h
  · rename_i hk
    obtain ⟨ti, i, d, z, hty, e0⟩ := kindOf_spec hk
    have := tk_int (e0 ▸ hty.kind); subst this
    simp only [VR] at hv; subst hv
    obtain ⟨n, hn⟩ : ∃ n, 10000 = n + 1 := ⟨9999, rfl⟩
    rw [hn]
    simp [Instr.checkKey, hty.run_und]
  · rename_i fs xs hk
    obtain ⟨ti, i, d, z, hty, e0⟩ := kindOf_spec hk
    obtain ⟨fl, rfl, _⟩ := tk_struct (e0 ▸ hty.kind)
    obtain ⟨vs, rfl, hvs⟩ := hv
    split at h
    · rename_i r hr
      have hf : eqFieldsA P fl.toList 0 xs xs ≠ none := by
        unfold eqAgg at hr
        simp only [hty.und] at hr
        split at hr
        · cases hr
        · split at hr
          · cases hr
          · rw [hr]; simp
      obtain ⟨n, hn⟩ : ∃ n, 10000 = (n + 1) + 1 := ⟨9998, rfl⟩
      have := checkFields (P := P) w em n vs fl.toList 0 xs hf (by simpa using hvs)
      obtain ⟨d, hd⟩ : ∃ d, d = n + 1 := ⟨_, rfl⟩
      rw [← hd] at hn this
      rw [hn]
      simp only [Instr.checkKey, Sem.run_bind, hty.run_und, Result.andThen_ok]
      rw [← Array.forIn_toList]
      exact (congrArg (fun r => Result.andThen r fun _ w' => Sem.run P (pure ()) w') this).trans rfl
    · cases h
  · cases h

theorem keyEq_agg {t : TypeId} {xs : List AV} {b : AV} {r : Bool} (h : keyEq P t (.agg xs) b = some r) : ∃ ys, b = .agg ys ∧ eqAgg P t xs ys = some r := by
  cases b <;> simp only [keyEq] at h <;> first | (cases h; done) | exact ⟨_, rfl, h⟩

theorem keyEq_int {t : TypeId} {k : IntKind} {a : Int} {b : AV} {r : Bool} (h : keyEq P t (.int k a) b = some r) : ∃ c, b = .int k c ∧ r = (a == c) := by
  cases b <;> simp only [keyEq] at h <;> first | (cases h; done) | skip
  split at h
  · rename_i hk
    have := kindEq_eq hk; subst this
    injection h with h
    exact ⟨_, rfl, by rw [← h, ieq_eq]⟩
  · cases h

def hit (i0 : Nat) (ces : List MapEntry) : Option Nat → Option (Nat × Value)
  | none => none
  | some j => (ces[j]?).map fun e => (i0 + j, e.val)

theorem findIx_lt {t : TypeId} {k : AV} : ∀ {es : List (AV × AV)} {j : Nat}, findIx P t k es = some (some j) → j < es.length
  | [], j, h => by simp [findIx] at h
  | (k', v) :: es, j, h => by
    simp only [findIx] at h
    split at h
    · injection h with h; injection h with h; subst h; simp
    · split at h
      · rename_i j' hj
        injection h with h; injection h with h; subst h
        simpa using findIx_lt hj
      · rename_i hne
        exact absurd h (hne _)
    · cases h

theorem findAsking_sound {ρ : Ren} {t : TypeId} {k : AV} {kv : Value} (hkv : VR ρ k kv) (hagg : ∃ xs, k = .agg xs) (w : World) :
    ∀ {es : List (AV × AV)} {ces : List MapEntry} {r : Option Nat} (i0 : Nat), findIx P t k es = some r → MR ρ es ces →
      (Instr.findAsking t kv ces i0).run P w = .ok (hit i0 ces r) w ∧
      ∀ j, r = some j → ∃ e, ces[j]? = some e ∧ Instr.sameBits 10000 e.key kv = true
  | [], _, r, i0, h, hm => by
    simp only [MR] at hm; subst hm
    simp only [findIx] at h; injection h with h; subst h
    exact ⟨by simp [Instr.findAsking, hit], fun j hj => by cases hj⟩
  | (k', v) :: es, _, r, i0, h, hm => by
    obtain ⟨e, es', rfl, h1, h2, h3⟩ := hm
    obtain ⟨xs, rfl⟩ := hagg
    simp only [findIx] at h
    split at h
    · rename_i hk
      injection h with h; subst h
      have hs := keyEq_same hk hkv h1
      obtain ⟨bs, rfl, hk⟩ := keyEq_agg hk
      obtain ⟨vs, rfl, hvs⟩ := hkv
      obtain ⟨us, hu, hus⟩ := h1
      have heq := (eqAgg_sound (P := P) hk hvs hus w).1
      rw [← hu] at heq
      refine ⟨?_, fun j hj => by injection hj with hj; subst hj; exact ⟨e, rfl, hs⟩⟩
      simp [Instr.findAsking, Op.equal, Op.maxDepth, heq, hit]
    · rename_i hk
      have hne : (Op.equal t kv e.key).run P w = .ok false w := by
        obtain ⟨bs, rfl, hk⟩ := keyEq_agg hk
        obtain ⟨vs, rfl, hvs⟩ := hkv
        obtain ⟨us, hu, hus⟩ := h1
        have heq := (eqAgg_sound (P := P) hk hvs hus w).1
        rw [← hu] at heq
        simpa [Op.equal, Op.maxDepth] using heq
      have hstep : ∀ r', findIx P t (.agg xs) es = some r' → (Instr.findAsking t kv (e :: es') i0).run P w = .ok (hit (i0 + 1) es' r') w := by
        intro r' hr'
        have := (findAsking_sound hkv ⟨xs, rfl⟩ w (i0 + 1) hr' h3).1
        simp only [Instr.findAsking, Sem.run_bind, hne, Result.andThen_ok, Bool.false_eq_true, if_false, this]
      split at h
      · rename_i j hj
        injection h with h; subst h
        refine ⟨?_, fun j' hj' => ?_⟩
        · rw [hstep _ hj]
          simp [hit, Nat.add_assoc, Nat.add_comm 1 j]
        · injection hj' with hj'; subst hj'
          simpa using (findAsking_sound hkv ⟨xs, rfl⟩ w (i0 + 1) hj h3).2 j rfl
      · rename_i hnn
        cases r with
        | none => exact ⟨by rw [hstep _ h]; rfl, fun j hj => by cases hj⟩
        | some j => exact absurd h (hnn j)
    · cases h

theorem findNow_sound {ρ : Ren} {t : TypeId} {kd : IntKind} {k0 : IntKind} {a : Int} :
    ∀ {es : List (AV × AV)} {ces : List MapEntry} {r : Option Nat} (i0 : Nat), findIx P t (.int k0 a) es = some r → MR ρ es ces →
      Instr.findNow (.int kd) (.int k0 a) ces i0 = some (hit i0 ces r) ∧
      ∀ j, r = some j → ∃ e, ces[j]? = some e ∧ Instr.sameBits 10000 e.key (.int k0 a) = true
  | [], _, r, i0, h, hm => by
    simp only [MR] at hm; subst hm
    simp only [findIx] at h; injection h with h; subst h
    exact ⟨by simp [Instr.findNow, hit], fun j hj => by cases hj⟩
  | (k', v) :: es, _, r, i0, h, hm => by
    obtain ⟨e, es', rfl, h1, h2, h3⟩ := hm
    simp only [findIx] at h
    split at h
    · rename_i hk
      injection h with h; subst h
      have hs := keyEq_same (ρ := ρ) hk (rfl : VR ρ (.int k0 a) (.int k0 a)) h1
      refine ⟨?_, fun j hj => by injection hj with hj; subst hj; exact ⟨e, rfl, hs⟩⟩
      obtain ⟨c, rfl, hk2⟩ := keyEq_int hk
      simp only [VR] at h1
      simp [Instr.findNow, h1, Instr.sameNow, ← hk2, hit]
    · rename_i hk
      have hne : Instr.sameNow (.int kd) (.int k0 a) e.key = some false := by
        obtain ⟨c, rfl, hk2⟩ := keyEq_int hk
        simp only [VR] at h1
        simp [h1, Instr.sameNow, ← hk2]
      have hstep : ∀ r', findIx P t (.int k0 a) es = some r' → Instr.findNow (.int kd) (.int k0 a) (e :: es') i0 = some (hit (i0 + 1) es' r') := by
        intro r' hr'
        have := (findNow_sound (kd := kd) (i0 + 1) hr' h3).1
        simp only [Instr.findNow, hne, this]
      split at h
      · rename_i j hj
        injection h with h; subst h
        refine ⟨?_, fun j' hj' => ?_⟩
        · rw [hstep _ hj]
          simp [hit, Nat.add_assoc, Nat.add_comm 1 j]
        · injection hj' with hj'; subst hj'
          simpa using (findNow_sound (kd := kd) (i0 + 1) hj h3).2 j rfl
      · rename_i hnn
        cases r with
        | none => exact ⟨by rw [hstep _ h]; rfl, fun j hj => by cases hj⟩
        | some j => exact absurd h (hnn j)
    · cases h

/-- The model's search of a key, by the abstract one. -/
theorem findKey_sound {ρ : Ren} {t : TypeId} {k : AV} {kv : Value} (hf : keyFits P t k = true) (hkv : VR ρ k kv) {es : List (AV × AV)} {ces : List MapEntry} {r : Option Nat}
    (h : findIx P t k es = some r) (hm : MR ρ es ces) (w : World) :
    (Instr.findKey t kv ces).run P w = .ok (hit 0 ces r) w ∧
      ∀ j, r = some j → ∃ e, ces[j]? = some e ∧ Instr.sameBits 10000 e.key kv = true := by
  unfold keyFits at hf
  split at hf
  · rename_i kd k0 a hk
    obtain ⟨ti, i, d, z, hty, e0⟩ := kindOf_spec hk
    have := tk_int (e0 ▸ hty.kind); subst this
    simp only [VR] at hkv; subst hkv
    obtain ⟨h1, h2⟩ := findNow_sound (kd := kd) 0 h hm
    refine ⟨?_, h2⟩
    simp only [Instr.findKey, Sem.run_bind, hty.run_und, Result.andThen_ok, h1, Sem.run_pure]
  · rename_i fs xs hk
    obtain ⟨ti, i, d, z, hty, e0⟩ := kindOf_spec hk
    obtain ⟨fl, rfl, _⟩ := tk_struct (e0 ▸ hty.kind)
    obtain ⟨h1, h2⟩ := findAsking_sound hkv ⟨xs, rfl⟩ w 0 h hm
    refine ⟨?_, h2⟩
    cases ces with
    | nil =>
      have hn : r = none := by
        cases es with
        | nil => simp only [findIx] at h; injection h with h; exact h.symm
        | cons e es => obtain ⟨_, _, he, _⟩ := (show MR ρ ((e.1, e.2) :: es) [] from hm); cases he
      subst hn
      simp only [Instr.findKey, Sem.run_bind, hty.run_und, Result.andThen_ok, Instr.findNow, Sem.run_pure, hit]
    | cons e ces =>
      have hnow : Instr.findNow (.struct fl) kv (e :: ces) 0 = none := by simp [Instr.findNow, Instr.sameNow]
      simp only [Instr.findKey, Sem.run_bind, hty.run_und, Result.andThen_ok, hnow, h1]
  · cases hf

/-! ## All that read -/
theorem MR_of {ρ : Ren} {h : AH} {w : World} (hr : HR ρ h w) {b : Nat} {es : List (AV × AV)} (hg : h.get b = .map es) {g : Pl} (hρ : ρ b = some g) :
    ∃ ces clock, w.heap[g.blk]? = some (.map ces clock) ∧ MR ρ es ces.toList := by
  have := hr.blk b g hρ
  rw [hg] at this
  exact this

theorem run_getObj_map {w : World} {r : Nat} {ces : Array MapEntry} {clock : Nat} (h : w.heap[r]? = some (.map ces clock)) : (getObj r).run P w = .ok (.map ces clock) w := by
  simp [getObj, Sem.run, h]

theorem lookup_sound {ρ : Ren} {h : AH} {w : World} (hr : HR ρ h w) {t : TypeId} {m k r : AV} {ok : Bool} {mv kv : Value} (hl : lookupA P h t m k ok = some r) (hm : VR ρ m mv) (hk : VR ρ k kv) :
    ∃ z, VR ρ r z ∧ (Instr.lookup t mv kv ok).run P w = .ok z w := by
  unfold lookupA at hl
  split at hl
  · rename_i kt et hkd
    obtain ⟨ti, i, d, z, hty, e0⟩ := kindOf_spec hkd
    have := tk_map (e0 ▸ hty.kind); subst this
    split at hl
    · rename_i te hfit hte
      obtain ⟨ie, de, ze, htye⟩ := tiOf_spec hte
      have hck := fun em => checkKey_sound (P := P) hfit hk em w
      split at hl
      · injection hl with hl; subst hl
        simp only [VR] at hm; subst hm
        have hf : (Instr.findKey kt kv []).run P w = .ok none w := (findKey_sound (P := P) (es := []) (r := none) hfit hk rfl (by simp [MR]) w).1
        cases ok
        · refine ⟨ze, htye.zeroR ρ, ?_⟩
          simp [Instr.lookup, hty.run_und, hck, hf, htye.run_zero]
        · refine ⟨.tuple #[ze, .bool false], ⟨[ze, .bool false], rfl, VRs.cons (htye.zeroR ρ) (VRs.cons rfl rfl)⟩, ?_⟩
          simp [Instr.lookup, hty.run_und, hck, hf, htye.run_zero]
      · rename_i b
        obtain ⟨g, hg, rfl⟩ := hm
        split at hl
        · rename_i es hget
          obtain ⟨ces, clock, hheap, hmr⟩ := MR_of hr hget hg
          have hob := run_getObj_map (P := P) hheap
          unfold findA at hl
          split at hl
          · rename_i v hv
            split at hv
            · rename_i j hj
              split at hv
              · rename_i e he
                injection hv with hv; injection hv with hv; subst hv
                injection hl with hl; subst hl
                rw [nth_eq] at he
                obtain ⟨hf, _⟩ := findKey_sound (P := P) hfit hk hj hmr w
                obtain ⟨ce, hce, _, hval⟩ := hmr.get j e.1 e.2 he
                simp only [hit, hce, Option.map_some] at hf
                cases ok
                · exact ⟨ce.val, hval, by simp [Instr.lookup, hty.run_und, hob, hck, hf]⟩
                · exact ⟨.tuple #[ce.val, .bool true], ⟨[ce.val, .bool true], rfl, VRs.cons hval (VRs.cons rfl rfl)⟩, by simp [Instr.lookup, hty.run_und, hob, hck, hf]⟩
              · cases hv
            · injection hv with hv; cases hv
            · cases hv
          · rename_i hv
            split at hv
            · split at hv
              · injection hv with hv; cases hv
              · cases hv
            · rename_i hj
              injection hl with hl; subst hl
              obtain ⟨hf, _⟩ := findKey_sound (P := P) hfit hk hj hmr w
              simp only [hit] at hf
              cases ok
              · exact ⟨ze, htye.zeroR ρ, by simp [Instr.lookup, hty.run_und, hob, hck, hf, htye.run_zero]⟩
              · exact ⟨.tuple #[ze, .bool false], ⟨[ze, .bool false], rfl, VRs.cons (htye.zeroR ρ) (VRs.cons rfl rfl)⟩, by simp [Instr.lookup, hty.run_und, hob, hck, hf, htye.run_zero]⟩
            · cases hv
          · cases hl
        · cases hl
      · cases hl
    · cases hl
  · cases hl

theorem len_sound {ρ : Ren} {h : AH} {w : World} (hr : HR ρ h w) {t ty : TypeId} {ts : List TypeId} {x r : AV} {u : Value} (hl : lenA P h t x = some r) (hx : VR ρ x u) :
    ∃ z, VR ρ r z ∧ (Builtin.len_ (t :: ts).toArray ty #[u]).run P w = .ok z w := by
  unfold lenA at hl
  split at hl
  · rename_i b
    split at hl
    · rename_i hk
      obtain ⟨ti, i, d, z, hty, e0⟩ := kindOf_spec hk
      have := tk_map (e0 ▸ hty.kind); subst this
      obtain ⟨g, hg, rfl⟩ := hx
      split at hl
      · rename_i es hget
        obtain ⟨ces, clock, hheap, hmr⟩ := MR_of hr hget hg
        have hob := run_getObj_map (P := P) hheap
        injection hl with hl; subst hl
        refine ⟨.int .i64 ces.size, ?_, by simp [Builtin.len_, hty.run_und, goInt, hob]⟩
        have := hmr.length
        simp only [Array.length_toList] at this
        simp only [VR, this]
      · cases hl
    · cases hl
  · rename_i hnm
    clear hnm
    split at hl
    · rename_i hk
      obtain ⟨ti, i, d, z, hty, e0⟩ := kindOf_spec hk
      obtain ⟨e, ie, d', rfl, _⟩ := tk_arr (e0 ▸ hty.kind)
      injection hl with hl; subst hl
      exact ⟨_, rfl, by simp [Builtin.len_, hty.run_und, goInt]⟩
    · rename_i e hk
      obtain ⟨ti, i, d, z, hty, e0⟩ := kindOf_spec hk
      have := tk_ptr (e0 ▸ hty.kind); subst this
      split at hl
      · rename_i hk2
        obtain ⟨ti2, i2, d2, z2, hty2, e2⟩ := kindOf_spec hk2
        obtain ⟨e', ie, d', rfl, _⟩ := tk_arr (e2 ▸ hty2.kind)
        injection hl with hl; subst hl
        exact ⟨_, rfl, by simp [Builtin.len_, hty.run_und, hty2.run_und, goInt]⟩
      · cases hl
    · rename_i hk
      obtain ⟨ti, i, d, z, hty, e0⟩ := kindOf_spec hk
      obtain ⟨rfl, _⟩ := tk_slice (e0 ▸ hty.kind)
      injection hl with hl; subst hl
      obtain ⟨g, hg, rfl⟩ := hx
      exact ⟨_, rfl, by simp [Builtin.len_, hty.run_und, goInt]⟩
    · rename_i hk
      obtain ⟨ti, i, d, z, hty, e0⟩ := kindOf_spec hk
      obtain ⟨rfl, _⟩ := tk_slice (e0 ▸ hty.kind)
      injection hl with hl; subst hl
      simp only [VR] at hx; subst hx
      exact ⟨_, rfl, by simp [Builtin.len_, hty.run_und, goInt]⟩
    · rename_i hk
      obtain ⟨ti, i, d, z, hty, e0⟩ := kindOf_spec hk
      have := tk_map (e0 ▸ hty.kind); subst this
      injection hl with hl; subst hl
      simp only [VR] at hx; subst hx
      exact ⟨_, rfl, by simp [Builtin.len_, hty.run_und, goInt]⟩
    · cases hl

theorem readA_sound {ρ : Ren} {env : Env} {ev : Operand → Value} (he : EnvR ρ env ev) {h : AH} {w : World} (hr : HR ρ h w) {o : Oper} (hc : cls o.op = .read) {r : AV} (hl : readA P env h o.op = some r) :
    ∃ u, VR ρ r u ∧ (execOp ev o).run P w = .ok (.value u) w := by
  obtain ⟨dst, op, type, pos, after, guard⟩ := o
  simp only at hc hl ⊢
  cases op <;> simp only [cls] at hc <;> first | (cases hc; done) | skip
  case load t a =>
    simp only [readA, on1] at hl
    split at hl
    · rename_i v hv
      obtain ⟨z, hz, hrun⟩ := load_sound (P := P) hr hl (he a v hv)
      exact ⟨z, hz, by simp only [execOp, Sem.run_bind, hrun, Result.andThen_ok, Sem.run_pure]⟩
    · cases hl
  case lookup t m k ok =>
    simp only [readA, on2] at hl
    split at hl
    · rename_i v hv
      split at hl
      · rename_i u hu
        obtain ⟨z, hz, hrun⟩ := lookup_sound (P := P) hr hl (he m v hv) (he k u hu)
        exact ⟨z, hz, by simp only [execOp, Sem.run_bind, hrun, Result.andThen_ok, Sem.run_pure]⟩
      · cases hl
    · cases hl
  case call c =>
    obtain ⟨callee, args, argTypes⟩ := c
    simp only at hc hl ⊢
    simp only [readA] at hl
    split at hl
    · rename_i o0 t ts x e1 e2
      obtain ⟨u, us, hus, hu, hnil⟩ := evs_sound he e2
      simp only [VRs] at hnil; subst hnil
      obtain ⟨z, hz, hrun⟩ := len_sound (P := P) (ts := ts) (ty := type) hr hl hu
      refine ⟨z, hz, ?_⟩
      have ha : args.map ev = #[u] := by apply Array.ext'; simpa using hus
      have ht : argTypes = (t :: ts).toArray := by apply Array.ext'; simpa using e1
      simp only [execOp, resolve, Sem.run_bind, Sem.run_pure, Result.andThen_ok, invoke, builtin, ha, ht, hrun]
    · cases hl

end
end Go.Abs
