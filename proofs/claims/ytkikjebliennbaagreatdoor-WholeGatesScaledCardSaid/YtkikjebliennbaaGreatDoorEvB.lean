/-
  Soundness of the operations that only compute. (Helper theorems; each says its own conditions.)
-/
import Derived.Test.YtkikjebliennbaaGreatDoorEvA
/-! Soundness of the operations that only compute. -/
namespace Go.Abs
open Go

section types
variable {P : Program} {t : TypeId}

structure Ty (P : Program) (t : TypeId) (ti : TI) (i : TypeInfo) (d : TypeDesc) (z : Value) : Prop where
  info : P.info? t = some i
  und : P.underlying t = some d
  zero : i.zero = some z
  zeroA : ofVA z = some ti.zero
  kind : tkOf P d = some ti.k
  size : i.size = ti.size
  agg : ti.agg = aggD d

theorem tiOf_spec {ti : TI} (h : tiOf P t = some ti) : ∃ i d z, Ty P t ti i d z := by
  unfold tiOf at h
  split at h
  · rename_i i d hi hd
    split at h
    · rename_i z hz
      split at h
      · rename_i a k ha hk
        injection h with h
        subst h
        exact ⟨i, d, z, hi, hd, hz, ha, hk, rfl, rfl⟩
      · cases h
    · cases h
  · cases h

theorem kindOf_spec {k : TK} (h : kindOf P t = some k) : ∃ ti i d z, Ty P t ti i d z ∧ ti.k = k := by
  unfold kindOf at h
  split at h
  · rename_i ti hti
    injection h with h
    obtain ⟨i, d, z, hty⟩ := tiOf_spec hti
    exact ⟨ti, i, d, z, hty, h⟩
  · cases h

variable {ti : TI} {i : TypeInfo} {d : TypeDesc} {z : Value}

theorem Ty.run_und (h : Ty P t ti i d z) (w : World) : (underlying t).run P w = .ok d w := run_underlying h.und w
theorem Ty.run_info (h : Ty P t ti i d z) (w : World) : (typeInfo t).run P w = .ok i w := by simp [typeInfo, h.info]
theorem Ty.run_size (h : Ty P t ti i d z) (w : World) : (sizeOf t).run P w = .ok ti.size w := by simp [sizeOf, h.run_info, h.size]
theorem Ty.run_zero (h : Ty P t ti i d z) (w : World) : (zeroValue t).run P w = .ok z w := by simp [zeroValue, h.run_info, h.zero]
theorem Ty.run_agg (h : Ty P t ti i d z) (w : World) : (isAgg t).run P w = .ok ti.agg w := by
  simp only [isAgg, Sem.run_bind, h.run_und, Result.andThen_ok, h.agg]
  cases d <;> rfl
theorem Ty.zeroR (h : Ty P t ti i d z) (ρ : Ren) : VR ρ ti.zero z := ofVA_sound h.zeroA ρ

theorem tk_int {k : IntKind} (h : tkOf P d = some (.int k)) : d = .int k := by
  unfold tkOf at h; split at h <;> first | (injection h with h; cases h; rfl) | (split at h <;> first | (injection h with h; cases h) | cases h) | (injection h with h; cases h) | cases h
theorem tk_bool (h : tkOf P d = some .bool) : d = .bool := by
  unfold tkOf at h; split at h <;> first | rfl | (injection h with h; cases h; done) | (split at h <;> first | (injection h with h; cases h) | cases h) | cases h
theorem tk_str (h : tkOf P d = some .str) : d = .string := by
  unfold tkOf at h; split at h <;> first | rfl | (injection h with h; cases h; done) | (split at h <;> first | (injection h with h; cases h) | cases h) | cases h
theorem tk_func (h : tkOf P d = some .func) : ∃ a b c, d = .func a b c := by
  unfold tkOf at h; split at h <;> first | exact ⟨_, _, _, rfl⟩ | (injection h with h; cases h; done) | (split at h <;> first | (injection h with h; cases h) | cases h) | cases h
theorem tk_ptr {e : TypeId} (h : tkOf P d = some (.ptr e)) : d = .pointer e := by
  unfold tkOf at h; split at h <;> first | (injection h with h; cases h; rfl) | (split at h <;> first | (injection h with h; cases h) | cases h) | (injection h with h; cases h) | cases h
theorem tk_map {k e : TypeId} (h : tkOf P d = some (.map k e)) : d = .map k e := by
  unfold tkOf at h; split at h <;> first | (injection h with h; cases h; rfl) | (split at h <;> first | (injection h with h; cases h) | cases h) | (injection h with h; cases h) | cases h
theorem tk_slice {e : TypeId} {s b : Nat} (h : tkOf P d = some (.slice e s b)) : d = .slice e ∧ ∃ i, P.info? e = some i ∧ i.size = s ∧ i.bytes = b := by
  unfold tkOf at h; split at h <;> first | (injection h with h; cases h; done) | skip
  all_goals (split at h <;> first | (injection h with h; cases h; exact ⟨rfl, _, by assumption, rfl, rfl⟩) | (injection h with h; cases h; done) | cases h)
theorem tk_arr {n s : Nat} {g : Bool} (h : tkOf P d = some (.arr n s g)) : ∃ e i d', d = .array n e ∧ P.info? e = some i ∧ i.size = s ∧ P.underlying e = some d' ∧ g = aggD d' := by
  unfold tkOf at h; split at h <;> first | (injection h with h; cases h; done) | skip
  all_goals (split at h <;> first | (injection h with h; cases h; exact ⟨_, _, _, rfl, by assumption, rfl, by assumption, rfl⟩) | (injection h with h; cases h; done) | cases h)
theorem tk_struct {l : List (Nat × Nat × Bool)} (h : tkOf P d = some (.struct l)) : ∃ fs, d = .struct fs ∧ fieldsOf P fs.toList = some l := by
  unfold tkOf at h; split at h <;> first | (injection h with h; cases h; done) | skip
  all_goals (split at h <;> first | (injection h with h; cases h; exact ⟨_, rfl, by assumption⟩) | (injection h with h; cases h; done) | cases h)

theorem fieldsOf_get : ∀ {fs : List Field} {l : List (Nat × Nat × Bool)}, fieldsOf P fs = some l → ∀ (j : Nat) (x : Nat × Nat × Bool), l[j]? = some x →
    ∃ f i d, fs[j]? = some f ∧ P.info? f.type = some i ∧ P.underlying f.type = some d ∧ x = (f.offset, i.size, aggD d)
  | [], l, h, j, x, hx => by simp [fieldsOf] at h; subst h; simp at hx
  | f :: fs, l, h, j, x, hx => by
    simp only [fieldsOf] at h
    split at h
    · rename_i i d hi hd
      split at h
      · rename_i l' hl'
        injection h with h
        subst h
        cases j with
        | zero => simp at hx; exact ⟨f, i, d, rfl, hi, hd, hx.symm⟩
        | succ j => simp at hx; simpa using fieldsOf_get hl' j x hx
      · cases h
    · cases h

theorem fieldsOf_length : ∀ {fs : List Field} {l : List (Nat × Nat × Bool)}, fieldsOf P fs = some l → fs.length = l.length
  | [], l, h => by simp [fieldsOf] at h; subst h; rfl
  | f :: fs, l, h => by
    simp only [fieldsOf] at h
    split at h
    · split at h
      · rename_i l' hl'
        injection h with h
        subst h
        simp [fieldsOf_length hl']
      · cases h
    · cases h
end types

/-! ## Integers -/
theorem ile_eq (a b : Int) : ile a b = decide (a ≤ b) := by
  cases a <;> cases b <;> simp only [ile]
  · rename_i m n
    rw [Bool.eq_iff_iff, decide_eq_true_iff, Nat.ble_eq]
    simp
  · rename_i m n
    symm; rw [decide_eq_false_iff_not]; simp only [Int.ofNat_eq_natCast]; omega
  · rename_i m n
    symm; rw [decide_eq_true_iff]; simp only [Int.ofNat_eq_natCast]; omega
  · rename_i m n
    rw [Bool.eq_iff_iff, decide_eq_true_iff, Nat.ble_eq]
    omega

theorem ieq_eq (a b : Int) : ieq a b = (a == b) := by
  cases a <;> cases b <;> simp only [ieq]
  · rename_i m n
    rw [Bool.eq_iff_iff, Nat.beq_eq, beq_iff_eq]
    exact ⟨fun h => by rw [h], fun h => by injection h⟩
  · rename_i m n
    symm; rw [beq_eq_false_iff_ne]; simp only [Int.ofNat_eq_natCast]; omega
  · rename_i m n
    symm; rw [beq_eq_false_iff_ne]; simp only [Int.ofNat_eq_natCast]; omega
  · rename_i m n
    rw [Bool.eq_iff_iff, Nat.beq_eq, beq_iff_eq]
    omega

theorem kindEq_eq {a b : IntKind} (h : kindEq a b = true) : a = b := by cases a <;> cases b <;> first | rfl | cases h

theorem idx_spec {i : Int} {n m : Nat} (h : idx i n = some m) : i = (m : Int) ∧ m < n := by
  unfold idx at h
  split at h
  · rename_i k
    cases hb : Nat.blt k n with
    | true => rw [hb] at h; simp at h; subst h; exact ⟨rfl, by simpa [Nat.blt_eq] using hb⟩
    | false => rw [hb] at h; simp at h
  · cases h

theorem upto_spec {i : Int} {n m : Nat} (h : upto i n = some m) : i = (m : Int) ∧ m ≤ n := by
  unfold upto at h
  split at h
  · rename_i k
    cases hb : Nat.ble k n with
    | true => rw [hb] at h; simp at h; subst h; exact ⟨rfl, by simpa [Nat.ble_eq] using hb⟩
    | false => rw [hb] at h; simp at h
  · cases h

section
variable {P : Program}

theorem eqGuard_plain (op : BinOp) (t : TypeId) (xo yo : Operand) (u v : Value) (w : World) (h : ∀ a, u ≠ .agg a) (h' : u ≠ .nilIface) : (eqGuard op t xo yo u v).run P w = .ok () w := by
  unfold eqGuard
  cases op <;> simp
  all_goals (cases u <;> simp_all)

theorem arith_sound {op : BinOp} {k : IntKind} {a b : Int} {r : AV} (h : arith op k a b = some r) (t : TypeId) :
    ∃ z, (∀ ρ, VR ρ r z) ∧ ∀ w, (binOp op t (.int k a) (.int k b)).run P w = .ok z w := by
  cases op <;> simp only [arith] at h
  case add => injection h with h; subst h; exact ⟨_, fun _ => rfl, fun w => by simp [binOp, Op.intArith]⟩
  case sub => injection h with h; subst h; exact ⟨_, fun _ => rfl, fun w => by simp [binOp, Op.intArith]⟩
  case mul => injection h with h; subst h; exact ⟨_, fun _ => rfl, fun w => by simp [binOp, Op.intArith]⟩
  case quo =>
    split at h
    · cases h
    · rename_i hz
      injection h with h; subst h
      refine ⟨_, fun _ => rfl, fun w => ?_⟩
      rw [ieq_eq] at hz
      have hz' : b ≠ 0 := by simpa using hz
      simp [binOp, Op.intDiv, hz']
  case rem =>
    split at h
    · cases h
    · rename_i hz
      injection h with h; subst h
      refine ⟨_, fun _ => rfl, fun w => ?_⟩
      rw [ieq_eq] at hz
      have hz' : b ≠ 0 := by simpa using hz
      simp [binOp, Op.intDiv, hz']
  case and => injection h with h; subst h; exact ⟨_, fun _ => rfl, fun w => by simp [binOp, Op.intBits]⟩
  case or => injection h with h; subst h; exact ⟨_, fun _ => rfl, fun w => by simp [binOp, Op.intBits]⟩
  case xor => injection h with h; subst h; exact ⟨_, fun _ => rfl, fun w => by simp [binOp, Op.intBits]⟩
  case andNot => injection h with h; subst h; exact ⟨_, fun _ => rfl, fun w => by simp [binOp, Op.intBits]⟩
  case eql => injection h with h; subst h; exact ⟨_, fun _ => rfl, fun w => by simp [binOp, Op.intCmp, ieq_eq]⟩
  case neq => injection h with h; subst h; exact ⟨_, fun _ => rfl, fun w => by simp [binOp, Op.intCmp, ieq_eq, bne]⟩
  case lss => injection h with h; subst h; exact ⟨_, fun _ => rfl, fun w => by simp only [binOp, Op.intCmp, ile_eq]; simp; by_cases hab : a < b <;> simp [hab] <;> omega⟩
  case leq => injection h with h; subst h; exact ⟨_, fun _ => rfl, fun w => by simp [binOp, Op.intCmp, ile_eq]⟩
  case gtr => injection h with h; subst h; exact ⟨_, fun _ => rfl, fun w => by simp only [binOp, Op.intCmp, ile_eq]; simp; by_cases hab : b < a <;> simp [hab] <;> omega⟩
  case geq => injection h with h; subst h; exact ⟨_, fun _ => rfl, fun w => by simp [binOp, Op.intCmp, ile_eq]⟩
  all_goals cases h

theorem shift_sound {op : BinOp} {k k' : IntKind} {a b : Int} {r : AV} (h : shiftA op k a b = some r) (t : TypeId) :
    ∃ z, (∀ ρ, VR ρ r z) ∧ ∀ w, (binOp op t (.int k a) (.int k' b)).run P w = .ok z w := by
  unfold shiftA at h
  rw [ile_eq] at h
  split at h
  · cases h
  · rename_i hb
    have hb' : ¬ b < 0 := by have : 0 ≤ b := by simpa using hb
                             omega
    cases op <;> simp only at h
    case shl => injection h with h; subst h; exact ⟨_, fun _ => rfl, fun w => by simp [binOp, Op.shift, hb']⟩
    case shr => injection h with h; subst h; exact ⟨_, fun _ => rfl, fun w => by simp [binOp, Op.shift, hb']⟩
    all_goals cases h

theorem un_sound {op : UnOp} {x r : AV} {u : Value} {ρ : Ren} (h : unA op x = some r) (hx : VR ρ x u) :
    ∃ z, VR ρ r z ∧ ∀ w, (Op.unary op u).run P w = .ok z w := by
  unfold unA at h
  split at h
  · injection h with h; subst h; simp only [VR] at hx; subst hx; exact ⟨_, rfl, fun w => by simp [Op.unary, Op.intArith]⟩
  · injection h with h; subst h; simp only [VR] at hx; subst hx; exact ⟨_, rfl, fun w => by simp [Op.unary, Op.intBits]⟩
  · injection h with h; subst h; simp only [VR] at hx; subst hx; exact ⟨_, rfl, fun w => by simp [Op.unary]⟩
  · cases h

theorem conv_sound {s d : TypeId} {x r : AV} {u : Value} {ρ : Ren} (h : convA P s d x = some r) (hx : VR ρ x u) :
    ∃ z, VR ρ r z ∧ ∀ w, (convert s d u).run P w = .ok z w := by
  unfold convA at h
  split at h
  · rename_i k1 k2 k3 n h1 h2
    injection h with h; subst h
    simp only [VR] at hx; subst hx
    obtain ⟨t1, i1, d1, z1, ht1, e1⟩ := kindOf_spec h1
    obtain ⟨t2, i2, d2, z2, ht2, e2⟩ := kindOf_spec h2
    have hd1 := tk_int (e1 ▸ ht1.kind)
    have hd2 := tk_int (e2 ▸ ht2.kind)
    subst hd1 hd2
    exact ⟨_, rfl, fun w => by simp [convert, ht1.run_und, ht2.run_und, Conv.intToInt]⟩
  · cases h

/-! ## Equality -/
theorem scalEq_sound {ρ : Ren} (w : World) (dd : Nat) {t : TypeId} {a b : AV} {x y : Value} {r : Bool} (h : scalEq (P.underlying t) a b = some r) (hx : VR ρ a x) (hy : VR ρ b y) :
    (Op.equalIn (dd + 1) t x y).run P w = .ok r w ∧ (isAgg t).run P w = .ok false w ∧ x.oneCell' = true := by
  unfold scalEq at h
  split at h
  · rename_i k1 k p k' q hk
    split at h
    · rename_i hkk
      injection h with h
      have := kindEq_eq hkk
      subst this h
      simp only [VR] at hx hy
      subst hx hy
      exact ⟨by rw [run_equalIn_int w dd t k k1 p q hk, ieq_eq], by simp [isAgg, run_underlying hk], rfl⟩
    · cases h
  · rename_i p q hk
    injection h with h
    simp only [VR] at hx hy
    subst hx hy h
    exact ⟨run_equalIn_bool' w dd t p q hk, by simp [isAgg, run_underlying hk], rfl⟩
  · cases h

theorem eqFields_sound {ρ : Ren} (w : World) (dd : Nat) (xs ys : List Value) : ∀ (fs : List Field) (n : Nat) (as bs : List AV) (r : Bool), eqFieldsA P fs n as bs = some r →
    VRs ρ as (xs.drop n) → VRs ρ bs (ys.drop n) → (Op.eqFields (dd + 1) xs.toArray ys.toArray fs).run P w = .ok r w := by
  intro fs
  induction fs with
  | nil =>
    intro n as bs r h _ _
    cases as <;> cases bs <;> simp only [eqFieldsA] at h <;> first | cases h | skip
    simp [Op.eqFields]
  | cons f fs ih =>
    intro n as bs r h hx hy
    cases as with
    | nil => simp [eqFieldsA] at h
    | cons a as =>
    cases bs with
    | nil => simp [eqFieldsA] at h
    | cons b bs =>
    simp only [eqFieldsA] at h
    split at h
    · rename_i p q ho hnm hs hr
      injection h with h
      obtain ⟨x, xs', hxs, hax, hxr⟩ := hx
      obtain ⟨y, ys', hys, hby, hyr⟩ := hy
      have ho' : f.offset = n := Nat.eq_of_beq_eq_true ho
      have hx1 : xs[n]? = some x := by
        have : (xs.drop n)[0]? = some x := by rw [hxs]; rfl
        rw [List.getElem?_drop] at this
        simpa using this
      have hy1 : ys[n]? = some y := by
        have : (ys.drop n)[0]? = some y := by rw [hys]; rfl
        rw [List.getElem?_drop] at this
        simpa using this
      have hxd : xs.drop (n + 1) = xs' := by rw [← List.drop_drop, hxs]; rfl
      have hyd : ys.drop (n + 1) = ys' := by rw [← List.drop_drop, hys]; rfl
      obtain ⟨he, hag, _⟩ := scalEq_sound (P := P) w dd hs hax hby
      have hpx : (part f.type xs.toArray n).run P w = .ok x w := by simp [part, hag, hx1]
      have hpy : (part f.type ys.toArray n).run P w = .ok y w := by simp [part, hag, hy1]
      have ih' := ih (n + 1) as bs q hr (hxd ▸ hxr) (hyd ▸ hyr)
      have hnm' : f.name ≠ "_" := by simpa using hnm
      simp only [Op.eqFields, ne_eq, hnm', not_false_eq_true, if_true, Sem.run_bind, ho', hpx, hpy, Result.andThen_ok, he]
      cases p
      · simp at h; subst h; simp
      · simp at h; subst h; simpa using ih'
    · cases h


theorem eqElems_sound {ρ : Ren} (w : World) (dd : Nat) (t e : TypeId) (i : TypeInfo) (m : Nat) (ht : P.underlying t = some (.array m e)) (hi : P.info? e = some i) (h1 : i.size = 1)
    (xs ys : List Value) (as bs : List AV) (r : Bool) (hr : eqElemsA (P.underlying e) as bs = some r) (hm : m = as.length) (hx : VRs ρ as xs) (hy : VRs ρ bs ys) :
    (Op.equalIn (dd + 2) t (.agg xs.toArray) (.agg ys.toArray)).run P w = .ok r w := by
  obtain ⟨d, hd⟩ : ∃ d, d = dd + 1 := ⟨_, rfl⟩
  rw [show dd + 2 = d + 1 by omega]
  simp only [Op.equalIn, Sem.run_bind, run_underlying ht, Result.andThen_ok, sizeOf, typeInfo, run_program, hi, Sem.run_pure, h1, Nat.mul_one, Std.Legacy.Range.forIn_eq_forIn_range']
  have key : ∀ (k s : Nat) (as bs : List AV) (r : Bool), eqElemsA (P.underlying e) as bs = some r → k = as.length → VRs ρ as (xs.drop s) → VRs ρ bs (ys.drop s) →
      ∃ o, (forIn (List.range' s k) ((none : Option Bool), ()) fun i __s => (do
            let a ← part e xs.toArray i
            let b ← part e ys.toArray i
            let c ← Op.equalIn d e a b
            if (!c) = true then pure (ForInStep.done (some false, ())) else pure (ForInStep.yield (none, ())) : Sem (ForInStep (Option Bool × Unit)))).run P w = .ok (o, ()) w ∧ o.getD true = r := by
    intro k
    induction k with
    | zero =>
      intro s as bs r hr hk _ _
      have : as = [] := List.eq_nil_of_length_eq_zero hk.symm
      subst this
      cases bs <;> simp only [eqElemsA] at hr <;> first | cases hr | skip
      exact ⟨none, by simp, rfl⟩
    | succ k ih =>
      intro s as bs r hr hk hx hy
      cases as with
      | nil => simp at hk
      | cons a as =>
      cases bs with
      | nil => simp [eqElemsA] at hr
      | cons b bs =>
      simp only [eqElemsA] at hr
      split at hr
      · rename_i p q hs hq
        injection hr with hr
        obtain ⟨x, xs', hxs, hax, hxr⟩ := hx
        obtain ⟨y, ys', hys, hby, hyr⟩ := hy
        have hx1 : xs[s]? = some x := by
          have : (xs.drop s)[0]? = some x := by rw [hxs]; rfl
          rw [List.getElem?_drop] at this
          simpa using this
        have hy1 : ys[s]? = some y := by
          have : (ys.drop s)[0]? = some y := by rw [hys]; rfl
          rw [List.getElem?_drop] at this
          simpa using this
        have hxd : xs.drop (s + 1) = xs' := by rw [← List.drop_drop, hxs]; rfl
        have hyd : ys.drop (s + 1) = ys' := by rw [← List.drop_drop, hys]; rfl
        obtain ⟨he, hag, _⟩ := scalEq_sound (P := P) w dd hs hax hby
        rw [← hd] at he
        have hpx : (part e xs.toArray s).run P w = .ok x w := by simp [part, hag, hx1]
        have hpy : (part e ys.toArray s).run P w = .ok y w := by simp [part, hag, hy1]
        obtain ⟨o, ho, hor⟩ := ih (s + 1) as bs q hq (by simpa using hk) (hxd ▸ hxr) (hyd ▸ hyr)
        cases p
        · refine ⟨some false, ?_, by simpa using hr⟩
          simp only [List.range'_succ, List.forIn_cons, Sem.run_bind, hpx, hpy, he, Result.andThen_ok, Bool.not_false, if_true, Sem.run_pure]
        · refine ⟨o, ?_, by simp at hr; rw [← hr]; exact hor⟩
          simp only [List.range'_succ, List.forIn_cons, Sem.run_bind, hpx, hpy, he, Result.andThen_ok, Bool.not_true, Bool.false_eq_true, if_false, Sem.run_pure]
          exact ho
      · cases hr
  obtain ⟨o, ho, hor⟩ := key m 0 as bs r hr hm hx hy
  have hsz : ([:m] : Std.Legacy.Range).size = m := by simp [Std.Legacy.Range.size]
  rw [hsz]
  rw [ho]
  cases o with
  | none => simp at hor; simp [hor]
  | some b => simp at hor; simp [hor]

theorem eqAgg_sound {ρ : Ren} {t : TypeId} {as bs : List AV} {r : Bool} (h : eqAgg P t as bs = some r) {xs ys : List Value} (hx : VRs ρ as xs) (hy : VRs ρ bs ys) (w : World) :
    (Op.equalIn 10000 t (.agg xs.toArray) (.agg ys.toArray)).run P w = .ok r w ∧ P.eqGuardType P.depth t = false := by
  unfold eqAgg at h
  split at h
  · cases h
  · rename_i hg
    refine ⟨?_, hg⟩
    split at h
    · rename_i fs hf
      split at h
      · cases h
      · rename_i hs
        have hff : P.fieldsOf t = fs := by simp [Program.fieldsOf, hf]
        rw [run_equalIn_struct w 9999 t _ _ (by rw [hff]; exact hf) hs, hff]
        exact eqFields_sound w 9998 xs ys fs.toList 0 as bs r h (by simpa using hx) (by simpa using hy)
    · rename_i m e hf
      split at h
      · rename_i i hi
        split at h
        · rename_i h1 h2
          exact eqElems_sound w 9998 t e i m hf hi (Nat.eq_of_beq_eq_true h1) xs ys as bs r h (Nat.eq_of_beq_eq_true h2) hx hy
        · cases h
      · cases h
    · cases h

theorem eqA_sound {ρ : Ren} {t : TypeId} {tk : TK} (hk : kindOf P t = some tk) {x y : AV} {u v : Value} {r : Bool} (hf : eqFits tk x y = true) (h : eqA P t x y = some r)
    (hx : VR ρ x u) (hy : VR ρ y v) (op : BinOp) (xo yo : Operand) (w : World) :
    (Op.equal t u v).run P w = .ok r w ∧ (eqGuard op t xo yo u v).run P w = .ok () w ∧ (∀ k n, u ≠ .int k n) ∧ (∀ s, u ≠ .string s) ∧ (∀ k n, u ≠ .float k n) ∧ (∀ k n m, u ≠ .complex k n m) := by
  obtain ⟨ti, i, d, z, hty, e⟩ := kindOf_spec hk
  have hkk := hty.kind
  rw [e] at hkk
  unfold Op.equal Op.maxDepth
  unfold eqFits at hf
  split at hf <;> simp only [eqA] at h
  · have := tk_bool hkk; subst this
    injection h with h; subst h
    simp only [VR] at hx hy; subst hx hy
    exact ⟨run_equalIn_bool' w 9999 t _ _ hty.und, eqGuard_plain _ _ _ _ _ _ _ (by simp) (by simp), by simp, by simp, by simp, by simp⟩
  · obtain ⟨us, rfl, hu⟩ := hx
    obtain ⟨vs, rfl, hv⟩ := hy
    obtain ⟨h1, h2⟩ := eqAgg_sound h hu hv w
    exact ⟨h1, run_eqGuard_agg w op t xo yo _ _ h2, by simp, by simp, by simp, by simp⟩
  · obtain ⟨us, rfl, hu⟩ := hx
    obtain ⟨vs, rfl, hv⟩ := hy
    obtain ⟨h1, h2⟩ := eqAgg_sound h hu hv w
    exact ⟨h1, run_eqGuard_agg w op t xo yo _ _ h2, by simp, by simp, by simp, by simp⟩
  all_goals first | exact absurd hf (by decide) | skip
  all_goals
    injection h with h; subst h
    first
      | (have := tk_ptr hkk; subst this)
      | (obtain ⟨this, _⟩ := tk_slice hkk; subst this)
      | (have := tk_map hkk; subst this)
      | (obtain ⟨_, _, _, this⟩ := tk_func hkk; subst this)
    simp only [VR] at hx hy
    first
      | (obtain ⟨_, _, rfl⟩ := hx; subst hy)
      | (obtain ⟨_, _, rfl⟩ := hy; subst hx)
      | (obtain ⟨_, _, rfl, _⟩ := hx; subst hy)
      | (obtain ⟨_, _, rfl, _⟩ := hy; subst hx)
      | (subst hx hy)
    refine ⟨?_, eqGuard_plain _ _ _ _ _ _ _ (by simp) (by simp), by simp, by simp, by simp, by simp⟩
    obtain ⟨d, hd⟩ : ∃ d, 10000 = d + 1 := ⟨9999, rfl⟩
    rw [hd]
    simp [Op.equalIn, hty.run_und]

theorem bin_sound {ρ : Ren} {op : BinOp} {t : TypeId} {x y r : AV} {u v : Value} (h : binA P op t x y = some r) (hx : VR ρ x u) (hy : VR ρ y v) (xo yo : Operand) :
    ∃ z, VR ρ r z ∧ ∀ w, (do eqGuard op t xo yo u v; binOp op t u v : Sem Value).run P w = .ok z w := by
  unfold binA at h
  split at h
  · rename_i k a k' b
    simp only [VR] at hx hy; subst hx hy
    have hg : ∀ w, (eqGuard op t xo yo (.int k a) (.int k' b)).run P w = .ok () w := fun w => eqGuard_plain _ _ _ _ _ _ _ (by simp) (by simp)
    have main : ∃ z, (∀ ρ, VR ρ r z) ∧ ∀ w, (binOp op t (.int k a) (.int k' b)).run P w = .ok z w := by
      split at h
      · exact shift_sound h t
      · exact shift_sound h t
      · split at h
        · rename_i hkk
          have := kindEq_eq hkk; subst this
          exact arith_sound h t
        · cases h
    obtain ⟨z, hz, hr⟩ := main
    exact ⟨z, hz ρ, fun w => by simp only [Sem.run_bind, hg, Result.andThen_ok, hr]⟩
  · split at h
    · split at h
      · rename_i tk hk
        split at h
        · rename_i r' hf he
          injection h with h; subst h
          refine ⟨.bool r', rfl, fun w => ?_⟩
          obtain ⟨h1, h2, h3, h4, h5, h6⟩ := eqA_sound hk hf he hx hy .eql xo yo w
          simp only [Sem.run_bind, h2, Result.andThen_ok]
          cases u <;> simp_all [binOp]
        · cases h
      · cases h
    · split at h
      · rename_i tk hk
        split at h
        · rename_i r' hf he
          injection h with h; subst h
          refine ⟨.bool (!r'), rfl, fun w => ?_⟩
          obtain ⟨h1, h2, h3, h4, h5, h6⟩ := eqA_sound hk hf he hx hy .neq xo yo w
          simp only [Sem.run_bind, h2, Result.andThen_ok]
          cases u <;> simp_all [binOp]
        · cases h
      · cases h
    · cases h

end
end Go.Abs

/-! Soundness of the operations on structs, arrays, slices. -/
namespace Go.Abs
open Go

/-! ## Laying parts -/
theorem foldl_set_get (off : Nat) : ∀ (xs : List Value) (s : Nat) (cells : Array Value) (k : Nat),
    ((xs.zipIdx s).foldl (fun cs (p : Value × Nat) => cs.setIfInBounds (off + p.2) p.1) cells)[k]? =
      if off + s ≤ k ∧ k < off + s + xs.length ∧ k < cells.size then xs[k - (off + s)]? else cells[k]?
  | [], s, cells, k => by simp; omega
  | x :: xs, s, cells, k => by
    simp only [List.zipIdx_cons, List.foldl_cons]
    rw [foldl_set_get off xs (s + 1)]
    simp only [Array.size_setIfInBounds, List.length_cons]
    by_cases h1 : off + (s + 1) ≤ k ∧ k < off + (s + 1) + xs.length ∧ k < cells.size
    · rw [if_pos h1, if_pos (by omega), show k - (off + s) = (k - (off + (s + 1))) + 1 by omega]
      simp
    · rw [if_neg h1]
      by_cases h2 : k = off + s
      · subst h2
        by_cases h3 : off + s < cells.size
        · rw [if_pos (by omega)]
          simp [h3]
        · rw [if_neg (by omega)]
          simp [h3]
      · rw [if_neg (by omega), Array.getElem?_setIfInBounds_ne (by omega)]

theorem foldl_set_size (off : Nat) : ∀ (xs : List (Value × Nat)) (cells : Array Value),
    (xs.foldl (fun cs (p : Value × Nat) => cs.setIfInBounds (off + p.2) p.1) cells).size = cells.size
  | [], cells => rfl
  | x :: xs, cells => by simp only [List.foldl_cons]; rw [foldl_set_size off xs]; simp

theorem setAt_get : ∀ (l : List AV) (off : Nat) (vs : List AV) (k : Nat),
    (setAt l off vs)[k]? = if off ≤ k ∧ k < off + vs.length ∧ k < l.length then vs[k - off]? else l[k]?
  | [], off, vs, k => by cases vs <;> simp [setAt]
  | x :: l, off, [], k => by simp [setAt]; omega
  | x :: l, 0, v :: vs, k => by
    simp only [setAt]
    cases k with
    | zero => simp
    | succ k =>
      simp only [List.getElem?_cons_succ, setAt_get l 0 vs k, List.length_cons]
      by_cases h : 0 ≤ k ∧ k < 0 + vs.length ∧ k < l.length
      · rw [if_pos h, if_pos (by omega)]; simp
      · rw [if_neg h, if_neg (by omega)]
  | x :: l, off + 1, v :: vs, k => by
    simp only [setAt]
    cases k with
    | zero => simp
    | succ k =>
      simp only [List.getElem?_cons_succ, setAt_get l off (v :: vs) k, List.length_cons]
      by_cases h : off ≤ k ∧ k < off + (vs.length + 1) ∧ k < l.length
      · rw [if_pos h, if_pos (by omega), show k + 1 - (off + 1) = k - off by omega]
      · rw [if_neg h, if_neg (by omega)]

theorem setAt_length : ∀ (l : List AV) (off : Nat) (vs : List AV), (setAt l off vs).length = l.length
  | [], off, vs => by cases vs <;> simp [setAt]
  | x :: l, off, [] => by simp [setAt]
  | x :: l, 0, v :: vs => by simp [setAt, setAt_length l 0 vs]
  | x :: l, off + 1, v :: vs => by simp [setAt, setAt_length l off (v :: vs)]

theorem setAt_VRs {ρ : Ren} {as vs : List AV} {cells : Array Value} {xs : Array Value} (h : VRs ρ as cells.toList) (h' : VRs ρ vs xs.toList) (off : Nat) :
    VRs ρ (setAt as off vs) (xs.zipIdx.foldl (fun cs (p : Value × Nat) => cs.setIfInBounds (off + p.2) p.1) cells).toList := by
  have e : xs.zipIdx.foldl (fun cs (p : Value × Nat) => cs.setIfInBounds (off + p.2) p.1) cells = (xs.toList.zipIdx 0).foldl (fun cs (p : Value × Nat) => cs.setIfInBounds (off + p.2) p.1) cells := by
    rw [← Array.foldl_toList, Array.toList_zipIdx]
  have hl := h.length
  have hl' := h'.length
  simp only [Array.length_toList] at hl hl'
  refine VRs.of_get ?_ ?_
  · rw [setAt_length, e]; simp only [Array.length_toList, foldl_set_size, hl]
  · intro i a v ha hv
    rw [e, Array.getElem?_toList, foldl_set_get] at hv
    rw [setAt_get] at ha
    simp only [Nat.add_zero, Array.length_toList] at hv
    by_cases hc : off ≤ i ∧ i < off + xs.size ∧ i < cells.size
    · rw [if_pos hc] at hv
      rw [if_pos (by omega)] at ha
      obtain ⟨u, hu, hr⟩ := h'.get _ a ha
      rw [hv] at hu; injection hu with hu; subst hu; exact hr
    · rw [if_neg hc] at hv
      rw [if_neg (by omega)] at ha
      obtain ⟨u, hu, hr⟩ := h.get _ a ha
      rw [← Array.getElem?_toList] at hv
      rw [hv] at hu; injection hu with hu; subst hu; exact hr

def VRp (ρ : Ren) : List (Nat × AV) → List (Nat × Value) → Prop
  | [], vs => vs = []
  | (i, a) :: as, vs => ∃ v vs', vs = (i, v) :: vs' ∧ VR ρ a v ∧ VRp ρ as vs'

theorem fillA_sound {ρ : Ren} {place : Nat → Option (Nat × Nat)} : ∀ {parts : List (Nat × AV)} {vparts : List (Nat × Value)} {cells : List AV} {vcells : Array Value} {r : List AV},
    fillA place cells parts = some r → VRp ρ parts vparts → VRs ρ cells vcells.toList → ∃ out : Array Value, Instr.fill place vcells vparts = some out ∧ VRs ρ r out.toList
  | [], vparts, cells, vcells, r, h, hp, hc => by
    simp only [fillA] at h; injection h with h; subst h
    simp only [VRp] at hp; subst hp
    exact ⟨vcells, rfl, hc⟩
  | (i, a) :: parts, vparts, cells, vcells, r, h, hp, hc => by
    obtain ⟨v, vs', rfl, hv, hvs⟩ := hp
    simp only [fillA] at h
    split at h
    · rename_i off size cs hpl hcs
      split at h
      · rename_i h1 h2
        have hcv := VR.cells hcs hv
        have h1' := Nat.eq_of_beq_eq_true h1
        have h2' : off + size ≤ cells.length := by simpa [Nat.ble_eq] using h2
        have hlen := hcv.length
        have hlc := hc.length
        simp only [Array.length_toList] at hlen hlc
        obtain ⟨out, ho, hr⟩ := fillA_sound h hvs (setAt_VRs hc hcv off)
        refine ⟨out, ?_, hr⟩
        simp only [Instr.fill, hpl]
        have e1 : ¬ (v.cells.size ≠ size) := by omega
        have e2 : ¬ (off + v.cells.size > vcells.size) := by omega
        simp only [e1, e2, decide_false, Bool.or_self, Bool.false_eq_true, if_false]
        exact ho
      · cases h
    · cases h

theorem evp_sound {ρ : Ren} {env : Env} {ev : Operand → Value} (he : ∀ x v, env x = some v → VR ρ v (ev x)) : ∀ {ps : List (Nat × Operand)} {vs : List (Nat × AV)}, evp env ps = some vs →
    VRp ρ vs (ps.map fun p => (p.1, ev p.2))
  | [], vs, h => by simp [evp] at h; subst h; rfl
  | (i, x) :: ps, vs, h => by
    simp only [evp] at h
    split at h
    · rename_i v hv
      split at h
      · rename_i vs' hvs
        injection h with h; subst h
        exact ⟨ev x, _, rfl, he x v hv, evp_sound he hvs⟩
      · cases h
    · cases h

theorem evs_sound {ρ : Ren} {env : Env} {ev : Operand → Value} (he : ∀ x v, env x = some v → VR ρ v (ev x)) : ∀ {ps : List Operand} {vs : List AV}, evs env ps = some vs →
    VRs ρ vs (ps.map ev)
  | [], vs, h => by simp [evs] at h; subst h; rfl
  | x :: ps, vs, h => by
    simp only [evs] at h
    split at h
    · rename_i v hv
      split at h
      · rename_i vs' hvs
        injection h with h; subst h
        exact ⟨ev x, _, rfl, he x v hv, evs_sound he hvs⟩
      · cases h
    · cases h

section
variable {P : Program}

theorem run_places (w : World) : ∀ (fs : List Field) (l : List (Nat × Nat × Bool)), fieldsOf P fs = some l →
    (fs.mapM fun f => (do pure (f.offset, ← sizeOf f.type) : Sem (Nat × Nat))).run P w = .ok (l.map fun x => (x.1, x.2.1)) w
  | [], l, h => by simp [fieldsOf] at h; subst h; simp
  | f :: fs, l, h => by
    simp only [fieldsOf] at h
    split at h
    · rename_i i d hi hd
      split at h
      · rename_i l' hl'
        injection h with h; subst h
        have ih := run_places w fs l' hl'
        simp only [List.mapM_cons, Sem.run_bind, sizeOf, typeInfo, run_program, Result.andThen_ok, hi, Sem.run_pure] at ih ⊢
        rw [ih]
        simp
      · cases h
    · cases h

theorem build_sound {ρ : Ren} {t : TypeId} {parts : List (Nat × AV)} {vparts : Array (Nat × Value)} {r : AV} (h : buildA P t parts = some r) (hp : VRp ρ parts vparts.toList) :
    ∃ z, VR ρ r z ∧ ∀ w, (Instr.build t vparts).run P w = .ok z w := by
  unfold buildA at h
  split at h
  · rename_i ti hti
    obtain ⟨i, d, z, hty⟩ := tiOf_spec hti
    have hk := hty.kind
    split at h
    · rename_i zc fs hz hkk
      split at h
      · rename_i cs hf
        injection h with h; subst h
        rw [hkk] at hk
        obtain ⟨fl, rfl, hfl⟩ := tk_struct hk
        have hzr := VR.cells hz (hty.zeroR ρ)
        have hplace : plc fs = fun i => ((fs.map fun x => (x.1, x.2.1)).toArray)[i]? := by
          funext j
          unfold plc
          rw [nth_eq]
          simp only [List.getElem?_toArray, List.getElem?_map]
          cases fs[j]? <;> rfl
        rw [hplace] at hf
        obtain ⟨out, ho, hr⟩ := fillA_sound hf hp hzr
        refine ⟨.agg out, ⟨out.toList, by simp, hr⟩, fun w => ?_⟩
        have hpl := run_places (P := P) w fl.toList fs hfl
        simp only [Instr.build, Sem.run_bind, hty.run_zero, hty.run_und, Result.andThen_ok]
        rw [Array.mapM_eq_mapM_toList]
        simp only [Sem.run_map, hpl, Result.andThen_ok]
        rw [ho]
        rfl
      · cases h
    · rename_i zc n esz g hz hkk
      split at h
      · rename_i cs hf
        injection h with h; subst h
        rw [hkk] at hk
        obtain ⟨e, ie, d', rfl, hie, hse, _, _⟩ := tk_arr hk
        have hzr := VR.cells hz (hty.zeroR ρ)
        obtain ⟨out, ho, hr⟩ := fillA_sound hf hp hzr
        refine ⟨.agg out, ⟨out.toList, by simp, hr⟩, fun w => ?_⟩
        simp only [Instr.build, Sem.run_bind, hty.run_zero, hty.run_und, Result.andThen_ok, sizeOf, typeInfo, run_program, hie, Sem.run_pure, hse]
        rw [ho]
        rfl
      · cases h
    · cases h
  · cases h

end
end Go.Abs

/-! Soundness of the operations on addresses, slices; all pure operations together. -/
namespace Go.Abs
open Go

theorem add_none (b o n : Nat) : (⟨b, o, none⟩ : Addr).add n = ⟨b, o + n, none⟩ := by
  unfold Addr.add
  by_cases h : n = 0
  · subst h; simp
  · simp [h]

def VRo (ρ : Ren) : Option AV → Option Value → Prop
  | none, v => v = none
  | some a, v => ∃ u, v = some u ∧ VR ρ a u

theorem evo_sound {ρ : Ren} {env : Env} {ev : Operand → Value} (he : ∀ x v, env x = some v → VR ρ v (ev x)) {x : Option Operand} {r : Option AV} (h : evo env x = some r) :
    VRo ρ r (x.map ev) := by
  cases x with
  | none => simp [evo] at h; subst h; rfl
  | some x =>
    simp only [evo] at h
    split at h
    · rename_i v hv
      injection h with h; subst h
      exact ⟨ev x, rfl, he x v hv⟩
    · cases h

section
variable {P : Program}

theorem bound_sound {ρ : Ren} {a : AV} {u : Value} (hu : VR ρ a u) {d top m : Nat} (h : optInt (some a) d top = some m) {top' : Nat} (ht : top ≤ top') (code : BoundsCode) (w : World) :
    (Instr.sliceBound u top' code).run P w = .ok m w ∧ m ≤ top := by
  unfold optInt at h
  split at h
  · rename_i hh; cases hh
  · rename_i k n hh
    injection hh with hh; subst hh
    obtain ⟨rfl, hm⟩ := upto_spec h
    simp only [VR] at hu; subst hu
    refine ⟨?_, hm⟩
    have h1 : (0 : Int) ≤ (m : Int) ∧ (m : Int) ≤ (top' : Int) := by omega
    simp [Instr.sliceBound, asIntOf, h1]
  · cases h

theorem optInt_none {d top m : Nat} (h : optInt none d top = some m) : m = d := by
  simp [optInt] at h; exact h.symm

theorem optInt_zero {x : Option AV} {m : Nat} (h : optInt x 0 0 = some m) : m = 0 := by
  unfold optInt at h
  split at h
  · injection h with h; exact h.symm
  · exact Nat.le_zero.1 (upto_spec h).2
  · cases h

theorem bounds_none {ρ : Ren} {lo hi : Option AV} {lv hv : Option Value} (hl : VRo ρ lo lv) (hh : VRo ρ hi hv) {len cap cap' h l : Nat} (e1 : optInt hi len cap = some h) (e2 : optInt lo 0 h = some l)
    (hc : cap ≤ cap') (sl : Bool) (w : World) :
    (Instr.sliceBounds sl len cap' lv hv none).run P w = .ok (l, h, cap') w ∧ l ≤ h ∧ (h ≤ cap ∨ h = len) := by
  cases hi with
  | none =>
    simp only [VRo] at hh; subst hh
    have := optInt_none e1; subst this
    cases lo with
    | none =>
      simp only [VRo] at hl; subst hl
      have := optInt_none e2; subst this
      exact ⟨by simp [Instr.sliceBounds], Nat.zero_le _, .inr rfl⟩
    | some a =>
      obtain ⟨u, rfl, hu⟩ := hl
      obtain ⟨hr, hle⟩ := bound_sound (P := P) hu e2 (Nat.le_refl _) .sliceB w
      exact ⟨by simp [Instr.sliceBounds, hr], hle, .inr rfl⟩
  | some b =>
    obtain ⟨v, rfl, hv'⟩ := hh
    obtain ⟨hr1, hle1⟩ := bound_sound (P := P) hv' e1 hc (if sl then .sliceAcap else .sliceAlen) w
    cases lo with
    | none =>
      simp only [VRo] at hl; subst hl
      have := optInt_none e2; subst this
      exact ⟨by simp [Instr.sliceBounds, hr1], Nat.zero_le _, .inl hle1⟩
    | some a =>
      obtain ⟨u, rfl, hu⟩ := hl
      obtain ⟨hr, hle⟩ := bound_sound (P := P) hu e2 (Nat.le_refl _) .sliceB w
      exact ⟨by simp [Instr.sliceBounds, hr1, hr], hle, .inl hle1⟩

theorem bounds_some {ρ : Ren} {lo : Option AV} {hi mx : AV} {lv : Option Value} {hv mv : Value} (hl : VRo ρ lo lv) (hh : VR ρ hi hv) (hm : VR ρ mx mv) {len cap cap' h l m : Nat}
    (e0 : optInt (some mx) 0 cap = some m) (e1 : optInt (some hi) len m = some h) (e2 : optInt lo 0 h = some l)
    (hc : cap ≤ cap') (sl : Bool) (w : World) :
    (Instr.sliceBounds sl len cap' lv (some hv) (some mv)).run P w = .ok (l, h, m) w ∧ l ≤ h ∧ h ≤ m ∧ m ≤ cap := by
  obtain ⟨hr0, hle0⟩ := bound_sound (P := P) hm e0 hc (if sl then .slice3Acap else .slice3Alen) w
  obtain ⟨hr1, hle1⟩ := bound_sound (P := P) hh e1 (Nat.le_refl _) .slice3B w
  cases lo with
  | none =>
    simp only [VRo] at hl; subst hl
    have := optInt_none e2; subst this
    exact ⟨by simp [Instr.sliceBounds, hr0, hr1], Nat.zero_le _, hle1, hle0⟩
  | some a =>
    obtain ⟨u, rfl, hu⟩ := hl
    obtain ⟨hr, hle⟩ := bound_sound (P := P) hu e2 (Nat.le_refl _) .slice3C w
    exact ⟨by simp [Instr.sliceBounds, hr0, hr1, hr], hle, hle1, hle0⟩

theorem ite_addr (b o l n : Nat) (m : Nat) : (if m = l then (⟨b, o, none⟩ : Addr) else (⟨b, o, none⟩ : Addr).add (l * n)) = ⟨b, bif Nat.beq m l then o else o + l * n, none⟩ := by
  by_cases h : m = l
  · subst h; simp
  · have : Nat.beq m l = false := by
      cases hb : Nat.beq m l with
      | false => rfl
      | true => exact absurd (Nat.eq_of_beq_eq_true hb) h
    simp [h, this, add_none]

/-- A cut, in the model's own words: behind its bounds. -/
theorem cut_sound {ρ : Ren} {b off len cap esz : Nat} {ex : Bool} {lo hi mx : Option AV} {lv hv mv : Option Value} {r : AV} (h : cut b off len cap ex esz lo hi mx = some r)
    (hl : VRo ρ lo lv) (hh : VRo ρ hi hv) (hm : VRo ρ mx mv) {g : Pl} (hg : ρ b = some g) (sl : Bool) :
    ∃ z, VR ρ r z ∧ ∀ w, ∃ l' h' m', (Instr.sliceBounds sl len (if ex then cap else cap + g.ext) lv hv mv).run P w = .ok (l', h', m') w ∧
      z = .slice (some (if m' = l' then (⟨g.blk, g.off + off, none⟩ : Addr) else (⟨g.blk, g.off + off, none⟩ : Addr).add (l' * esz))) (h' - l') (m' - l') := by
  unfold cut at h
  split at h
  · simp only [VRo] at hm; subst hm
    split at h
    · rename_i hB e1
      split at h
      · rename_i lB e2
        split at h
        · injection h with h; subst h
          refine ⟨_, ⟨g, hg, rfl⟩, fun w => ⟨lB, hB, cap, ?_, ?_⟩⟩
          · exact (bounds_none (P := P) hl hh e1 e2 (Nat.le_refl _) sl w).1
          · rw [ite_addr]
            cases Nat.beq cap lB <;> simp [Nat.add_assoc]
        · have hb := fun w => bounds_none (P := P) hl hh e1 e2 (Nat.le_add_right cap g.ext) sl w
          split at h
          · rename_i hlt
            injection h with h; subst h
            have hlt' : lB < cap := by simpa [Nat.blt_eq] using hlt
            refine ⟨_, ⟨g, hg, rfl⟩, fun w => ⟨lB, hB, cap + g.ext, (hb w).1, ?_⟩⟩
            have : ¬ (cap + g.ext = lB) := by omega
            rw [if_neg this, add_none]
            simp only [Bool.false_eq_true, if_false]
            rw [show cap - lB + g.ext = cap + g.ext - lB by omega, show g.off + (off + lB * esz) = g.off + off + lB * esz by omega]
          · split at h
            · injection h with h; subst h
              refine ⟨_, ⟨g, hg, rfl⟩, fun w => ⟨0, hB, cap + g.ext, (hb w).1, ?_⟩⟩
              by_cases h0 : cap + g.ext = 0
              · simp [h0]
              · simp [add_none]
            · injection h with h; subst h
              rename_i lk _
              refine ⟨.slice (some (if cap + g.ext = lk + 1 then (⟨g.blk, g.off + off, none⟩ : Addr) else (⟨g.blk, g.off + off, none⟩ : Addr).add ((lk + 1) * esz))) (hB - (lk + 1)) (cap + g.ext - (lk + 1)), trivial, fun w => ⟨lk + 1, hB, cap + g.ext, (hb w).1, rfl⟩⟩
      · cases h
    · cases h
  · rename_i mA
    obtain ⟨mu, rfl, hmu⟩ := hm
    split at h
    · cases h
    · rename_i hA
      obtain ⟨hu, rfl, hhu⟩ := hh
      split at h
      · rename_i m' e0
        split at h
        · rename_i hB e1
          split at h
          · rename_i lB e2
            injection h with h; subst h
            have hc : cap ≤ (if ex then cap else cap + g.ext) := by split <;> omega
            refine ⟨_, ⟨g, hg, rfl⟩, fun w => ⟨lB, hB, m', (bounds_some (P := P) hl hhu hmu e0 e1 e2 hc sl w).1, ?_⟩⟩
            rw [ite_addr]
            cases Nat.beq m' lB <;> simp [Nat.add_assoc]
          · cases h
        · cases h
      · cases h

theorem slice_sound {ρ : Ren} {t : TypeId} {x r : AV} {u : Value} {lo hi mx : Option AV} {lv hv mv : Option Value} (h : sliceA P t x lo hi mx = some r) (hx : VR ρ x u)
    (hl : VRo ρ lo lv) (hh : VRo ρ hi hv) (hm : VRo ρ mx mv) : ∃ z, VR ρ r z ∧ ∀ w, (Instr.sliceAt t u lv hv mv).run P w = .ok z w := by
  unfold sliceA at h
  split at h
  · rename_i e esz bytes b off len cap ex hk
    obtain ⟨ti, i, d, z, hty, e0⟩ := kindOf_spec hk
    obtain ⟨rfl, ie, hie, hse, _⟩ := tk_slice (e0 ▸ hty.kind)
    obtain ⟨g, hg, rfl⟩ := hx
    obtain ⟨z, hz, hr⟩ := cut_sound (P := P) h hl hh hm hg true
    refine ⟨z, hz, fun w => ?_⟩
    obtain ⟨l', h', m', hb, rfl⟩ := hr w
    simp only [Instr.sliceAt, Instr.slice, Sem.run_bind, hty.run_und, Result.andThen_ok, hb, sizeOf, typeInfo, run_program, hie, Sem.run_pure, hse]
    congr 2
    split <;> simp
  · rename_i hk
    obtain ⟨ti, i, d, z, hty, e0⟩ := kindOf_spec hk
    obtain ⟨rfl, ie, hie, hse, _⟩ := tk_slice (e0 ▸ hty.kind)
    simp only [VR] at hx; subst hx
    split at h
    · rename_i hB lB e1 e2
      injection h with h; subst h
      simp only [VRo] at hm; subst hm
      refine ⟨.slice none 0 0, rfl, fun w => ?_⟩
      have hB0 := optInt_zero e2
      subst hB0
      have hl0 := optInt_zero e1
      subst hl0
      obtain ⟨hb, hle, h1⟩ := bounds_none (P := P) hl hh e2 e1 (Nat.le_refl _) true w
      simp [Instr.sliceAt, Instr.slice, hty.run_und, hb, sizeOf, typeInfo, hie]
    · rename_i mA hA hB lB e1 e2
      obtain ⟨hu, rfl, hhu⟩ := hh
      obtain ⟨mu, rfl, hmu⟩ := hm
      split at h
      · rename_i m0 e0'
        injection h with h; subst h
        refine ⟨.slice none 0 0, rfl, fun w => ?_⟩
        have hm0 : m0 = 0 := Nat.le_zero.1 (bound_sound (P := P) hmu e0' (Nat.le_refl _) .index w).2
        subst hm0
        have hB0 := optInt_zero e2
        subst hB0
        have hl0 := optInt_zero e1
        subst hl0
        obtain ⟨hb, hle, h1, _⟩ := bounds_some (P := P) hl hhu hmu e0' e2 e1 (Nat.le_refl _) true w
        simp [Instr.sliceAt, Instr.slice, hty.run_und, hb, sizeOf, typeInfo, hie]
      · cases h
    · cases h
  · rename_i n esz gg b off hk
    obtain ⟨ti, i, d, z, hty, e0⟩ := kindOf_spec hk
    obtain ⟨e, ie, d', rfl, hie, hse, _, _⟩ := tk_arr (e0 ▸ hty.kind)
    obtain ⟨g, hg, rfl⟩ := hx
    obtain ⟨z, hz, hr⟩ := cut_sound (P := P) h hl hh hm hg false
    refine ⟨z, hz, fun w => ?_⟩
    obtain ⟨l', h', m', hb, rfl⟩ := hr w
    simp only [if_true] at hb
    simp only [Instr.sliceAt, Instr.sureAddr, Sem.run_bind, hty.run_und, Result.andThen_ok, hb, sizeOf, typeInfo, run_program, hie, Sem.run_pure, hse]
  · cases h

theorem fieldAddr_sound {ρ : Ren} {t : TypeId} {x r : AV} {u : Value} {f : Nat} (h : fieldAddrA P t x f = some r) (hx : VR ρ x u) :
    ∃ z, VR ρ r z ∧ ∀ w, (Instr.fieldAt t u f).run P w = .ok z w := by
  unfold fieldAddrA at h
  split at h
  · rename_i b off
    split at h
    · rename_i fs hk
      obtain ⟨ti, i, d, z, hty, e0⟩ := kindOf_spec hk
      obtain ⟨fl, rfl, hfl⟩ := tk_struct (e0 ▸ hty.kind)
      split at h
      · rename_i o s gg hn
        split at h
        · rename_i hs
          injection h with h; subst h
          rw [nth_eq] at hn
          obtain ⟨fd, fi, d', hfd, hfi, _, he⟩ := fieldsOf_get hfl f _ hn
          injection he with he1 he2
          injection he2 with he2 he3
          obtain ⟨g, hg, rfl⟩ := hx
          refine ⟨_, ⟨g, hg, rfl⟩, fun w => ?_⟩
          have hs' : 0 < s := by simpa [Nat.blt_eq] using hs
          have hne : ¬ (fi.size = 0) := by omega
          have hfd' : fl[f]? = some fd := by simpa using hfd
          simp only [Instr.fieldAt, Sem.run_bind, hty.run_und, Result.andThen_ok, hfd', Instr.sureAddr, Sem.run_pure, fieldPlace, sizeOf, typeInfo, run_program, hfi, hne, if_false, add_none]
          rw [he1, Nat.add_assoc]
        · cases h
      · cases h
    · cases h
  · cases h

theorem part_sound {ρ : Ren} {cs : List AV} {vs : List Value} (hv : VRs ρ cs vs) {o s : Nat} {gg : Bool} {r : AV} (h : partA cs o s gg = some r) {t : TypeId} {i : TypeInfo} {d : TypeDesc}
    (hi : P.info? t = some i) (hd : P.underlying t = some d) (hs : i.size = s) (hg : gg = aggD d) :
    ∃ z, VR ρ r z ∧ ∀ w, (part t vs.toArray o).run P w = .ok z w := by
  have hag : ∀ w, (isAgg t).run P w = .ok gg w := fun w => by
    simp only [isAgg, Sem.run_bind, run_underlying hd, Result.andThen_ok, hg]
    cases d <;> rfl
  unfold partA at h
  split at h
  · split at h
    · injection h with h; subst h
      refine ⟨.agg (vs.toArray.extract o (o + s)), ⟨(vs.drop o).take s, ?_, (hv.drop o).take s⟩, fun w => ?_⟩
      · congr 1
        apply Array.ext'
        simp [List.take_drop]
      · simp [part, hag, sizeOf, typeInfo, hi, hs]
    · cases h
  · rw [nth_eq] at h
    obtain ⟨v, hv', hr⟩ := hv.get o r h
    exact ⟨v, hr, fun w => by simp [part, hag, hv']⟩

theorem field_sound {ρ : Ren} {t : TypeId} {x r : AV} {u : Value} {f : Nat} (h : fieldA P t x f = some r) (hx : VR ρ x u) :
    ∃ z, VR ρ r z ∧ ∀ w, (Instr.field t u f).run P w = .ok z w := by
  unfold fieldA at h
  split at h
  · rename_i cs
    split at h
    · rename_i fs hk
      obtain ⟨ti, i, d, z, hty, e0⟩ := kindOf_spec hk
      obtain ⟨fl, rfl, hfl⟩ := tk_struct (e0 ▸ hty.kind)
      split at h
      · rename_i o s gg hn
        rw [nth_eq] at hn
        obtain ⟨fd, fi, d', hfd, hfi, hfu, he⟩ := fieldsOf_get hfl f _ hn
        injection he with he1 he2
        injection he2 with he2 he3
        obtain ⟨vs, rfl, hvs⟩ := hx
        obtain ⟨z, hz, hr⟩ := part_sound (P := P) hvs h hfi hfu he2.symm he3
        have hfd' : fl[f]? = some fd := by simpa using hfd
        refine ⟨z, hz, fun w => ?_⟩
        simp only [Instr.field, Sem.run_bind, hty.run_und, Result.andThen_ok, hfd', asAgg, Sem.run_pure, ← he1, hr]
      · cases h
    · cases h
  · cases h

theorem indexAddr_sound {ρ : Ren} {t : TypeId} {x i r : AV} {u v : Value} (h : indexAddrA P t x i = some r) (hx : VR ρ x u) (hi : VR ρ i v) :
    ∃ z, VR ρ r z ∧ ∀ w, (Instr.indexAt t u v).run P w = .ok z w := by
  unfold indexAddrA at h
  split at h
  · rename_i k n
    simp only [VR] at hi; subst hi
    split at h
    · rename_i len esz gg b off hk
      obtain ⟨ti, i, d, z, hty, e0⟩ := kindOf_spec hk
      obtain ⟨e, ie, d', rfl, hie, hse, _, _⟩ := tk_arr (e0 ▸ hty.kind)
      split at h
      · rename_i m hm
        injection h with h; subst h
        obtain ⟨rfl, hlt⟩ := idx_spec hm
        obtain ⟨g, hg, rfl⟩ := hx
        refine ⟨_, ⟨g, hg, rfl⟩, fun w => ?_⟩
        have h1 : (0 : Int) ≤ (m : Int) ∧ (m : Int) < (len : Int) := by omega
        simp only [Instr.indexAt, asIntOf, Sem.run_bind, Sem.run_pure, hty.run_und, Instr.sureAddr, Result.andThen_ok, h1, and_self, if_true, sizeOf, typeInfo, run_program, hie, hse, add_none, Nat.add_assoc, Int.toNat_natCast]
      · cases h
    · rename_i e esz bytes b off len cap ex hk
      obtain ⟨ti, i, d, z, hty, e0⟩ := kindOf_spec hk
      obtain ⟨rfl, ie, hie, hse, _⟩ := tk_slice (e0 ▸ hty.kind)
      split at h
      · rename_i m hm
        injection h with h; subst h
        obtain ⟨rfl, hlt⟩ := idx_spec hm
        obtain ⟨g, hg, rfl⟩ := hx
        refine ⟨_, ⟨g, hg, rfl⟩, fun w => ?_⟩
        have h1 : (0 : Int) ≤ (m : Int) ∧ (m : Int) < (len : Int) := by omega
        simp only [Instr.indexAt, asIntOf, Sem.run_bind, Sem.run_pure, hty.run_und, Result.andThen_ok, h1, and_self, if_true, sizeOf, typeInfo, run_program, hie, hse, add_none, Nat.add_assoc, Int.toNat_natCast]
      · cases h
    · cases h
  · cases h

theorem index_sound {ρ : Ren} {t : TypeId} {x i r : AV} {u v : Value} (h : indexA P t x i = some r) (hx : VR ρ x u) (hi : VR ρ i v) :
    ∃ z, VR ρ r z ∧ ∀ w, (Instr.index t u v).run P w = .ok z w := by
  unfold indexA at h
  split at h
  · rename_i k n
    simp only [VR] at hi; subst hi
    split at h
    · rename_i len esz gg cs hk
      obtain ⟨ti, i, d, z, hty, e0⟩ := kindOf_spec hk
      obtain ⟨e, ie, d', rfl, hie, hse, hdu, hgg⟩ := tk_arr (e0 ▸ hty.kind)
      split at h
      · rename_i m hm
        obtain ⟨rfl, hlt⟩ := idx_spec hm
        obtain ⟨vs, rfl, hvs⟩ := hx
        obtain ⟨z, hz, hr⟩ := part_sound (P := P) hvs h hie hdu hse hgg
        refine ⟨z, hz, fun w => ?_⟩
        have h1 : (0 : Int) ≤ (m : Int) ∧ (m : Int) < (len : Int) := by omega
        simp only [Instr.index, asIntOf, Sem.run_bind, Sem.run_pure, hty.run_und, Result.andThen_ok, h1, and_self, if_true, sizeOf, typeInfo, run_program, hie, hse, Int.toNat_natCast, hr]
      · cases h
    · rename_i s hk
      obtain ⟨ti, i, d, z, hty, e0⟩ := kindOf_spec hk
      have := tk_str (e0 ▸ hty.kind); subst this
      simp only [VR] at hx; subst hx
      split at h
      · rename_i m
        split at h
        · rename_i b hb
          injection h with h; subst h
          refine ⟨_, rfl, fun w => ?_⟩
          simp [Instr.index, asIntOf, hty.run_und, hb]
        · cases h
      · cases h
    · cases h
  · cases h

theorem min2_sound {ρ : Ren} {x y r : AV} {u v : Value} (h : min2A x y = some r) (hx : VR ρ x u) (hy : VR ρ y v) : ∃ z, VR ρ r z ∧ ∀ w, (Builtin.min2 u v).run P w = .ok z w := by
  unfold min2A at h
  split at h
  · injection h with h; subst h
    simp only [VR] at hx hy; subst hx hy
    rename_i k p k' q
    refine ⟨_, rfl, fun w => ?_⟩
    unfold imin
    rw [ile_eq]
    by_cases hc : q < p
    · have : ¬ p ≤ q := by omega
      simp [Builtin.min2, hc, this]
    · have : p ≤ q := by omega
      simp [Builtin.min2, hc, this]
  · cases h

theorem max2_sound {ρ : Ren} {x y r : AV} {u v : Value} (h : max2A x y = some r) (hx : VR ρ x u) (hy : VR ρ y v) : ∃ z, VR ρ r z ∧ ∀ w, (Builtin.max2 u v).run P w = .ok z w := by
  unfold max2A at h
  split at h
  · injection h with h; subst h
    simp only [VR] at hx hy; subst hx hy
    rename_i k p k' q
    refine ⟨_, rfl, fun w => ?_⟩
    unfold imax
    rw [ile_eq]
    by_cases hc : p < q
    · have : ¬ q ≤ p := by omega
      simp [Builtin.max2, hc, this]
    · have : q ≤ p := by omega
      simp [Builtin.max2, hc, this]
  · cases h

theorem fold_sound {ρ : Ren} {f : AV → AV → Option AV} {g : Value → Value → Sem Value} (hfg : ∀ x y r u v, f x y = some r → VR ρ x u → VR ρ y v → ∃ z, VR ρ r z ∧ ∀ w, (g u v).run P w = .ok z w) :
    ∀ {ys : List AV} {x r : AV} {u : Value} {vs : List Value}, foldA f x ys = some r → VR ρ x u → VRs ρ ys vs → ∃ z, VR ρ r z ∧ ∀ w, (vs.foldlM g u).run P w = .ok z w
  | [], x, r, u, vs, h, hx, hy => by
    simp only [foldA] at h; injection h with h; subst h
    simp only [VRs] at hy; subst hy
    exact ⟨u, hx, fun w => by simp⟩
  | y :: ys, x, r, u, vs, h, hx, hy => by
    obtain ⟨v, vs', rfl, hv, hvs⟩ := hy
    simp only [foldA] at h
    split at h
    · rename_i z hz
      obtain ⟨zv, hzr, hrun⟩ := hfg _ _ _ _ _ hz hx hv
      obtain ⟨o, ho, horun⟩ := fold_sound hfg h hzr hvs
      exact ⟨o, ho, fun w => by simp only [List.foldlM_cons, Sem.run_bind, hrun, Result.andThen_ok, horun]⟩
    · cases h

theorem cap_sound {ρ : Ren} {t ty : TypeId} {ts : List TypeId} {x r : AV} {u : Value} (h : capA P t x = some r) (hx : VR ρ x u) :
    ∃ z, VR ρ r z ∧ ∀ w, (Builtin.cap_ (t :: ts).toArray ty #[u]).run P w = .ok z w := by
  unfold capA at h
  split at h
  · rename_i n esz gg hk
    obtain ⟨ti, i, d, z, hty, e0⟩ := kindOf_spec hk
    obtain ⟨e, ie, d', rfl, _⟩ := tk_arr (e0 ▸ hty.kind)
    injection h with h; subst h
    exact ⟨_, rfl, fun w => by simp [Builtin.cap_, hty.run_und, goInt]⟩
  · rename_i hk
    obtain ⟨ti, i, d, z, hty, e0⟩ := kindOf_spec hk
    obtain ⟨rfl, _⟩ := tk_slice (e0 ▸ hty.kind)
    injection h with h; subst h
    obtain ⟨g, hg, rfl⟩ := hx
    exact ⟨_, rfl, fun w => by simp [Builtin.cap_, hty.run_und, goInt]⟩
  · rename_i hk
    obtain ⟨ti, i, d, z, hty, e0⟩ := kindOf_spec hk
    obtain ⟨rfl, _⟩ := tk_slice (e0 ▸ hty.kind)
    injection h with h; subst h
    simp only [VR] at hx; subst hx
    exact ⟨_, rfl, fun w => by simp [Builtin.cap_, hty.run_und, goInt]⟩
  · cases h

end
end Go.Abs
