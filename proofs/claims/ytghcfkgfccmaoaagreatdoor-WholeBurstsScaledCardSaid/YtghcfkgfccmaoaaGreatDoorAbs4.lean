/-
  Soundness of the operations that only compute. (Helper theorems; each says its own conditions.)
-/
import Derived.Test.YtghcfkgfccmaoaaGreatDoorAbs3

/-! Soundness of the operations that only compute. -/
namespace Go.Abs
open Go

section types
variable {P : Program} {t : TypeId}

structure Ty (P : Program) (t : TypeId) (ti : TI) (i : TypeInfo) (d : TypeDesc) (z : Value) : Prop where
  info : P.info? t = some i
  und : P.underlying t = some d
  zero : i.zero = some z
  zeroA : ofVA z = some ti.zero
  kind : tkOf P d = some ti.k
  size : i.size = ti.size
  agg : ti.agg = aggD d

theorem tiOf_spec {ti : TI} (h : tiOf P t = some ti) : ∃ i d z, Ty P t ti i d z := by
  unfold tiOf at h
  split at h
  · rename_i i d hi hd
    split at h
    · rename_i z hz
      split at h
      · rename_i a k ha hk
        injection h with h
        subst h
        exact ⟨i, d, z, hi, hd, hz, ha, hk, rfl, rfl⟩
      · cases h
    · cases h
  · cases h

theorem kindOf_spec {k : TK} (h : kindOf P t = some k) : ∃ ti i d z, Ty P t ti i d z ∧ ti.k = k := by
  unfold kindOf at h
  split at h
  · rename_i ti hti
    injection h with h
    obtain ⟨i, d, z, hty⟩ := tiOf_spec hti
    exact ⟨ti, i, d, z, hty, h⟩
  · cases h

variable {ti : TI} {i : TypeInfo} {d : TypeDesc} {z : Value}

theorem Ty.run_und (h : Ty P t ti i d z) (w : World) : (underlying t).run P w = .ok d w := run_underlying h.und w
theorem Ty.run_info (h : Ty P t ti i d z) (w : World) : (typeInfo t).run P w = .ok i w := by simp [typeInfo, h.info]
theorem Ty.run_size (h : Ty P t ti i d z) (w : World) : (sizeOf t).run P w = .ok ti.size w := by simp [sizeOf, h.run_info, h.size]
theorem Ty.run_zero (h : Ty P t ti i d z) (w : World) : (zeroValue t).run P w = .ok z w := by simp [zeroValue, h.run_info, h.zero]
theorem Ty.run_agg (h : Ty P t ti i d z) (w : World) : (isAgg t).run P w = .ok ti.agg w := by
  simp only [isAgg, Sem.run_bind, h.run_und, Result.andThen_ok, h.agg]
  cases d <;> rfl
theorem Ty.zeroR (h : Ty P t ti i d z) (ρ : Ren) : VR ρ ti.zero z := ofVA_sound h.zeroA ρ

theorem tk_int {k : IntKind} (h : tkOf P d = some (.int k)) : d = .int k := by
  unfold tkOf at h; split at h <;> first | (injection h with h; cases h; rfl) | (split at h <;> first | (injection h with h; cases h) | cases h) | (injection h with h; cases h) | cases h
theorem tk_bool (h : tkOf P d = some .bool) : d = .bool := by
  unfold tkOf at h; split at h <;> first | rfl | (injection h with h; cases h; done) | (split at h <;> first | (injection h with h; cases h) | cases h) | cases h
theorem tk_str (h : tkOf P d = some .str) : d = .string := by
  unfold tkOf at h; split at h <;> first | rfl | (injection h with h; cases h; done) | (split at h <;> first | (injection h with h; cases h) | cases h) | cases h
theorem tk_func (h : tkOf P d = some .func) : ∃ a b c, d = .func a b c := by
  unfold tkOf at h; split at h <;> first | exact ⟨_, _, _, rfl⟩ | (injection h with h; cases h; done) | (split at h <;> first | (injection h with h; cases h) | cases h) | cases h
theorem tk_ptr {e : TypeId} (h : tkOf P d = some (.ptr e)) : d = .pointer e := by
  unfold tkOf at h; split at h <;> first | (injection h with h; cases h; rfl) | (split at h <;> first | (injection h with h; cases h) | cases h) | (injection h with h; cases h) | cases h
theorem tk_map {k e : TypeId} (h : tkOf P d = some (.map k e)) : d = .map k e := by
  unfold tkOf at h; split at h <;> first | (injection h with h; cases h; rfl) | (split at h <;> first | (injection h with h; cases h) | cases h) | (injection h with h; cases h) | cases h
theorem tk_slice {e : TypeId} {s b : Nat} (h : tkOf P d = some (.slice e s b)) : d = .slice e ∧ ∃ i, P.info? e = some i ∧ i.size = s ∧ i.bytes = b := by
  unfold tkOf at h; split at h <;> first | (injection h with h; cases h; done) | skip
  all_goals (split at h <;> first | (injection h with h; cases h; exact ⟨rfl, _, by assumption, rfl, rfl⟩) | (injection h with h; cases h; done) | cases h)
theorem tk_arr {n s : Nat} {g : Bool} (h : tkOf P d = some (.arr n s g)) : ∃ e i d', d = .array n e ∧ P.info? e = some i ∧ i.size = s ∧ P.underlying e = some d' ∧ g = aggD d' := by
  unfold tkOf at h; split at h <;> first | (injection h with h; cases h; done) | skip
  all_goals (split at h <;> first | (injection h with h; cases h; exact ⟨_, _, _, rfl, by assumption, rfl, by assumption, rfl⟩) | (injection h with h; cases h; done) | cases h)
theorem tk_struct {l : List (Nat × Nat × Bool)} (h : tkOf P d = some (.struct l)) : ∃ fs, d = .struct fs ∧ fieldsOf P fs.toList = some l := by
  unfold tkOf at h; split at h <;> first | (injection h with h; cases h; done) | skip
  all_goals (split at h <;> first | (injection h with h; cases h; exact ⟨_, rfl, by assumption⟩) | (injection h with h; cases h; done) | cases h)

theorem fieldsOf_get : ∀ {fs : List Field} {l : List (Nat × Nat × Bool)}, fieldsOf P fs = some l → ∀ (j : Nat) (x : Nat × Nat × Bool), l[j]? = some x →
    ∃ f i d, fs[j]? = some f ∧ P.info? f.type = some i ∧ P.underlying f.type = some d ∧ x = (f.offset, i.size, aggD d)
  | [], l, h, j, x, hx => by simp [fieldsOf] at h; subst h; simp at hx
  | f :: fs, l, h, j, x, hx => by
    simp only [fieldsOf] at h
    split at h
    · rename_i i d hi hd
      split at h
      · rename_i l' hl'
        injection h with h
        subst h
        cases j with
        | zero => simp at hx; exact ⟨f, i, d, rfl, hi, hd, hx.symm⟩
        | succ j => simp at hx; simpa using fieldsOf_get hl' j x hx
      · cases h
    · cases h

theorem fieldsOf_length : ∀ {fs : List Field} {l : List (Nat × Nat × Bool)}, fieldsOf P fs = some l → fs.length = l.length
  | [], l, h => by simp [fieldsOf] at h; subst h; rfl
  | f :: fs, l, h => by
    simp only [fieldsOf] at h
    split at h
    · split at h
      · rename_i l' hl'
        injection h with h
        subst h
        simp [fieldsOf_length hl']
      · cases h
    · cases h
end types

/-! ## Integers -/
theorem ile_eq (a b : Int) : ile a b = decide (a ≤ b) := by
  cases a <;> cases b <;> simp only [ile]
  · rename_i m n
    rw [Bool.eq_iff_iff, decide_eq_true_iff, Nat.ble_eq]
    simp
  · rename_i m n
    symm; rw [decide_eq_false_iff_not]; simp only [Int.ofNat_eq_natCast]; omega
  · rename_i m n
    symm; rw [decide_eq_true_iff]; simp only [Int.ofNat_eq_natCast]; omega
  · rename_i m n
    rw [Bool.eq_iff_iff, decide_eq_true_iff, Nat.ble_eq]
    omega

theorem ieq_eq (a b : Int) : ieq a b = (a == b) := by
  cases a <;> cases b <;> simp only [ieq]
  · rename_i m n
    rw [Bool.eq_iff_iff, Nat.beq_eq, beq_iff_eq]
    exact ⟨fun h => by rw [h], fun h => by injection h⟩
  · rename_i m n
    symm; rw [beq_eq_false_iff_ne]; simp only [Int.ofNat_eq_natCast]; omega
  · rename_i m n
    symm; rw [beq_eq_false_iff_ne]; simp only [Int.ofNat_eq_natCast]; omega
  · rename_i m n
    rw [Bool.eq_iff_iff, Nat.beq_eq, beq_iff_eq]
    omega

theorem kindEq_eq {a b : IntKind} (h : kindEq a b = true) : a = b := by cases a <;> cases b <;> first | rfl | cases h

theorem idx_spec {i : Int} {n m : Nat} (h : idx i n = some m) : i = (m : Int) ∧ m < n := by
  unfold idx at h
  split at h
  · rename_i k
    cases hb : Nat.blt k n with
    | true => rw [hb] at h; simp at h; subst h; exact ⟨rfl, by simpa [Nat.blt_eq] using hb⟩
    | false => rw [hb] at h; simp at h
  · cases h

theorem upto_spec {i : Int} {n m : Nat} (h : upto i n = some m) : i = (m : Int) ∧ m ≤ n := by
  unfold upto at h
  split at h
  · rename_i k
    cases hb : Nat.ble k n with
    | true => rw [hb] at h; simp at h; subst h; exact ⟨rfl, by simpa [Nat.ble_eq] using hb⟩
    | false => rw [hb] at h; simp at h
  · cases h

section
variable {P : Program}

theorem eqGuard_plain (op : BinOp) (t : TypeId) (xo yo : Operand) (u v : Value) (w : World) (h : ∀ a, u ≠ .agg a) (h' : u ≠ .nilIface) : (eqGuard op t xo yo u v).run P w = .ok () w := by
  unfold eqGuard
  cases op <;> simp
  all_goals (cases u <;> simp_all)

theorem arith_sound {op : BinOp} {k : IntKind} {a b : Int} {r : AV} (h : arith op k a b = some r) (t : TypeId) :
    ∃ z, (∀ ρ, VR ρ r z) ∧ ∀ w, (binOp op t (.int k a) (.int k b)).run P w = .ok z w := by
  cases op <;> simp only [arith] at h
  case add => injection h with h; subst h; exact ⟨_, fun _ => rfl, fun w => by simp [binOp, Op.intArith]⟩
  case sub => injection h with h; subst h; exact ⟨_, fun _ => rfl, fun w => by simp [binOp, Op.intArith]⟩
  case mul => injection h with h; subst h; exact ⟨_, fun _ => rfl, fun w => by simp [binOp, Op.intArith]⟩
  case quo =>
    split at h
    · cases h
    · rename_i hz
      injection h with h; subst h
      refine ⟨_, fun _ => rfl, fun w => ?_⟩
      rw [ieq_eq] at hz
      have hz' : b ≠ 0 := by simpa using hz
      simp [binOp, Op.intDiv, hz']
  case rem =>
    split at h
    · cases h
    · rename_i hz
      injection h with h; subst h
      refine ⟨_, fun _ => rfl, fun w => ?_⟩
      rw [ieq_eq] at hz
      have hz' : b ≠ 0 := by simpa using hz
      simp [binOp, Op.intDiv, hz']
  case and => injection h with h; subst h; exact ⟨_, fun _ => rfl, fun w => by simp [binOp, Op.intBits]⟩
  case or => injection h with h; subst h; exact ⟨_, fun _ => rfl, fun w => by simp [binOp, Op.intBits]⟩
  case xor => injection h with h; subst h; exact ⟨_, fun _ => rfl, fun w => by simp [binOp, Op.intBits]⟩
  case andNot => injection h with h; subst h; exact ⟨_, fun _ => rfl, fun w => by simp [binOp, Op.intBits]⟩
  case eql => injection h with h; subst h; exact ⟨_, fun _ => rfl, fun w => by simp [binOp, Op.intCmp, ieq_eq]⟩
  case neq => injection h with h; subst h; exact ⟨_, fun _ => rfl, fun w => by simp [binOp, Op.intCmp, ieq_eq, bne]⟩
  case lss => injection h with h; subst h; exact ⟨_, fun _ => rfl, fun w => by simp only [binOp, Op.intCmp, ile_eq]; simp; by_cases hab : a < b <;> simp [hab] <;> omega⟩
  case leq => injection h with h; subst h; exact ⟨_, fun _ => rfl, fun w => by simp [binOp, Op.intCmp, ile_eq]⟩
  case gtr => injection h with h; subst h; exact ⟨_, fun _ => rfl, fun w => by simp only [binOp, Op.intCmp, ile_eq]; simp; by_cases hab : b < a <;> simp [hab] <;> omega⟩
  case geq => injection h with h; subst h; exact ⟨_, fun _ => rfl, fun w => by simp [binOp, Op.intCmp, ile_eq]⟩
  all_goals cases h

theorem shift_sound {op : BinOp} {k k' : IntKind} {a b : Int} {r : AV} (h : shiftA op k a b = some r) (t : TypeId) :
    ∃ z, (∀ ρ, VR ρ r z) ∧ ∀ w, (binOp op t (.int k a) (.int k' b)).run P w = .ok z w := by
  unfold shiftA at h
  rw [ile_eq] at h
  split at h
  · cases h
  · rename_i hb
    have hb' : ¬ b < 0 := by have : 0 ≤ b := by simpa using hb
                             omega
    cases op <;> simp only at h
    case shl => injection h with h; subst h; exact ⟨_, fun _ => rfl, fun w => by simp [binOp, Op.shift, hb']⟩
    case shr => injection h with h; subst h; exact ⟨_, fun _ => rfl, fun w => by simp [binOp, Op.shift, hb']⟩
    all_goals cases h

theorem un_sound {op : UnOp} {x r : AV} {u : Value} {ρ : Ren} (h : unA op x = some r) (hx : VR ρ x u) :
    ∃ z, VR ρ r z ∧ ∀ w, (Op.unary op u).run P w = .ok z w := by
  unfold unA at h
  split at h
  · injection h with h; subst h; simp only [VR] at hx; subst hx; exact ⟨_, rfl, fun w => by simp [Op.unary, Op.intArith]⟩
  · injection h with h; subst h; simp only [VR] at hx; subst hx; exact ⟨_, rfl, fun w => by simp [Op.unary, Op.intBits]⟩
  · injection h with h; subst h; simp only [VR] at hx; subst hx; exact ⟨_, rfl, fun w => by simp [Op.unary]⟩
  · cases h

theorem conv_sound {s d : TypeId} {x r : AV} {u : Value} {ρ : Ren} (h : convA P s d x = some r) (hx : VR ρ x u) :
    ∃ z, VR ρ r z ∧ ∀ w, (convert s d u).run P w = .ok z w := by
  unfold convA at h
  split at h
  · rename_i k1 k2 k3 n h1 h2
    injection h with h; subst h
    simp only [VR] at hx; subst hx
    obtain ⟨t1, i1, d1, z1, ht1, e1⟩ := kindOf_spec h1
    obtain ⟨t2, i2, d2, z2, ht2, e2⟩ := kindOf_spec h2
    have hd1 := tk_int (e1 ▸ ht1.kind)
    have hd2 := tk_int (e2 ▸ ht2.kind)
    subst hd1 hd2
    exact ⟨_, rfl, fun w => by simp [convert, ht1.run_und, ht2.run_und, Conv.intToInt]⟩
  · cases h

/-! ## Equality -/
theorem scalEq_sound {ρ : Ren} (w : World) (dd : Nat) {t : TypeId} {a b : AV} {x y : Value} {r : Bool} (h : scalEq (P.underlying t) a b = some r) (hx : VR ρ a x) (hy : VR ρ b y) :
    (Op.equalIn (dd + 1) t x y).run P w = .ok r w ∧ (isAgg t).run P w = .ok false w ∧ x.oneCell' = true := by
  unfold scalEq at h
  split at h
  · rename_i k1 k p k' q hk
    split at h
    · rename_i hkk
      injection h with h
      have := kindEq_eq hkk
      subst this h
      simp only [VR] at hx hy
      subst hx hy
      exact ⟨by rw [run_equalIn_int w dd t k k1 p q hk, ieq_eq], by simp [isAgg, run_underlying hk], rfl⟩
    · cases h
  · rename_i p q hk
    injection h with h
    simp only [VR] at hx hy
    subst hx hy h
    exact ⟨run_equalIn_bool' w dd t p q hk, by simp [isAgg, run_underlying hk], rfl⟩
  · cases h

theorem eqFields_sound {ρ : Ren} (w : World) (dd : Nat) (xs ys : List Value) : ∀ (fs : List Field) (n : Nat) (as bs : List AV) (r : Bool), eqFieldsA P fs n as bs = some r →
    VRs ρ as (xs.drop n) → VRs ρ bs (ys.drop n) → (Op.eqFields (dd + 1) xs.toArray ys.toArray fs).run P w = .ok r w := by
  intro fs
  induction fs with
  | nil =>
    intro n as bs r h _ _
    cases as <;> cases bs <;> simp only [eqFieldsA] at h <;> first | cases h | skip
    simp [Op.eqFields]
  | cons f fs ih =>
    intro n as bs r h hx hy
    cases as with
    | nil => simp [eqFieldsA] at h
    | cons a as =>
    cases bs with
    | nil => simp [eqFieldsA] at h
    | cons b bs =>
    simp only [eqFieldsA] at h
    split at h
    · rename_i p q ho hnm hs hr
      injection h with h
      obtain ⟨x, xs', hxs, hax, hxr⟩ := hx
      obtain ⟨y, ys', hys, hby, hyr⟩ := hy
      have ho' : f.offset = n := Nat.eq_of_beq_eq_true ho
      have hx1 : xs[n]? = some x := by
        have : (xs.drop n)[0]? = some x := by rw [hxs]; rfl
        rw [List.getElem?_drop] at this
        simpa using this
      have hy1 : ys[n]? = some y := by
        have : (ys.drop n)[0]? = some y := by rw [hys]; rfl
        rw [List.getElem?_drop] at this
        simpa using this
      have hxd : xs.drop (n + 1) = xs' := by rw [← List.drop_drop, hxs]; rfl
      have hyd : ys.drop (n + 1) = ys' := by rw [← List.drop_drop, hys]; rfl
      obtain ⟨he, hag, _⟩ := scalEq_sound (P := P) w dd hs hax hby
      have hpx : (part f.type xs.toArray n).run P w = .ok x w := by simp [part, hag, hx1]
      have hpy : (part f.type ys.toArray n).run P w = .ok y w := by simp [part, hag, hy1]
      have ih' := ih (n + 1) as bs q hr (hxd ▸ hxr) (hyd ▸ hyr)
      have hnm' : f.name ≠ "_" := by simpa using hnm
      simp only [Op.eqFields, ne_eq, hnm', not_false_eq_true, if_true, Sem.run_bind, ho', hpx, hpy, Result.andThen_ok, he]
      cases p
      · simp at h; subst h; simp
      · simp at h; subst h; simpa using ih'
    · cases h


theorem eqElems_sound {ρ : Ren} (w : World) (dd : Nat) (t e : TypeId) (i : TypeInfo) (m : Nat) (ht : P.underlying t = some (.array m e)) (hi : P.info? e = some i) (h1 : i.size = 1)
    (xs ys : List Value) (as bs : List AV) (r : Bool) (hr : eqElemsA (P.underlying e) as bs = some r) (hm : m = as.length) (hx : VRs ρ as xs) (hy : VRs ρ bs ys) :
    (Op.equalIn (dd + 2) t (.agg xs.toArray) (.agg ys.toArray)).run P w = .ok r w := by
  obtain ⟨d, hd⟩ : ∃ d, d = dd + 1 := ⟨_, rfl⟩
  rw [show dd + 2 = d + 1 by omega]
  simp only [Op.equalIn, Sem.run_bind, run_underlying ht, Result.andThen_ok, sizeOf, typeInfo, run_program, hi, Sem.run_pure, h1, Nat.mul_one, Std.Legacy.Range.forIn_eq_forIn_range']
  have key : ∀ (k s : Nat) (as bs : List AV) (r : Bool), eqElemsA (P.underlying e) as bs = some r → k = as.length → VRs ρ as (xs.drop s) → VRs ρ bs (ys.drop s) →
      ∃ o, (forIn (List.range' s k) ((none : Option Bool), ()) fun i __s => (do
            let a ← part e xs.toArray i
            let b ← part e ys.toArray i
            let c ← Op.equalIn d e a b
            if (!c) = true then pure (ForInStep.done (some false, ())) else pure (ForInStep.yield (none, ())) : Sem (ForInStep (Option Bool × Unit)))).run P w = .ok (o, ()) w ∧ o.getD true = r := by
    intro k
    induction k with
    | zero =>
      intro s as bs r hr hk _ _
      have : as = [] := List.eq_nil_of_length_eq_zero hk.symm
      subst this
      cases bs <;> simp only [eqElemsA] at hr <;> first | cases hr | skip
      exact ⟨none, by simp, rfl⟩
    | succ k ih =>
      intro s as bs r hr hk hx hy
      cases as with
      | nil => simp at hk
      | cons a as =>
      cases bs with
      | nil => simp [eqElemsA] at hr
      | cons b bs =>
      simp only [eqElemsA] at hr
      split at hr
      · rename_i p q hs hq
        injection hr with hr
        obtain ⟨x, xs', hxs, hax, hxr⟩ := hx
        obtain ⟨y, ys', hys, hby, hyr⟩ := hy
        have hx1 : xs[s]? = some x := by
          have : (xs.drop s)[0]? = some x := by rw [hxs]; rfl
          rw [List.getElem?_drop] at this
          simpa using this
        have hy1 : ys[s]? = some y := by
          have : (ys.drop s)[0]? = some y := by rw [hys]; rfl
          rw [List.getElem?_drop] at this
          simpa using this
        have hxd : xs.drop (s + 1) = xs' := by rw [← List.drop_drop, hxs]; rfl
        have hyd : ys.drop (s + 1) = ys' := by rw [← List.drop_drop, hys]; rfl
        obtain ⟨he, hag, _⟩ := scalEq_sound (P := P) w dd hs hax hby
        rw [← hd] at he
        have hpx : (part e xs.toArray s).run P w = .ok x w := by simp [part, hag, hx1]
        have hpy : (part e ys.toArray s).run P w = .ok y w := by simp [part, hag, hy1]
        obtain ⟨o, ho, hor⟩ := ih (s + 1) as bs q hq (by simpa using hk) (hxd ▸ hxr) (hyd ▸ hyr)
        cases p
        · refine ⟨some false, ?_, by simpa using hr⟩
          simp only [List.range'_succ, List.forIn_cons, Sem.run_bind, hpx, hpy, he, Result.andThen_ok, Bool.not_false, if_true, Sem.run_pure]
        · refine ⟨o, ?_, by simp at hr; rw [← hr]; exact hor⟩
          simp only [List.range'_succ, List.forIn_cons, Sem.run_bind, hpx, hpy, he, Result.andThen_ok, Bool.not_true, Bool.false_eq_true, if_false, Sem.run_pure]
          exact ho
      · cases hr
  obtain ⟨o, ho, hor⟩ := key m 0 as bs r hr hm hx hy
  have hsz : ([:m] : Std.Legacy.Range).size = m := by simp [Std.Legacy.Range.size]
  rw [hsz]
  rw [ho]
  cases o with
  | none => simp at hor; simp [hor]
  | some b => simp at hor; simp [hor]

theorem eqAgg_sound {ρ : Ren} {t : TypeId} {as bs : List AV} {r : Bool} (h : eqAgg P t as bs = some r) {xs ys : List Value} (hx : VRs ρ as xs) (hy : VRs ρ bs ys) (w : World) :
    (Op.equalIn 10000 t (.agg xs.toArray) (.agg ys.toArray)).run P w = .ok r w ∧ P.eqGuardType P.depth t = false := by
  unfold eqAgg at h
  split at h
  · cases h
  · rename_i hg
    refine ⟨?_, hg⟩
    split at h
    · rename_i fs hf
      split at h
      · cases h
      · rename_i hs
        have hff : P.fieldsOf t = fs := by simp [Program.fieldsOf, hf]
        rw [run_equalIn_struct w 9999 t _ _ (by rw [hff]; exact hf) hs, hff]
        exact eqFields_sound w 9998 xs ys fs.toList 0 as bs r h (by simpa using hx) (by simpa using hy)
    · rename_i m e hf
      split at h
      · rename_i i hi
        split at h
        · rename_i h1 h2
          exact eqElems_sound w 9998 t e i m hf hi (Nat.eq_of_beq_eq_true h1) xs ys as bs r h (Nat.eq_of_beq_eq_true h2) hx hy
        · cases h
      · cases h
    · cases h

theorem eqA_sound {ρ : Ren} {t : TypeId} {tk : TK} (hk : kindOf P t = some tk) {x y : AV} {u v : Value} {r : Bool} (hf : eqFits tk x y = true) (h : eqA P t x y = some r)
    (hx : VR ρ x u) (hy : VR ρ y v) (op : BinOp) (xo yo : Operand) (w : World) :
    (Op.equal t u v).run P w = .ok r w ∧ (eqGuard op t xo yo u v).run P w = .ok () w ∧ (∀ k n, u ≠ .int k n) ∧ (∀ s, u ≠ .string s) ∧ (∀ k n, u ≠ .float k n) ∧ (∀ k n m, u ≠ .complex k n m) := by
  obtain ⟨ti, i, d, z, hty, e⟩ := kindOf_spec hk
  have hkk := hty.kind
  rw [e] at hkk
  unfold Op.equal Op.maxDepth
  unfold eqFits at hf
  split at hf <;> simp only [eqA] at h
  · have := tk_bool hkk; subst this
    injection h with h; subst h
    simp only [VR] at hx hy; subst hx hy
    exact ⟨run_equalIn_bool' w 9999 t _ _ hty.und, eqGuard_plain _ _ _ _ _ _ _ (by simp) (by simp), by simp, by simp, by simp, by simp⟩
  · obtain ⟨us, rfl, hu⟩ := hx
    obtain ⟨vs, rfl, hv⟩ := hy
    obtain ⟨h1, h2⟩ := eqAgg_sound h hu hv w
    exact ⟨h1, run_eqGuard_agg w op t xo yo _ _ h2, by simp, by simp, by simp, by simp⟩
  · obtain ⟨us, rfl, hu⟩ := hx
    obtain ⟨vs, rfl, hv⟩ := hy
    obtain ⟨h1, h2⟩ := eqAgg_sound h hu hv w
    exact ⟨h1, run_eqGuard_agg w op t xo yo _ _ h2, by simp, by simp, by simp, by simp⟩
  all_goals first | exact absurd hf (by decide) | skip
  all_goals
    injection h with h; subst h
    first
      | (have := tk_ptr hkk; subst this)
      | (obtain ⟨this, _⟩ := tk_slice hkk; subst this)
      | (have := tk_map hkk; subst this)
      | (obtain ⟨_, _, _, this⟩ := tk_func hkk; subst this)
    simp only [VR] at hx hy
    first
      | (obtain ⟨_, _, rfl⟩ := hx; subst hy)
      | (obtain ⟨_, _, rfl⟩ := hy; subst hx)
      | (obtain ⟨_, _, rfl, _⟩ := hx; subst hy)
      | (obtain ⟨_, _, rfl, _⟩ := hy; subst hx)
      | (subst hx hy)
    refine ⟨?_, eqGuard_plain _ _ _ _ _ _ _ (by simp) (by simp), by simp, by simp, by simp, by simp⟩
    obtain ⟨d, hd⟩ : ∃ d, 10000 = d + 1 := ⟨9999, rfl⟩
    rw [hd]
    simp [Op.equalIn, hty.run_und]

theorem bin_sound {ρ : Ren} {op : BinOp} {t : TypeId} {x y r : AV} {u v : Value} (h : binA P op t x y = some r) (hx : VR ρ x u) (hy : VR ρ y v) (xo yo : Operand) :
    ∃ z, VR ρ r z ∧ ∀ w, (do eqGuard op t xo yo u v; binOp op t u v : Sem Value).run P w = .ok z w := by
  unfold binA at h
  split at h
  · rename_i k a k' b
    simp only [VR] at hx hy; subst hx hy
    have hg : ∀ w, (eqGuard op t xo yo (.int k a) (.int k' b)).run P w = .ok () w := fun w => eqGuard_plain _ _ _ _ _ _ _ (by simp) (by simp)
    have main : ∃ z, (∀ ρ, VR ρ r z) ∧ ∀ w, (binOp op t (.int k a) (.int k' b)).run P w = .ok z w := by
      split at h
      · exact shift_sound h t
      · exact shift_sound h t
      · split at h
        · rename_i hkk
          have := kindEq_eq hkk; subst this
          exact arith_sound h t
        · cases h
    obtain ⟨z, hz, hr⟩ := main
    exact ⟨z, hz ρ, fun w => by simp only [Sem.run_bind, hg, Result.andThen_ok, hr]⟩
  · split at h
    · split at h
      · rename_i tk hk
        split at h
        · rename_i r' hf he
          injection h with h; subst h
          refine ⟨.bool r', rfl, fun w => ?_⟩
          obtain ⟨h1, h2, h3, h4, h5, h6⟩ := eqA_sound hk hf he hx hy .eql xo yo w
          simp only [Sem.run_bind, h2, Result.andThen_ok]
          cases u <;> simp_all [binOp]
        · cases h
      · cases h
    · split at h
      · rename_i tk hk
        split at h
        · rename_i r' hf he
          injection h with h; subst h
          refine ⟨.bool (!r'), rfl, fun w => ?_⟩
          obtain ⟨h1, h2, h3, h4, h5, h6⟩ := eqA_sound hk hf he hx hy .neq xo yo w
          simp only [Sem.run_bind, h2, Result.andThen_ok]
          cases u <;> simp_all [binOp]
        · cases h
      · cases h
    · cases h

end
end Go.Abs
