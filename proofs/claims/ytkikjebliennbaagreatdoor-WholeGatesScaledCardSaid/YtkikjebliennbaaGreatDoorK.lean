/-
  What all walks of this seat use: numbers, lists, contexts. (Helper theorems; each says its own conditions.)
-/
import Derived.Test.YtkikjebliennbaaGreatDoorEvI
import Derived.Test.YtkikjebliennbaaGreatDoorW26
/-! What all walks of this seat use: numbers, lists, contexts. -/
namespace Go.Abs
open Go Go.Proofs

/-! ## Numbers -/
theorem wrap_id {n : Int} (h1 : -9223372036854775808 ≤ n) (h2 : n ≤ 9223372036854775807) : IntKind.i64.wrap n = n := by
  have h : IntKind.i64.wrap n = if (true && decide (n % 18446744073709551616 ≥ 9223372036854775808)) = true then n % 18446744073709551616 - 18446744073709551616 else n % 18446744073709551616 := rfl
  rw [h]
  simp only [Bool.true_and, decide_eq_true_eq, ge_iff_le]
  split <;> omega

theorem imin_eq (x y : Int) : imin x y = min x y := by
  unfold imin; rw [ile_eq]
  by_cases h : x ≤ y <;> simp [h] <;> omega

theorem imax_eq (x y : Int) : imax x y = max x y := by
  unfold imax; rw [ile_eq]
  by_cases h : y ≤ x <;> simp [h] <;> omega

theorem four {k : Int} (h : 1 ≤ k ∧ k ≤ 4) : k = 1 ∨ k = 2 ∨ k = 3 ∨ k = 4 := by omega

theorem ieq_self (a : Int) : ieq a a = true := by rw [ieq_eq]; simp
theorem ieq_of {a b : Int} (h : a = b) : ieq a b = true := by rw [h]; exact ieq_self b
theorem ieq_ne {a b : Int} (h : a ≠ b) : ieq a b = false := by rw [ieq_eq]; simpa using h
theorem ile_of {a b : Int} (h : a ≤ b) : ile a b = true := ile_iff.2 h
theorem ile_not {a b : Int} (h : b < a) : ile a b = false := by rw [ile_eq]; simpa using h

theorem splitB_t {X Y : Prop} : splitB true X Y = X := rfl
theorem splitB_f {X Y : Prop} : splitB false X Y = Y := rfl

theorem tab_closed : ∀ (j : Nat), j < 32 → (listFn tabV j).closed = true := by
  intro j hj
  have : ∀ j : Fin 32, (listFn tabV j.1).closed = true := by decide
  exact this ⟨j, hj⟩

/-! ## Lists and blocks -/
theorem likeL_cons {A B : ABlk} {As Bs : List ABlk} (h1 : likeB A B) (h2 : likeL As Bs) : likeL (A :: As) (B :: Bs) := ⟨B, Bs, rfl, h1, h2⟩
theorem likeL_nil : likeL [] [] := rfl
theorem like_fn {d d' : Nat → AV} {n e z : Nat} {ro : Bool} (h : ∀ i, i < n → d i = d' i) : likeB (.cells { sto := .fn d, n := n, elem := e, esz := z, ro := ro }) (.cells { sto := .fn d', n := n, elem := e, esz := z, ro := ro }) := ⟨d', rfl, h⟩

def intOf : AV → Int
  | .int _ n => n
  | _ => 0

def toI (d : Nat → AV) (n : Nat) : List Int := (readL (.fn d) 0 n).map intOf

theorem toI_length (d : Nat → AV) (n : Nat) : (toI d n).length = n := by simp [toI, readL_length]

theorem toI_ints {l : List Int} {n : Nat} (h : n = l.length) : toI (listFn (ints l)) n = l := by
  unfold toI
  rw [readL_all (by rw [ints_length]; exact h)]
  simp only [ints, List.map_map]
  have : (intOf ∘ AV.int IntKind.i64) = id := by funext x; rfl
  rw [this]; simp

theorem ints_toI {d : Nat → AV} {n : Nat} (h : ∀ i, i < n → d i = .int .i64 (intOf (d i))) : ∀ i, i < n → listFn (ints (toI d n)) i = d i := by
  intro i hi
  rw [listFn_ints (by rw [toI_length]; exact hi)]
  have h1 := readL_get (.fn d) n 0 i hi
  rw [h i hi]
  congr 1
  simp only [toI, List.getD_eq_getElem?_getD, List.getElem?_map, h1, Option.map_some, Option.getD_some, Nat.zero_add, Sto.get]

def isInts (d : Nat → AV) (n : Nat) : Prop := ∀ i, i < n → d i = .int .i64 (intOf (d i))

theorem isInts_ints {l : List Int} {n : Nat} (h : n = l.length) : isInts (listFn (ints l)) n := by
  intro i hi
  rw [listFn_ints (by omega)]; rfl

theorem isInts_closed {d : Nat → AV} {n : Nat} (h : isInts d n) : ∀ i, i < n → (d i).closed = true := by
  intro i hi; rw [h i hi]; rfl

theorem tr_get (f : Nat → AV) : (Sto.tr .lf f).get = f := by
  funext i
  simp [Sto.get, Tr.get_lf]

theorem ints_append (l : List Int) (v : Int) : ints l ++ [.int .i64 v] = ints (l ++ [v]) := by simp [ints]

/-- What is read of a list. -/
def rdI (l : List Int) : Nat → Int := fun i => l.getD i 0

theorem get_ints {l : List Int} {i : Nat} (h : i < l.length) : (Sto.fn (listFn (ints l))).get i = .int .i64 (rdI l i) := listFn_ints h

theorem rdI_get {l : List Int} {i : Nat} (h : i < l.length) : rdI l i = l[i] := by simp [rdI, List.getD_eq_getElem?_getD, List.getElem?_eq_getElem h]

theorem small_le {k : Nat} (h : k ≤ 1000000) : small k 8 = true := by
  unfold small
  rw [Bool.and_eq_true, Nat.ble_eq, Nat.ble_eq]
  omega

/-! ## Code -/
noncomputable def bodyAt (g : Nat) : Code := match Tryz.prog.funcs[g]? with
  | some fn => match fn.body with
    | some c => c
    | none => .skip
  | none => .skip
noncomputable def itemsAt (g : Nat) : List Code := flatC (bodyAt g) []
def loopIn : List Code → Code
  | .block _ (.loop c) :: _ => c
  | _ => .skip

/-! ## Contexts -/
/-- Blocks of numbers aren't looked into. -/
def oqI : Opq := fun e => Nat.beq e 3

def XN (es : List CEntry) : Rdr := ⟨fun _ _ _ => none, condE oqI es⟩
/-- A reader that knows what numbers one block holds. -/
def XI (es : List CEntry) (blk : Nat) (F : Nat → Int) : Rdr := ⟨fun b off _ => match Nat.beq b blk with
  | true => some [.int .i64 (F off)]
  | false => none, condE oqI es⟩

/-- The context of a function: contracts of what it calls. -/
noncomputable def CI (es : List CEntry) : Ctx := ⟨Tryz.prog, gsOf 0, orcC oqI es⟩

theorem gsI (es : List CEntry) (n : Nat) : ∀ g b, (CI es).gs g = some b → b < n + 1 := by
  intro g b h
  obtain ⟨_, rfl⟩ := gsOf_eq (G := 0) h
  exact Nat.succ_pos n

theorem orcI_ok {es : List CEntry} (h : ∀ e ∈ es, e.ok (CI es)) : CallOK (CI es) (CI es).orc := orcC_ok (G := 0) rfl h
theorem condI_ok {es : List CEntry} {X : Rdr} (hX : X.cond = condE oqI es) : X.ok (CI es) := by
  intro g args h c r hc hcc
  rw [hX] at hc
  exact orcC_cond hc hcc
theorem orcI0 : CallOK (CI []) (CI []).orc := orcI_ok (fun e he => by cases he)

theorem small_ctx {C C' : Ctx} (hP : C.P = C'.P) (hg : C.gs = C'.gs) {g : Nat} {args : List AV} {h0 : AH} {v : AV} {h1 : AH} (h : Small C g args h0 v h1) : Small C' g args h0 v h1 := by
  obtain ⟨P, gs, o⟩ := C
  obtain ⟨P', gs', o'⟩ := C'
  simp only at hP hg
  subst hP; subst hg
  exact ⟨h.enter, h.calls, h.next, h.news, h.plain⟩

theorem centry_ctx {C C' : Ctx} (hP : C.P = C'.P) (hg : C.gs = C'.gs) {e : CEntry} (h : e.ok C) : e.ok C' := by
  intro args bs c v l hr hc
  obtain ⟨h1, bs0, h2, h3⟩ := h args bs c v l hr hc
  exact ⟨h1, bs0, h2, small_ctx hP hg h3⟩

theorem ctxI {es es' : List CEntry} {e : CEntry} (h : e.ok (CI es)) : e.ok (CI es') := centry_ctx (C := CI es) (C' := CI es') rfl rfl h

/-! ## A law's context: besides the contracts, wakes26 is known -/
noncomputable def CL (es : List CEntry) : Ctx := ⟨Tryz.prog, gsOf 0, orElse (orcC oqI es) (orcOf [(7, [], .bool true)])⟩

theorem condL_ok {es : List CEntry} {X : Rdr} (hX : X.cond = condE oqI es) : X.ok (CL es) := by
  intro g args h c r hc hcc
  rw [hX] at hc
  show orElse (orcC oqI es) _ g args h = some r
  unfold orElse
  rw [orcC_cond hc hcc]

theorem gsL (es : List CEntry) : ∀ g b, (CL es).gs g = some b → b < 1 := by
  intro g b h
  obtain ⟨_, rfl⟩ := gsOf_eq (G := 0) h
  exact Nat.zero_lt_one

theorem globL {es : List CEntry} {gs : List Pl} (h : nth gs 0 = some ⟨0, 0, 0⟩) : GlobR (CL es).gs (nth gs) := by
  intro g b hb
  obtain ⟨rfl, rfl⟩ := gsOf_eq (G := 0) hb
  exact h

end Go.Abs
