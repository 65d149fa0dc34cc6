/-
  Closed calls: what is run once stands in every heap that holds the table. (Helper theorems; each says its own conditions.)
-/
import Derived.Test.YtkikjebliennbaaGreatDoorEvF
/-! Closed calls: what is run once stands in every heap that holds the table. -/
namespace Go.Abs
open Go

mutual
def AV.closed : AV → Bool
  | .ptr _ _ | .sl .. | .mp _ => false
  | .fn _ a b => AV.closeds a && AV.closeds b
  | .agg l | .tup l => AV.closeds l
  | _ => true
def AV.closeds : List AV → Bool
  | [] => true
  | v :: vs => AV.closed v && AV.closeds vs
end

mutual
theorem VR.anywhere {ρ ρ' : Ren} : ∀ (a : AV) (v : Value), a.closed = true → VR ρ a v → VR ρ' a v
  | .bool _, _, _, h => h
  | .int _ _, _, _, h => h
  | .nilp, _, _, h => h
  | .ptr _ _, _, hc, _ => by simp [AV.closed] at hc
  | .sl0, _, _, h => h
  | .sl .., _, hc, _ => by simp [AV.closed] at hc
  | .nilm, _, _, h => h
  | .mp _, _, hc, _ => by simp [AV.closed] at hc
  | .nilf, _, _, h => h
  | .fn _ _ _, _, hc, h => by
    simp only [AV.closed, Bool.and_eq_true] at hc
    simp only [VR] at h ⊢
    obtain ⟨as, bs, he, h1, h2⟩ := h
    exact ⟨as, bs, he, VRs.anywhere _ _ hc.1 h1, VRs.anywhere _ _ hc.2 h2⟩
  | .str _, _, _, h => h
  | .agg _, _, hc, h => by
    simp only [AV.closed] at hc
    simp only [VR] at h ⊢
    obtain ⟨as, he, h1⟩ := h
    exact ⟨as, he, VRs.anywhere _ _ hc h1⟩
  | .tup _, _, hc, h => by
    simp only [AV.closed] at hc
    simp only [VR] at h ⊢
    obtain ⟨as, he, h1⟩ := h
    exact ⟨as, he, VRs.anywhere _ _ hc h1⟩
  | .junk, _, _, h => h
theorem VRs.anywhere {ρ ρ' : Ren} : ∀ (as : List AV) (vs : List Value), AV.closeds as = true → VRs ρ as vs → VRs ρ' as vs
  | [], _, _, h => h
  | a :: as, _, hc, h => by
    simp only [AV.closeds, Bool.and_eq_true] at hc
    obtain ⟨v, vs, he, h1, h2⟩ := h
    exact ⟨v, vs, he, VR.anywhere a v hc.1 h1, VRs.anywhere as vs hc.2 h2⟩
end

mutual
def eqAV : AV → AV → Bool
  | .bool a, .bool b => a == b
  | .int k m, .int l n => decide (k = l) && ieq m n
  | .agg l, .agg m | .tup l, .tup m => eqAVs l m
  | _, _ => false
def eqAVs : List AV → List AV → Bool
  | [], [] => true
  | a :: as, b :: bs => eqAV a b && eqAVs as bs
  | _, _ => false
end

theorem ieq_iff {m n : Int} (h : ieq m n = true) : m = n := by
  rw [ieq_eq] at h; exact eq_of_beq h

mutual
theorem eqAV_eq : ∀ (a b : AV), eqAV a b = true → a = b
  | .bool a, .bool b, h => by simp [eqAV] at h; rw [h]
  | .int k m, .int l n, h => by simp only [eqAV, Bool.and_eq_true, decide_eq_true_eq] at h; rw [h.1, ieq_iff h.2]
  | .agg l, .agg m, h => by simp only [eqAV] at h; rw [eqAVs_eq l m h]
  | .tup l, .tup m, h => by simp only [eqAV] at h; rw [eqAVs_eq l m h]
  | .nilp, b, h | .ptr _ _, b, h | .sl0, b, h | .sl .., b, h | .nilm, b, h | .mp _, b, h | .nilf, b, h | .fn .., b, h | .str _, b, h | .junk, b, h => by cases b <;> simp [eqAV] at h
  | .bool _, .int .., h | .bool _, .nilp, h | .bool _, .ptr .., h | .bool _, .sl0, h | .bool _, .sl .., h | .bool _, .nilm, h | .bool _, .mp _, h | .bool _, .nilf, h | .bool _, .fn .., h | .bool _, .str _, h | .bool _, .agg _, h | .bool _, .tup _, h | .bool _, .junk, h => by simp [eqAV] at h
  | .int .., .bool _, h | .int .., .nilp, h | .int .., .ptr .., h | .int .., .sl0, h | .int .., .sl .., h | .int .., .nilm, h | .int .., .mp _, h | .int .., .nilf, h | .int .., .fn .., h | .int .., .str _, h | .int .., .agg _, h | .int .., .tup _, h | .int .., .junk, h => by simp [eqAV] at h
  | .agg _, .bool _, h | .agg _, .int .., h | .agg _, .nilp, h | .agg _, .ptr .., h | .agg _, .sl0, h | .agg _, .sl .., h | .agg _, .nilm, h | .agg _, .mp _, h | .agg _, .nilf, h | .agg _, .fn .., h | .agg _, .str _, h | .agg _, .tup _, h | .agg _, .junk, h => by simp [eqAV] at h
  | .tup _, .bool _, h | .tup _, .int .., h | .tup _, .nilp, h | .tup _, .ptr .., h | .tup _, .sl0, h | .tup _, .sl .., h | .tup _, .nilm, h | .tup _, .mp _, h | .tup _, .nilf, h | .tup _, .fn .., h | .tup _, .str _, h | .tup _, .agg _, h | .tup _, .junk, h => by simp [eqAV] at h
theorem eqAVs_eq : ∀ (as bs : List AV), eqAVs as bs = true → as = bs
  | [], [], _ => rfl
  | a :: as, b :: bs, h => by
    simp only [eqAVs, Bool.and_eq_true] at h
    rw [eqAV_eq a b h.1, eqAVs_eq as bs h.2]
  | [], _ :: _, h => by simp [eqAVs] at h
  | _ :: _, [], h => by simp [eqAVs] at h
end

/-! ## The table -/
def tabL : List Nat := [0, 1, 28, 2, 29, 14, 24, 3, 30, 22, 20, 15, 25, 17, 4, 8, 31, 27, 13, 23, 21, 19, 16, 7, 26, 12, 18, 6, 11, 5, 10, 9]
def tabV : List AV := tabL.map fun (n : Nat) => .int .u8 (n : Int)
def tabB : ABlk := .cells { sto := .fn (listFn tabV), n := 32, elem := 0, esz := 32, ro := true }
def tabH : AH := AH.push ⟨.lf, 0⟩ tabB

def tabChk (s : Sto) : Nat → List AV → Bool
  | _, [] => true
  | i, v :: vs => eqAV (s.get i) v && tabChk s (i + 1) vs

def tabIs (h : AH) : Bool := match h.get 0 with
  | .cells c => c.ro && Nat.ble 32 c.n && tabChk c.sto 0 tabV
  | _ => false

theorem tabChk_spec {s : Sto} : ∀ {vs : List AV} {i : Nat}, tabChk s i vs = true → ∀ j v, vs[j]? = some v → s.get (i + j) = v
  | [], _, _, j, v, h => by simp at h
  | x :: xs, i, h, j, v, hj => by
    simp only [tabChk, Bool.and_eq_true] at h
    cases j with
    | zero => simp only [List.getElem?_cons_zero, Option.some.injEq] at hj; subst hj; exact eqAV_eq _ _ h.1
    | succ j =>
      have := tabChk_spec h.2 j v (by simpa using hj)
      rw [← this]; congr 1; omega

def only0 (G : Nat) : Ren := fun b => match b with
  | 0 => some ⟨G, 0, 0⟩
  | _ => none

def gsOf (G : Nat) : Nat → Option Nat := fun g => match Nat.beq g G with
  | true => some 0
  | false => none

theorem gsOf_eq {G g b : Nat} (h : gsOf G g = some b) : g = G ∧ b = 0 := by
  unfold gsOf at h
  split at h
  · rename_i hb
    injection h with h
    exact ⟨Nat.eq_of_beq_eq_true hb, h.symm⟩
  · cases h

theorem gsOf_self (G : Nat) : gsOf G G = some 0 := by simp [gsOf]

theorem glob_only0 (G : Nat) : GlobR (gsOf G) (only0 G) := fun g b h => by
  obtain ⟨rfl, rfl⟩ := gsOf_eq h; rfl

theorem tabH_get (b : Nat) : tabH.get b = if b = 0 then tabB else .dead := by
  unfold tabH
  rw [AH.get_push]
  by_cases h : b = 0
  · rw [if_pos h, if_pos h]
  · rw [if_neg h, if_neg h]; rfl

theorem tabH_wf : WF tabH := fun b hb => by
  rw [tabH_get, if_neg]
  have : tabH.next = 1 := rfl
  omega

theorem tab_of_world {G : Nat} {w : World} (hlt : G < w.heap.size) (hc : ∀ (i n : Nat), tabL[i]? = some n → w.cell? ⟨G, i, none⟩ = some (.int .u8 n)) : HR (only0 G) tabH w := by
  have h0 : ∀ b g, only0 G b = some g → b = 0 ∧ g = ⟨G, 0, 0⟩ := fun b g h => by
    cases b with
    | zero => exact ⟨rfl, by simpa [only0] using h.symm⟩
    | succ b => simp [only0] at h
  refine ⟨fun b g hb => ?_, fun b b' g g' hb hb' _ hne => ?_, fun b hb => ?_, fun b g hb => ?_⟩
  · obtain ⟨rfl, rfl⟩ := h0 b g hb
    rw [tabH_get, if_pos rfl]
    unfold BR tabB
    simp only
    intro i hi
    obtain ⟨n, hn⟩ : ∃ n, tabL[i]? = some n := ⟨tabL[i]'(by simpa [tabL] using hi), List.getElem?_eq_getElem _⟩
    refine ⟨.int .u8 n, by simpa using hc i n hn, ?_⟩
    have : listFn tabV i = .int .u8 n := listFn_get _ _ _ (by simp [tabV, hn])
    simp only [Sto.get, this]; rfl
  · exact absurd ((h0 b g hb).1.trans (h0 b' g' hb').1.symm) hne
  · cases b with
    | zero => exact absurd hb (by decide)
    | succ b => rfl
  · obtain ⟨rfl, rfl⟩ := h0 b g hb
    exact hlt

theorem tab_of_heap {G : Nat} {ρ : Ren} {h : AH} {w : World} (hr : HR ρ h w) (hg : GlobR (gsOf G) ρ) (ht : tabIs h = true) : HR (only0 G) tabH w := by
  have h0 := hg G 0 (gsOf_self G)
  have hb := hr.blk 0 _ h0
  unfold tabIs at ht
  split at ht
  · rename_i c hc
    simp only [Bool.and_eq_true] at ht
    obtain ⟨⟨h1, h2⟩, h3⟩ := ht
    rw [hc] at hb
    unfold BR at hb
    simp only [h1] at hb
    refine tab_of_world (hr.lt 0 _ h0) fun i n hn => ?_
    have hi : i < c.n := by
      have := (List.getElem?_eq_some_iff.1 hn).1
      simp [tabL] at this
      have := Nat.le_of_ble_eq_true h2
      omega
    obtain ⟨v, hv, hvr⟩ := hb i hi
    have := tabChk_spec h3 i (.int .u8 n) (by simp [tabV, hn])
    simp only [Nat.zero_add] at this hv
    rw [this] at hvr
    simp only [VR] at hvr
    rw [hv, hvr]
  · cases ht

/-! ## Closed calls -/
/-- The call comes to v, wherever the table lies; and leaves all that was. -/
structure Known (P : Program) (G : Nat) (g : Nat) (args : List AV) (v : AV) : Prop where
  enter : ∀ (xs : Array Value) (w : World), (callFunc g xs).run P w = .ok (.enter g xs) w
  closed : v.closed = true
  calls : ∀ (w : World) (vs : List Value) (ρ : Ren), HR (only0 G) tabH w → VRs ρ args vs → Calls P g vs.toArray w fun e w' => ∃ u, e = .returned u ∧ VR ρ v u ∧
    w'.os = w.os ∧ w'.tape = w.tape ∧ w'.output = w.output ∧ w.heap.size ≤ w'.heap.size ∧ ∀ c, c < w.heap.size → w'.heap[c]? = w.heap[c]?

abbrev Tab := List (Nat × List AV × AV)

def findO (g : Nat) (args : List AV) : Tab → Option AV
  | [] => none
  | (g', args', v) :: t => match Nat.beq g g' && eqAVs args args' with
    | true => some v
    | false => findO g args t

def orcOf (T : Tab) : CallF := fun g args h => match findO g args T with
  | some v => match tabIs h with
    | true => some ⟨v, h, []⟩
    | false => none
  | none => none

def ctx (P : Program) (G : Nat) (T : Tab) : Ctx := ⟨P, gsOf G, orcOf T⟩

theorem findO_mem {g : Nat} {args : List AV} {v : AV} : ∀ {T : Tab}, findO g args T = some v → (g, args, v) ∈ T
  | [], h => by simp [findO] at h
  | (g', args', v') :: t, h => by
    simp only [findO] at h
    split at h
    · rename_i hb
      simp only [Bool.and_eq_true] at hb
      injection h with h; subst h
      rw [Nat.eq_of_beq_eq_true hb.1, eqAVs_eq _ _ hb.2]
      exact List.mem_cons_self
    · exact List.mem_cons_of_mem _ (findO_mem h)

theorem HR.kept {ρ : Ren} {h : AH} {w w' : World} (hr : HR ρ h w) (hs : w.heap.size ≤ w'.heap.size) (hk : ∀ c, c < w.heap.size → w'.heap[c]? = w.heap[c]?) : HR ρ h w' :=
  ⟨fun b g hb => (hr.blk b g hb).same (hk _ (hr.lt b g hb)), hr.inj, hr.fresh, fun b g hb => Nat.lt_of_lt_of_le (hr.lt b g hb) hs⟩

theorem orcOf_ok {P : Program} {G : Nat} {T : Tab} (hT : ∀ x ∈ T, Known P G x.1 x.2.1 x.2.2) : CallOK (ctx P G T) (orcOf T) := by
  intro g args h r hr
  unfold orcOf at hr
  split at hr
  · rename_i v hv
    split at hr
    · rename_i ht
      injection hr with hr; subst hr
      have hk := hT _ (findO_mem hv)
      refine ⟨hk.enter, .refl _ _, fun ρ w vs _ hg hh hvs => ?_⟩
      refine (hk.calls w vs ρ (tab_of_heap hh hg ht) hvs).mono fun e w' hew => ?_
      obtain ⟨u, he, hu, h1, h2, h3, h4, h5⟩ := hew
      exact ⟨u, ρ, he, hu, hh.kept h4 h5, h1, h2, h3, h4, fun c hc _ => h5 c hc, fun b g hb hrw => .inl ⟨b, g, hb, hrw, rfl⟩, fun _ _ => rfl, Nat.le_refl _, Ext.refl _⟩
    · cases hr
  · cases hr

def isV (r : Option R) (v : AV) : Bool := match r with
  | some r => eqAV r.v v
  | none => false

theorem Known.run {P : Program} {G : Nat} {T : Tab} (hfit : Fit P) (hT : ∀ x ∈ T, Known P G x.1 x.2.1 x.2.2) {fuel g : Nat} {args : List AV} {v : AV}
    (h : isV (acall (ctx P G T) fuel g args tabH) v = true) (ha : AV.closeds args = true) (hv : v.closed = true) : Known P G g args v := by
  unfold isV at h
  split at h
  · rename_i r hr
    have := eqAV_eq _ _ h
    subst this
    obtain ⟨h1, _, h2⟩ := acall_ok (C := ctx P G T) hfit (orcOf_ok hT) fuel g args tabH r hr
    refine ⟨h1, hv, fun w vs ρ hh hvs => ?_⟩
    refine (h2 (only0 G) w vs tabH_wf (glob_only0 G) hh (VRs.anywhere _ _ ha hvs)).mono fun e w' hew => ?_
    obtain ⟨u, ρ', he, hu, _, hf⟩ := hew
    refine ⟨u, he, VR.anywhere _ _ hv hu, hf.os, hf.tape, hf.output, hf.size, fun c hc => hf.keep c hc fun b g hb _ => ?_⟩
    cases b with
    | zero => rw [tabH_get, if_pos rfl]; rfl
    | succ b => simp [only0] at hb
  · cases h

end Go.Abs

/-! The evaluator with symbolic numbers: it splits at conditions. What it shows, 'acall' comes to. -/
namespace Go.Abs
open Go

def splitB (b : Bool) (X Y : Prop) : Prop := match b with
  | true => X
  | false => Y

theorem splitB_intro {b : Bool} {X Y : Prop} (h1 : b = true → X) (h2 : b = false → Y) : splitB b X Y := by
  cases b
  · exact h2 rfl
  · exact h1 rfl

theorem splitB_elim {b : Bool} {X Y : Prop} (h : splitB b X Y) : (b = true ∧ X) ∨ (b = false ∧ Y) := by
  cases b
  · exact .inr ⟨rfl, h⟩
  · exact .inl ⟨rfl, h⟩

/-- What is read in a block, where the evaluator can't see it. -/
structure Rdr where
  rd : Nat → Nat → Nat → Option (List AV)
  /-- Calls whose outcome is known where a condition holds. -/
  cond : Nat → List AV → AH → Option (Prop × R)

def Rdr.ok (C : Ctx) (X : Rdr) : Prop := ∀ g args h c r, X.cond g args h = some (c, r) → c → C.orc g args h = some r

def Rdr.none : Rdr := ⟨fun _ _ _ => Option.none, fun _ _ _ => Option.none⟩

theorem Rdr.none_ok (C : Ctx) : Rdr.none.ok C := fun g args h c r hr => by cases hr

def inB (n : Int) (len : Nat) : Bool := ile 0 n && !(ile len n)

abbrev CallW := Nat → List AV → AH → (R → Prop) → Prop

def orF (b : Option AV) (K : AV → Prop) : Prop := match b with
  | some v => K v
  | none => False

/-- A condition that is known from here on. -/
def learn (s : St) (x : Operand) (b : Bool) : St := match x with
  | .tmp t => { s with tmps := s.tmps.set t (.bool b) }
  | _ => s

theorem Tr.setF_same {α : Type} (v : α) : ∀ (f : Nat) (t : Tr α) (k : Nat), k < f → t.get k = some v → Tr.setF f t k v = t := by
  intro f
  induction f with
  | zero => intro t k hk; omega
  | succ f ih =>
    intro t k hk hg
    cases t with
    | lf => simp [Tr.get_lf] at hg
    | nd w l r =>
      cases k with
      | zero =>
        have : w = some v := by rw [Tr.get_zero] at hg; exact hg
        subst this
        simp [Tr.setF, Tr.left, Tr.right]
      | succ k =>
        cases Nat.mod_two_eq_zero_or_one k with
        | inl h =>
          rw [Tr.get_even _ _ h] at hg
          simp [Tr.setF, h, Tr.left, Tr.right, Tr.val] at hg ⊢
          exact ih l (k / 2) (by omega) hg
        | inr h =>
          rw [Tr.get_odd _ _ h] at hg
          simp [Tr.setF, h, Tr.left, Tr.right, Tr.val] at hg ⊢
          exact ih r (k / 2) (by omega) hg

theorem learn_eq {C : Ctx} {s : St} {x : Operand} {b : Bool} (h : glob C.gs s.tmps x = some (.bool b)) : learn s x b = s := by
  cases x with
  | tmp t =>
    have : s.tmps.set t (.bool b) = s.tmps := Tr.setF_same _ _ _ _ (Nat.lt_succ_self _) h
    simp only [learn, this]
  | _ => rfl

def lowOf : Option AV → Option Int
  | none => some 0
  | some (.int _ n) => some n
  | _ => none

def highOf : Option AV → Nat → Option Int
  | none, len => some len
  | some (.int _ n), _ => some n
  | _, _ => none

def cutW (b off len cap : Nat) (ex : Bool) (esz : Nat) (lo hi : Option AV) (K : AV → Prop) : Prop := match lowOf lo, highOf hi len with
  | some l, some h => splitB (ile 0 l && ile l h && ile h cap)
    (match ex with
      | true => K (.sl b (bif Nat.beq cap l.toNat then off else off + l.toNat * esz) (h.toNat - l.toNat) (cap - l.toNat) true)
      | false => splitB (Nat.blt l.toNat cap) (K (.sl b (off + l.toNat * esz) (h.toNat - l.toNat) (cap - l.toNat) false)) False) False
  | _, _ => False

def loadW (X : Rdr) (P : Program) (h : AH) (t : TypeId) (b off : Nat) (K : AV → Prop) : Prop := match tiOf P t with
  | some ti => match ti.agg with
    | true => match X.rd b off ti.size with
      | some cs => match h.get b with
        | .cells c => splitB (Nat.ble (off + ti.size) c.n) (readL c.sto off ti.size = cs ∧ K (.agg cs)) False
        | _ => False
      | none => match h.get b with
        | .cells c => splitB (Nat.ble (off + ti.size) c.n) (K (.agg (readL c.sto off ti.size))) False
        | _ => False
    | false => match X.rd b off 1 with
      | some [v] => match h.get b with
        | .cells c => splitB (Nat.blt off c.n) (c.sto.get off = v ∧ K v) False
        | _ => False
      | some _ => False
      | none => match h.get b with
        | .cells c => splitB (Nat.blt off c.n) (K (c.sto.get off)) False
        | _ => False
  | none => False

def storeW (P : Program) (h : AH) (t : TypeId) (b off : Nat) (v : AV) (K : R → Log → Prop) : Prop := match tiOf P t, v.cells with
  | some ti, some cs => match Nat.beq cs.length ti.size, allOne cs with
    | true, true => match h.get b with
      | .cells c => match c.ro with
        | true => False
        | false => splitB (Nat.ble (off + cs.length) c.n) (K ⟨.tup [], h.put b (.cells { c with sto := c.sto.setL off cs }), [b]⟩ [b]) False
      | _ => False
    | _, _ => False
  | _, _ => False

/-- Divisions and shifts by a number that isn't seen. -/
def binW (P : Program) (op : BinOp) (t : TypeId) (v u : AV) (K : AV → Prop) : Prop := match v, u with
  | .int k a, .int k' b => match op with
    | .quo => match kindEq k k' with
      | true => splitB (ieq b 0) False (K (.int k (k.wrap (a.tdiv b))))
      | false => False
    | .rem => match kindEq k k' with
      | true => splitB (ieq b 0) False (K (.int k (a.tmod b)))
      | false => False
    | .shl => splitB (ile 0 b) (K (.int k (k.wrap (a * 2 ^ (min b.toNat k.bits))))) False
    | .shr => splitB (ile 0 b) (K (.int k (a.fdiv (2 ^ (min b.toNat k.bits))))) False
    | op => match kindEq k k' with
      | true => orF (arith op k a b) K
      | false => False
  | v, u => orF (binA P op t v u) K

/-- The cells of a block that are read. -/
def cellsW (h : AH) (b off n : Nat) (K : CB → List AV → Prop) : Prop := match h.get b with
  | .cells c => splitB (Nat.ble (off + n) c.n) (K c (readL c.sto off n)) False
  | _ => False

/-- Cells that are written. -/
def putsW (h : AH) (b off : Nat) (vs : List AV) (K : AH → Prop) : Prop := match h.get b with
  | .cells c => match c.ro with
    | true => False
    | false => splitB (Nat.ble (off + vs.length) c.n) (K (h.put b (.cells { c with sto := c.sto.setL off vs }))) False
  | _ => False

def grownW (h : AH) (e esz bytes b off len cap : Nat) (ex : Bool) (m : Nat) (new : List AV) (K : R → Log → Prop) : Prop :=
  splitB (small (len + m) bytes) (cellsW h b off (len * esz) fun c old => match ex with
    | true => K ⟨.sl h.next 0 (len + m) (len + m) false, newCells h (old ++ new) e esz, []⟩ []
    | false => splitB (Nat.beq (off + cap * esz) c.n && Nat.beq c.esz esz && Nat.beq c.elem e && !c.ro)
      (K ⟨.sl h.next 0 (len + m) (len + m) false, newCells (h.put b .dead) (old ++ new) e esz, [b]⟩ [b]) False) False

def moreW (P : Program) (h : AH) (e esz bytes : Nat) (s : AV) (m : Nat) (new : List AV) (K : R → Log → Prop) : Prop := match zeroOf P e with
  | some z => splitB (Nat.blt 0 esz && Nat.beq z.length esz && allOne new) (match s with
    | .sl0 => splitB (small m bytes) (K ⟨.sl h.next 0 m m false, newCells h new e esz, []⟩ []) False
    | .sl b off len cap ex => splitB (Nat.ble (len + m) cap)
      (putsW h b (off + len * esz) new fun h' => K ⟨.sl b off (len + m) cap ex, h', [b]⟩ [b])
      (grownW h e esz bytes b off len cap ex m new K)
    | _ => False) False
  | none => False

def appendW (P : Program) (h : AH) (t t2 : TypeId) (s x : AV) (K : R → Log → Prop) : Prop := match kindOf P t, kindOf P t2 with
  | some (.slice e esz bytes), some (.slice ..) => match lenOfA x with
    | none => False
    | some m => splitB (Nat.beq m 0)
      (match s with
        | .sl0 => K ⟨.sl0, h, []⟩ []
        | .sl b off len cap ex => splitB (Nat.ble len cap) (K ⟨.sl b off len cap ex, h, []⟩ []) False
        | _ => False)
      (match x with
        | .sl b' off' _ _ _ => cellsW h b' off' (m * esz) fun _ new => moreW P h e esz bytes s m new K
        | _ => False)
  | _, _ => False

def copyW (P : Program) (h : AH) (t : TypeId) (d s : AV) (K : R → Log → Prop) : Prop := match kindOf P t, lenOfA d, lenOfA s with
  | some (.slice _ esz _), some m, some n => splitB (Nat.beq (min n m) 0)
    (K ⟨.int .i64 0, h, []⟩ [])
    (match d, s with
      | .sl b off _ _ _, .sl b' off' _ _ _ => cellsW h b' off' (min n m * esz) fun _ cs => splitB (allOne cs)
        (putsW h b off cs fun h' => K ⟨.int .i64 ((min n m : Nat) : Int), h', [b]⟩ [b]) False
      | _, _ => False)
  | _, _, _ => False

def makeW (P : Program) (h : AH) (t : TypeId) (len cap : AV) (K : R → Log → Prop) : Prop := match kindOf P t, len, cap with
  | some (.slice e esz bytes), .int _ l, .int _ c => match zeroOf P e with
    | some z => splitB (ile 0 l && ile l c && Nat.blt 0 esz && Nat.beq z.length esz && Nat.ble (bytes * c.toNat) (2 ^ 47) && Nat.blt c.toNat (2 ^ 62))
      (K ⟨.sl h.next 0 l.toNat c.toNat true, h.push (.cells { sto := .tr .lf (zeroFn z esz), n := c.toNat * esz, elem := e, esz, ro := false }), []⟩ [h.next]) False
    | none => False
  | _, _, _ => False

def kindB (b : Builtin) : Nat := match b with
  | .append => 1
  | .copy => 2
  | _ => 0

def biW (C : Ctx) (c : Call) (b : Builtin) (o : Oper) (s : St) (K : St → R → Log → Prop) : Prop := match kindB b, c.argTypes.toList, evs (glob C.gs s.tmps) c.args.toList with
  | 1, [t, t2], some [x, y] => appendW C.P s.h t t2 x y (K s)
  | 2, t :: _, some [x, y] => copyW C.P s.h t x y (K s)
  | _, _, _ => match opOut C (fun _ _ _ => none) o s with
    | some (r, l) => K s r l
    | none => False

def outW (C : Ctx) (X : Rdr) (cl : CallW) (o : Oper) (s : St) (K : St → R → Log → Prop) : Prop := match o.op with
  | .pick c x y => match glob C.gs s.tmps c with
    | some (.bool b) => splitB b (orF (glob C.gs s.tmps x) fun v => K (learn s c true) ⟨v, s.h, []⟩ []) (orF (glob C.gs s.tmps y) fun v => K (learn s c false) ⟨v, s.h, []⟩ [])
    | _ => False
  | .indexAddr t x i => match glob C.gs s.tmps i with
    | some (.int _ n) => match kindOf C.P t, glob C.gs s.tmps x with
      | some (.arr len esz _), some (.ptr b off) => splitB (inB n len) (K s ⟨.ptr b (off + n.toNat * esz), s.h, []⟩ []) False
      | some (.slice _ esz _), some (.sl b off len _ _) => splitB (inB n len) (K s ⟨.ptr b (off + n.toNat * esz), s.h, []⟩ []) False
      | _, _ => False
    | _ => False
  | .slice t x lo hi mx => match glob C.gs s.tmps x, mx, evo (glob C.gs s.tmps) lo, evo (glob C.gs s.tmps) hi, kindOf C.P t with
    | some (.sl b off len cap ex), none, some l, some h, some (.slice _ esz _) => cutW b off len cap ex esz l h fun v => K s ⟨v, s.h, []⟩ []
    | some (.ptr b off), none, some l, some h, some (.arr n esz _) => cutW b off n n true esz l h fun v => K s ⟨v, s.h, []⟩ []
    | _, _, _, _, _ => match opOut C (fun _ _ _ => none) o s with
      | some (r, l) => K s r l
      | none => False
  | .load t a => match glob C.gs s.tmps a with
    | some (.ptr b off) => loadW X C.P s.h t b off fun v => K s ⟨v, s.h, []⟩ [b]
    | _ => False
  | .store t a x => match glob C.gs s.tmps a, glob C.gs s.tmps x with
    | some (.ptr b off), some v => storeW C.P s.h t b off v (K s)
    | _, _ => False
  | .binOp op t x y _ => match glob C.gs s.tmps x, glob C.gs s.tmps y with
    | some v, some u => binW C.P op t v u fun w => K s ⟨w, s.h, []⟩ []
    | _, _ => False
  | .makeSlice t l c => match glob C.gs s.tmps l, glob C.gs s.tmps c with
    | some v, some u => makeW C.P s.h t v u (K s)
    | _, _ => False
  | .call c => match c.callee with
    | .value f => match glob C.gs s.tmps f, evs (glob C.gs s.tmps) c.args.toList with
      | some (.fn f first cap), some vs => cl f (first ++ vs ++ cap) s.h fun r => K s r r.log
      | _, _ => False
    | .builtin b => biW C c b o s K
    | _ => match opOut C (fun _ _ _ => none) o s with
      | some (r, l) => K s r l
      | none => False
  | _ => match opOut C (fun _ _ _ => none) o s with
    | some (r, l) => K s r l
    | none => False

theorem opOut_more {C : Ctx} {cf : CallF} {o : Oper} {s : St} {p : R × Log} (h : opOut C (fun _ _ _ => none) o s = some p) : opOut C cf o s = some p := by
  unfold opOut opOutE at *
  split at h
  · exact h
  · exact h
  · exact h
  · split at h
    · exact h
    · cases h
    · cases h
  · cases h

theorem ile_iff {a b : Int} : ile a b = true ↔ a ≤ b := by
  cases a <;> cases b <;> simp only [ile]
  · rw [Nat.ble_eq]; exact Int.ofNat_le.symm
  · rename_i m n; constructor
    · intro h; cases h
    · intro h; exact absurd h (by simp only [Int.ofNat_eq_natCast]; omega)
  · rename_i m n; constructor
    · intro _; simp only [Int.ofNat_eq_natCast]; omega
    · intro _; trivial
  · rename_i m n; rw [Nat.ble_eq]; omega

theorem inB_iff {n : Int} {len : Nat} : inB n len = true ↔ 0 ≤ n ∧ n < len := by
  unfold inB
  rw [Bool.and_eq_true, Bool.not_eq_true', ile_iff]
  constructor
  · rintro ⟨h1, h2⟩
    refine ⟨h1, ?_⟩
    cases h : decide (n < len) with
    | true => exact of_decide_eq_true h
    | false =>
      have := of_decide_eq_false h
      rw [ile_iff.2 (by omega)] at h2; cases h2
  · rintro ⟨h1, h2⟩
    refine ⟨h1, ?_⟩
    cases h : ile len n with
    | false => rfl
    | true => have := ile_iff.1 h; omega

theorem inB_idx {n : Int} {len : Nat} (h : inB n len = true) : idx n len = some n.toNat := by
  obtain ⟨h1, h2⟩ := inB_iff.1 h
  cases n with
  | ofNat m =>
    have : Nat.blt m len = true := by rw [Nat.blt_eq]; simp only [Int.ofNat_eq_natCast] at h2; omega
    simp [idx, this]
  | negSucc m => omega

theorem upto_of {n : Int} {len : Nat} (h1 : 0 ≤ n) (h2 : n ≤ len) : upto n len = some n.toNat := by
  cases n with
  | ofNat m =>
    have : Nat.ble m len = true := by rw [Nat.ble_eq]; simp only [Int.ofNat_eq_natCast] at h2; omega
    simp [upto, this]
  | negSucc m => omega

theorem cutW_spec {b off len cap : Nat} {ex : Bool} {esz : Nat} {lo hi : Option AV} {K : AV → Prop} (hc : cutW b off len cap ex esz lo hi K) : ∃ v, cut b off len cap ex esz lo hi none = some v ∧ K v := by
  unfold cutW at hc
  split at hc
  · rename_i l h e1 e2
    rcases splitB_elim hc with ⟨hb, hk⟩ | ⟨_, hk⟩
    · rw [Bool.and_eq_true, Bool.and_eq_true, ile_iff, ile_iff, ile_iff] at hb
      obtain ⟨⟨h1, h2⟩, h3⟩ := hb
      have hhi : optInt hi len cap = some h.toNat := by
        unfold highOf at e2
        split at e2
        · injection e2 with e2; subst e2; rfl
        · injection e2 with e2; subst e2
          exact upto_of (by omega) h3
        · cases e2
      have hlo : optInt lo 0 h.toNat = some l.toNat := by
        unfold lowOf at e1
        split at e1
        · injection e1 with e1; subst e1; rfl
        · injection e1 with e1; subst e1
          exact upto_of h1 (by omega)
        · cases e1
      unfold cut
      simp only [hhi, hlo]
      cases ex with
      | true => exact ⟨_, rfl, hk⟩
      | false =>
        simp only at hk ⊢
        rcases splitB_elim hk with ⟨hb, hk⟩ | ⟨_, hk⟩
        · rw [hb]; exact ⟨_, rfl, hk⟩
        · exact hk.elim
    · exact hk.elim
  · exact hc.elim

theorem loadW_spec {X : Rdr} {P : Program} {h : AH} {t : TypeId} {b off : Nat} {K : AV → Prop} (hl : loadW X P h t b off K) : ∃ v, loadA P h t (.ptr b off) = some v ∧ K v := by
  unfold loadW at hl
  unfold loadA
  split at hl
  · rename_i ti hti
    simp only [hti]
    split at hl
    · rename_i hag
      simp only [hag]
      split at hl
      · split at hl
        · rename_i c hc
          rcases splitB_elim hl with ⟨hb, h1, h2⟩ | ⟨_, hk⟩
          · simp only [cellsAt, hc, hb, cond_true, h1]
            exact ⟨_, rfl, h2⟩
          · exact hk.elim
        · exact hl.elim
      · split at hl
        · rename_i c hc
          rcases splitB_elim hl with ⟨hb, hk⟩ | ⟨_, hk⟩
          · simp only [cellsAt, hc, hb, cond_true]
            exact ⟨_, rfl, hk⟩
          · exact hk.elim
        · exact hl.elim
    · rename_i hag
      simp only [hag]
      split at hl
      · split at hl
        · rename_i c hc
          rcases splitB_elim hl with ⟨hb, h1, h2⟩ | ⟨_, hk⟩
          · simp only [cellAt, hc, hb, cond_true, h1]
            exact ⟨_, rfl, h2⟩
          · exact hk.elim
        · exact hl.elim
      · exact hl.elim
      · split at hl
        · rename_i c hc
          rcases splitB_elim hl with ⟨hb, hk⟩ | ⟨_, hk⟩
          · simp only [cellAt, hc, hb, cond_true]
            exact ⟨_, rfl, hk⟩
          · exact hk.elim
        · exact hl.elim
  · exact hl.elim

theorem storeW_spec {P : Program} {h : AH} {t : TypeId} {b off : Nat} {v : AV} {K : R → Log → Prop} (hl : storeW P h t b off v K) : ∃ r, storeA P h t (.ptr b off) v = some r ∧ K r r.log := by
  unfold storeW at hl
  unfold storeA
  split at hl
  · rename_i ti cs hti hcs
    simp only [hti, hcs]
    split at hl
    · rename_i e1 e2
      simp only [e1, e2]
      split at hl
      · rename_i c hc
        split at hl
        · exact hl.elim
        · rename_i hro
          rcases splitB_elim hl with ⟨hb, hk⟩ | ⟨_, hk⟩
          · have hset : setCells h b off cs = some (h.put b (.cells { c with sto := c.sto.setL off cs })) := by
              unfold setCells
              simp only [hc, hro, hb, cond_true, cond_false]
            rw [hset]
            exact ⟨_, rfl, hk⟩
          · exact hk.elim
      · exact hl.elim
    · exact hl.elim
  · exact hl.elim

theorem binW_spec {P : Program} {op : BinOp} {t : TypeId} {v u : AV} {K : AV → Prop} (h : binW P op t v u K) : ∃ w, binA P op t v u = some w ∧ K w := by
  have orf : ∀ o : Option AV, orF o K → ∃ w, o = some w ∧ K w := fun o ho => by
    unfold orF at ho
    split at ho
    · exact ⟨_, rfl, ho⟩
    · exact ho.elim
  unfold binW at h
  split at h
  · rename_i k a k' b
    simp only [binA]
    split at h
    · split at h
      · rename_i hk
        rcases splitB_elim h with ⟨_, h⟩ | ⟨hb, h⟩
        · exact h.elim
        · exact ⟨_, by simp only [hk, arith, hb], h⟩
      · exact h.elim
    · split at h
      · rename_i hk
        rcases splitB_elim h with ⟨_, h⟩ | ⟨hb, h⟩
        · exact h.elim
        · exact ⟨_, by simp only [hk, arith, hb], h⟩
      · exact h.elim
    · rcases splitB_elim h with ⟨hb, h⟩ | ⟨_, h⟩
      · exact ⟨_, by simp only [shiftA, hb], h⟩
      · exact h.elim
    · rcases splitB_elim h with ⟨hb, h⟩ | ⟨_, h⟩
      · exact ⟨_, by simp only [shiftA, hb], h⟩
      · exact h.elim
    · split at h
      · rename_i hk
        obtain ⟨w, hw, hkw⟩ := orf _ h
        refine ⟨w, ?_, hkw⟩
        cases op <;> first
          | exact absurd rfl (by assumption)
          | simp only [hk, hw]
      · exact h.elim
  · exact orf _ h

theorem cellsW_spec {h : AH} {b off n : Nat} {K : CB → List AV → Prop} (hc : cellsW h b off n K) : ∃ c, h.get b = .cells c ∧ cellsAt h b off n = some (readL c.sto off n) ∧ K c (readL c.sto off n) := by
  unfold cellsW at hc
  split at hc
  · rename_i c hg
    rcases splitB_elim hc with ⟨hb, hk⟩ | ⟨_, hk⟩
    · exact ⟨c, hg, by simp only [cellsAt, hg, hb, cond_true], hk⟩
    · exact hk.elim
  · exact hc.elim

theorem putsW_spec {h : AH} {b off : Nat} {vs : List AV} {K : AH → Prop} (hc : putsW h b off vs K) : ∃ h', setCells h b off vs = some h' ∧ K h' := by
  unfold putsW at hc
  split at hc
  · rename_i c hg
    split at hc
    · exact hc.elim
    · rename_i hro
      rcases splitB_elim hc with ⟨hb, hk⟩ | ⟨_, hk⟩
      · exact ⟨_, by simp only [setCells, hg, hro, hb, cond_true, cond_false], hk⟩
      · exact hk.elim
  · exact hc.elim

theorem appendW_spec {P : Program} {h : AH} {t t2 : TypeId} {s x : AV} {K : R → Log → Prop} (hw : appendW P h t t2 s x K) : ∃ r, appendA P h t t2 s x = some r ∧ K r r.log := by
  unfold appendW at hw
  unfold appendA
  split at hw
  · rename_i e esz bytes _ _ _ e1 e2
    simp only [e1, e2]
    split at hw
    · exact hw.elim
    · rename_i m hm
      rcases splitB_elim hw with ⟨hb, hw1⟩ | ⟨hb, hw1⟩ <;> clear hw
      · have hm0 : m = 0 := Nat.eq_of_beq_eq_true hb
        subst hm0
        simp only [hm]
        cases s with
        | sl0 => exact ⟨_, rfl, hw1⟩
        | sl b off len cap ex =>
          simp only at hw1
          rcases splitB_elim hw1 with ⟨hb', hw2⟩ | ⟨_, hw2⟩
          · simp only [hb']; exact ⟨_, rfl, hw2⟩
          · exact hw2.elim
        | _ => exact hw1.elim
      · have hm0 : m ≠ 0 := Nat.ne_of_beq_eq_false hb
        obtain ⟨m, rfl⟩ : ∃ m', m = m' + 1 := ⟨m - 1, by omega⟩
        simp only [hm]
        cases x with
        | sl b' off' len' cap' ex' =>
          obtain rfl : len' = m + 1 := by injection hm
          simp only at hw1
          obtain ⟨c', _, hc', hw⟩ := cellsW_spec hw1
          have hel : elemsA h esz (.sl b' off' (m + 1) cap' ex') = some (readL c'.sto off' ((m + 1) * esz)) := hc'
          rw [hel]
          unfold moreW at hw
          split at hw
          · rename_i z hz
            simp only [hz]
            rcases splitB_elim hw with ⟨hb, hw⟩ | ⟨_, hw⟩
            · simp only [hb]
              cases s with
              | sl0 =>
                simp only at hw
                rcases splitB_elim hw with ⟨hb, hw⟩ | ⟨_, hw⟩
                · simp only [hb]; exact ⟨_, rfl, hw⟩
                · exact hw.elim
              | sl b off len cap ex =>
                simp only at hw
                rcases splitB_elim hw with ⟨hb, hw⟩ | ⟨hb, hw⟩
                · simp only [hb]
                  obtain ⟨h', hs, hk⟩ := putsW_spec hw
                  simp only [hs]
                  exact ⟨_, rfl, hk⟩
                · simp only [hb]
                  unfold grownW at hw
                  rcases splitB_elim hw with ⟨hsm, hw⟩ | ⟨_, hw⟩
                  · obtain ⟨c, hg, hca, hw⟩ := cellsW_spec hw
                    simp only [hsm, hca]
                    cases ex with
                    | true => exact ⟨_, rfl, hw⟩
                    | false =>
                      simp only at hw
                      rcases splitB_elim hw with ⟨hb, hw⟩ | ⟨_, hw⟩
                      · simp only [hg, hb]; exact ⟨_, rfl, hw⟩
                      · exact hw.elim
                  · exact hw.elim
              | _ => exact hw.elim
            · exact hw.elim
          · exact hw.elim
        | _ => exact hw1.elim
  · exact hw.elim

theorem copyW_spec {P : Program} {h : AH} {t : TypeId} {d s : AV} {K : R → Log → Prop} (hw : copyW P h t d s K) : ∃ r, copyA P h t d s = some r ∧ K r r.log := by
  unfold copyW at hw
  unfold copyA
  split at hw
  · rename_i m n e1 e2 e3
    simp only [e1, e2, e3]
    rcases splitB_elim hw with ⟨hb, hw⟩ | ⟨hb, hw⟩
    · have hz : min n m = 0 := Nat.eq_of_beq_eq_true hb
      simp only [hz]
      exact ⟨_, rfl, hw⟩
    · have hz : min n m ≠ 0 := Nat.ne_of_beq_eq_false hb
      generalize min n m = k at *
      obtain ⟨k, rfl⟩ : ∃ k', k = k' + 1 := ⟨k - 1, by omega⟩
      simp only
      split at hw
      · obtain ⟨c, _, hc, hw⟩ := cellsW_spec hw
        simp only [hc]
        rcases splitB_elim hw with ⟨hb, hw⟩ | ⟨_, hw⟩
        · obtain ⟨h', hs, hk⟩ := putsW_spec hw
          simp only [hs, hb]
          exact ⟨_, rfl, hk⟩
        · exact hw.elim
      · exact hw.elim
  · exact hw.elim

theorem natOf_int {k : IntKind} {n : Int} (h : 0 ≤ n) : natOf (.int k n) = some n.toNat := by
  cases n with
  | ofNat m => rfl
  | negSucc m => omega

theorem makeW_spec {P : Program} {h : AH} {t : TypeId} {len cap : AV} {K : R → Log → Prop} (hw : makeW P h t len cap K) :
    ∃ v blk, makeSliceA P h.next t len cap = some (v, blk) ∧ K ⟨v, h.push blk, []⟩ [h.next] := by
  unfold makeW at hw
  unfold makeSliceA
  split at hw
  · rename_i e esz bytes _ l _ c e1
    split at hw
    · rename_i z hz
      rcases splitB_elim hw with ⟨hb, hw⟩ | ⟨_, hw⟩
      · simp only [Bool.and_eq_true] at hb
        obtain ⟨⟨⟨⟨⟨h1, h2⟩, h3⟩, h4⟩, h5⟩, h6⟩ := hb
        rw [ile_iff] at h1 h2
        have h7 : Nat.ble l.toNat c.toNat = true := by rw [Nat.ble_eq]; omega
        rw [natOf_int h1, natOf_int (by omega : (0 : Int) ≤ c)]
        simp only [e1, hz, h3, h4, h5, h6, h7, Bool.and_self]
        exact ⟨_, _, rfl, hw⟩
      · exact hw.elim
    · exact hw.elim
  · exact hw.elim

theorem evo_none (env : Env) : evo env none = some none := rfl

theorem outW_spec {C : Ctx} {X : Rdr} {cl : CallW} {cf : CallF} (hcl : ∀ f args h K, cl f args h K → ∃ r, cf f args h = some r ∧ K r) {o : Oper} {s : St} {K : St → R → Log → Prop} (h : outW C X cl o s K) :
    ∃ r l, opOut C cf o s = some (r, l) ∧ K s r l := by
  have dflt : (match opOut C (fun _ _ _ => none) o s with | some (r, l) => K s r l | none => False) → ∃ r l, opOut C cf o s = some (r, l) ∧ K s r l := by
    intro h
    split at h
    · rename_i r l hop
      exact ⟨r, l, opOut_more hop, h⟩
    · exact h.elim
  unfold outW at h
  split at h
  · rename_i c x y hop
    split at h
    · rename_i b hb
      rcases splitB_elim h with ⟨rfl, hk⟩ | ⟨rfl, hk⟩
      · rw [learn_eq hb] at hk
        unfold orF at hk
        split at hk
        · rename_i v hv
          exact ⟨_, _, by simp only [opOut, opOutE, hop, cls, pureA, hb, hv], hk⟩
        · exact hk.elim
      · rw [learn_eq hb] at hk
        unfold orF at hk
        split at hk
        · rename_i v hv
          exact ⟨_, _, by simp only [opOut, opOutE, hop, cls, pureA, hb, hv], hk⟩
        · exact hk.elim
    · exact h.elim
  · rename_i t x i hop
    split at h
    · rename_i k n hi
      split at h
      · rename_i len esz _ b off hk hx
        rcases splitB_elim h with ⟨hb, hk'⟩ | ⟨_, hk'⟩
        · exact ⟨_, _, by simp only [opOut, opOutE, hop, cls, pureA, on2, hx, hi, indexAddrA, hk, inB_idx hb], hk'⟩
        · exact hk'.elim
      · rename_i esz _ b off len _ _ hk hx
        rcases splitB_elim h with ⟨hb, hk'⟩ | ⟨_, hk'⟩
        · exact ⟨_, _, by simp only [opOut, opOutE, hop, cls, pureA, on2, hx, hi, indexAddrA, hk, inB_idx hb], hk'⟩
        · exact hk'.elim
      · exact h.elim
    · exact h.elim
  · rename_i t x lo hi mx hop
    split at h
    · rename_i hx hlo hhi hk
      obtain ⟨v, hv, hkv⟩ := cutW_spec h
      refine ⟨_, _, ?_, hkv⟩
      simp only [opOut, opOutE, hop, cls, pureA, on1, hx, hlo, hhi, evo_none, sliceA, hk, hv]
    · rename_i hx hlo hhi hk
      obtain ⟨v, hv, hkv⟩ := cutW_spec h
      refine ⟨_, _, ?_, hkv⟩
      simp only [opOut, opOutE, hop, cls, pureA, on1, hx, hlo, hhi, evo_none, sliceA, hk, hv]
    · exact dflt h
  · rename_i t a hop
    split at h
    · rename_i b off ha
      obtain ⟨v, hv, hk⟩ := loadW_spec h
      exact ⟨_, _, by simp only [opOut, opOutE, hop, cls, readA, on1, ha, hv, readAt], hk⟩
    · exact h.elim
  · rename_i t a x hop
    split at h
    · rename_i b off v ha hx
      obtain ⟨r, hr, hk⟩ := storeW_spec h
      exact ⟨_, _, by simp only [opOut, opOutE, hop, cls, effA, on2, ha, hx, hr, valO], hk⟩
    · exact h.elim
  · rename_i op t x y _ hop
    split at h
    · rename_i v u hx hy
      obtain ⟨w, hw, hk⟩ := binW_spec h
      exact ⟨_, _, by simp only [opOut, opOutE, hop, cls, pureA, on2, hx, hy, hw], hk⟩
    · exact h.elim
  · rename_i t l c hop
    split at h
    · rename_i v u hl hc
      obtain ⟨w, blk, hw, hk⟩ := makeW_spec h
      exact ⟨_, _, by simp only [opOut, opOutE, hop, cls, allocA, on2, hl, hc, hw], hk⟩
    · exact h.elim
  · rename_i c hop
    split at h
    · rename_i f hf
      split at h
      · rename_i g first cap vs hg hvs
        obtain ⟨r, hr, hk⟩ := hcl _ _ _ _ h
        exact ⟨r, r.log, by simp only [opOut, opOutE, hop, cls, effA, hf, hg, hvs, hr], hk⟩
      · exact h.elim
    · rename_i b hf
      unfold biW at h
      split at h
      · rename_i t t2 x y hkb hat hvs
        have hb : b = .append := by cases b <;> simp [kindB] at hkb <;> rfl
        subst hb
        obtain ⟨r, hr, hk⟩ := appendW_spec h
        exact ⟨r, r.log, by simp only [opOut, opOutE, hop, cls, hf, effA, hat, hvs, hr, valO], hk⟩
      · rename_i t _ x y hkb hat hvs
        have hb : b = .copy := by cases b <;> simp [kindB] at hkb <;> rfl
        subst hb
        obtain ⟨r, hr, hk⟩ := copyW_spec h
        exact ⟨r, r.log, by simp only [opOut, opOutE, hop, cls, hf, effA, hat, hvs, hr, valO], hk⟩
      · exact dflt h
    · exact dflt h
  · exact dflt h

def putW (s : St) (o : Oper) (v : AV) (K : St → Prop) : Prop := match putTmp s o.dst v with
  | some s' => K s'
  | none => False

def doW (C : Ctx) (X : Rdr) (cl : CallW) (o : Oper) (s : St) (K : St → Log → Prop) : Prop :=
  outW C X cl o s fun s r l => putW { s with h := r.h, log := r.log ++ s.log } o r.v fun s' => K s' l

def stepW (C : Ctx) (X : Rdr) (cl : CallW) (ops : Array Oper) (o : Oper) (s : St) (K : St → Log → Prop) : Prop := match o.guard with
  | none => doW C X cl o s K
  | some (j, want) => match (ops[j]?).bind (·.dst) with
    | none => putW s o (.tup []) fun s' => K s' []
    | some d => match s.tmps.get d with
      | none => False
      | some (.bool c) => splitB c
        (match want with
          | true => doW C X cl o (learn s (.tmp d) true) K
          | false => putW (learn s (.tmp d) true) o (.tup []) fun s' => K s' [])
        (match want with
          | true => putW (learn s (.tmp d) false) o (.tup []) fun s' => K s' []
          | false => doW C X cl o (learn s (.tmp d) false) K)
      | some .junk => False
      | some _ => putW s o (.tup []) fun s' => K s' []

theorem doW_spec {C : Ctx} {X : Rdr} {cl : CallW} {cf : CallF} (hcl : ∀ f args h K, cl f args h K → ∃ r, cf f args h = some r ∧ K r) {ops : Array Oper} {o : Oper} {s : St} {K : St → Log → Prop}
    (hw : wantedA ops s.tmps.get o = some true) (h : doW C X cl o s K) : ∃ s' l, stepOp C cf ops o s = some (s', l) ∧ K s' l := by
  unfold doW at h
  obtain ⟨r, l, hop, hk⟩ := outW_spec hcl h
  unfold putW at hk
  split at hk
  · rename_i s' hp
    exact ⟨s', l, by simp only [stepOp, hw, hop, hp], hk⟩
  · exact hk.elim

theorem putW_spec {C : Ctx} {cf : CallF} {ops : Array Oper} {o : Oper} {s : St} {K : St → Log → Prop}
    (hw : wantedA ops s.tmps.get o = some false) (h : putW s o (.tup []) fun s' => K s' []) : ∃ s' l, stepOp C cf ops o s = some (s', l) ∧ K s' l := by
  unfold putW at h
  split at h
  · rename_i s' hp
    exact ⟨s', [], by simp only [stepOp, hw, hp], h⟩
  · exact h.elim

theorem stepW_spec {C : Ctx} {X : Rdr} {cl : CallW} {cf : CallF} (hcl : ∀ f args h K, cl f args h K → ∃ r, cf f args h = some r ∧ K r) {ops : Array Oper} {o : Oper} {s : St} {K : St → Log → Prop}
    (h : stepW C X cl ops o s K) : ∃ s' l, stepOp C cf ops o s = some (s', l) ∧ K s' l := by
  unfold stepW at h
  split at h
  · rename_i hg
    exact doW_spec hcl (by simp only [wantedA, hg]) h
  · rename_i j want hg
    split at h
    · rename_i hd
      exact putW_spec (by simp only [wantedA, hg, hd]) h
    · rename_i d hd
      split at h
      · exact h.elim
      · rename_i c hc
        have hw : wantedA ops s.tmps.get o = some (c == want) := by simp only [wantedA, hg, hd, hc]
        have hlearn : learn s (.tmp d) c = s := learn_eq (C := C) hc
        rcases splitB_elim h with ⟨rfl, hk⟩ | ⟨rfl, hk⟩
        · rw [hlearn] at hk
          cases want with
          | true => exact doW_spec hcl hw hk
          | false => exact putW_spec hw hk
        · rw [hlearn] at hk
          cases want with
          | true => exact putW_spec hw hk
          | false => exact doW_spec hcl hw hk
      · exact h.elim
      · rename_i v hv1 hv2 hv
        refine putW_spec ?_ h
        unfold wantedA
        rw [hg]
        simp only [hd]
        rw [hv]
        cases v <;> first
          | rfl
          | exact absurd rfl (hv1 _)
          | exact absurd rfl hv2

def runOpsW (C : Ctx) (X : Rdr) (cl : CallW) (ops : Array Oper) : List Oper → St → (St → Prop) → Prop
  | [], s, K => K s
  | o :: os, s, K => stepW C X cl ops o s fun s' _ => runOpsW C X cl ops os s' K

def runRecW (C : Ctx) (X : Rdr) (cl : CallW) (ops : Array Oper) : List It → St → List (Nat × Log) → (St → List (Nat × Log) → Prop) → Prop
  | [], s, rs, K => K s rs
  | x :: xs, s, rs, K => stepW C X cl ops x.o s fun s' l => runRecW C X cl ops xs s' ((x.i, l) :: rs) K

def regionW (C : Ctx) (X : Rdr) (cl : CallW) (ops : Array Oper) (draw : Bool) (s : St) (K : St → Prop) : Prop := match draw with
  | false => runOpsW C X cl ops ops.toList s K
  | true => match regOf ops with
    | some g => runRecW C X cl ops g.ord s [] fun s' rs => match recsOk g.re rs with
      | true => K s'
      | false => False
    | none => False

section
variable {C : Ctx} {X : Rdr} {cl : CallW} {cf : CallF}

theorem runOpsW_spec (hcl : ∀ f args h K, cl f args h K → ∃ r, cf f args h = some r ∧ K r) {ops : Array Oper} : ∀ {os : List Oper} {s : St} {K : St → Prop}, runOpsW C X cl ops os s K → ∃ s', runOps C cf ops os s = some s' ∧ K s'
  | [], s, K, h => ⟨s, rfl, h⟩
  | o :: os, s, K, h => by
    obtain ⟨s1, l, h1, h2⟩ := stepW_spec hcl h
    obtain ⟨s2, h3, h4⟩ := runOpsW_spec hcl h2
    exact ⟨s2, by simp only [runOps, h1, h3], h4⟩

theorem runRecW_spec (hcl : ∀ f args h K, cl f args h K → ∃ r, cf f args h = some r ∧ K r) {ops : Array Oper} : ∀ {xs : List It} {s : St} {rs : List (Nat × Log)} {K : St → List (Nat × Log) → Prop},
    runRecW C X cl ops xs s rs K → ∃ s' rs', runRec C cf ops xs s rs = some (s', rs') ∧ K s' rs'
  | [], s, rs, K, h => ⟨s, rs, rfl, h⟩
  | x :: xs, s, rs, K, h => by
    obtain ⟨s1, l, h1, h2⟩ := stepW_spec hcl h
    obtain ⟨s2, rs2, h3, h4⟩ := runRecW_spec hcl h2
    exact ⟨s2, rs2, by simp only [runRec, h1, h3], h4⟩

theorem regionW_spec (hcl : ∀ f args h K, cl f args h K → ∃ r, cf f args h = some r ∧ K r) {ops : Array Oper} {draw : Bool} {s : St} {K : St → Prop} (h : regionW C X cl ops draw s K) :
    ∃ s', runRegion C cf ops draw s = some s' ∧ K s' := by
  unfold regionW at h
  unfold runRegion
  split at h
  · exact runOpsW_spec hcl h
  · split at h
    · rename_i g hg
      obtain ⟨s', rs, h1, h2⟩ := runRecW_spec hcl h
      split at h2
      · rename_i hre
        exact ⟨s', by simp only [hg, h1, hre], h2⟩
      · exact h2.elim
    · exact h.elim
end

mutual
def wexec (C : Ctx) (X : Rdr) : Nat → Code → St → (AExit → St → Prop) → Prop
  | 0, _, _, _ => False
  | f + 1, c, s, K => match c with
    | .skip | .label _ => K .normal s
    | .exit id => K (.exit id) s
    | .goto l => K (.goto l) s
    | .ret => K .ret s
    | .region _ ops draw => regionW C X (wcall C X f) ops draw s fun s' => K .normal s'
    | .seq a b => wexec C X f a s fun x s' => match x with
      | .normal => wexec C X f b s' K
      | x => K x s'
    | .cond e a b => match glob C.gs s.tmps e with
      | some (.bool t) => splitB t (wexec C X f a (learn s e true) K) (wexec C X f b (learn s e false) K)
      | _ => False
    | .block id a => wexec C X f a s fun x s' => match x with
      | .exit id' => match Nat.beq id' id with
        | true => K .normal s'
        | false => K (.exit id') s'
      | x => K x s'
    | .loop a => wexec C X f a s fun x s' => match x with
      | .normal => wexec C X f (.loop a) s' K
      | x => K x s'
    | .scope a => wscope C X f a a s K
    | .rangeFunc .. | .refuse _ => False
def wscope (C : Ctx) (X : Rdr) : Nat → Code → Code → St → (AExit → St → Prop) → Prop
  | 0, _, _, _, _ => False
  | f + 1, b, c, s, K => wexec C X f c s fun x s' => match x with
    | .goto l => match findLabel b l with
      | some rest => wscope C X f b rest s' K
      | none => K (.goto l) s'
    | x => K x s'
def wcall (C : Ctx) (X : Rdr) : Nat → Nat → List AV → AH → (R → Prop) → Prop
  | 0, _, _, _, _ => False
  | f + 1, g, args, h, K => match X.cond g args h with
    | some (c, r) => c ∧ K r
    | none => match C.orc g args h with
    | some r => K r
    | none => match C.P.funcs[g]? with
      | none => False
      | some fn => match fn.body with
        | none => False
        | some c => wexec C X f c ⟨args.length + (fn.ntmps - args.length), argsT args 0 .lf, h, []⟩ fun x s => match x with
          | .normal | .ret => match resultsA C.P s.h s.tmps fn.results.toList with
            | some vs => K ⟨oneOrTup vs, s.h, s.log⟩
            | none => False
          | _ => False
end

theorem wdet {C : Ctx} {X : Rdr} (hX : X.ok C) : ∀ f : Nat,
    (∀ c s K, wexec C X f c s K → ∃ x s', aexec C f c s = some (x, s') ∧ K x s') ∧
    (∀ b c s K, wscope C X f b c s K → ∃ x s', ascope C f b c s = some (x, s') ∧ K x s') ∧
    (∀ g args h K, wcall C X f g args h K → ∃ r, acall C f g args h = some r ∧ K r) := by
  intro f
  induction f with
  | zero => exact ⟨fun c s K h => by simp [wexec] at h, fun b c s K h => by simp [wscope] at h, fun g args h K h => by simp [wcall] at h⟩
  | succ f ih =>
    obtain ⟨ihE, ihS, ihC⟩ := ih
    refine ⟨fun c s K h => ?_, fun b c s K h => ?_, fun g args hp K h => ?_⟩
    · cases c with
      | skip => exact ⟨.normal, s, by simp only [aexec], by simpa only [wexec] using h⟩
      | label l => exact ⟨.normal, s, by simp only [aexec], by simpa only [wexec] using h⟩
      | exit id => exact ⟨.exit id, s, by simp only [aexec], by simpa only [wexec] using h⟩
      | goto l => exact ⟨.goto l, s, by simp only [aexec], by simpa only [wexec] using h⟩
      | ret => exact ⟨.ret, s, by simp only [aexec], by simpa only [wexec] using h⟩
      | region id ops draw =>
        simp only [wexec] at h
        obtain ⟨s', h1, h2⟩ := regionW_spec ihC h
        exact ⟨.normal, s', by simp only [aexec, h1], h2⟩
      | seq a b =>
        simp only [wexec] at h
        obtain ⟨x, s1, h1, h2⟩ := ihE _ _ _ h
        cases x with
        | normal =>
          obtain ⟨y, s2, h3, h4⟩ := ihE _ _ _ h2
          exact ⟨y, s2, by simp only [aexec, h1, h3], h4⟩
        | exit id => exact ⟨_, s1, by simp only [aexec, h1], h2⟩
        | goto id => exact ⟨_, s1, by simp only [aexec, h1], h2⟩
        | ret => exact ⟨_, s1, by simp only [aexec, h1], h2⟩
      | cond e a b =>
        simp only [wexec] at h
        split at h
        · rename_i t ht
          rcases splitB_elim h with ⟨rfl, hk⟩ | ⟨rfl, hk⟩
          · rw [learn_eq ht] at hk
            obtain ⟨y, s2, h3, h4⟩ := ihE _ _ _ hk
            exact ⟨y, s2, by simp only [aexec, ht, h3], h4⟩
          · rw [learn_eq ht] at hk
            obtain ⟨y, s2, h3, h4⟩ := ihE _ _ _ hk
            exact ⟨y, s2, by simp only [aexec, ht, h3], h4⟩
        · exact h.elim
      | block id a =>
        simp only [wexec] at h
        obtain ⟨x, s1, h1, h2⟩ := ihE _ _ _ h
        cases x with
        | exit id' =>
          simp only at h2
          split at h2
          · rename_i hb; exact ⟨.normal, s1, by simp only [aexec, h1, hb], h2⟩
          · rename_i hb; exact ⟨.exit id', s1, by simp only [aexec, h1, hb], h2⟩
        | normal => exact ⟨_, s1, by simp only [aexec, h1], h2⟩
        | goto id => exact ⟨_, s1, by simp only [aexec, h1], h2⟩
        | ret => exact ⟨_, s1, by simp only [aexec, h1], h2⟩
      | loop a =>
        simp only [wexec] at h
        obtain ⟨x, s1, h1, h2⟩ := ihE _ _ _ h
        cases x with
        | normal =>
          obtain ⟨y, s2, h3, h4⟩ := ihE _ _ _ h2
          exact ⟨y, s2, by simp only [aexec, h1, h3], h4⟩
        | exit id => exact ⟨_, s1, by simp only [aexec, h1], h2⟩
        | goto id => exact ⟨_, s1, by simp only [aexec, h1], h2⟩
        | ret => exact ⟨_, s1, by simp only [aexec, h1], h2⟩
      | scope a =>
        simp only [wexec] at h
        obtain ⟨x, s1, h1, h2⟩ := ihS _ _ _ _ h
        exact ⟨x, s1, by simp only [aexec, h1], h2⟩
      | _ => simp [wexec] at h
    · simp only [wscope] at h
      obtain ⟨x, s1, h1, h2⟩ := ihE _ _ _ h
      cases x with
      | goto l =>
        simp only at h2
        split at h2
        · rename_i rest hf
          obtain ⟨y, s2, h3, h4⟩ := ihS _ _ _ _ h2
          exact ⟨y, s2, by simp only [ascope, h1, hf, h3], h4⟩
        · rename_i hf; exact ⟨_, s1, by simp only [ascope, h1, hf], h2⟩
      | normal => exact ⟨_, s1, by simp only [ascope, h1], h2⟩
      | exit id => exact ⟨_, s1, by simp only [ascope, h1], h2⟩
      | ret => exact ⟨_, s1, by simp only [ascope, h1], h2⟩
    · simp only [wcall] at h
      split at h
      · rename_i c r hc
        exact ⟨r, by simp only [acall, hX _ _ _ _ _ hc h.1], h.2⟩
      split at h
      · rename_i r hr; exact ⟨r, by simp only [acall, hr], h⟩
      · rename_i hr
        split at h
        · exact h.elim
        · rename_i fn hfn
          split at h
          · exact h.elim
          · rename_i c hc
            obtain ⟨x, s, h1, h2⟩ := ihE _ _ _ h
            cases x with
            | normal =>
              simp only at h2
              split at h2
              · rename_i vs hvs; exact ⟨_, by simp only [acall, hr, hfn, hc, h1, hvs], h2⟩
              · exact h2.elim
            | ret =>
              simp only at h2
              split at h2
              · rename_i vs hvs; exact ⟨_, by simp only [acall, hr, hfn, hc, h1, hvs], h2⟩
              · exact h2.elim
            | exit id => exact h2.elim
            | goto id => exact h2.elim

end Go.Abs

/-! Loops: weakest preconditions over abstract states; states that cover others. -/
namespace Go.Abs
open Go

/-- What a part of a run leaves as it was; blocks below n stay where they lie. -/
structure Fk (n : Nat) (ρ : Ren) (h : AH) (w : World) (ρ' : Ren) (h' : AH) (w' : World) : Prop where
  os : w'.os = w.os
  tape : w'.tape = w.tape
  output : w'.output = w.output
  size : w.heap.size ≤ w'.heap.size
  keep : ∀ c, c < w.heap.size → (∀ b g, ρ b = some g → g.blk = c → (h.get b).rw = false) → w'.heap[c]? = w.heap[c]?
  img : ∀ b g, ρ' b = some g → (h'.get b).rw = true → (∃ b0 g0, ρ b0 = some g0 ∧ (h.get b0).rw = true ∧ g0.blk = g.blk) ∨ w.heap.size ≤ g.blk
  old : ∀ b, b < n → ρ' b = ρ b

theorem Fr.fk {n m : Nat} {ρ ρ' : Ren} {h h' : AH} {w w' : World} (f : Fr m ρ h w ρ' h' w') (hn : n ≤ m) : Fk n ρ h w ρ' h' w' :=
  ⟨f.os, f.tape, f.output, f.size, f.keep, f.img, fun b hb => f.old b (Nat.lt_of_lt_of_le hb hn)⟩

theorem Fk.refl (n : Nat) (ρ : Ren) (h : AH) (w : World) : Fk n ρ h w ρ h w := (Fr.refl n ρ h w).fk (Nat.le_refl _)

theorem Fk.trans {n : Nat} {ρ ρ1 ρ2 : Ren} {h h1 h2 : AH} {w w1 w2 : World} (a : Fk n ρ h w ρ1 h1 w1) (b : Fk n ρ1 h1 w1 ρ2 h2 w2) : Fk n ρ h w ρ2 h2 w2 := by
  refine ⟨b.os.trans a.os, b.tape.trans a.tape, b.output.trans a.output, Nat.le_trans a.size b.size, ?_, ?_, ?_⟩
  · intro c hc hno
    rw [b.keep c (Nat.lt_of_lt_of_le hc a.size) ?_, a.keep c hc hno]
    intro x g hx hg
    cases hr : (h1.get x).rw with
    | false => rfl
    | true =>
      rcases a.img x g hx hr with ⟨b0, g0, h0, hr0, he⟩ | hle
      · have := hno b0 g0 h0 (he.trans hg)
        rw [hr0] at this; cases this
      · omega
  · intro x g hx hr
    rcases b.img x g hx hr with ⟨b0, g0, h0, hr0, he⟩ | hle
    · rcases a.img b0 g0 h0 hr0 with ⟨b1, g1, h1', hr1, he1⟩ | hle1
      · exact .inl ⟨b1, g1, h1', hr1, he1.trans he⟩
      · exact .inr (by omega)
    · exact .inr (Nat.le_trans a.size hle)
  · intro x hx
    rw [b.old x hx, a.old x hx]

/-- From every state that is related to s, the code comes to states of K. -/
def AW (C : Ctx) (n : Nat) (c : Code) (s : St) (K : AExit → St → Prop) : Prop :=
  ∀ (ρ : Ren) (a : Act) (w : World) (Q : Exit → Act → World → Prop), n ≤ s.h.next → WF s.h → Rel C ρ s a w →
    (∀ x s' ρ' a' w', K x s' → n ≤ s'.h.next → WF s'.h → Rel C ρ' s' a' w' → Fk n ρ s.h w ρ' s'.h w' → Q x.exit' a' w') → c.wp C.P Q a w

section
variable {C : Ctx} {n : Nat} {s : St} {K : AExit → St → Prop}

theorem AW.mono {c : Code} {K' : AExit → St → Prop} (h : AW C n c s K) (hk : ∀ x s', K x s' → K' x s') : AW C n c s K' :=
  fun ρ a w Q hn hwf hrel hQ => h ρ a w Q hn hwf hrel fun x s' ρ' a' w' hK => hQ x s' ρ' a' w' (hk x s' hK)

theorem AW.run (hfit : Fit C.P) (horc : CallOK C C.orc) {f : Nat} {c : Code} {x : AExit} {s' : St} (h : aexec C f c s = some (x, s')) (hK : K x s') : AW C n c s K := by
  intro ρ a w Q hn hwf hrel hQ
  obtain ⟨hl, hw⟩ := aexec_ok hfit horc f h
  refine hw ρ a w Q hwf hrel fun ρ' a' w' hrel' hf => hQ x s' ρ' a' w' hK (Nat.le_trans hn ?_) (hl.wf hwf) hrel' (hf.fk hn)
  obtain ⟨l, _, hm⟩ := hl.log
  exact hm.next

theorem AW.exec (hfit : Fit C.P) (horc : CallOK C C.orc) {X : Rdr} (hX : X.ok C) {f : Nat} {c : Code} (h : wexec C X f c s K) : AW C n c s K := by
  obtain ⟨x, s', h1, h2⟩ := (wdet hX f).1 c s K h
  exact AW.run hfit horc h1 h2

theorem AW.seq {c d : Code} (h : AW C n c s fun x s1 => match x with | .normal => AW C n d s1 K | x => K x s1) : AW C n (.seq c d) s K := by
  intro ρ a w Q hn hwf hrel hQ
  refine wp_seq (h ρ a w _ hn hwf hrel fun x s1 ρ1 a1 w1 hK hn1 hwf1 hrel1 hf1 => ?_)
  cases x with
  | normal => exact hK ρ1 a1 w1 Q hn1 hwf1 hrel1 fun y s2 ρ2 a2 w2 hK2 hn2 hwf2 hrel2 hf2 => hQ y s2 ρ2 a2 w2 hK2 hn2 hwf2 hrel2 (hf1.trans hf2)
  | exit id => exact hQ _ s1 ρ1 a1 w1 hK hn1 hwf1 hrel1 hf1
  | goto l => exact hQ _ s1 ρ1 a1 w1 hK hn1 hwf1 hrel1 hf1
  | ret => exact hQ _ s1 ρ1 a1 w1 hK hn1 hwf1 hrel1 hf1

theorem AW.cond {e : Operand} {c d : Code} {b : Bool} (he : glob C.gs s.tmps e = some (.bool b)) (h : splitB b (AW C n c s K) (AW C n d s K)) : AW C n (.cond e c d) s K := by
  intro ρ a w Q hn hwf hrel hQ
  rcases splitB_elim h with ⟨rfl, hk⟩ | ⟨rfl, hk⟩
  · exact wp_cond_true (envR hrel.gl hrel.tmp e _ he) (hk ρ a w Q hn hwf hrel hQ)
  · exact wp_cond_false (envR hrel.gl hrel.tmp e _ he) (hk ρ a w Q hn hwf hrel hQ)

theorem AW.block {id : Nat} {c : Code} (h : AW C n c s fun x s1 => match x with
    | .exit id' => match Nat.beq id' id with
      | true => K .normal s1
      | false => K (.exit id') s1
    | x => K x s1) : AW C n (.block id c) s K := by
  intro ρ a w Q hn hwf hrel hQ
  refine wp_block (h ρ a w _ hn hwf hrel fun x s1 ρ1 a1 w1 hK hn1 hwf1 hrel1 hf1 => ?_)
  cases x with
  | normal => exact hQ .normal s1 ρ1 a1 w1 hK hn1 hwf1 hrel1 hf1
  | exit id' =>
    simp only at hK
    simp only [AExit.exit', Exit.inBlock]
    split at hK
    · rename_i hb
      rw [if_pos (Nat.eq_of_beq_eq_true hb)]
      exact hQ .normal s1 ρ1 a1 w1 hK hn1 hwf1 hrel1 hf1
    · rename_i hb
      rw [if_neg (Nat.ne_of_beq_eq_false hb)]
      exact hQ (.exit id') s1 ρ1 a1 w1 hK hn1 hwf1 hrel1 hf1
  | goto l => exact hQ (.goto l) s1 ρ1 a1 w1 hK hn1 hwf1 hrel1 hf1
  | ret => exact hQ .ret s1 ρ1 a1 w1 hK hn1 hwf1 hrel1 hf1

end

/-! ## States that cover others -/
mutual
def CV (sel : Nat → Option Nat) : AV → AV → Prop
  | .ptr b off, u => ∃ c, sel b = some c ∧ u = .ptr c off
  | .sl b off len cap ex, u => ∃ c, sel b = some c ∧ u = .sl c off len cap ex
  | .mp b, u => ∃ c, sel b = some c ∧ u = .mp c
  | .fn f xs ys, u => ∃ xs' ys', u = .fn f xs' ys' ∧ CVs sel xs xs' ∧ CVs sel ys ys'
  | .agg xs, u => ∃ xs', u = .agg xs' ∧ CVs sel xs xs'
  | .tup xs, u => ∃ xs', u = .tup xs' ∧ CVs sel xs xs'
  | .junk, _ => True
  | .bool b, u => u = .bool b
  | .int k n, u => u = .int k n
  | .nilp, u => u = .nilp
  | .sl0, u => u = .sl0
  | .nilm, u => u = .nilm
  | .nilf, u => u = .nilf
  | .str x, u => u = .str x
def CVs (sel : Nat → Option Nat) : List AV → List AV → Prop
  | [], us => us = []
  | v :: vs, us => ∃ u us', us = u :: us' ∧ CV sel v u ∧ CVs sel vs us'
end

def under (sel : Nat → Option Nat) (ρ : Ren) : Ren := fun b => match sel b with
  | some c => ρ c
  | none => none

theorem under_some {sel : Nat → Option Nat} {ρ : Ren} {b : Nat} {g : Pl} (h : under sel ρ b = some g) : ∃ c, sel b = some c ∧ ρ c = some g := by
  unfold under at h
  split at h
  · rename_i c hc; exact ⟨c, hc, h⟩
  · cases h

theorem under_of {sel : Nat → Option Nat} {ρ : Ren} {b c : Nat} (h : sel b = some c) : under sel ρ b = ρ c := by
  unfold under; rw [h]

mutual
theorem CV.vr {sel : Nat → Option Nat} {ρ : Ren} : ∀ (v u : AV) (x : Value), CV sel v u → VR ρ u x → VR (under sel ρ) v x
  | .ptr b off, u, x, h, hx => by
    obtain ⟨c, hc, rfl⟩ := h
    obtain ⟨g, hg, he⟩ := hx
    exact ⟨g, by rw [under_of hc]; exact hg, he⟩
  | .sl b off len cap ex, u, x, h, hx => by
    obtain ⟨c, hc, rfl⟩ := h
    obtain ⟨g, hg, he⟩ := hx
    exact ⟨g, by rw [under_of hc]; exact hg, he⟩
  | .mp b, u, x, h, hx => by
    obtain ⟨c, hc, rfl⟩ := h
    obtain ⟨g, hg, he⟩ := hx
    exact ⟨g, by rw [under_of hc]; exact hg, he⟩
  | .fn f xs ys, u, x, h, hx => by
    obtain ⟨xs', ys', rfl, h1, h2⟩ := h
    obtain ⟨as, bs, he, h3, h4⟩ := hx
    exact ⟨as, bs, he, CVs.vr _ _ _ h1 h3, CVs.vr _ _ _ h2 h4⟩
  | .agg xs, u, x, h, hx => by
    obtain ⟨xs', rfl, h1⟩ := h
    obtain ⟨as, he, h3⟩ := hx
    exact ⟨as, he, CVs.vr _ _ _ h1 h3⟩
  | .tup xs, u, x, h, hx => by
    obtain ⟨xs', rfl, h1⟩ := h
    obtain ⟨as, he, h3⟩ := hx
    exact ⟨as, he, CVs.vr _ _ _ h1 h3⟩
  | .junk, _, _, _, _ => trivial
  | .bool _, u, x, h, hx => by simp only [CV] at h; subst h; exact hx
  | .int _ _, u, x, h, hx => by simp only [CV] at h; subst h; exact hx
  | .nilp, u, x, h, hx => by simp only [CV] at h; subst h; exact hx
  | .sl0, u, x, h, hx => by simp only [CV] at h; subst h; exact hx
  | .nilm, u, x, h, hx => by simp only [CV] at h; subst h; exact hx
  | .nilf, u, x, h, hx => by simp only [CV] at h; subst h; exact hx
  | .str _, u, x, h, hx => by simp only [CV] at h; subst h; exact hx
theorem CVs.vr {sel : Nat → Option Nat} {ρ : Ren} : ∀ (vs us : List AV) (xs : List Value), CVs sel vs us → VRs ρ us xs → VRs (under sel ρ) vs xs
  | [], us, xs, h, hx => by simp only [CVs] at h; subst h; exact hx
  | v :: vs, us, xs, h, hx => by
    obtain ⟨u, us', rfl, h1, h2⟩ := h
    obtain ⟨x, xs', rfl, h3, h4⟩ := hx
    exact ⟨x, xs', rfl, CV.vr v u x h1 h3, CVs.vr vs us' xs' h2 h4⟩
end

def CMs (sel : Nat → Option Nat) : List (AV × AV) → List (AV × AV) → Prop
  | [], us => us = []
  | p :: ps, us => ∃ q qs, us = q :: qs ∧ CV sel p.1 q.1 ∧ CV sel p.2 q.2 ∧ CMs sel ps qs

def CBk (sel : Nat → Option Nat) : ABlk → ABlk → Prop
  | .dead, _ => True
  | .cells c0, .cells c => c0.n = c.n ∧ c0.elem = c.elem ∧ c0.esz = c.esz ∧ c0.ro = c.ro ∧ ∀ i, i < c0.n → CV sel (c0.sto.get i) (c.sto.get i)
  | .map es0, .map es => CMs sel es0 es
  | _, _ => False

theorem CMs.mr {sel : Nat → Option Nat} {ρ : Ren} : ∀ {ps qs : List (AV × AV)} {es : List MapEntry}, CMs sel ps qs → MR ρ qs es → MR (under sel ρ) ps es
  | [], qs, es, h, hm => by simp only [CMs] at h; subst h; exact hm
  | (a, b) :: ps, qs, es, h, hm => by
    obtain ⟨⟨c, d⟩, qs', rfl, h1, h2, h3⟩ := h
    obtain ⟨e, es', he, h4, h5, h6⟩ := hm
    exact ⟨e, es', he, CV.vr a c _ h1 h4, CV.vr b d _ h2 h5, CMs.mr h3 h6⟩

theorem CBk.br {sel : Nat → Option Nat} {ρ : Ren} {g : Pl} {B0 B : ABlk} {w : World} (h : CBk sel B0 B) (hb : BR ρ g B w) : BR (under sel ρ) g B0 w := by
  cases B0 with
  | dead => trivial
  | cells c0 =>
    cases B with
    | dead => exact h.elim
    | map es => exact h.elim
    | cells c =>
      obtain ⟨h1, h2, h3, h4, h5⟩ := h
      unfold BR at *
      simp only at *
      rw [h4]
      cases hro : c.ro <;> simp only [hro] at *
      · obtain ⟨cur, e1, e2, e3⟩ := hb
        refine ⟨cur, by rw [h2]; exact e1, by rw [h1, h3]; exact e2, fun i hi => ?_⟩
        obtain ⟨v, hv, hr⟩ := e3 i (by omega)
        exact ⟨v, hv, CV.vr _ _ _ (h5 i hi) hr⟩
      · intro i hi
        obtain ⟨v, hv, hr⟩ := hb i (by omega)
        exact ⟨v, hv, CV.vr _ _ _ (h5 i hi) hr⟩
  | map es0 =>
    cases B with
    | dead => exact h.elim
    | cells c => exact h.elim
    | map es =>
      obtain ⟨ces, clock, e1, e2⟩ := hb
      exact ⟨ces, clock, e1, CMs.mr h e2⟩

theorem CBk.rw {sel : Nat → Option Nat} {B0 B : ABlk} (h : CBk sel B0 B) (hr : B.rw = false) : B0.rw = false := by
  cases B0 with
  | dead => rfl
  | cells c0 =>
    cases B with
    | dead => exact h.elim
    | map es => exact h.elim
    | cells c =>
      simp only [ABlk.rw] at *
      rw [h.2.2.2.1]; exact hr
  | map es0 =>
    cases B with
    | dead => exact h.elim
    | cells c => exact h.elim
    | map es => simp [ABlk.rw] at hr

theorem CBk.dead {sel : Nat → Option Nat} {B0 : ABlk} (h : CBk sel B0 .dead) : B0 = .dead := by
  cases B0 with
  | dead => rfl
  | cells c0 => exact h.elim
  | map es0 => exact h.elim

/-- Heap h0 is heap h, seen by sel. -/
structure CovH (n : Nat) (h h0 : AH) (sel : Nat → Option Nat) : Prop where
  same : ∀ b, b < n → sel b = some b
  inj : ∀ b b' c, sel b = some c → sel b' = some c → b = b'
  top : ∀ b, h0.next ≤ b → sel b = none
  blk : ∀ b c, sel b = some c → CBk sel (h0.get b) (h.get c)
  wf : WF h0
  le : n ≤ h0.next

theorem CovH.hr {n : Nat} {h h0 : AH} {sel : Nat → Option Nat} (hc : CovH n h h0 sel) {ρ : Ren} {w : World} (hr : HR ρ h w) : HR (under sel ρ) h0 w := by
  refine ⟨fun b g hb => ?_, fun b b' g g' hb hb' he hne => ?_, fun b hb => ?_, fun b g hb => ?_⟩
  · obtain ⟨c, h1, h2⟩ := under_some hb
    exact (hc.blk b c h1).br (hr.blk c g h2)
  · obtain ⟨c, h1, h2⟩ := under_some hb
    obtain ⟨c', h3, h4⟩ := under_some hb'
    have hne' : c ≠ c' := fun e => hne (hc.inj b b' c h1 (e ▸ h3))
    rcases hr.inj c c' g g' h2 h4 he hne' with h | h | ⟨h, h'⟩
    · refine .inl (CBk.dead (sel := sel) ?_); rw [← h]; exact hc.blk b c h1
    · refine .inr (.inl (CBk.dead (sel := sel) ?_)); rw [← h]; exact hc.blk b' c' h3
    · exact .inr (.inr ⟨(hc.blk b c h1).rw h, (hc.blk b' c' h3).rw h'⟩)
  · unfold under; rw [hc.top b hb]
  · obtain ⟨c, _, h2⟩ := under_some hb
    exact hr.lt c g h2

theorem CovH.fk {n : Nat} {h h0 : AH} {sel : Nat → Option Nat} (hc : CovH n h h0 sel) {ρ ρ' : Ren} {w w' : World} {h' : AH} (f : Fk n (under sel ρ) h0 w ρ' h' w') : Fk n ρ h w ρ' h' w' := by
  refine ⟨f.os, f.tape, f.output, f.size, fun c hlt hno => f.keep c hlt fun b g hb hg => ?_, fun b g hb hr => ?_, fun b hb => ?_⟩
  · obtain ⟨d, h1, h2⟩ := under_some hb
    exact (hc.blk b d h1).rw (hno d g h2 hg)
  · rcases f.img b g hb hr with ⟨b0, g0, h1, h2, h3⟩ | h
    · obtain ⟨d, h4, h5⟩ := under_some h1
      refine .inl ⟨d, g0, h5, ?_, h3⟩
      cases hd : (h.get d).rw with
      | true => rfl
      | false => rw [(hc.blk b0 d h4).rw hd] at h2; cases h2
    · exact .inr h
  · rw [f.old b hb, under_of (hc.same b hb)]

/-- The other way: what is forgotten at the end. -/
theorem CovH.fk' {n : Nat} {h h0 : AH} {sel : Nat → Option Nat} (hc : CovH n h h0 sel) {ρ0 ρ : Ren} {w0 w : World} {hh : AH} (f : Fk n ρ0 hh w0 ρ h w) : Fk n ρ0 hh w0 (under sel ρ) h0 w := by
  refine ⟨f.os, f.tape, f.output, f.size, f.keep, fun b g hb hr => ?_, fun b hb => ?_⟩
  · obtain ⟨d, h1, h2⟩ := under_some hb
    refine f.img d g h2 ?_
    cases hd : (h.get d).rw with
    | true => rfl
    | false => rw [(hc.blk b d h1).rw hd] at hr; cases hr
  · rw [under_of (hc.same b hb), f.old b hb]

structure Cov (C : Ctx) (n : Nat) (s s0 : St) : Prop where
  ex : ∃ sel, CovH n s.h s0.h sel ∧ (∀ g b, C.gs g = some b → sel b = some b) ∧ s0.n = s.n ∧ ∀ i v, s0.tmps.get i = some v → ∃ u, s.tmps.get i = some u ∧ CV sel v u

theorem Cov.rel {C : Ctx} {n : Nat} {s s0 : St} {sel : Nat → Option Nat} (hc : CovH n s.h s0.h sel) (hg : ∀ g b, C.gs g = some b → sel b = some b) (hn : s0.n = s.n)
    (ht : ∀ i v, s0.tmps.get i = some v → ∃ u, s.tmps.get i = some u ∧ CV sel v u) {ρ : Ren} {a : Act} {w : World} (hrel : Rel C ρ s a w) : Rel C (under sel ρ) s0 a w := by
  refine ⟨⟨fun i v hv => ?_, by rw [hn]; exact hrel.tmp.size, hrel.tmp.dfr⟩, hc.hr hrel.hr, fun g b hb => ?_⟩
  · obtain ⟨u, hu, hcv⟩ := ht i v hv
    obtain ⟨x, hx, hr⟩ := hrel.tmp.val i u hu
    exact ⟨x, hx, CV.vr v u x hcv hr⟩
  · rw [under_of (hg g b hb)]; exact hrel.gl g b hb

theorem AW.cov {C : Ctx} {n : Nat} {s s0 : St} {K : AExit → St → Prop} {c : Code} (h : Cov C n s s0) (haw : AW C n c s0 K) : AW C n c s K := by
  obtain ⟨sel, hc, hg, hn, ht⟩ := h.ex
  intro ρ a w Q _ _ hrel hQ
  exact haw (under sel ρ) a w Q hc.le hc.wf (Cov.rel hc hg hn ht hrel) fun x s' ρ' a' w' hK hn' hwf' hrel' hf => hQ x s' ρ' a' w' hK hn' hwf' hrel' (hc.fk hf)

/-- A loop, from states that are known up to what is forgotten. -/
theorem AW.loop {C : Ctx} {n : Nat} {K : AExit → St → Prop} {c : Code} {α : Type} (S : α → St) (I : α → Prop) (μ : α → Nat)
    (round : ∀ p, I p → AW C n c (S p) fun x s' => match x with | .normal => ∃ q, I q ∧ Cov C n s' (S q) ∧ μ q < μ p | x => K x s') : ∀ p, I p → AW C n (.loop c) (S p) K := by
  have key : ∀ m p, μ p = m → I p → ∀ (ρ : Ren) (a : Act) (w : World) (Q : Exit → Act → World → Prop), n ≤ (S p).h.next → WF (S p).h → Rel C ρ (S p) a w →
      (∀ x s' ρ' a' w', K x s' → n ≤ s'.h.next → WF s'.h → Rel C ρ' s' a' w' → Fk n ρ (S p).h w ρ' s'.h w' → Q x.exit' a' w') → LoopWp C.P c Q a w := by
    intro m
    induction m using Nat.strongRecOn with
    | _ m ih =>
      intro p hp hI ρ a w Q hn hwf hrel hQ
      refine .round (round p hI ρ a w _ hn hwf hrel fun x s1 ρ1 a1 w1 hK hn1 hwf1 hrel1 hf1 => ?_)
      cases x with
      | normal =>
        obtain ⟨q, hIq, hcov, hlt⟩ := hK
        obtain ⟨sel, hc, hg, hnn, ht⟩ := hcov.ex
        exact ih (μ q) (by omega) q rfl hIq (under sel ρ1) a1 w1 Q hc.le hc.wf (Cov.rel hc hg hnn ht hrel1) fun y s2 ρ2 a2 w2 hK2 hn2 hwf2 hrel2 hf2 =>
          hQ y s2 ρ2 a2 w2 hK2 hn2 hwf2 hrel2 (hf1.trans (hc.fk hf2))
      | exit id => exact hQ _ s1 ρ1 a1 w1 hK hn1 hwf1 hrel1 hf1
      | goto l => exact hQ _ s1 ρ1 a1 w1 hK hn1 hwf1 hrel1 hf1
      | ret => exact hQ _ s1 ρ1 a1 w1 hK hn1 hwf1 hrel1 hf1
  exact fun p hI ρ a w Q hn hwf hrel hQ => (key _ p rfl hI ρ a w Q hn hwf hrel hQ).loop

end Go.Abs
