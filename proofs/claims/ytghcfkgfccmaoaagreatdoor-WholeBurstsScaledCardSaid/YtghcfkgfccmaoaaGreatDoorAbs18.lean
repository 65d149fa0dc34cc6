/-
  Closed calls: what is run once stands in every heap that holds the table. (Helper theorems; each says its own conditions.)
-/
import Derived.Test.YtghcfkgfccmaoaaGreatDoorAbs17

/-! Closed calls: what is run once stands in every heap that holds the table. -/
namespace Go.Abs
open Go

mutual
def AV.closed : AV → Bool
  | .ptr _ _ | .sl .. | .mp _ => false
  | .fn _ a b => AV.closeds a && AV.closeds b
  | .agg l | .tup l => AV.closeds l
  | _ => true
def AV.closeds : List AV → Bool
  | [] => true
  | v :: vs => AV.closed v && AV.closeds vs
end

mutual
theorem VR.anywhere {ρ ρ' : Ren} : ∀ (a : AV) (v : Value), a.closed = true → VR ρ a v → VR ρ' a v
  | .bool _, _, _, h => h
  | .int _ _, _, _, h => h
  | .nilp, _, _, h => h
  | .ptr _ _, _, hc, _ => by simp [AV.closed] at hc
  | .sl0, _, _, h => h
  | .sl .., _, hc, _ => by simp [AV.closed] at hc
  | .nilm, _, _, h => h
  | .mp _, _, hc, _ => by simp [AV.closed] at hc
  | .nilf, _, _, h => h
  | .fn _ _ _, _, hc, h => by
    simp only [AV.closed, Bool.and_eq_true] at hc
    simp only [VR] at h ⊢
    obtain ⟨as, bs, he, h1, h2⟩ := h
    exact ⟨as, bs, he, VRs.anywhere _ _ hc.1 h1, VRs.anywhere _ _ hc.2 h2⟩
  | .str _, _, _, h => h
  | .agg _, _, hc, h => by
    simp only [AV.closed] at hc
    simp only [VR] at h ⊢
    obtain ⟨as, he, h1⟩ := h
    exact ⟨as, he, VRs.anywhere _ _ hc h1⟩
  | .tup _, _, hc, h => by
    simp only [AV.closed] at hc
    simp only [VR] at h ⊢
    obtain ⟨as, he, h1⟩ := h
    exact ⟨as, he, VRs.anywhere _ _ hc h1⟩
  | .junk, _, _, h => h
theorem VRs.anywhere {ρ ρ' : Ren} : ∀ (as : List AV) (vs : List Value), AV.closeds as = true → VRs ρ as vs → VRs ρ' as vs
  | [], _, _, h => h
  | a :: as, _, hc, h => by
    simp only [AV.closeds, Bool.and_eq_true] at hc
    obtain ⟨v, vs, he, h1, h2⟩ := h
    exact ⟨v, vs, he, VR.anywhere a v hc.1 h1, VRs.anywhere as vs hc.2 h2⟩
end

mutual
def eqAV : AV → AV → Bool
  | .bool a, .bool b => a == b
  | .int k m, .int l n => decide (k = l) && ieq m n
  | .agg l, .agg m | .tup l, .tup m => eqAVs l m
  | _, _ => false
def eqAVs : List AV → List AV → Bool
  | [], [] => true
  | a :: as, b :: bs => eqAV a b && eqAVs as bs
  | _, _ => false
end

theorem ieq_iff {m n : Int} (h : ieq m n = true) : m = n := by
  rw [ieq_eq] at h; exact eq_of_beq h

mutual
theorem eqAV_eq : ∀ (a b : AV), eqAV a b = true → a = b
  | .bool a, .bool b, h => by simp [eqAV] at h; rw [h]
  | .int k m, .int l n, h => by simp only [eqAV, Bool.and_eq_true, decide_eq_true_eq] at h; rw [h.1, ieq_iff h.2]
  | .agg l, .agg m, h => by simp only [eqAV] at h; rw [eqAVs_eq l m h]
  | .tup l, .tup m, h => by simp only [eqAV] at h; rw [eqAVs_eq l m h]
  | .nilp, b, h | .ptr _ _, b, h | .sl0, b, h | .sl .., b, h | .nilm, b, h | .mp _, b, h | .nilf, b, h | .fn .., b, h | .str _, b, h | .junk, b, h => by cases b <;> simp [eqAV] at h
  | .bool _, .int .., h | .bool _, .nilp, h | .bool _, .ptr .., h | .bool _, .sl0, h | .bool _, .sl .., h | .bool _, .nilm, h | .bool _, .mp _, h | .bool _, .nilf, h | .bool _, .fn .., h | .bool _, .str _, h | .bool _, .agg _, h | .bool _, .tup _, h | .bool _, .junk, h => by simp [eqAV] at h
  | .int .., .bool _, h | .int .., .nilp, h | .int .., .ptr .., h | .int .., .sl0, h | .int .., .sl .., h | .int .., .nilm, h | .int .., .mp _, h | .int .., .nilf, h | .int .., .fn .., h | .int .., .str _, h | .int .., .agg _, h | .int .., .tup _, h | .int .., .junk, h => by simp [eqAV] at h
  | .agg _, .bool _, h | .agg _, .int .., h | .agg _, .nilp, h | .agg _, .ptr .., h | .agg _, .sl0, h | .agg _, .sl .., h | .agg _, .nilm, h | .agg _, .mp _, h | .agg _, .nilf, h | .agg _, .fn .., h | .agg _, .str _, h | .agg _, .tup _, h | .agg _, .junk, h => by simp [eqAV] at h
  | .tup _, .bool _, h | .tup _, .int .., h | .tup _, .nilp, h | .tup _, .ptr .., h | .tup _, .sl0, h | .tup _, .sl .., h | .tup _, .nilm, h | .tup _, .mp _, h | .tup _, .nilf, h | .tup _, .fn .., h | .tup _, .str _, h | .tup _, .agg _, h | .tup _, .junk, h => by simp [eqAV] at h
theorem eqAVs_eq : ∀ (as bs : List AV), eqAVs as bs = true → as = bs
  | [], [], _ => rfl
  | a :: as, b :: bs, h => by
    simp only [eqAVs, Bool.and_eq_true] at h
    rw [eqAV_eq a b h.1, eqAVs_eq as bs h.2]
  | [], _ :: _, h => by simp [eqAVs] at h
  | _ :: _, [], h => by simp [eqAVs] at h
end

/-! ## The table -/
def tabL : List Nat := [0, 1, 28, 2, 29, 14, 24, 3, 30, 22, 20, 15, 25, 17, 4, 8, 31, 27, 13, 23, 21, 19, 16, 7, 26, 12, 18, 6, 11, 5, 10, 9]
def tabV : List AV := tabL.map fun (n : Nat) => .int .u8 (n : Int)
def tabB : ABlk := .cells { sto := .fn (listFn tabV), n := 32, elem := 0, esz := 32, ro := true }
def tabH : AH := AH.push ⟨.lf, 0⟩ tabB

def tabChk (s : Sto) : Nat → List AV → Bool
  | _, [] => true
  | i, v :: vs => eqAV (s.get i) v && tabChk s (i + 1) vs

def tabIs (h : AH) : Bool := match h.get 0 with
  | .cells c => c.ro && Nat.ble 32 c.n && tabChk c.sto 0 tabV
  | _ => false

theorem tabChk_spec {s : Sto} : ∀ {vs : List AV} {i : Nat}, tabChk s i vs = true → ∀ j v, vs[j]? = some v → s.get (i + j) = v
  | [], _, _, j, v, h => by simp at h
  | x :: xs, i, h, j, v, hj => by
    simp only [tabChk, Bool.and_eq_true] at h
    cases j with
    | zero => simp only [List.getElem?_cons_zero, Option.some.injEq] at hj; subst hj; exact eqAV_eq _ _ h.1
    | succ j =>
      have := tabChk_spec h.2 j v (by simpa using hj)
      rw [← this]; congr 1; omega

def only0 (G : Nat) : Ren := fun b => match b with
  | 0 => some ⟨G, 0, 0⟩
  | _ => none

def gsOf (G : Nat) : Nat → Option Nat := fun g => match Nat.beq g G with
  | true => some 0
  | false => none

theorem gsOf_eq {G g b : Nat} (h : gsOf G g = some b) : g = G ∧ b = 0 := by
  unfold gsOf at h
  split at h
  · rename_i hb
    injection h with h
    exact ⟨Nat.eq_of_beq_eq_true hb, h.symm⟩
  · cases h

theorem gsOf_self (G : Nat) : gsOf G G = some 0 := by simp [gsOf]

theorem glob_only0 (G : Nat) : GlobR (gsOf G) (only0 G) := fun g b h => by
  obtain ⟨rfl, rfl⟩ := gsOf_eq h; rfl

theorem tabH_get (b : Nat) : tabH.get b = if b = 0 then tabB else .dead := by
  unfold tabH
  rw [AH.get_push]
  by_cases h : b = 0
  · rw [if_pos h, if_pos h]
  · rw [if_neg h, if_neg h]; rfl

theorem tabH_wf : WF tabH := fun b hb => by
  rw [tabH_get, if_neg]
  have : tabH.next = 1 := rfl
  omega

theorem tab_of_world {G : Nat} {w : World} (hlt : G < w.heap.size) (hc : ∀ (i n : Nat), tabL[i]? = some n → w.cell? ⟨G, i, none⟩ = some (.int .u8 n)) : HR (only0 G) tabH w := by
  have h0 : ∀ b g, only0 G b = some g → b = 0 ∧ g = ⟨G, 0, 0⟩ := fun b g h => by
    cases b with
    | zero => exact ⟨rfl, by simpa [only0] using h.symm⟩
    | succ b => simp [only0] at h
  refine ⟨fun b g hb => ?_, fun b b' g g' hb hb' _ hne => ?_, fun b hb => ?_, fun b g hb => ?_⟩
  · obtain ⟨rfl, rfl⟩ := h0 b g hb
    rw [tabH_get, if_pos rfl]
    unfold BR tabB
    simp only
    intro i hi
    obtain ⟨n, hn⟩ : ∃ n, tabL[i]? = some n := ⟨tabL[i]'(by simpa [tabL] using hi), List.getElem?_eq_getElem _⟩
    refine ⟨.int .u8 n, by simpa using hc i n hn, ?_⟩
    have : listFn tabV i = .int .u8 n := listFn_get _ _ _ (by simp [tabV, hn])
    simp only [Sto.get, this]; rfl
  · exact absurd ((h0 b g hb).1.trans (h0 b' g' hb').1.symm) hne
  · cases b with
    | zero => exact absurd hb (by decide)
    | succ b => rfl
  · obtain ⟨rfl, rfl⟩ := h0 b g hb
    exact hlt

theorem tab_of_heap {G : Nat} {ρ : Ren} {h : AH} {w : World} (hr : HR ρ h w) (hg : GlobR (gsOf G) ρ) (ht : tabIs h = true) : HR (only0 G) tabH w := by
  have h0 := hg G 0 (gsOf_self G)
  have hb := hr.blk 0 _ h0
  unfold tabIs at ht
  split at ht
  · rename_i c hc
    simp only [Bool.and_eq_true] at ht
    obtain ⟨⟨h1, h2⟩, h3⟩ := ht
    rw [hc] at hb
    unfold BR at hb
    simp only [h1] at hb
    refine tab_of_world (hr.lt 0 _ h0) fun i n hn => ?_
    have hi : i < c.n := by
      have := (List.getElem?_eq_some_iff.1 hn).1
      simp [tabL] at this
      have := Nat.le_of_ble_eq_true h2
      omega
    obtain ⟨v, hv, hvr⟩ := hb i hi
    have := tabChk_spec h3 i (.int .u8 n) (by simp [tabV, hn])
    simp only [Nat.zero_add] at this hv
    rw [this] at hvr
    simp only [VR] at hvr
    rw [hv, hvr]
  · cases ht

/-! ## Closed calls -/
/-- The call comes to v, wherever the table lies; and leaves all that was. -/
structure Known (P : Program) (G : Nat) (g : Nat) (args : List AV) (v : AV) : Prop where
  enter : ∀ (xs : Array Value) (w : World), (callFunc g xs).run P w = .ok (.enter g xs) w
  closed : v.closed = true
  calls : ∀ (w : World) (vs : List Value) (ρ : Ren), HR (only0 G) tabH w → VRs ρ args vs → Calls P g vs.toArray w fun e w' => ∃ u, e = .returned u ∧ VR ρ v u ∧
    w'.os = w.os ∧ w'.tape = w.tape ∧ w'.output = w.output ∧ w.heap.size ≤ w'.heap.size ∧ ∀ c, c < w.heap.size → w'.heap[c]? = w.heap[c]?

abbrev Tab := List (Nat × List AV × AV)

def findO (g : Nat) (args : List AV) : Tab → Option AV
  | [] => none
  | (g', args', v) :: t => match Nat.beq g g' && eqAVs args args' with
    | true => some v
    | false => findO g args t

def orcOf (T : Tab) : CallF := fun g args h => match findO g args T with
  | some v => match tabIs h with
    | true => some ⟨v, h, []⟩
    | false => none
  | none => none

def ctx (P : Program) (G : Nat) (T : Tab) : Ctx := ⟨P, gsOf G, orcOf T⟩

theorem findO_mem {g : Nat} {args : List AV} {v : AV} : ∀ {T : Tab}, findO g args T = some v → (g, args, v) ∈ T
  | [], h => by simp [findO] at h
  | (g', args', v') :: t, h => by
    simp only [findO] at h
    split at h
    · rename_i hb
      simp only [Bool.and_eq_true] at hb
      injection h with h; subst h
      rw [Nat.eq_of_beq_eq_true hb.1, eqAVs_eq _ _ hb.2]
      exact List.mem_cons_self
    · exact List.mem_cons_of_mem _ (findO_mem h)

theorem HR.kept {ρ : Ren} {h : AH} {w w' : World} (hr : HR ρ h w) (hs : w.heap.size ≤ w'.heap.size) (hk : ∀ c, c < w.heap.size → w'.heap[c]? = w.heap[c]?) : HR ρ h w' :=
  ⟨fun b g hb => (hr.blk b g hb).same (hk _ (hr.lt b g hb)), hr.inj, hr.fresh, fun b g hb => Nat.lt_of_lt_of_le (hr.lt b g hb) hs⟩

theorem orcOf_ok {P : Program} {G : Nat} {T : Tab} (hT : ∀ x ∈ T, Known P G x.1 x.2.1 x.2.2) : CallOK (ctx P G T) (orcOf T) := by
  intro g args h r hr
  unfold orcOf at hr
  split at hr
  · rename_i v hv
    split at hr
    · rename_i ht
      injection hr with hr; subst hr
      have hk := hT _ (findO_mem hv)
      refine ⟨hk.enter, .refl _ _, fun ρ w vs _ hg hh hvs => ?_⟩
      refine (hk.calls w vs ρ (tab_of_heap hh hg ht) hvs).mono fun e w' hew => ?_
      obtain ⟨u, he, hu, h1, h2, h3, h4, h5⟩ := hew
      exact ⟨u, ρ, he, hu, hh.kept h4 h5, h1, h2, h3, h4, fun c hc _ => h5 c hc, fun b g hb hrw => .inl ⟨b, g, hb, hrw, rfl⟩, fun _ _ => rfl, Nat.le_refl _, Ext.refl _⟩
    · cases hr
  · cases hr

def isV (r : Option R) (v : AV) : Bool := match r with
  | some r => eqAV r.v v
  | none => false

theorem Known.run {P : Program} {G : Nat} {T : Tab} (hfit : Fit P) (hT : ∀ x ∈ T, Known P G x.1 x.2.1 x.2.2) {fuel g : Nat} {args : List AV} {v : AV}
    (h : isV (acall (ctx P G T) fuel g args tabH) v = true) (ha : AV.closeds args = true) (hv : v.closed = true) : Known P G g args v := by
  unfold isV at h
  split at h
  · rename_i r hr
    have := eqAV_eq _ _ h
    subst this
    obtain ⟨h1, _, h2⟩ := acall_ok (C := ctx P G T) hfit (orcOf_ok hT) fuel g args tabH r hr
    refine ⟨h1, hv, fun w vs ρ hh hvs => ?_⟩
    refine (h2 (only0 G) w vs tabH_wf (glob_only0 G) hh (VRs.anywhere _ _ ha hvs)).mono fun e w' hew => ?_
    obtain ⟨u, ρ', he, hu, _, hf⟩ := hew
    refine ⟨u, he, VR.anywhere _ _ hv hu, hf.os, hf.tape, hf.output, hf.size, fun c hc => hf.keep c hc fun b g hb _ => ?_⟩
    cases b with
    | zero => rw [tabH_get, if_pos rfl]; rfl
    | succ b => simp [only0] at hb
  · cases h

end Go.Abs
