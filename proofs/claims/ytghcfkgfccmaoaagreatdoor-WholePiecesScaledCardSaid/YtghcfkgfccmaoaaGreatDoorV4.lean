/-
  Window: all pieces. (Helper theorems; each says its own conditions.)
-/
import Derived.Test.YtghcfkgfccmaoaaGreatDoorV4t
/-! Window: all pieces. -/
namespace Go.Abs
open Go Go.Proofs

theorem tr_get (f : Nat → AV) : (Sto.tr .lf f).get = f := by
  funext i
  simp [Sto.get, Tr.get_lf]

theorem ints_append (l : List Int) (v : Int) : ints l ++ [.int .i64 v] = ints (l ++ [v]) := by simp [ints]

/-- What is read of a list. -/
def rdI (l : List Int) : Nat → Int := fun i => l.getD i 0

theorem get_ints {l : List Int} {i : Nat} (h : i < l.length) : (Sto.fn (listFn (ints l))).get i = .int .i64 (rdI l i) := listFn_ints h

/-- All pieces, the eldest first. -/
def partsL (a : Int) (l : List Int) : List Int := (List.range l.length).map fun (j : Nat) => l.getD ((a + 1 + (j : Int)) % (l.length : Int)).toNat 0

theorem partsL_length (a : Int) (l : List Int) : (partsL a l).length = l.length := by simp [partsL]

/-- The first ones of a row that is made one by one. -/
def firsts (f : Nat → Int) (k : Nat) : List Int := (List.range k).map f
theorem firsts_length (f : Nat → Int) (k : Nat) : (firsts f k).length = k := by simp [firsts]
theorem firsts_succ (f : Nat → Int) (k : Nat) : firsts f (k + 1) = firsts f k ++ [f k] := by simp [firsts, List.range_succ]

theorem f30_body : Tryz.f30.body = some (bodyAt 30) := by kernel_rfl
theorem f30_tmps : 2 + (Tryz.f30.ntmps - 2) = 44 := by kernel_rfl
theorem f30_res : Tryz.f30.results.toList = [.tmp 4] := by kernel_rfl
theorem parts_items : flatC (bodyAt 30) [] = partsPre ++ .block 0 (.loop partsLoop) :: partsPost := by kernel_rfl
theorem parts_post : partsPost.isEmpty = false := by kernel_rfl

/-- A slice that grows from nothing. -/
def outV (b k : Nat) : AV := match k with
  | 0 => .sl0
  | k + 1 => .sl b 0 (k + 1) (k + 1) false

theorem small_le {k : Nat} (h : k ≤ 1000) : small k 8 = true := by
  unfold small
  rw [Bool.and_eq_true, Nat.ble_eq, Nat.ble_eq]
  omega

set_option maxRecDepth 100000 in
theorem parts_small (piece a now : Int) (l : List Int) (n : Nat) (hn : n = l.length) (hn1 : 1 ≤ n) (hn2 : n ≤ 64) (hp : 1 ≤ piece) (ha : 0 ≤ a ∧ a ≤ 1152921504606846976) :
    Small (CI esW1) 30 [.ptr 1 0, .int .i64 now] (hOf [.dead, win piece a n, ring l n]) (.sl 3 0 n n false)
      (hOf [.dead, win piece (tgt piece a now) n, ring (reachL piece a now l) n, ring (partsL (tgt piece a now) (reachL piece a now l)) n]) := by
  have hcl : ∀ (l : List Int) (j : Nat), (listFn (ints l) j).closed = true := fun l j => listFn_closed (closeds_ints l) j
  refine Walk.small (C := CI esW1) (oq := oqI) (n := 3) fit Tryz.func30 f30_body f30_tmps parts_items f30_res rfl rfl rfl ⟨trivial, trivial, plain_lst (closeds_ints _), plain_lst (closeds_ints _), trivial⟩ ?_
  refine Walk.piece (X := XN esW1) (N := 44) (f := 60) (ts := [0, 5, 16, 17]) fit esW1_ok (condI_ok rfl) (gsI esW1 2) ?_
  refine Holds.tree (parts_t0 piece a now l n _ _ _) ?_
  refine ⟨WOk.mk hn ⟨hn1, hn2⟩ hp ha, fun j _ => hcl _ j, ?_⟩
  rw [toI_ints hn]
  obtain ⟨ht1, ht2⟩ := tgt_le (piece := piece) (a := a) (now := now) ha
  have hrl := reachL_length piece a now l
  generalize reachL piece a now l = r at *
  generalize tgt piece a now = T at *
  refine ⟨[.dead, win piece T n, ring r n], likeL_refl _, ?_⟩
  have f0 : ∀ k : Nat, k < n → rdI r (0 + ((IntKind.i64.wrap (IntKind.i64.wrap (T + 1) + (k : Int))).tmod (n : Int)).toNat * 1) = r.getD ((T + 1 + (k : Int)) % (r.length : Int)).toNat 0 := by
    intro k hk
    have e1 : IntKind.i64.wrap (T + 1) = T + 1 := wrap_id (by omega) (by omega)
    rw [e1, wrap_id (by omega) (by omega), Int.tmod_eq_emod_of_nonneg (by omega), hrl, ← hn]
    simp only [rdI, Nat.zero_add, Nat.mul_one]
  -- the rounds
  let g : Nat → Int := fun (j : Nat) => r.getD ((T + 1 + (j : Int)) % (r.length : Int)).toNat 0
  have hfin : firsts g n = partsL T r := by simp only [firsts, partsL, hrl, hn, g]
  refine Walk.loop (f := 60) fit esW1_ok (fun _ : Nat => XI esW1 2 (rdI r)) (fun _ => condI_ok rfl) (gsI esW1 2) (fun k => [.ptr 1 0, outV 3 k, .int .i64 n, .int .i64 k])
    (fun k => match k with
      | 0 => [.dead, win piece T n, ring r n]
      | k + 1 => [.dead, win piece T n, ring r n, ring (firsts g (k + 1)) (k + 1)])
    (fun k => k ≤ n) (fun k => n - k) parts_post ?_ 0 (Nat.zero_le _)
  intro k hk
  have c2 : ieq (n : Int) 0 = false := ieq_ne (by omega)
  have c4 : ∀ k : Nat, k < n → (IntKind.i64.wrap (IntKind.i64.wrap (T + 1) + (k : Int))).tmod (n : Int) = (T + 1 + (k : Int)) % (n : Int) := by
    intro k hk
    have e1 : IntKind.i64.wrap (T + 1) = T + 1 := wrap_id (by omega) (by omega)
    rw [e1, wrap_id (by omega) (by omega), Int.tmod_eq_emod_of_nonneg (by omega)]
  have c5 : ∀ k : Nat, 0 ≤ (T + 1 + (k : Int)) % (n : Int) ∧ (T + 1 + (k : Int)) % (n : Int) < n := fun k => ⟨Int.emod_nonneg _ (by omega), Int.emod_lt_of_pos _ (by omega)⟩
  have c8 : ∀ k : Nat, k < n → IntKind.i64.wrap ((k : Int) + 1) = ((k + 1 : Nat) : Int) := fun k hk => by rw [wrap_id (by omega) (by omega)]; rfl
  cases k with
  | zero =>
    refine Holds.tree (parts_t1 piece T 0 (rdI r) r n _ _ _) ?_
    have c1 : ile (n : Int) 0 = false := by rw [ile_eq]; simp; omega
    have hk0 : 0 < n := by omega
    have f1 : rdI r (0 + ((IntKind.i64.wrap (IntKind.i64.wrap (T + 1) + 0)).tmod (n : Int)).toNat * 1) = r.getD ((T + 1 + 0) % (r.length : Int)).toNat 0 := f0 0 hk0
    have d4 : (IntKind.i64.wrap (IntKind.i64.wrap (T + 1) + 0)).tmod (n : Int) = (T + 1 + 0) % (n : Int) := c4 0 hk0
    have d5 : 0 ≤ (T + 1 + 0) % (n : Int) ∧ (T + 1 + 0) % (n : Int) < n := c5 0
    have d8 : IntKind.i64.wrap (0 + 1) = ((0 + 1 : Nat) : Int) := c8 0 hk0
    have c6 := inB_iff.2 d5
    have c7 : (0 + ((T + 1 + 0) % (n : Int)).toNat * 1).blt n = true := by rw [Nat.blt_eq]; omega
    simp only [c1, c2, d4, c6, c7, d8, Bool.not_false, splitB_t, splitB_f]
    rw [d4] at f1
    refine ⟨get_ints (by rw [hrl]; omega), fun j _ => hcl _ j, fun j _ => ?_, 1, rfl, ?_, by omega, by omega⟩
    · rw [tr_get]; exact listFn_closed rfl j
    · refine likeL_cons (likeB_refl _) (likeL_cons (likeB_refl _) (likeL_cons (likeB_refl _) (likeL_cons ?_ likeL_nil)))
      refine like_fn fun j _ => ?_
      rw [tr_get, f1]
      rfl
  | succ k =>
    refine Holds.tree (parts_t2 piece T ((k + 1 : Nat) : Int) (rdI r) r (firsts g (k + 1)) n (k + 1) _ _ _) ?_
    by_cases hlt : k + 1 < n
    · have c1 : ile (n : Int) ((k + 1 : Nat) : Int) = false := by rw [ile_eq]; simp; omega
      have f1 := f0 (k + 1) hlt
      have d4 := c4 (k + 1) hlt
      have d5 := c5 (k + 1)
      have d8 := c8 (k + 1) hlt
      have c6 := inB_iff.2 d5
      have c7 : (0 + ((T + 1 + ((k + 1 : Nat) : Int)) % (n : Int)).toNat * 1).blt n = true := by rw [Nat.blt_eq]; omega
      have c9 : (k + 1 + 1).ble (k + 1) = false := by
        cases h : (k + 1 + 1).ble (k + 1) with
        | false => rfl
        | true => rw [Nat.ble_eq] at h; omega
      have c10 : small (k + 1 + 1) 8 = true := small_le (by omega)
      have c11 : (0 + (k + 1) * 1).ble (k + 1) = true := by rw [Nat.ble_eq]; omega
      have c12 : (0 + (k + 1) * 1).beq (k + 1) = true := by rw [Nat.zero_add, Nat.mul_one]; exact Nat.beq_refl _
      have c13 : Nat.beq 1 1 = true := rfl
      have c14 : Nat.beq 3 3 = true := rfl
      have c15 : readL (.fn (listFn (ints (firsts g (k + 1))))) 0 ((k + 1) * 1) = ints (firsts g (k + 1)) := by rw [Nat.mul_one]; exact readL_all (by rw [ints_length, firsts_length])
      rw [d4] at f1
      simp only [c1, c2, d4, c6, c7, d8, c9, c10, c11, c12, c13, c14, c15, Bool.not_false, Bool.and_true, Bool.and_self, splitB_t, splitB_f, f1, ints_append, tr_get]
      refine ⟨?_, fun j _ => hcl _ j, fun j _ => hcl _ j, k + 1 + 1, rfl, ?_, by omega, by omega⟩
      · rw [get_ints (by rw [hrl]; omega), f1]
      · refine likeL_cons (likeB_refl _) (likeL_cons (likeB_refl _) (likeL_cons (likeB_refl _) (likeL_cons ?_ likeL_nil)))
        rw [firsts_succ g (k + 1)]
        have e : (ints (firsts g (k + 1) ++ [g (k + 1)])).length = k + 1 + 1 := by rw [ints_length]; simp [firsts_length]
        show likeB (.cells { sto := .fn (listFn (ints (firsts g (k + 1) ++ [g (k + 1)]))), n := (ints (firsts g (k + 1) ++ [g (k + 1)])).length, elem := 3, esz := 1, ro := false }) _
        rw [e]
        exact likeB_refl _
    · have c1 : ile (n : Int) ((k + 1 : Nat) : Int) = true := ile_iff.2 (by omega)
      simp only [c1, Bool.not_true, splitB_f]
      obtain rfl : n = k + 1 := by omega
      refine ⟨fun j _ => hcl _ j, fun j _ => hcl _ j, trivial, [.dead, win piece T (k + 1), ring r (k + 1), ring (firsts g (k + 1)) (k + 1)], likeL_refl _, ?_⟩
      refine Walk.last (X := XN esW1) (f := 60) fit esW1_ok (condI_ok rfl) ?_
      refine Holds.tree (parts_t3 piece T ((k + 1 : Nat) : Int) r (firsts g (k + 1)) (k + 1) (k + 1) _) ?_
      refine ⟨fun j _ => hcl _ j, fun j _ => hcl _ j, rfl, ?_⟩
      rw [hfin]
      exact likeL_refl _

end Go.Abs
