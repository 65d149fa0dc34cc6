/-
  Window: sums; what comes; until when. (Helper theorems; each says its own conditions.)
-/
import Derived.Test.YtghcfkgfccmaoaaGreatDoorV6t
/-! Window: sums; what comes; until when. -/
namespace Go.Abs
open Go Go.Proofs

theorem sum_body : Tryz.f28.body = some (bodyAt 28) := by kernel_rfl
theorem sum_tmps : 2 + (Tryz.f28.ntmps - 2) = 21 := by kernel_rfl
theorem sum_res : Tryz.f28.results.toList = [.tmp 4] := by kernel_rfl
theorem sum_items : flatC (bodyAt 28) [] = sumPre ++ .block 0 (.loop sumLoop) :: sumPost := by kernel_rfl
theorem sum_post : sumPost.isEmpty = false := by kernel_rfl
def sumL (l : List Int) : Int := l.foldl (fun s x => IntKind.i64.wrap (s + x)) 0

set_option maxRecDepth 100000 in
theorem sum_small (piece a now : Int) (l : List Int) (n : Nat) (hn : n = l.length) (hn1 : 1 ≤ n) (hn2 : n ≤ 64) (hp : 1 ≤ piece) (ha : 0 ≤ a ∧ a ≤ 1152921504606846976) :
    Small (CI esW2) 28 [.ptr 1 0, .int .i64 now] (hOf [.dead, win piece a n, ring l n]) (.int .i64 (sumL (partsL (tgt piece a now) (reachL piece a now l))))
      (hOf [.dead, win piece (tgt piece a now) n, ring (reachL piece a now l) n]) := by
  have hcl : ∀ (l : List Int) (j : Nat), (listFn (ints l) j).closed = true := fun l j => listFn_closed (closeds_ints l) j
  refine Walk.small (C := CI esW2) (oq := oqI) (n := 3) fit Tryz.func28 sum_body sum_tmps sum_items sum_res rfl rfl rfl ⟨trivial, trivial, plain_lst (closeds_ints _), trivial⟩ ?_
  refine Walk.piece (X := XN esW2) (N := 21) (f := 60) (ts := [5, 10, 11, 12]) fit esW2_ok (condI_ok rfl) (gsI esW2 2) ?_
  refine Holds.tree (sum_t0 piece a now l n _ _ _) ?_
  refine ⟨WOk.mk hn ⟨hn1, hn2⟩ hp ha, fun j _ => hcl _ j, fun j _ => hcl _ j, ?_⟩
  rw [toI_ints hn]
  have hpl : (partsL (tgt piece a now) (reachL piece a now l)).length = n := by rw [partsL_length, reachL_length, hn]
  generalize partsL (tgt piece a now) (reachL piece a now l) = out at *
  generalize reachL piece a now l = r at *
  generalize tgt piece a now = T at *
  refine ⟨[.dead, win piece T n, ring r n, ring out n], likeL_refl _, ?_⟩
  refine Walk.loop (f := 60) fit esW2_ok (fun _ : Nat => XI esW2 3 (rdI out)) (fun _ => condI_ok rfl) (gsI esW2 2) (fun k => [.int .i64 ((out.take k).foldl (fun s x => IntKind.i64.wrap (s + x)) 0), .sl 3 0 n n false, .int .i64 n, .int .i64 k])
    (fun _ => [.dead, win piece T n, ring r n, ring out n]) (fun k => k ≤ n) (fun k => n - k) sum_post ?_ 0 (Nat.zero_le _)
  intro k hk
  refine Holds.tree (sum_t1 piece T _ (k : Int) (rdI out) r out n _ _ _) ?_
  by_cases hlt : k < n
  · have c1 : ile (n : Int) (k : Int) = false := by rw [ile_eq]; simp; omega
    have c2 : inB (k : Int) n = true := inB_iff.2 ⟨by omega, by omega⟩
    have c3 : k.blt n = true := by rw [Nat.blt_eq]; omega
    have c4 : 0 + (k : Int).toNat * 1 = k := by omega
    have c8 : IntKind.i64.wrap ((k : Int) + 1) = ((k + 1 : Nat) : Int) := by rw [wrap_id (by omega) (by omega)]; rfl
    simp only [c1, c2, c3, Bool.not_false, splitB_t, c4, c8]
    refine ⟨get_ints (by omega), fun j _ => hcl _ j, fun j _ => hcl _ j, k + 1, ?_, likeL_refl _, by omega, by omega⟩
    have ht : out.take (k + 1) = out.take k ++ [out[k]'(by omega)] := by rw [List.take_succ_eq_append_getElem (by omega)]
    have hr : rdI out k = out[k]'(by omega) := by simp [rdI, List.getD_eq_getElem?_getD, List.getElem?_eq_getElem (show k < out.length by omega)]
    rw [ht, List.foldl_append, hr]
    rfl
  · have c1 : ile (n : Int) (k : Int) = true := ile_iff.2 (by omega)
    simp only [c1, Bool.not_true, splitB_f]
    refine ⟨fun j _ => hcl _ j, fun j _ => hcl _ j, trivial, [.dead, win piece T n, ring r n, ring out n], likeL_refl _, ?_⟩
    refine Walk.last (X := XN esW2) (f := 60) fit esW2_ok (condI_ok rfl) ?_
    refine Holds.tree (sum_t2 piece T _ (k : Int) r out n _) ?_
    have : out.take k = out := List.take_of_length_le (by omega)
    rw [this]
    exact ⟨fun j _ => hcl _ j, rfl, likeL_refl _⟩

theorem gre_body : Tryz.f29.body = some (bodyAt 29) := by kernel_rfl
theorem gre_tmps : 2 + (Tryz.f29.ntmps - 2) = 21 := by kernel_rfl
theorem gre_res : Tryz.f29.results.toList = [.tmp 4] := by kernel_rfl
theorem gre_items : flatC (bodyAt 29) [] = grePre ++ .block 0 (.loop greLoop) :: grePost := by kernel_rfl
theorem gre_post : grePost.isEmpty = false := by kernel_rfl
def greL (l : List Int) : Int := l.foldl imax 0

set_option maxRecDepth 100000 in
theorem gre_small (piece a now : Int) (l : List Int) (n : Nat) (hn : n = l.length) (hn1 : 1 ≤ n) (hn2 : n ≤ 64) (hp : 1 ≤ piece) (ha : 0 ≤ a ∧ a ≤ 1152921504606846976) :
    Small (CI esW2) 29 [.ptr 1 0, .int .i64 now] (hOf [.dead, win piece a n, ring l n]) (.int .i64 (greL (partsL (tgt piece a now) (reachL piece a now l))))
      (hOf [.dead, win piece (tgt piece a now) n, ring (reachL piece a now l) n]) := by
  have hcl : ∀ (l : List Int) (j : Nat), (listFn (ints l) j).closed = true := fun l j => listFn_closed (closeds_ints l) j
  refine Walk.small (C := CI esW2) (oq := oqI) (n := 3) fit Tryz.func29 gre_body gre_tmps gre_items gre_res rfl rfl rfl ⟨trivial, trivial, plain_lst (closeds_ints _), trivial⟩ ?_
  refine Walk.piece (X := XN esW2) (N := 21) (f := 60) (ts := [5, 10, 11, 12]) fit esW2_ok (condI_ok rfl) (gsI esW2 2) ?_
  refine Holds.tree (gre_t0 piece a now l n _ _ _) ?_
  refine ⟨WOk.mk hn ⟨hn1, hn2⟩ hp ha, fun j _ => hcl _ j, fun j _ => hcl _ j, ?_⟩
  rw [toI_ints hn]
  have hpl : (partsL (tgt piece a now) (reachL piece a now l)).length = n := by rw [partsL_length, reachL_length, hn]
  generalize partsL (tgt piece a now) (reachL piece a now l) = out at *
  generalize reachL piece a now l = r at *
  generalize tgt piece a now = T at *
  refine ⟨[.dead, win piece T n, ring r n, ring out n], likeL_refl _, ?_⟩
  refine Walk.loop (f := 60) fit esW2_ok (fun _ : Nat => XI esW2 3 (rdI out)) (fun _ => condI_ok rfl) (gsI esW2 2) (fun k => [.int .i64 ((out.take k).foldl imax 0), .sl 3 0 n n false, .int .i64 n, .int .i64 k])
    (fun _ => [.dead, win piece T n, ring r n, ring out n]) (fun k => k ≤ n) (fun k => n - k) gre_post ?_ 0 (Nat.zero_le _)
  intro k hk
  refine Holds.tree (gre_t1 piece T _ (k : Int) (rdI out) r out n _ _ _) ?_
  by_cases hlt : k < n
  · have c1 : ile (n : Int) (k : Int) = false := by rw [ile_eq]; simp; omega
    have c2 : inB (k : Int) n = true := inB_iff.2 ⟨by omega, by omega⟩
    have c3 : k.blt n = true := by rw [Nat.blt_eq]; omega
    have c4 : 0 + (k : Int).toNat * 1 = k := by omega
    have c8 : IntKind.i64.wrap ((k : Int) + 1) = ((k + 1 : Nat) : Int) := by rw [wrap_id (by omega) (by omega)]; rfl
    simp only [c1, c2, c3, Bool.not_false, splitB_t, c4, c8]
    refine ⟨get_ints (by omega), fun j _ => hcl _ j, fun j _ => hcl _ j, k + 1, ?_, likeL_refl _, by omega, by omega⟩
    have ht : out.take (k + 1) = out.take k ++ [out[k]'(by omega)] := by rw [List.take_succ_eq_append_getElem (by omega)]
    have hr : rdI out k = out[k]'(by omega) := by simp [rdI, List.getD_eq_getElem?_getD, List.getElem?_eq_getElem (show k < out.length by omega)]
    rw [ht, List.foldl_append, hr]
    rfl
  · have c1 : ile (n : Int) (k : Int) = true := ile_iff.2 (by omega)
    simp only [c1, Bool.not_true, splitB_f]
    refine ⟨fun j _ => hcl _ j, fun j _ => hcl _ j, trivial, [.dead, win piece T n, ring r n, ring out n], likeL_refl _, ?_⟩
    refine Walk.last (X := XN esW2) (f := 60) fit esW2_ok (condI_ok rfl) ?_
    refine Holds.tree (gre_t2 piece T _ (k : Int) r out n _) ?_
    have : out.take k = out := List.take_of_length_le (by omega)
    rw [this]
    exact ⟨fun j _ => hcl _ j, rfl, likeL_refl _⟩

/-- What comes is added to the piece that goes on. -/
def addL (a m : Int) (l : List Int) : List Int := l.set (a % (l.length : Int)).toNat (IntKind.i64.wrap (l.getD (a % (l.length : Int)).toNat 0 + come m))
theorem addL_length (a m : Int) (l : List Int) : (addL a m l).length = l.length := by simp [addL]

set_option maxRecDepth 100000 in
theorem add_small (piece a now m : Int) (l : List Int) (n : Nat) (hn : n = l.length) (hn1 : 1 ≤ n) (hn2 : n ≤ 64) (hp : 1 ≤ piece) (ha : 0 ≤ a ∧ a ≤ 1152921504606846976) :
    Small (CI esW1) 26 [.ptr 1 0, .int .i64 now, .int .i64 m] (hOf [.dead, win piece a n, ring l n]) (.tup [])
      (hOf [.dead, win piece (tgt piece a now) n, ring (addL (tgt piece a now) m (reachL piece a now l)) n]) := by
  have hcl : ∀ (l : List Int) (j : Nat), (listFn (ints l) j).closed = true := fun l j => listFn_closed (closeds_ints l) j
  refine Small.of_run (C := CI esW1) (oq := oqI) (n := 3) (X := XI esW1 2 (rdI (reachL piece a now l))) (f := 60) fit esW1_ok (condI_ok rfl) rfl rfl rfl ⟨trivial, trivial, plain_lst (closeds_ints _), trivial⟩ ?_
  refine Holds.tree (add_t piece a now m (rdI (reachL piece a now l)) l n _) ?_
  rw [toI_ints hn]
  obtain ⟨ht1, ht2⟩ := tgt_le (piece := piece) (a := a) (now := now) ha
  have hrl := reachL_length piece a now l
  generalize reachL piece a now l = r at *
  generalize tgt piece a now = T at *
  have c2 : ieq (n : Int) 0 = false := ieq_ne (by omega)
  have c4 : T.tmod (n : Int) = T % (n : Int) := Int.tmod_eq_emod_of_nonneg (by omega)
  have c5 : 0 ≤ T % (n : Int) ∧ T % (n : Int) < n := ⟨Int.emod_nonneg _ (by omega), Int.emod_lt_of_pos _ (by omega)⟩
  have c6 : inB (T % (n : Int)) n = true := inB_iff.2 c5
  have c7 : (T % (n : Int)).toNat.blt n = true := by rw [Nat.blt_eq]; omega
  have c8 : ((T % (n : Int)).toNat + 1).ble n = true := by rw [Nat.ble_eq]; omega
  have c9 : 0 + (T % (n : Int)).toNat * 1 = (T % (n : Int)).toNat := by omega
  simp only [c2, c4, c6, c7, c8, splitB_t, splitB_f, true_and, c9]
  have hset : (fun j => bif Nat.beq j (T % (n : Int)).toNat then AV.int IntKind.i64 (IntKind.i64.wrap (rdI r (T % (n : Int)).toNat + come m)) else listFn (ints r) j) = listFn (ints (addL T m r)) := by
    rw [listFn_set (by rw [ints_length]; omega), ints_set]
    simp only [addL, rdI, hrl, hn]
  refine ⟨WOk.mk hn ⟨hn1, hn2⟩ hp ha, get_ints (by omega), fun j _ => ?_, ?_⟩
  · exact (congrFun hset j) ▸ hcl _ j
  · refine likeL_cons (likeB_refl _) (likeL_cons (likeB_refl _) (likeL_cons ?_ likeL_nil))
    exact like_fn fun j _ => congrFun hset j

set_option maxRecDepth 100000 in
theorem full_small (piece a now : Int) (l : List Int) (n : Nat) (hn : n = l.length) (hn1 : 1 ≤ n) (hn2 : n ≤ 64) (hp : 1 ≤ piece) (ha : 0 ≤ a ∧ a ≤ 1152921504606846976) :
    Small (CI esW1) 31 [.ptr 1 0, .int .i64 now] (hOf [.dead, win piece a n, ring l n]) (.int .i64 (IntKind.i64.wrap (IntKind.i64.wrap (tgt piece a now + 1) * piece)))
      (hOf [.dead, win piece (tgt piece a now) n, ring (reachL piece a now l) n]) := by
  have hcl : ∀ (l : List Int) (j : Nat), (listFn (ints l) j).closed = true := fun l j => listFn_closed (closeds_ints l) j
  refine Small.of_run (C := CI esW1) (oq := oqI) (n := 3) (X := XN esW1) (f := 60) fit esW1_ok (condI_ok rfl) rfl rfl rfl ⟨trivial, trivial, plain_lst (closeds_ints _), trivial⟩ ?_
  refine Holds.tree (full_t piece a now l n _) ?_
  rw [toI_ints hn]
  exact ⟨WOk.mk hn ⟨hn1, hn2⟩ hp ha, fun j _ => hcl _ j, rfl, likeL_refl _⟩

end Go.Abs
