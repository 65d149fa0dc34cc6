/-
  Window: what may come; a new one; rows that are alike. (Helper theorems; each says its own conditions.)
-/
import Derived.Test.YtghcfkgfccmaoaaGreatDoorV8t
/-! Window: what may come; a new one; rows that are alike. -/
namespace Go.Abs
open Go Go.Proofs

theorem tgt_tgt (piece a now : Int) : tgt piece (tgt piece a now) now = tgt piece a now := by unfold tgt; omega
theorem reachL_tgt (piece a now : Int) (l : List Int) : reachL piece (tgt piece a now) now l = l := by
  unfold reachL
  rw [tgt_tgt]
  have : (min (tgt piece a now - tgt piece a now) (l.length : Int)).toNat = 0 := by omega
  rw [this]; rfl

def allows (piece a now x most : Int) (l : List Int) : Bool := ile (IntKind.i64.wrap (sumL (partsL (tgt piece a now) (reachL piece a now l)) + come x)) most

set_option maxRecDepth 100000 in
theorem allow_small (piece a now x most : Int) (l : List Int) (n : Nat) (hn : n = l.length) (hn1 : 1 ≤ n) (hn2 : n ≤ 64) (hp : 1 ≤ piece) (ha : 0 ≤ a ∧ a ≤ 1152921504606846976) :
    Small (CI esW3) 27 [.ptr 1 0, .int .i64 now, .int .i64 x, .int .i64 most] (hOf [.dead, win piece a n, ring l n]) (.bool (allows piece a now x most l))
      (hOf [.dead, win piece (tgt piece a now) n, ring (bif allows piece a now x most l then addL (tgt piece a now) x (reachL piece a now l) else reachL piece a now l) n]) := by
  have hcl : ∀ (l : List Int) (j : Nat), (listFn (ints l) j).closed = true := fun l j => listFn_closed (closeds_ints l) j
  refine Small.of_run (C := CI esW3) (oq := oqI) (n := 3) (X := XN esW3) (f := 60) fit esW3_ok (condI_ok rfl) rfl rfl rfl ⟨trivial, trivial, plain_lst (closeds_ints _), trivial⟩ ?_
  refine Holds.tree (allow_t piece a now x most l n _) ?_
  rw [toI_ints hn, toI_ints (by rw [reachL_length]; exact hn), tgt_tgt, reachL_tgt]
  refine ⟨WOk.mk hn ⟨hn1, hn2⟩ hp ha, trivial, ?_⟩
  obtain ⟨ht1, ht2⟩ := tgt_le (piece := piece) (a := a) (now := now) ha
  refine splitB_intro (fun h => ?_) (fun h => ?_)
  · have e : allows piece a now x most l = false := by unfold allows; simpa using h
    refine ⟨fun j _ => hcl _ j, by rw [e], ?_⟩
    rw [e]; exact likeL_refl _
  · have e : allows piece a now x most l = true := by unfold allows; simpa using h
    refine ⟨WOk.mk (by rw [reachL_length]; exact hn) ⟨hn1, hn2⟩ hp ⟨by omega, ht2⟩, fun j _ => hcl _ j, by rw [e], ?_⟩
    rw [e]; exact likeL_refl _

/-- Widths and parts that may be. -/
def wGood (width parts : Int) : Prop := 1 ≤ width ∧ width ≤ 1099511627776 ∧ 1 ≤ parts ∧ parts ≤ 64 ∧ width % parts = 0

theorem zeroFn_one (i : Nat) : zeroFn [.int .i64 0] 1 i = .int .i64 0 := by simp [zeroFn, Nat.mod_one, listFn]

set_option maxRecDepth 100000 in
theorem wnew_small (width parts : Int) (h : wGood width parts) : Small (CI []) 25 [.int .i64 width, .int .i64 parts] (hOf [.dead]) (.ptr 1 0)
    (hOf [.dead, win (width / parts) 0 parts.toNat, ring (List.replicate parts.toNat 0) parts.toNat]) := by
  obtain ⟨h1, h2, h3, h4, h5⟩ := h
  refine Small.of_run (C := CI []) (oq := oqI) (n := 1) (X := XN []) (f := 60) fit orcI0 (condI_ok rfl) rfl rfl rfl ⟨trivial, trivial, plain_lst (closeds_ints _), trivial⟩ ?_
  refine Holds.tree (wnew_t width parts _) ?_
  have c1 : ile 1 width = true := ile_iff.2 h1
  have c2 : ile width 1099511627776 = true := ile_iff.2 h2
  have c3 : ile 1 parts = true := ile_iff.2 h3
  have c4 : ile parts 64 = true := ile_iff.2 h4
  have c5 : ieq parts 0 = false := ieq_ne (by omega)
  have c6 : width.tmod parts = 0 := by rw [Int.tmod_eq_emod_of_nonneg (by omega)]; exact h5
  have c7 : ieq 0 0 = true := rfl
  have c8 : ile 0 parts = true := ile_iff.2 (by omega)
  have c9 : ile parts parts = true := ile_iff.2 (by omega)
  have c10 : Nat.blt 0 1 = true := rfl
  have c11 : Nat.beq 1 1 = true := rfl
  have c12 : (8 * parts.toNat).ble (2 ^ 47) = true := by rw [Nat.ble_eq]; omega
  have c13 : parts.toNat.blt 4611686018427387904 = true := by rw [Nat.blt_eq]; omega
  have hd : width.tdiv parts = width / parts := Int.tdiv_eq_ediv_of_nonneg (by omega)
  have hq0 : 0 ≤ width / parts := Int.ediv_nonneg (by omega) (by omega)
  have hq1 : width / parts ≤ width := Int.ediv_le_self _ (by omega)
  have c14 : IntKind.i64.wrap (width.tdiv parts) = width / parts := by rw [hd, wrap_id (by omega) (by omega)]
  simp only [c1, c2, c3, c4, c5, c6, c7, c8, c9, c10, c11, c12, c13, c14, Bool.not_true, Bool.and_self, splitB_t, splitB_f, Nat.mul_one, tr_get]
  refine ⟨fun j _ => ?_, trivial, ?_⟩
  · show (zeroFn [.int .i64 0] 1 j).closed = true
    rw [zeroFn_one]; rfl
  · refine likeL_cons (likeB_refl _) (likeL_cons (likeB_refl _) (likeL_cons ?_ likeL_nil))
    refine like_fn fun j hj => ?_
    show zeroFn [.int .i64 0] 1 j = _
    rw [zeroFn_one, listFn_ints (by simpa using hj)]
    have hjp : (j : Int) < parts := by omega
    simp [List.getD_eq_getElem?_getD, List.getElem?_replicate, hjp]

theorem eq_body : Tryz.f22.body = some (bodyAt 22) := by kernel_rfl
theorem eq_tmps : 2 + (Tryz.f22.ntmps - 2) = 26 := by kernel_rfl
theorem eq_res : Tryz.f22.results.toList = [.tmp 4] := by kernel_rfl
theorem eq_items : flatC (bodyAt 22) [] = eqPre ++ .block 0 (.loop eqLoop) :: eqPost := by kernel_rfl
theorem eq_post : eqPost.isEmpty = false := by kernel_rfl

set_option maxRecDepth 100000 in
theorem eq_small (l l' : List Int) (n n' c c' : Nat) (e e' : Bool) (hn : n = l.length) (hn' : n' = l'.length) (hsz : n ≤ 1000000) :
    Small (CI []) 22 [.sl 1 0 n c e, .sl 2 0 n' c' e'] (hOf [.dead, ring l n, ring l' n']) (.bool (decide (l = l'))) (hOf [.dead, ring l n, ring l' n']) := by
  have hcl : ∀ (l : List Int) (j : Nat), (listFn (ints l) j).closed = true := fun l j => listFn_closed (closeds_ints l) j
  refine Walk.small (C := CI []) (oq := oqI) (n := 3) fit Tryz.func22 eq_body eq_tmps eq_items eq_res rfl rfl rfl ⟨trivial, plain_lst (closeds_ints _), plain_lst (closeds_ints _), trivial⟩ ?_
  refine Walk.piece (X := XN []) (N := 26) (f := 60) (ts := [0, 1, 12, 13]) fit orcI0 (condI_ok rfl) (gsI [] 2) ?_
  refine Holds.tree (eq_t0 l l' n n' c c' e e' _ _ _) ?_
  refine splitB_intro (fun h => ?_) (fun h => ?_)
  · have hne : l ≠ l' := by
      intro he
      have : n = n' := by rw [hn, hn', he]
      rw [this, ieq_self] at h
      exact absurd h (by decide)
    exact ⟨fun j _ => hcl _ j, fun j _ => hcl _ j, by simp [hne], likeL_refl _⟩
  have hnn : n = n' := by
    have := ieq_iff (by simpa using h : ieq (n : Int) (n' : Int) = true)
    omega
  refine ⟨fun j _ => hcl _ j, fun j _ => hcl _ j, [.dead, ring l n, ring l' n'], likeL_refl _, ?_⟩
  refine Walk.loop (f := 60) fit orcI0 (fun _ : Nat => XI2 [] (rdI l) (rdI l')) (fun _ => condI_ok rfl) (gsI [] 2) (fun k => [.sl 1 0 n c e, .sl 2 0 n' c' e', .int .i64 n, .int .i64 k])
    (fun _ => [.dead, ring l n, ring l' n']) (fun k => k ≤ n ∧ l.take k = l'.take k) (fun k => n - k) eq_post ?_ 0 ⟨Nat.zero_le _, by simp⟩
  rintro k ⟨hk, htk⟩
  refine Holds.tree (eq_t1 (k : Int) (rdI l) (rdI l') l l' n n' c c' e e' _ _ _) ?_
  by_cases hlt : k < n
  · have c1 : ile (n : Int) (k : Int) = false := by rw [ile_eq]; simp; omega
    have c2 : inB (k : Int) n = true := inB_iff.2 ⟨by omega, by omega⟩
    have c2' : inB (k : Int) n' = true := inB_iff.2 ⟨by omega, by omega⟩
    have c3 : k.blt n = true := by rw [Nat.blt_eq]; omega
    have c3' : k.blt n' = true := by rw [Nat.blt_eq]; omega
    have c4 : 0 + (k : Int).toNat * 1 = k := by omega
    have c8 : IntKind.i64.wrap ((k : Int) + 1) = ((k + 1 : Nat) : Int) := by rw [wrap_id (by omega) (by omega)]; rfl
    simp only [c1, c2, c2', Bool.not_false, splitB_t, c4, c8, c3, c3']
    have hr : rdI l k = l[k]'(by omega) := by simp [rdI, List.getD_eq_getElem?_getD, List.getElem?_eq_getElem (show k < l.length by omega)]
    have hr' : rdI l' k = l'[k]'(by omega) := by simp [rdI, List.getD_eq_getElem?_getD, List.getElem?_eq_getElem (show k < l'.length by omega)]
    refine ⟨get_ints (by omega), get_ints (by omega), splitB_intro (fun h => ?_) (fun h => ?_)⟩
    · have hne : l ≠ l' := by
        intro he
        subst he
        rw [ieq_self] at h
        exact absurd h (by decide)
      exact ⟨fun j _ => hcl _ j, fun j _ => hcl _ j, by simp [hne], likeL_refl _⟩
    · have heq : rdI l k = rdI l' k := ieq_iff (by simpa using h)
      refine ⟨fun j _ => hcl _ j, fun j _ => hcl _ j, k + 1, rfl, likeL_refl _, ⟨by omega, ?_⟩, by omega⟩
      rw [List.take_succ_eq_append_getElem (by omega), List.take_succ_eq_append_getElem (by omega), htk, ← hr, ← hr', heq]
  · have c1 : ile (n : Int) (k : Int) = true := ile_iff.2 (by omega)
    simp only [c1, Bool.not_true, splitB_f]
    refine ⟨fun j _ => hcl _ j, fun j _ => hcl _ j, trivial, [.dead, ring l n, ring l' n'], likeL_refl _, ?_⟩
    refine Walk.last (X := XN []) (f := 60) fit orcI0 (condI_ok rfl) ?_
    refine Holds.tree (eq_t2 (k : Int) l l' n n' c c' e e' _) ?_
    have he : l = l' := by
      rw [List.take_of_length_le (by omega), List.take_of_length_le (by omega)] at htk
      exact htk
    exact ⟨fun j _ => hcl _ j, fun j _ => hcl _ j, by simp [he], likeL_refl _⟩

end Go.Abs
