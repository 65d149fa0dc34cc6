/-
  Window: the ring of pieces; time goes on. (Helper theorems; each says its own conditions.)
-/
import Derived.Test.YtghcfkgfccmaoaaGreatDoorV2t
import Derived.Test.YtghcfkgfccmaoaaGreatDoorM1
import Derived.Test.YtghcfkgfccmaoaaGreatDoorL1c
/-! Window: the ring of pieces; time goes on. -/
namespace Go.Abs
open Go Go.Proofs

/-- c pieces behind 'a' are emptied. -/
def zeros : Nat → Int → List Int → List Int
  | 0, _, l => l
  | c + 1, a, l => zeros c (a + 1) (l.set ((a + 1) % l.length).toNat 0)

theorem zeros_length : ∀ (c : Nat) (a : Int) (l : List Int), (zeros c a l).length = l.length
  | 0, _, _ => rfl
  | c + 1, a, l => by simp only [zeros]; rw [zeros_length]; simp

def tgt (piece a now : Int) : Int := max (min (max now 0) 1152921504606846976 / piece) a
def reachL (piece a now : Int) (l : List Int) : List Int := zeros (min (tgt piece a now - a) l.length).toNat a l

theorem reachL_length (piece a now : Int) (l : List Int) : (reachL piece a now l).length = l.length := zeros_length _ _ _

theorem tgt_le {piece a now : Int} (ha : 0 ≤ a ∧ a ≤ 1152921504606846976) : a ≤ tgt piece a now ∧ tgt piece a now ≤ 1152921504606846976 := by
  have h1 : min (max now 0) 1152921504606846976 / piece ≤ min (max now 0) 1152921504606846976 := Int.ediv_le_self _ (by omega)
  unfold tgt
  omega

theorem likeL_cons {A B : ABlk} {As Bs : List ABlk} (h1 : likeB A B) (h2 : likeL As Bs) : likeL (A :: As) (B :: Bs) := ⟨B, Bs, rfl, h1, h2⟩
theorem likeL_nil : likeL [] [] := rfl
theorem like_fn {d d' : Nat → AV} {n e z : Nat} {ro : Bool} (h : ∀ i, i < n → d i = d' i) : likeB (.cells { sto := .fn d, n := n, elem := e, esz := z, ro := ro }) (.cells { sto := .fn d', n := n, elem := e, esz := z, ro := ro }) := ⟨d', rfl, h⟩

theorem gsI (es : List CEntry) (n : Nat) : ∀ g b, (CI es).gs g = some b → b < n + 1 := by
  intro g b h
  obtain ⟨_, rfl⟩ := gsOf_eq (G := 0) h
  exact Nat.succ_pos n

theorem orcI_ok {es : List CEntry} (h : ∀ e ∈ es, e.ok (CI es)) : CallOK (CI es) (CI es).orc := orcC_ok (G := 0) rfl h
theorem condI_ok {es : List CEntry} {X : Rdr} (hX : X.cond = condE oqI es) : X.ok (CI es) := by
  intro g args h c r hc hcc
  rw [hX] at hc
  exact orcC_cond hc hcc

theorem orcI0 : CallOK (CI []) (CI []).orc := orcI_ok (fun e he => by cases he)

theorem f76_body : Tryz.f76.body = some (bodyAt 76) := by kernel_rfl
theorem f76_tmps : 2 + (Tryz.f76.ntmps - 2) = 59 := by kernel_rfl
theorem f76_res : Tryz.f76.results.toList = [] := by kernel_rfl
theorem reach_items : flatC (bodyAt 76) [] = reachPre ++ .block 0 (.loop reachLoop) :: reachPost := by kernel_rfl
theorem reach_post : reachPost.isEmpty = false := by kernel_rfl

structure SR where
  (i a : Int)
  l : List Int

set_option maxRecDepth 100000 in
theorem reach_small (piece a now : Int) (l : List Int) (n : Nat) (hn : n = l.length) (hn1 : 1 ≤ n) (hn2 : n ≤ 64) (hp : 1 ≤ piece) (ha : 0 ≤ a ∧ a ≤ 1152921504606846976) :
    Small (CI []) 76 [.ptr 1 0, .int .i64 now] (hOf [.dead, win piece a n, ring l n]) (.tup []) (hOf [.dead, win piece (tgt piece a now) n, ring (reachL piece a now l) n]) := by
  have hcl : ∀ (l : List Int) (j : Nat), j < n → (listFn (ints l) j).closed = true := fun l j _ => listFn_closed (closeds_ints l) j
  refine Walk.small (C := CI []) (oq := oqI) (n := 3) fit Tryz.func76 f76_body f76_tmps reach_items f76_res rfl rfl rfl ⟨trivial, trivial, plain_lst (closeds_ints _), trivial⟩ ?_
  -- up to the loop
  refine Walk.piece (X := XN []) (N := 59) (f := 60) (ts := [0, 4, 29, 30]) fit orcI0 (condI_ok rfl) (gsI [] 2) ?_
  refine Holds.tree (reach_t0 piece a now l n _ _ _) ?_
  have hz : ieq piece 0 = false := ieq_ne (by omega)
  rw [hz, splitB_f]
  refine ⟨hcl l, ?_⟩
  obtain ⟨ht1, ht2⟩ := tgt_le (piece := piece) (a := a) (now := now) ha
  have e0 : (min (max now 0) 1152921504606846976).tdiv piece = min (max now 0) 1152921504606846976 / piece := Int.tdiv_eq_ediv_of_nonneg (by omega)
  have hd0 : 0 ≤ min (max now 0) 1152921504606846976 / piece := Int.ediv_nonneg (by omega) (by omega)
  have hd1 : min (max now 0) 1152921504606846976 / piece ≤ min (max now 0) 1152921504606846976 := Int.ediv_le_self _ (by omega)
  have e1 : imax (IntKind.i64.wrap ((imin (imax now 0) 1152921504606846976).tdiv piece)) a = tgt piece a now := by
    rw [imin_eq, imax_eq, imax_eq, e0, wrap_id (by omega) (by omega)]; rfl
  rw [e1]
  have e2 : imin (IntKind.i64.wrap (tgt piece a now - a)) (n : Int) = min (tgt piece a now - a) l.length := by
    rw [wrap_id (by omega) (by omega), imin_eq, hn]
  rw [e2]
  refine ⟨[.dead, win piece a n, ring l n], likeL_refl _, ?_⟩
  generalize hlim : min (tgt piece a now - a) (l.length : Int) = lim
  have hlim0 : 0 ≤ lim ∧ lim ≤ 64 ∧ lim ≤ tgt piece a now - a := by omega
  refine Walk.loop (f := 60) fit orcI0 (fun _ : SR => XN []) (fun _ => condI_ok rfl) (gsI [] 2) (fun p => [.ptr 1 0, .int .i64 (tgt piece a now), .int .i64 lim, .int .i64 p.i])
    (fun p => [.dead, win piece p.a n, ring p.l n])
    (fun p => (0 ≤ p.i ∧ p.i ≤ lim) ∧ p.a = a + p.i ∧ p.l.length = n ∧ zeros (lim - p.i).toNat p.a p.l = reachL piece a now l) (fun p => (lim - p.i).toNat) reach_post ?_
    ⟨0, a, l⟩ ⟨by simp only; omega, by simp only; omega, hn.symm, by simp only [reachL, hlim, Int.sub_zero]⟩
  rintro ⟨i, a', l'⟩ ⟨hi, ha', hl', hz'⟩
  simp only at hi ha' hl' hz' ⊢
  subst ha'
  refine Holds.tree (reach_t1 piece (a + i) (tgt piece a now) lim i l' n _ _ _) ?_
  by_cases hlt : i < lim
  · have c1 : ile lim i = false := by rw [ile_eq]; simp; omega
    have c2 : ieq (n : Int) 0 = false := ieq_ne (by omega)
    have c3 : IntKind.i64.wrap (a + i + 1) = a + i + 1 := wrap_id (by omega) (by omega)
    have c4 : (a + i + 1).tmod (n : Int) = (a + i + 1) % (n : Int) := Int.tmod_eq_emod_of_nonneg (by omega)
    have c5 : 0 ≤ (a + i + 1) % (n : Int) ∧ (a + i + 1) % (n : Int) < n := ⟨Int.emod_nonneg _ (by omega), Int.emod_lt_of_pos _ (by omega)⟩
    have c6 : inB ((a + i + 1) % (n : Int)) n = true := inB_iff.2 c5
    have c7 : (0 + ((a + i + 1) % (n : Int)).toNat * 1 + 1).ble n = true := by rw [Nat.ble_eq]; omega
    have c8 : IntKind.i64.wrap (i + 1) = i + 1 := wrap_id (by omega) (by omega)
    simp only [c1, c2, c3, c4, c6, c7, c8, Bool.not_false, splitB_t, splitB_f]
    have hset : (fun j => bif Nat.beq j (0 + ((a + i + 1) % (n : Int)).toNat * 1) then AV.int IntKind.i64 0 else listFn (ints l') j) = listFn (ints (l'.set ((a + i + 1) % (n : Int)).toNat 0)) := by
      rw [Nat.zero_add, Nat.mul_one, listFn_set (by rw [ints_length]; omega), ints_set]
    refine ⟨fun j hj => ?_, ⟨i + 1, a + i + 1, l'.set ((a + i + 1) % (n : Int)).toNat 0⟩, rfl, ?_, ⟨by simp only; omega, by simp only; omega, by simpa using hl', ?_⟩, by simp only; omega⟩
    · exact (congrFun hset j) ▸ hcl _ j hj
    · refine likeL_cons (likeB_refl _) (likeL_cons (likeB_refl _) (likeL_cons ?_ likeL_nil))
      exact like_fn fun j _ => congrFun hset j
    · simp only
      have : (lim - i).toNat = (lim - (i + 1)).toNat + 1 := by omega
      rw [this] at hz'
      simp only [zeros, hl'] at hz'
      exact hz'
  · have c1 : ile lim i = true := ile_iff.2 (by omega)
    simp only [c1, Bool.not_true, splitB_f]
    refine ⟨hcl _, trivial, [.dead, win piece (a + i) n, ring l' n], likeL_refl _, ?_⟩
    refine Walk.last (X := XN []) (f := 60) fit orcI0 (condI_ok rfl) ?_
    refine Holds.tree (reach_t2 piece (a + i) (tgt piece a now) lim i l' n _) ?_
    refine ⟨hcl _, rfl, ?_⟩
    have : (lim - i).toNat = 0 := by omega
    rw [this] at hz'
    simp only [zeros] at hz'
    rw [hz']
    exact likeL_refl _

end Go.Abs
