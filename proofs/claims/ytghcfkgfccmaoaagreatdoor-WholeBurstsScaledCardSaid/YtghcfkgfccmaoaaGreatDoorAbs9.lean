/-
  Heaps that turn; soundness of what makes blocks and of what writes. (Helper theorems; each says its own conditions.)
-/
import Derived.Test.YtghcfkgfccmaoaaGreatDoorAbs8
import Derived.Laws.MakeOwn

/-! Heaps that turn; soundness of what makes blocks and of what writes. -/
namespace Go.Abs
open Go

theorem BR.of_heap {ρ : Ren} {g : Pl} {B : ABlk} {w w' : World} (h : w'.heap = w.heap) (hb : BR ρ g B w) : BR ρ g B w' := hb.same (by rw [h])

theorem HR.of_heap {ρ : Ren} {h : AH} {w w' : World} (hr : HR ρ h w) (he : w'.heap = w.heap) : HR ρ h w' :=
  ⟨fun b g hg => (hr.blk b g hg).of_heap he, hr.inj, hr.fresh, fun b g hg => by rw [he]; exact hr.lt b g hg⟩

theorem HR.push {ρ : Ren} {h : AH} {w : World} (hr : HR ρ h w) (B : ABlk) : HR ρ (h.push B) w := by
  have hne : ∀ b g, ρ b = some g → b ≠ h.next := fun b g hg e => by
    rw [hr.fresh b (by omega)] at hg; cases hg
  refine ⟨fun b g hg => ?_, fun b b' g g' hg hg' he hbb => ?_, fun b hb => hr.fresh b (by simp only [AH.push] at hb; omega), hr.lt⟩
  · rw [AH.get_push, if_neg (hne b g hg)]; exact hr.blk b g hg
  · rw [AH.get_push, AH.get_push, if_neg (hne b g hg), if_neg (hne b' g' hg')]; exact hr.inj b b' g g' hg hg' he hbb

theorem HR.grow {ρ : Ren} {h : AH} {w : World} (hr : HR ρ h w) (o : Obj) : HR ρ h (w.alloc o) :=
  ⟨fun b g hg => (hr.blk b g hg).same (heap_alloc_old w o _ (hr.lt b g hg)), hr.inj, hr.fresh, fun b g hg => by have := hr.lt b g hg; simp; omega⟩

def updR (ρ : Ren) (b : Nat) (g : Pl) : Ren := fun x => if x = b then some g else ρ x

theorem updR_ext {ρ : Ren} {b : Nat} {g : Pl} (h : ρ b = none) : Ext ρ (updR ρ b g) := by
  intro x y hx
  unfold updR
  by_cases e : x = b
  · subst e; rw [h] at hx; cases hx
  · rw [if_neg e]; exact hx

theorem HR.bind {ρ : Ren} {h : AH} {w : World} (hr : HR ρ h w) {b : Nat} {g : Pl} (hb : b < h.next) (hn : ρ b = none) (hg : g.blk < w.heap.size) (hB : BR (updR ρ b g) g (h.get b) w)
    (hsep : ∀ b' g', ρ b' = some g' → g'.blk = g.blk → Sep (h.get b') (h.get b)) : HR (updR ρ b g) h w := by
  have hext := updR_ext (g := g) hn
  have hsym : ∀ x y, Sep x y → Sep y x := fun x y hxy => by
    rcases hxy with h1 | h1 | ⟨h1, h2⟩
    · exact .inr (.inl h1)
    · exact .inl h1
    · exact .inr (.inr ⟨h2, h1⟩)
  refine ⟨fun x y hx => ?_, fun x x' y y' hx hx' he hne => ?_, fun x hx => ?_, fun x y hx => ?_⟩
  · unfold updR at hx
    split at hx
    · rename_i e; subst e; injection hx with hx; subst hx; exact hB
    · exact (hr.blk x y hx).mono hext
  · unfold updR at hx hx'
    split at hx
    · rename_i e; subst e; injection hx with hx; subst hx
      split at hx'
      · rename_i e'; exact absurd e'.symm hne
      · exact hsym _ _ (hsep x' y' hx' he.symm)
    · split at hx'
      · rename_i e'; subst e'; injection hx' with hx'; subst hx'; exact hsep x y hx he
      · exact hr.inj x x' y y' hx hx' he hne
  · unfold updR
    rw [if_neg (by omega)]
    exact hr.fresh x hx
  · unfold updR at hx
    split at hx
    · injection hx with hx; subst hx; exact hg
    · exact hr.lt x y hx

theorem HR.upd {ρ : Ren} {h : AH} {w w' : World} (hr : HR ρ h w) {b : Nat} {g : Pl} {B' : ABlk} (hg : ρ b = some g) (hrw : (h.get b).rw = true) (hsize : w'.heap.size = w.heap.size)
    (hother : ∀ c, c ≠ g.blk → w'.heap[c]? = w.heap[c]?) (hB : BR ρ g B' w') : HR ρ (h.put b B') w' := by
  have hdead : ∀ b' g', ρ b' = some g' → b' ≠ b → g'.blk = g.blk → h.get b' = .dead := fun b' g' hg' hne he => by
    rcases hr.inj b' b g' g hg' hg he hne with h1 | h1 | ⟨_, h2⟩
    · exact h1
    · rw [h1] at hrw; cases hrw
    · rw [h2] at hrw; cases hrw
  refine ⟨fun x y hx => ?_, fun x x' y y' hx hx' he hne => ?_, fun x hx => hr.fresh x hx, fun x y hx => by rw [hsize]; exact hr.lt x y hx⟩
  · rw [AH.get_put]
    split
    · rename_i e; subst e; rw [hg] at hx; injection hx with hx; subst hx; exact hB
    · rename_i e
      by_cases hc : y.blk = g.blk
      · rw [hdead x y hx e hc]; trivial
      · exact (hr.blk x y hx).same (hother _ hc)
  · rw [AH.get_put, AH.get_put]
    by_cases e : x = b
    · subst e
      have e' : x' ≠ x := fun h => hne h.symm
      rw [if_pos rfl, if_neg e']
      rw [hg] at hx; injection hx with hx; subst hx
      exact .inr (.inl (hdead x' y' hx' e' he.symm))
    · rw [if_neg e]
      by_cases e' : x' = b
      · subst e'
        rw [if_pos rfl]
        rw [hg] at hx'; injection hx' with hx'; subst hx'
        exact .inl (hdead x y hx e he)
      · rw [if_neg e']
        exact hr.inj x x' y y' hx hx' he hne

theorem Fr.upd {ρ : Ren} {h : AH} {w w' : World} {b : Nat} {g : Pl} {B' : ABlk} (hg : ρ b = some g) (hrw : (h.get b).rw = true) (hos : w'.os = w.os) (ht : w'.tape = w.tape) (ho : w'.output = w.output)
    (hsize : w'.heap.size = w.heap.size) (hother : ∀ c, c ≠ g.blk → w'.heap[c]? = w.heap[c]?) (n : Nat) : Fr n ρ h w ρ (h.put b B') w' := by
  refine ⟨hos, ht, ho, by omega, fun c hc hno => hother c fun e => ?_, fun x y hx hr => ?_, fun _ _ => rfl, Nat.le_refl _, Ext.refl _⟩
  · have := hno b g hg e.symm
    rw [hrw] at this; cases this
  · rw [AH.get_put] at hr
    split at hr
    · rename_i e; subst e
      rw [hg] at hx; injection hx with hx; subst hx
      exact .inl ⟨x, g, hg, hrw, rfl⟩
    · exact .inl ⟨x, y, hx, hr, rfl⟩

theorem Fr.of_heap {n : Nat} {ρ : Ren} {h : AH} {w w' : World} (he : w'.heap = w.heap) (hos : w'.os = w.os) (ht : w'.tape = w.tape) (ho : w'.output = w.output) : Fr n ρ h w ρ h w' :=
  ⟨hos, ht, ho, by rw [he]; exact Nat.le_refl _, fun _ _ _ => by rw [he], fun b g hb hr => .inl ⟨b, g, hb, hr, rfl⟩, fun _ _ => rfl, Nat.le_refl _, Ext.refl _⟩

/-- A new block: real and abstract, bound to each other. -/
theorem alloc_bind {ρ : Ren} {h : AH} {w : World} (hr : HR ρ h w) {b : Nat} (hb : b < h.next) (hn : ρ b = none) {o : Obj}
    (hB : BR (updR ρ b ⟨w.heap.size, 0, 0⟩) ⟨w.heap.size, 0, 0⟩ (h.get b) (w.alloc o)) : HR (updR ρ b ⟨w.heap.size, 0, 0⟩) h (w.alloc o) :=
  (hr.grow o).bind hb hn (by simp) hB fun b' g' hg' he => by have := hr.lt b' g' hg'; simp only at he; omega

theorem Fr.alloc {ρ : Ren} {h h' : AH} {w : World} {b : Nat} {o : Obj} (hn : ρ b = none) (hget : ∀ x, ρ x ≠ none → h'.get x = h.get x) (hnext : h.next ≤ h'.next) {e : Nat} {n : Nat} (hb : n ≤ b) :
    Fr n ρ h w (updR ρ b ⟨w.heap.size, 0, e⟩) h' (w.alloc o) := by
  refine ⟨rfl, rfl, rfl, by simp, fun c hc _ => heap_alloc_old w o c hc, fun x y hx hr => ?_, fun x hx => by unfold updR; rw [if_neg (by omega)], hnext, updR_ext hn⟩
  unfold updR at hx
  split at hx
  · injection hx with hx; subst hx; exact .inr (Nat.le_refl _)
  · rw [hget x (by rw [hx]; simp)] at hr
    exact .inl ⟨x, y, hx, hr, rfl⟩

theorem blkOf_BR {ρ : Ren} {cs : List AV} {vs : List Value} (hv : VRs ρ cs vs) {w : World} {g : Nat} {elem : TypeId} {esz : Nat} (hg : w.heap[g]? = some (.cells vs.toArray elem (0, 0))) :
    BR ρ ⟨g, 0, 0⟩ (blkOf cs elem esz) w := by
  refine ⟨vs.toArray, hg, by simp [hv.length], fun i hi => ?_⟩
  simp only at hi
  obtain ⟨v, hvv, hr⟩ := hv.get i _ (List.getElem?_eq_getElem hi)
  refine ⟨v, by simpa using hvv, ?_⟩
  have : (Sto.tr Tr.lf (listFn cs)).get i = cs[i] := by
    simp only [Sto.get, Tr.get_lf]
    exact listFn_get cs i _ (List.getElem?_eq_getElem hi)
  rw [this]; exact hr

section
variable {P : Program}

theorem reps_length (z : List AV) : ∀ n, (reps z n).length = n * z.length
  | 0 => by simp [reps]
  | n + 1 => by simp [reps, reps_length z n, Nat.add_mul]; omega

theorem reps_get {z : List AV} (hz : 0 < z.length) : ∀ (n i : Nat), i < n * z.length → (reps z n)[i]? = z[i % z.length]?
  | 0, i, h => by omega
  | n + 1, i, h => by
    simp only [reps]
    by_cases hi : i < z.length
    · rw [List.getElem?_append_left hi, Nat.mod_eq_of_lt hi]
    · have e : i % z.length = (i - z.length) % z.length := Nat.mod_eq_sub_mod (by omega)
      rw [List.getElem?_append_right (by omega), reps_get hz n (i - z.length) (by rw [Nat.add_mul, Nat.one_mul] at h; omega), e]

theorem reps_VRs {ρ : Ren} {z : List AV} {zv : Array Value} (hz : VRs ρ z zv.toList) (hpos : 0 < z.length) (n : Nat) :
    VRs ρ (reps z n) ((Array.range (n * zv.size)).map (zv[· % zv.size]!)).toList := by
  have hl : z.length = zv.size := by simpa using hz.length
  refine VRs.of_get ?_ ?_
  · rw [reps_length, hl]; simp
  · intro i a v ha hv
    have hi : i < n * z.length := by
      have := (List.getElem?_eq_some_iff.1 ha).1
      rwa [reps_length] at this
    rw [reps_get hpos n i hi] at ha
    obtain ⟨u, hu, hr⟩ := hz.get _ a ha
    have hi2 : i < n * zv.size := by rw [← hl]; exact hi
    simp only [Array.toList_map, List.getElem?_map, Array.toList_range, List.getElem?_range hi2, Option.map_some, Option.some.injEq] at hv
    subst hv
    have hlt : i % zv.size < zv.size := Nat.mod_lt _ (by omega)
    rw [getElem!_pos zv (i % zv.size) hlt]
    rw [hl, Array.getElem?_toList, Array.getElem?_eq_getElem hlt] at hu
    injection hu with hu
    rw [hu]; exact hr

/-- What makes one block: the model's own block, and how it reads. -/
theorem allocA_sound {ρ : Ren} {env : Env} {ev : Operand → Value} (he : EnvR ρ env ev) {b : Nat} {o : Oper} (hc : cls o.op = .alloc) {v : AV} {B : ABlk} (h : allocA P env b o.op = some (v, B)) (w : World) :
    ∃ ob u, (execOp ev o).run P w = .ok (.value u) (w.alloc ob) ∧
      ∀ ρ', Ext ρ ρ' → ρ' b = some ⟨w.heap.size, 0, 0⟩ → VR ρ' v u ∧ BR ρ' ⟨w.heap.size, 0, 0⟩ B (w.alloc ob) := by
  obtain ⟨dst, op, type, pos, after, guard⟩ := o
  simp only at hc h ⊢
  cases op <;> simp only [cls] at hc <;> first | (cases hc; done) | skip
  case alloc e =>
    simp only [allocA] at h
    split at h
    · rename_i ti hti
      obtain ⟨i, d, z, hty⟩ := tiOf_spec hti
      split at h
      · rename_i cs hcs
        injection h with h; injection h with h1 h2; subst h1 h2
        refine ⟨.cells z.cells e, .pointer (some ⟨w.heap.size, 0, none⟩), ?_, fun ρ' hx hb => ⟨⟨_, hb, rfl⟩, ?_⟩⟩
        · simp [execOp, Instr.alloc, hty.run_zero, newVar, newRow]
        · have := VR.cells hcs (hty.zeroR ρ')
          exact blkOf_BR this (by simpa using heap_alloc_new w _)
      · cases h
    · cases h
  case box e x =>
    simp only [allocA, on1] at h
    split at h
    · rename_i a ha
      split at h
      · rename_i cs hcs
        injection h with h; injection h with h1 h2; subst h1 h2
        refine ⟨.cells (ev x).cells e, .pointer (some ⟨w.heap.size, 0, none⟩), ?_, fun ρ' hx hb => ⟨⟨_, hb, rfl⟩, ?_⟩⟩
        · simp [execOp, Instr.box, newVar, newRow]
        · have := VR.cells hcs ((he x a ha).mono hx)
          exact blkOf_BR this (by simpa using heap_alloc_new w _)
      · cases h
    · cases h
  case buildSlice t n ps =>
    simp only [allocA] at h
    split at h
    · rename_i vs hvs
      have hp := evp_sound he hvs
      unfold buildSliceA at h
      split at h
      · rename_i e esz bytes hk
        obtain ⟨ti, i, d, z, hty, e0⟩ := kindOf_spec hk
        obtain ⟨rfl, ie, hie, hse, _⟩ := tk_slice (e0 ▸ hty.kind)
        split at h
        · rename_i zc hz
          split at h
          · rename_i h1 h2 h5
            split at h
            · rename_i cs hf
              injection h with h; injection h with h3 h4; subst h3 h4
              unfold zeroOf at hz
              split at hz
              · rename_i te hte
                obtain ⟨ie2, de, ze, htye⟩ := tiOf_spec hte
                have hie2 : ie2 = ie := by have := htye.info; rw [hie] at this; injection this with this; exact this.symm
                subst hie2
                have hzr := VR.cells hz (htye.zeroR ρ)
                have hzl : zc.length = ze.cells.size := by simpa using hzr.length
                have hpos : 0 < esz := by simpa [Nat.blt_eq] using h1
                have hze := Nat.eq_of_beq_eq_true h5
                have hle : n * esz ≤ 16777216 := by simpa [Nat.ble_eq] using h2
                have hrep := reps_VRs hzr (by omega) n
                obtain ⟨out, ho, hr⟩ := fillA_sound hf hp hrep
                refine ⟨.cells out e, .slice (some ⟨w.heap.size, 0, none⟩) n n, ?_, fun ρ' hx hb => ⟨⟨_, hb, by simp⟩, ?_⟩⟩
                · have hno : ¬ (n * esz > 2 ^ 24) := by omega
                  by_cases h0 : n * esz = 0
                  · have hn0 : n = 0 := by
                      rcases Nat.mul_eq_zero.1 h0 with h | h
                      · exact h
                      · omega
                    subst hn0
                    have e00 : ∀ f : Nat → Value, (Array.range 0).map f = #[] := fun _ => by apply Array.ext'; simp
                    simp only [Nat.zero_mul, e00] at ho
                    simp [execOp, Instr.buildSlice, hty.run_und, sizeOf, typeInfo, hie, hse, e00, ho, newRow]
                  · rw [← hzl, hze] at ho
                    simp only [execOp, Instr.buildSlice, Sem.run_bind, hty.run_und, Result.andThen_ok, sizeOf, typeInfo, run_program, hie, Sem.run_pure, hse, hno, if_false, h0, htye.run_zero, Sem.run_ite]
                    rw [← hzl, hze] at *
                    simp [ho, newRow]
                · exact blkOf_BR (hr.mono hx) (by simpa using heap_alloc_new w _)
              · cases hz
            · cases h
          · cases h
        · cases h
      · cases h
    · cases h
  case makeSlice t l c =>
    simp only [allocA, on2] at h
    split at h
    · rename_i lv hlv
      split at h
      · rename_i cv hcv
        unfold makeSliceA at h
        split at h
        · rename_i e esz bytes lN cN hk hln hcn
          obtain ⟨ti, i, d, z, hty, e0⟩ := kindOf_spec hk
          obtain ⟨rfl, ie, hie, hse, hby⟩ := tk_slice (e0 ▸ hty.kind)
          split at h
          · rename_i zc hz
            split at h
            · rename_i h1 h2 h3 h4
              injection h with h; injection h with h5 h6; subst h5 h6
              simp only [Bool.and_eq_true, Nat.beq_eq, Nat.blt_eq] at h1
              obtain ⟨hpos, hze⟩ := h1
              have h2' : bytes * cN ≤ 2 ^ 47 := by simpa [Nat.ble_eq] using h2
              have h3' : lN ≤ cN := by simpa [Nat.ble_eq] using h3
              have h4' : cN < 2 ^ 62 := by simpa [Nat.blt_eq] using h4
              unfold zeroOf at hz
              split at hz
              · rename_i te hte
                obtain ⟨ie2, de, ze, htye⟩ := tiOf_spec hte
                have hie2 : ie2 = ie := by have := htye.info; rw [hie] at this; injection this with this; exact this.symm
                subst hie2
                have hzr := VR.cells hz (htye.zeroR ρ)
                have hzl : zc.length = ze.cells.size := by simpa using hzr.length
                have hl : ∃ k, ev l = .int k lN := by
                  unfold natOf at hln
                  split at hln
                  · injection hln with hln; subst hln
                    have := he l _ hlv; simp only [VR] at this; exact ⟨_, this⟩
                  · cases hln
                have hcc : ∃ k, ev c = .int k cN := by
                  unfold natOf at hcn
                  split at hcn
                  · injection hcn with hcn; subst hcn
                    have := he c _ hcv; simp only [VR] at this; exact ⟨_, this⟩
                  · cases hcn
                obtain ⟨kl, hl⟩ := hl
                obtain ⟨kc, hcc⟩ := hcc
                have hwl : IntKind.i64.wrap (lN : Int) = lN := by unfold IntKind.wrap; simp only [IntKind.bits, IntKind.signed]; simp; omega
                have hwc : IntKind.i64.wrap (cN : Int) = cN := by unfold IntKind.wrap; simp only [IntKind.bits, IntKind.signed]; simp; omega
                refine ⟨.cells ((Array.range (cN * esz)).map (ze.cells[· % ze.cells.size]!)) e, .slice (some ⟨w.heap.size, 0, none⟩) lN cN, ?_, fun ρ' hx hb => ⟨⟨_, hb, by simp⟩, ?_⟩⟩
                · have hbz : ((ie2.bytes : Int) * (cN : Int)) ≤ 2 ^ 48 := by
                    rw [hby]
                    have : ((bytes * cN : Nat) : Int) ≤ ((2 ^ 47 : Nat) : Int) := by exact_mod_cast h2'
                    simp only [Int.natCast_mul] at this
                    omega
                  have t1 : ¬ ((ie2.bytes : Int) * (cN : Int) > 2 ^ 48) := by omega
                  have t2 : ¬ ((lN : Int) < 0) := by omega
                  have t3 : ¬ ((cN : Int) < 0) := by omega
                  have t4 : ¬ ((lN : Int) > (cN : Int)) := by omega
                  simp only [execOp, Instr.makeSlice, Sem.run_bind, hty.run_und, Result.andThen_ok, hl, hcc, asInt, asIntOf, Sem.run_pure, typeInfo, run_program, hie, hwl, hwc, t1, t2, t3, t4,
                    decide_false, Bool.or_self, Bool.false_eq_true, if_false, run_askRoom, sizeOf, hse, Int.toNat_natCast]
                  by_cases h0 : cN * esz = 0
                  · have e00 : ∀ f : Nat → Value, (Array.range 0).map f = #[] := fun _ => by apply Array.ext'; simp
                    simp [h0, newRow, e00]
                  · simp only [h0, if_false, Sem.run_bind, htye.run_zero, Result.andThen_ok, Sem.run_pure, newRow, run_newObj]
                    rfl
                · refine ⟨_, by simpa using heap_alloc_new w _, by simp, fun i hi => ?_⟩
                  simp only at hi
                  have hlt : i % ze.cells.size < ze.cells.size := Nat.mod_lt _ (by omega)
                  refine ⟨ze.cells[i % ze.cells.size]!, by simp [hi], ?_⟩
                  have hz2 := (VR.cells hz (htye.zeroR ρ')).get (i % esz) _ (List.getElem?_eq_getElem (by rw [hze]; exact Nat.mod_lt _ hpos))
                  obtain ⟨u, hu, hr⟩ := hz2
                  simp only [Sto.get, Tr.get_lf, zeroFn]
                  rw [listFn_get zc _ _ (List.getElem?_eq_getElem (by rw [hze]; exact Nat.mod_lt _ hpos))]
                  rw [getElem!_pos ze.cells _ hlt]
                  have e3 : ze.cells.size = esz := by omega
                  simp only [e3] at hu ⊢
                  rw [Array.getElem?_toList, Array.getElem?_eq_getElem (by have := Nat.mod_lt i hpos; omega)] at hu
                  injection hu with hu
                  rw [hu]; exact hr
              · cases hz
            · cases h
          · cases h
        · cases h
      · cases h
    · cases h
  case call c => simp [allocA] at h
  case makeMap t r =>
    simp only [allocA] at h
    split at h
    · rename_i hk
      injection h with h; injection h with h1 h2; subst h1 h2
      refine ⟨.map #[] 0, .map (some w.heap.size), ?_, fun ρ' hx hb => ⟨⟨_, hb, rfl⟩, ?_⟩⟩
      · simp [execOp, Instr.makeMap]
      · exact ⟨#[], 0, heap_alloc_new w _, rfl⟩
    · cases h

end
end Go.Abs
