/-
  Soundness of what writes: stores, copies, clears, appends. (Helper theorems; each says its own conditions.)
-/
import Derived.Test.YtkikjebliennbaaGreatDoorEvC
/-! Soundness of what writes: stores, copies, clears, appends. -/
namespace Go.Abs
open Go

/-- A list of cells laid into a row. -/
def laid (cur : Array Value) (o : Nat) (us : List Value) : Array Value := (cur.toList.take o ++ us ++ cur.toList.drop (o + us.length)).toArray

theorem laid_size {cur : Array Value} {o : Nat} {us : List Value} (h : o + us.length ≤ cur.size) : (laid cur o us).size = cur.size := by
  simp [laid]; omega

theorem laid_get {cur : Array Value} {o : Nat} {us : List Value} (h : o + us.length ≤ cur.size) (i : Nat) :
    (laid cur o us)[i]? = if o ≤ i ∧ i < o + us.length then us[i - o]? else cur[i]? := by
  have hlt : (cur.toList.take o).length = o := by simp; omega
  simp only [laid, List.getElem?_toArray]
  by_cases h1 : i < o
  · rw [if_neg (by omega), List.append_assoc, List.getElem?_append_left (by omega), List.getElem?_take_of_lt h1]
    simp
  · rw [List.append_assoc, List.getElem?_append_right (by omega), hlt]
    by_cases h2 : i < o + us.length
    · rw [if_pos (by omega), List.getElem?_append_left (by omega)]
    · rw [if_neg (by omega), List.getElem?_append_right (by omega), List.getElem?_drop]
      simp only [Array.getElem?_toList]
      congr 1
      omega

section
variable {P : Program}

theorem setCells_sound {ρ : Ren} {h h' : AH} {w : World} (hr : HR ρ h w) {b off : Nat} {vs : List AV} (hs : setCells h b off vs = some h') (h1 : allOne vs = true) {g : Pl} (hg : ρ b = some g)
    {us : List Value} (hu : VRs ρ vs us) (n : Nat) :
    ∃ w', (storeCells ⟨g.blk, g.off + off, none⟩ us).run P w = .ok () w' ∧ HR ρ h' w' ∧ Fr n ρ h w ρ h' w' := by
  unfold setCells at hs
  split at hs
  · rename_i c hget
    cases hro : c.ro with
    | true => rw [hro] at hs; simp at hs
    | false =>
      rw [hro] at hs
      simp only [cond_false] at hs
      cases hlt : Nat.ble (off + vs.length) c.n with
      | false => rw [hlt] at hs; simp at hs
      | true =>
        rw [hlt] at hs; simp at hs; subst hs
        have hle : off + vs.length ≤ c.n := by simpa [Nat.ble_eq] using hlt
        have hB := hr.blk b g hg
        rw [hget] at hB
        unfold BR at hB
        simp only [hro] at hB
        obtain ⟨cur, hcur, hsz, hcells⟩ := hB
        have hlen := hu.length
        have hfit : g.off + off + 0 + us.length ≤ cur.size := by rw [hsz]; omega
        have hrun := run_storeCells_at P g.blk (g.off + off) c.elem us 0 cur w hcur hfit (hu.ones h1)
        simp only [Nat.add_zero] at hrun hfit
        refine ⟨_, hrun, ?_, ?_⟩
        · refine hr.upd hg (by rw [hget]; simp [ABlk.rw, hro]) (by simp) (fun k hk => setRow_other w g.blk k _ hk) ?_
          unfold BR
          simp only
          refine ⟨laid cur (g.off + off) us, setRow_heap w g.blk cur _ c.elem _ hcur, by rw [laid_size hfit, hsz], fun i hi => ?_⟩
          rw [laid_get hfit, Sto.get_setL]
          by_cases hin : off ≤ i ∧ i < off + vs.length
          · rw [if_pos (by omega), if_pos hin]
            have hlt2 : i - off < vs.length := by omega
            obtain ⟨u, huu, hru⟩ := hu.get (i - off) _ (List.getElem?_eq_getElem hlt2)
            refine ⟨u, by rw [show g.off + i - (g.off + off) = i - off by omega]; exact huu, ?_⟩
            simpa [List.getD, List.getElem?_eq_getElem hlt2] using hru
          · rw [if_neg (by omega), if_neg hin]
            exact hcells i hi
        · exact Fr.upd (w := w) (w' := w.setRow g.blk _) hg (by rw [hget]; simp [ABlk.rw, hro]) rfl rfl rfl (by simp) (fun k hk => setRow_other w g.blk k _ hk) n
  · cases hs

theorem store_sound {ρ : Ren} {h : AH} {w : World} (hr : HR ρ h w) {t : TypeId} {a v : AV} {r : R} {u x : Value} (hs : storeA P h t a v = some r) (ha : VR ρ a u) (hv : VR ρ v x) (n : Nat) :
    ∃ w', (Instr.storeAt t u x).run P w = .ok () w' ∧ r.v = .tup [] ∧ HR ρ r.h w' ∧ Fr n ρ h w ρ r.h w' := by
  unfold storeA at hs
  split at hs
  · rename_i b off
    obtain ⟨g, hg, rfl⟩ := ha
    split at hs
    · rename_i ti cs hti hcs
      obtain ⟨i, d, z, hty⟩ := tiOf_spec hti
      split at hs
      · rename_i hl h1
        split at hs
        · rename_i h' hset
          injection hs with hs; subst hs
          have hvc := VR.cells hcs hv
          obtain ⟨w', hrun, hhr, hfr⟩ := setCells_sound (P := P) hr hset h1 hg hvc n
          refine ⟨w', ?_, rfl, hhr, hfr⟩
          have hsz : x.cells.size = ti.size := by
            have := hvc.length
            have h2 := Nat.eq_of_beq_eq_true hl
            simp only [Array.length_toList] at this
            omega
          simp only [Instr.storeAt, Instr.sureAddr, storeVar, Sem.run_bind, Sem.run_pure, Result.andThen_ok, hty.run_size, hsz, ne_eq, not_true_eq_false, if_false, hrun]
        · cases hs
      · cases hs
    · cases hs
  · cases hs

theorem elemsA_sound {ρ : Ren} {h : AH} {w : World} (hr : HR ρ h w) {esz : Nat} {b off len cap : Nat} {ex : Bool} {new : List AV} (he : elemsA h esz (.sl b off len cap ex) = some new) {x : Value}
    (hx : VR ρ (.sl b off len cap ex) x) :
    ∃ g, ρ b = some g ∧ x = .slice (some ⟨g.blk, g.off + off, none⟩) len (if ex then cap else cap + g.ext) ∧ ∃ vs : List Value, vs.length = len * esz ∧ VRs ρ new vs ∧
      ∀ (j : Nat) (v : Value), vs[j]? = some v → w.cell? ((⟨g.blk, g.off + off, none⟩ : Addr).add j) = some v := by
  obtain ⟨g, hg, rfl⟩ := hx
  obtain ⟨vs, h1, h2, h3⟩ := cellsAt_sound hr he hg
  exact ⟨g, hg, rfl, vs, h1, h2, h3⟩

theorem append_types {t t2 e e2 ty : TypeId} (h : P.underlying t = some (.slice e)) (h2 : P.underlying t2 = some (.slice e2)) {a b : Value} (ha : ∃ x y z, a = .slice x y z) (w : World) :
    (Builtin.append_ #[t, t2] ty #[a, b]).run P w = (Builtin.append_ #[t, t] ty #[a, b]).run P w := by
  obtain ⟨x, y, z, rfl⟩ := ha
  simp only [Builtin.append_, List.getElem?_toArray, List.getElem?_cons_zero, List.getElem?_cons_succ, Sem.run_bind, run_underlying h, run_underlying h2, Result.andThen_ok, Sem.run_pure]

theorem small_spec {n bytes : Nat} (h : small n bytes = true) : n * bytes ≤ 140737488355328 ∧ (n : Int) ≤ 9223372036854775807 ∧ n * bytes ≤ 281474976710656 := by
  unfold small at h
  simp only [Bool.and_eq_true, Nat.ble_eq] at h
  obtain ⟨h1, h2⟩ := h
  refine ⟨by omega, by omega, by omega⟩

/-- A row that has grown: what it holds. -/
theorem grown_BR {ρ : Ren} {cs : List AV} {vs : List Value} (hv : VRs ρ cs vs) {w : World} {g elem esz : Nat} {zs : Array Value} {k : Nat} (hz : zs.size = k * esz)
    (hg : w.heap[g]? = some (.cells (vs.toArray ++ zs) elem (0, 0))) : BR ρ ⟨g, 0, k⟩ (blkOf cs elem esz) w := by
  refine ⟨vs.toArray ++ zs, hg, by simp [hv.length, hz], fun i hi => ?_⟩
  simp only at hi
  obtain ⟨v, hvv, hr⟩ := hv.get i _ (List.getElem?_eq_getElem hi)
  have hlt : i < vs.length := by rw [← hv.length]; exact hi
  refine ⟨v, ?_, ?_⟩
  · simp only [Nat.zero_add]
    rw [Array.getElem?_append_left (by simpa using hlt)]
    simpa using hvv
  · have : (Sto.tr Tr.lf (listFn cs)).get i = cs[i] := by
      simp only [Sto.get, Tr.get_lf]
      exact listFn_get cs i _ (List.getElem?_eq_getElem hi)
    rw [this]; exact hr

theorem HR.next_lt {ρ : Ren} {h : AH} {w : World} (hr : HR ρ h w) {b : Nat} (hb : ρ b ≠ none) : b < h.next := by
  rcases Nat.lt_or_ge b h.next with h1 | h1
  · exact h1
  · exact absurd (hr.fresh b h1) hb

/-- A slice in new memory. -/
theorem grow_sound {ρ : Ren} {h : AH} {w : World} (hr : HR ρ h w) {cs : List AV} {vs : List Value} (hv : VRs ρ cs vs) {e esz m cap : Nat} {zs : Array Value} (hz : zs.size = (cap - m) * esz) (hm : m ≤ cap) :
    ∃ ρ', VR ρ' (.sl h.next 0 m m false) (.slice (some ⟨w.heap.size, 0, none⟩) m cap) ∧ HR ρ' (newCells h cs e esz) (w.drew.alloc (.cells (vs.toArray ++ zs) e)) ∧
      Fr h.next ρ h w ρ' (newCells h cs e esz) (w.drew.alloc (.cells (vs.toArray ++ zs) e)) := by
  have hn : ρ h.next = none := hr.fresh _ (Nat.le_refl _)
  have hr1 : HR ρ (newCells h cs e esz) w.drew := (hr.push _).of_heap rfl
  have hnew := heap_alloc_new w.drew (.cells (vs.toArray ++ zs) e)
  have hget : (newCells h cs e esz).get h.next = blkOf cs e esz := by unfold newCells; rw [AH.get_push, if_pos rfl]
  refine ⟨updR ρ h.next ⟨w.heap.size, 0, cap - m⟩, ⟨⟨w.heap.size, 0, cap - m⟩, by simp [updR], ?_⟩, ?_, ?_⟩
  · simp; omega
  · refine (hr1.grow _).bind (by simp [newCells, AH.push]) hn (by simp) ?_ fun b' g' hg' he => ?_
    · rw [hget]; exact grown_BR (hv.mono (updR_ext hn)) hz hnew
    · have := hr1.lt b' g' hg'; simp only at he; simp at this; omega
  · have f1 : Fr h.next ρ h w ρ h w.drew := Fr.of_heap rfl rfl rfl rfl
    refine f1.trans (Fr.alloc (e := cap - m) hn (fun x hx => ?_) (by simp [newCells, AH.push]) (Nat.le_refl _)) (Nat.le_refl _)
    unfold newCells
    rw [AH.get_push, if_neg]
    intro e'; subst e'; exact hx hn

theorem append_sound {ρ : Ren} {h : AH} {w : World} (hr : HR ρ h w) {t t2 ty : TypeId} {s x : AV} {r : R} {sv xv : Value} (ha : appendA P h t t2 s x = some r) (hs : VR ρ s sv) (hx : VR ρ x xv) :
    ∃ ρ' w' u, (Builtin.append_ #[t, t2] ty #[sv, xv]).run P w = .ok u w' ∧ VR ρ' r.v u ∧ HR ρ' r.h w' ∧ Fr h.next ρ h w ρ' r.h w' := by
  unfold appendA at ha
  split at ha
  · rename_i e esz bytes e2 esz2 bytes2 hk1 hk2
    obtain ⟨ti1, i1, d1, z1, hty1, ek1⟩ := kindOf_spec hk1
    obtain ⟨ti2, i2, d2, z2, hty2, ek2⟩ := kindOf_spec hk2
    obtain ⟨rfl, ie, hie, hse, hby⟩ := tk_slice (ek1 ▸ hty1.kind)
    obtain ⟨rfl, _⟩ := tk_slice (ek2 ▸ hty2.kind)
    have hsl : ∃ x y z, sv = .slice x y z := by
      have : s = .sl0 ∨ ∃ b o l c x, s = .sl b o l c x := by
        cases s with
        | sl0 => exact .inl rfl
        | sl b o l c x => exact .inr ⟨b, o, l, c, x, rfl⟩
        | _ =>
          exfalso
          split at ha
          · cases ha
          · cases ha
          · split at ha
            · split at ha <;> cases ha
            · cases ha
      rcases this with rfl | ⟨b, o, l, c, x, rfl⟩
      · simp only [VR] at hs; exact ⟨_, _, _, hs⟩
      · obtain ⟨g, _, hs⟩ := hs; exact ⟨_, _, _, hs⟩
    rw [append_types hty1.und hty2.und hsl]
    split at ha
    · cases ha
    · rename_i hl
      have hx0 : ∃ a c, xv = .slice a 0 c ∧ ∀ w, (Builtin.firstCells ie.size 0 xv).run P w = .ok #[] w := by
        unfold lenOfA at hl
        split at hl
        · simp only [VR] at hx; subst hx; exact ⟨none, 0, rfl, fun w => by simp [Builtin.firstCells]⟩
        · injection hl with hl; subst hl
          obtain ⟨g, hg, rfl⟩ := hx; exact ⟨_, _, rfl, fun w => by simp [Builtin.firstCells, loadCells, loadCellsFrom]⟩
        · cases hl
      obtain ⟨xa, xc, rfl, hfc⟩ := hx0
      split at ha
      · injection ha with ha; subst ha
        simp only [VR] at hs; subst hs
        refine ⟨ρ, w, .slice none 0 0, ?_, rfl, hr, Fr.refl _ _ _ _⟩
        simp [Builtin.append_, run_underlying hty1.und, sizeOf, typeInfo, hie, Builtin.lenOf, hfc]
      · split at ha
        · rename_i b off len cap ex _ hle
          injection ha with ha; subst ha
          obtain ⟨g, hg, rfl⟩ := hs
          have hle' : len ≤ cap := by simpa [Nat.ble_eq] using hle
          have hle2 : len ≤ (if ex = true then cap else cap + g.ext) := by split <;> omega
          refine ⟨ρ, w, _, ?_, ⟨g, hg, rfl⟩, hr, Fr.refl _ _ _ _⟩
          simp [Builtin.append_, run_underlying hty1.und, sizeOf, typeInfo, hie, Builtin.lenOf, hfc, hle2, storeCells]
        · cases ha
      · cases ha
    · rename_i m' hl
      split at ha
      · rename_i new z hnew hz
        split at ha
        · cases ha
        · rename_i hchk
          simp only [Bool.and_eq_true, Nat.blt_eq, Nat.beq_eq] at hchk
          obtain ⟨⟨hpos, hzl⟩, hone⟩ := hchk
          unfold zeroOf at hz
          split at hz
          · rename_i te hte
            obtain ⟨ie2, de, ze, htye⟩ := tiOf_spec hte
            have hie2 : ie2 = ie := by have := htye.info; rw [hie] at this; injection this with this; exact this.symm
            subst hie2
            have hzc : ze.cells.size = esz := by
              have := (VR.cells hz (htye.zeroR ρ)).length
              simp only [Array.length_toList] at this
              omega
            cases x with
            | sl xb xoff xlen xcap xex =>
              simp only [lenOfA] at hl
              injection hl with hl; subst hl
              obtain ⟨xg, hxg, rfl, vs, hvl, hvs, hvc⟩ := elemsA_sound hr hnew hx
              split at ha
              · simp only [VR] at hs; subst hs
                split at ha
                · rename_i hsm
                  injection ha with ha; subst ha
                  obtain ⟨s1, s2, s3⟩ := small_spec hsm
                  have hrun := run_append_nil (P := P) w t ty e ie2 ze hty1.und hie htye.zero ⟨xg.blk, xg.off + xoff, none⟩ (m' + 1) (if xex = true then xcap else xcap + xg.ext) vs (by rw [hvl, hse]) hvc (by omega) s2 (by rw [hby]; exact s3)
                  have hge := grownCap_ge w (m' + 1) 0 e
                  obtain ⟨ρ', a1, a2, a3⟩ := grow_sound (e := e) hr hvs (m := m' + 1) (cap := grownCap w (m' + 1) 0 e) (zs := Builtin.zeroCells ze.cells (grownCap w (m' + 1) 0 e - (m' + 1))) (by rw [size_zeroCells, hzc]) hge
                  exact ⟨ρ', _, _, hrun, a1, a2, a3⟩
                · cases ha
              · rename_i b off len cap ex
                obtain ⟨g, hg, rfl⟩ := hs
                have hinplace : ∀ (w' : World) (cp : Nat), len + (m' + 1) ≤ cp → (storeCells ⟨g.blk, g.off + (off + len * esz), none⟩ vs).run P w = .ok () w' →
                    (Builtin.append_ #[t, t] ty #[.slice (some ⟨g.blk, g.off + off, none⟩) len cp, .slice (some ⟨xg.blk, xg.off + xoff, none⟩) (m' + 1) (if xex = true then xcap else xcap + xg.ext)]).run P w =
                      .ok (.slice (some ⟨g.blk, g.off + off, none⟩) (len + (m' + 1)) cp) w' := by
                  intro w' cp hcp hst
                  have hf := run_firstCells_some (P := P) w ie2.size (m' + 1) ⟨xg.blk, xg.off + xoff, none⟩ (m' + 1) (if xex = true then xcap else xcap + xg.ext) vs (by rw [hvl, hse]) hvc
                  rw [← Nat.add_assoc, ← add_none, ← hse] at hst
                  simp only [Builtin.append_, Sem.run_bind, run_underlying hty1.und, Result.andThen_ok, List.getElem?_toArray, List.getElem?_cons_zero, List.getElem?_cons_succ, sizeOf, typeInfo, run_program, hie, Sem.run_pure,
                    Bool.false_eq_true, if_false, Builtin.lenOf, hcp, if_true, Bool.not_false, hf, hst]
                have hgrow : ∀ (cp : Nat) (old : List AV) (olds : List Value), cp < len + (m' + 1) → small (len + (m' + 1)) bytes = true → olds.length = len * esz →
                    (∀ (j : Nat) (v : Value), olds[j]? = some v → w.cell? ((⟨g.blk, g.off + off, none⟩ : Addr).add j) = some v) →
                    (Builtin.append_ #[t, t] ty #[.slice (some ⟨g.blk, g.off + off, none⟩) len cp, .slice (some ⟨xg.blk, xg.off + xoff, none⟩) (m' + 1) (if xex = true then xcap else xcap + xg.ext)]).run P w =
                      .ok (.slice (some ⟨w.heap.size, 0, none⟩) (len + (m' + 1)) (grownCap w (len + (m' + 1)) cp e))
                        (w.drew.alloc (.cells ((olds ++ vs).toArray ++ Builtin.zeroCells ze.cells (grownCap w (len + (m' + 1)) cp e - (len + (m' + 1)))) e)) := by
                  intro cp old olds hcp hsm hol hoc
                  obtain ⟨s1, s2, s3⟩ := small_spec hsm
                  have := run_append_grow (P := P) w t ty e ie2 ze hty1.und hie htye.zero ⟨g.blk, g.off + off, none⟩ len cp olds (by rw [hol, hse]) hoc ⟨xg.blk, xg.off + xoff, none⟩ (m' + 1)
                    (if xex = true then xcap else xcap + xg.ext) vs (by rw [hvl, hse]) hvc hcp s2 (growslice_fits hcp (by rw [hby]; exact s1))
                  rw [this]
                  simp
                split at ha
                · rename_i hroom
                  have hroom' : len + (m' + 1) ≤ cap := by simpa [Nat.ble_eq] using hroom
                  split at ha
                  · rename_i h' hset
                    injection ha with ha; subst ha
                    obtain ⟨w', hst, hhr, hfr⟩ := setCells_sound (P := P) hr hset hone hg hvs h.next
                    refine ⟨ρ, w', _, hinplace w' _ (by split <;> omega) hst, ⟨g, hg, rfl⟩, hhr, hfr⟩
                  · cases ha
                · rename_i hroom
                  have hroom' : cap < len + (m' + 1) := by
                    rcases Nat.lt_or_ge cap (len + (m' + 1)) with h1 | h1
                    · exact h1
                    · have : Nat.ble (len + (m' + 1)) cap = true := by rw [Nat.ble_eq]; exact h1
                      rw [this] at hroom; cases hroom
                  split at ha
                  · rename_i old hsm hold
                    obtain ⟨olds, hol, hovr, hoc⟩ := cellsAt_sound hr hold hg
                    split at ha
                    · injection ha with ha; subst ha
                      have hrun := hgrow cap old olds hroom' hsm hol hoc
                      have hge := grownCap_ge w (len + (m' + 1)) cap e
                      obtain ⟨ρ', a1, a2, a3⟩ := grow_sound (e := e) hr (hovr.append hvs) (m := len + (m' + 1)) (cap := grownCap w (len + (m' + 1)) cap e) (zs := Builtin.zeroCells ze.cells (grownCap w (len + (m' + 1)) cap e - (len + (m' + 1)))) (by rw [size_zeroCells, hzc]) hge
                      exact ⟨ρ', _, _, by simpa using hrun, a1, a2, a3⟩
                    · split at ha
                      · rename_i c hget
                        split at ha
                        · rename_i hck
                          injection ha with ha; subst ha
                          simp only [Bool.and_eq_true, Nat.beq_eq, Bool.not_eq_true'] at hck
                          obtain ⟨⟨⟨q1, q2⟩, q3⟩, q4⟩ := hck
                          have hrw : (h.get b).rw = true := by rw [hget]; simp [ABlk.rw, q4]
                          have hB := hr.blk b g hg
                          rw [hget] at hB
                          unfold BR at hB
                          simp only [q4] at hB
                          obtain ⟨cur, hcur, hsz, hcells⟩ := hB
                          have hdead : ∀ b' g', ρ b' = some g' → b' ≠ b → g'.blk = g.blk → h.get b' = .dead := fun b' g' hg' hne he => by
                            rcases hr.inj b' b g' g hg' hg he hne with h1 | h1 | ⟨_, h2⟩
                            · exact h1
                            · rw [h1] at hrw; cases hrw
                            · rw [h2] at hrw; cases hrw
                          by_cases hin : len + (m' + 1) ≤ cap + g.ext
                          · have hmul : (len + (m' + 1)) * esz ≤ (cap + g.ext) * esz := Nat.mul_le_mul_right _ hin
                            rw [Nat.add_mul len (m' + 1) esz, Nat.add_mul cap g.ext esz] at hmul
                            rw [q2] at hsz
                            have hvl2 : vs.length = (m' + 1) * esz := hvl
                            have hfit : g.off + (off + len * esz) + 0 + vs.length ≤ cur.size := by omega
                            have hst := run_storeCells_at P g.blk (g.off + (off + len * esz)) c.elem vs 0 cur w hcur hfit (hvs.ones hone)
                            simp only [Nat.add_zero] at hst hfit
                            have hn : ρ h.next = none := hr.fresh _ (Nat.le_refl _)
                            have hbn : b < h.next := hr.next_lt (by rw [hg]; simp)
                            have hnb : h.next ≠ b := by omega
                            have hr1 := hr.upd (B' := .dead) (w' := w.setRow g.blk (laid cur (g.off + (off + len * esz)) vs)) hg hrw (by simp) (fun k hk => setRow_other w g.blk k _ hk) trivial
                            have hr2 := hr1.push (blkOf (old ++ new) e esz)
                            have hon := hovr.append hvs
                            have holl : (old ++ new).length = len * esz + (m' + 1) * esz := by rw [hon.length, List.length_append, hol, hvl2]
                            have hget2 : (newCells (h.put b .dead) (old ++ new) e esz).get h.next = blkOf (old ++ new) e esz := by
                              unfold newCells; rw [AH.get_push]; simp [AH.put]
                            have hgets : ∀ x, x ≠ h.next → (newCells (h.put b .dead) (old ++ new) e esz).get x = if x = b then .dead else h.get x := fun x hx => by
                              unfold newCells
                              rw [AH.get_push, if_neg (by simpa [AH.put] using hx), AH.get_put]
                            have hx1 := updR_ext (g := ⟨g.blk, g.off + off, cap + g.ext - (len + (m' + 1))⟩) hn
                            refine ⟨updR ρ h.next ⟨g.blk, g.off + off, cap + g.ext - (len + (m' + 1))⟩, w.setRow g.blk (laid cur (g.off + (off + len * esz)) vs), _, hinplace _ (cap + g.ext) hin hst, ⟨_, by simp [updR]; rfl, ?_⟩, ?_, ?_⟩
                            · simp; omega
                            · refine hr2.bind (by simp [AH.push, AH.put]) hn (by simp; exact hr.lt b g hg) ?_ fun b' g' hg' he => ?_
                              · show BR _ _ ((newCells (h.put b .dead) (old ++ new) e esz).get h.next) _
                                rw [hget2]
                                refine ⟨laid cur (g.off + (off + len * esz)) vs, ?_, ?_, fun i hi => ?_⟩
                                · rw [← q3]; exact setRow_heap w g.blk cur _ c.elem _ hcur
                                · show (laid cur (g.off + (off + len * esz)) vs).size = g.off + off + (old ++ new).length + (cap + g.ext - (len + (m' + 1))) * esz
                                  have : (cap + g.ext - (len + (m' + 1))) * esz = (cap + g.ext) * esz - (len + (m' + 1)) * esz := Nat.sub_mul _ _ _
                                  rw [this, Nat.add_mul len (m' + 1) esz, Nat.add_mul cap g.ext esz, laid_size hfit]
                                  omega
                                · simp only at hi
                                  obtain ⟨u, hu, hru⟩ := hon.get i _ (List.getElem?_eq_getElem hi)
                                  refine ⟨u, ?_, ?_⟩
                                  · show (laid cur (g.off + (off + len * esz)) vs)[g.off + off + i]? = some u
                                    rw [laid_get hfit]
                                    by_cases hlo : i < len * esz
                                    · rw [if_neg (by omega)]
                                      rw [List.getElem?_append_left (by omega)] at hu
                                      have := hoc i u hu
                                      rw [add_none, cell_of_row w _ _ cur _ _ hcur] at this
                                      exact this
                                    · rw [if_pos (by omega)]
                                      rw [List.getElem?_append_right (by omega), hol] at hu
                                      rw [show g.off + off + i - (g.off + (off + len * esz)) = i - len * esz by omega]
                                      exact hu
                                  · have : (Sto.tr Tr.lf (listFn (old ++ new))).get i = (old ++ new)[i] := by
                                      simp only [Sto.get, Tr.get_lf]
                                      exact listFn_get _ i _ (List.getElem?_eq_getElem hi)
                                    rw [this]; exact hru.mono hx1
                              · have hb'n : b' ≠ h.next := fun e' => by rw [e', hn] at hg'; cases hg'
                                refine .inl ?_
                                show (newCells (h.put b .dead) (old ++ new) e esz).get b' = .dead
                                rw [hgets b' hb'n]
                                split
                                · rfl
                                · rename_i hne; exact hdead b' g' hg' hne he
                            · refine ⟨rfl, rfl, rfl, by simp, fun k hk hno => setRow_other w g.blk k _ fun e' => ?_, fun x y hx2 hrx => ?_, fun x hx2 => by unfold updR; rw [if_neg (by omega)], by simp [newCells, AH.push, AH.put], hx1⟩
                              · have := hno b g hg e'.symm
                                rw [hrw] at this; cases this
                              · unfold updR at hx2
                                split at hx2
                                · injection hx2 with hx2; subst hx2
                                  exact .inl ⟨b, g, hg, hrw, rfl⟩
                                · rename_i hne
                                  rw [hgets x hne] at hrx
                                  split at hrx
                                  · cases hrx
                                  · exact .inl ⟨x, y, hx2, hrx, rfl⟩
                          · have hrun := hgrow (cap + g.ext) old olds (by omega) hsm hol hoc
                            have hge := grownCap_ge w (len + (m' + 1)) (cap + g.ext) e
                            have hr1 := hr.upd (B' := .dead) (w' := w) hg hrw rfl (fun _ _ => rfl) trivial
                            have hf1 := Fr.upd (w := w) (w' := w) (B' := .dead) hg hrw rfl rfl rfl rfl (fun _ _ => rfl) h.next
                            obtain ⟨ρ', a1, a2, a3⟩ := grow_sound (e := e) hr1 (hovr.append hvs) (m := len + (m' + 1)) (cap := grownCap w (len + (m' + 1)) (cap + g.ext) e) (zs := Builtin.zeroCells ze.cells (grownCap w (len + (m' + 1)) (cap + g.ext) e - (len + (m' + 1)))) (by rw [size_zeroCells, hzc]) hge
                            exact ⟨ρ', _, _, by simpa using hrun, a1, a2, hf1.trans a3 (Nat.le_refl _)⟩
                        · cases ha
                      · cases ha
                  · cases ha
              · cases ha
            | sl0 => simp [lenOfA] at hl
            | _ => simp [lenOfA] at hl
          · cases hz
      · cases ha
  · cases ha

end
end Go.Abs

/-! Soundness of what writes: copies, clears, maps; all effects together. -/
namespace Go.Abs
open Go

section
variable {P : Program}

theorem copy_sound {ρ : Ren} {h : AH} {w : World} (hr : HR ρ h w) {t ty : TypeId} {ts : List TypeId} {d s : AV} {r : R} {dv sv : Value} (ha : copyA P h t d s = some r) (hd : VR ρ d dv) (hs : VR ρ s sv) :
    ∃ w' u, (Builtin.copy_ (t :: ts).toArray ty #[dv, sv]).run P w = .ok u w' ∧ VR ρ r.v u ∧ HR ρ r.h w' ∧ Fr h.next ρ h w ρ r.h w' := by
  unfold copyA at ha
  split at ha
  · rename_i e esz bytes m n hk hm hn
    obtain ⟨ti, i, dd, z, hty, ek⟩ := kindOf_spec hk
    obtain ⟨rfl, ie, hie, hse, hby⟩ := tk_slice (ek ▸ hty.kind)
    have hd0 : ∃ a c, dv = .slice a m c := by
      unfold lenOfA at hm
      split at hm
      · injection hm with hm; subst hm; simp only [VR] at hd; exact ⟨none, 0, hd⟩
      · injection hm with hm; subst hm; obtain ⟨g, _, hd⟩ := hd; exact ⟨_, _, hd⟩
      · cases hm
    have hs0 : ∃ a c, sv = .slice a n c := by
      unfold lenOfA at hn
      split at hn
      · injection hn with hn; subst hn; simp only [VR] at hs; exact ⟨none, 0, hs⟩
      · injection hn with hn; subst hn; obtain ⟨g, _, hs⟩ := hs; exact ⟨_, _, hs⟩
      · cases hn
    split at ha
    · rename_i hmin
      injection ha with ha; subst ha
      obtain ⟨da, dc, rfl⟩ := hd0
      obtain ⟨sa, sc, rfl⟩ := hs0
      refine ⟨w, .int .i64 0, ?_, rfl, hr, Fr.refl _ _ _ _⟩
      have hmin' : n.min m = 0 := hmin
      have hf : (Builtin.firstCells ie.size 0 (.slice sa n sc)).run P w = .ok #[] w := by
        cases sa <;> simp [Builtin.firstCells, loadCells, loadCellsFrom]
      cases da <;> simp [Builtin.copy_, run_underlying hty.und, Builtin.lenOf, hmin', sizeOf, typeInfo, hie, hf, storeCells, goInt]
    · rename_i k hmin
      split at ha
      · rename_i b off dl dcap dex b' off' sl' scap sex
        split at ha
        · rename_i cs hcs
          split at ha
          · rename_i h' hset h1
            injection ha with ha; subst ha
            obtain ⟨g, hg, rfl⟩ := hd
            obtain ⟨g', hg', rfl⟩ := hs
            simp only [lenOfA] at hm hn
            injection hm with hm; subst hm
            injection hn with hn; subst hn
            obtain ⟨vs, hvl, hvs, hvc⟩ := cellsAt_sound hr hcs hg'
            obtain ⟨w', hst, hhr, hfr⟩ := setCells_sound (P := P) hr hset h1 hg hvs h.next
            refine ⟨w', .int .i64 ((k + 1 : Nat) : Int), ?_, rfl, hhr, hfr⟩
            have hmin' : sl'.min dl = k + 1 := hmin
            have hf := run_firstCells_some (P := P) w ie.size (k + 1) ⟨g'.blk, g'.off + off', none⟩ sl' (if sex = true then scap else scap + g'.ext) vs (by rw [hvl, hse]) hvc
            simp only [Builtin.copy_, Sem.run_bind, List.getElem?_toArray, List.getElem?_cons_zero, List.getElem?_cons_succ, run_underlying hty.und, Result.andThen_ok, Builtin.lenOf, Sem.run_pure, hmin', sizeOf, typeInfo, run_program, hie, hf, hst, goInt]
          · cases ha
        · cases ha
      · cases ha
  · cases ha

theorem clear_sound {ρ : Ren} {h : AH} {w : World} (hr : HR ρ h w) {t ty : TypeId} {ts : List TypeId} {x : AV} {r : R} {xv : Value} (ha : clearA P h t x = some r) (hx : VR ρ x xv) :
    ∃ w' u, (Builtin.clear_ (t :: ts).toArray ty #[xv]).run P w = .ok u w' ∧ VR ρ r.v u ∧ HR ρ r.h w' ∧ Fr h.next ρ h w ρ r.h w' := by
  unfold clearA at ha
  split at ha
  · rename_i e esz bytes b off len cap ex hk
    obtain ⟨ti, i, dd, z, hty, ek⟩ := kindOf_spec hk
    obtain ⟨rfl, ie, hie, hse, hby⟩ := tk_slice (ek ▸ hty.kind)
    obtain ⟨g, hg, rfl⟩ := hx
    split at ha
    · injection ha with ha; subst ha
      refine ⟨w, .tuple #[], ?_, ⟨[], rfl, rfl⟩, hr, Fr.refl _ _ _ _⟩
      simp [Builtin.clear_, run_underlying hty.und]
    · rename_i n zc hz
      split at ha
      · rename_i hl h1
        split at ha
        · rename_i h' hset
          injection ha with ha; subst ha
          unfold zeroOf at hz
          split at hz
          · rename_i te hte
            obtain ⟨ie2, de, ze, htye⟩ := tiOf_spec hte
            have hie2 : ie2 = ie := by have := htye.info; rw [hie] at this; injection this with this; exact this.symm
            subst hie2
            have hzr := VR.cells hz (htye.zeroR ρ)
            have hzl := hzr.length
            simp only [Array.length_toList] at hzl
            have hl' := Nat.eq_of_beq_eq_true hl
            by_cases hpos : 0 < zc.length
            · have hrep := reps_VRs hzr hpos (n + 1)
              have hone : allOne (reps zc (n + 1)) = true := by
                have : ∀ k, allOne (reps zc k) = true := by
                  have app : ∀ (a b : List AV), allOne a = true → allOne b = true → allOne (a ++ b) = true := by
                    intro a
                    induction a with
                    | nil => intro b _ h2; exact h2
                    | cons x a ih =>
                      intro b h1 h2
                      simp only [allOne] at h1
                      simp only [List.cons_append, allOne]
                      split at h1
                      · exact ih b h1 h2
                      · cases h1
                  intro k
                  induction k with
                  | zero => rfl
                  | succ k ih => exact app _ _ h1 ih
                exact this _
              obtain ⟨w', hst, hhr, hfr⟩ := setCells_sound (P := P) hr hset hone hg hrep h.next
              refine ⟨w', .tuple #[], ?_, ⟨[], rfl, rfl⟩, hhr, hfr⟩
              have hzc : (Builtin.zeroCells ze.cells (n + 1)).toList = ((Array.range ((n + 1) * ze.cells.size)).map (ze.cells[· % ze.cells.size]!)).toList := rfl
              rw [← hzc] at hst
              simp [Builtin.clear_, run_underlying hty.und, htye.run_zero, hst]
            · have h0 : zc = [] := List.eq_nil_of_length_eq_zero (by omega)
              subst h0
              have hrz : ∀ k, reps ([] : List AV) k = [] := fun k => by induction k with | zero => rfl | succ k ih => simp [reps, ih]
              rw [hrz] at hset
              obtain ⟨w', hst, hhr, hfr⟩ := setCells_sound (P := P) hr hset rfl hg (VRs.nil) h.next
              refine ⟨w', .tuple #[], ?_, ⟨[], rfl, rfl⟩, hhr, hfr⟩
              have hsz : ze.cells.size = 0 := by simpa using hzl.symm
              have hzc : (Builtin.zeroCells ze.cells (n + 1)).toList = [] := by
                apply List.eq_nil_of_length_eq_zero
                simp [Builtin.zeroCells, hsz]
              simp [Builtin.clear_, run_underlying hty.und, htye.run_zero, hzc, hst]
          · cases hz
        · cases ha
      · cases ha
    · cases ha
  · rename_i hk
    obtain ⟨ti, i, dd, z, hty, ek⟩ := kindOf_spec hk
    obtain ⟨rfl, ie, hie, hse, hby⟩ := tk_slice (ek ▸ hty.kind)
    injection ha with ha; subst ha
    simp only [VR] at hx; subst hx
    refine ⟨w, .tuple #[], ?_, ⟨[], rfl, rfl⟩, hr, Fr.refl _ _ _ _⟩
    simp [Builtin.clear_, run_underlying hty.und]
  · cases ha

/-- A map's block is laid anew. -/
def setBlock (w : World) (r : Nat) (o : Obj) : World := { w with heap := w.heap.setIfInBounds r o }

theorem run_setObj_map {w : World} {r : Nat} {ces : Array MapEntry} {clock : Nat} (h : w.heap[r]? = some (.map ces clock)) (o : Obj) : (setObj r o).run P w = .ok () (setBlock w r o) := by
  simp [setObj, Sem.run, h, setBlock]

theorem map_upd {ρ : Ren} {h : AH} {w : World} (hr : HR ρ h w) {b : Nat} {es es' : List (AV × AV)} (hget : h.get b = .map es) {g : Pl} (hg : ρ b = some g) {ces ces' : Array MapEntry} {clock clock' : Nat}
    (hheap : w.heap[g.blk]? = some (.map ces clock)) (hm : MR ρ es' ces'.toList) (n : Nat) :
    HR ρ (h.put b (.map es')) (setBlock w g.blk (.map ces' clock')) ∧ Fr n ρ h w ρ (h.put b (.map es')) (setBlock w g.blk (.map ces' clock')) := by
  have hlt : g.blk < w.heap.size := (Array.getElem?_eq_some_iff.1 hheap).1
  have hrw : (h.get b).rw = true := by rw [hget]; rfl
  have hother : ∀ c, c ≠ g.blk → (setBlock w g.blk (.map ces' clock')).heap[c]? = w.heap[c]? := fun c hc => by
    simp only [setBlock]; rw [Array.getElem?_setIfInBounds_ne (Ne.symm hc)]
  refine ⟨hr.upd hg hrw (by simp [setBlock]) hother ⟨ces', clock', by simp [setBlock, hlt], hm⟩, ?_⟩
  exact Fr.upd (w := w) (w' := setBlock w g.blk (.map ces' clock')) hg hrw rfl rfl rfl (by simp [setBlock]) hother n

theorem mapUpdate_sound {ρ : Ren} {h : AH} {w : World} (hr : HR ρ h w) {t : TypeId} {m k v : AV} {r : R} {mv kv vv : Value} (ha : mapUpdateA P h t m k v = some r) (hm : VR ρ m mv) (hk : VR ρ k kv) (hv : VR ρ v vv) :
    ∃ w', (Instr.mapUpdate t mv kv vv).run P w = .ok () w' ∧ r.v = .tup [] ∧ HR ρ r.h w' ∧ Fr h.next ρ h w ρ r.h w' := by
  unfold mapUpdateA at ha
  split at ha
  · rename_i kt et hkd
    obtain ⟨ti, i, d, z, hty, e0⟩ := kindOf_spec hkd
    have := tk_map (e0 ▸ hty.kind); subst this
    split at ha
    · rename_i b hfit
      obtain ⟨g, hg, rfl⟩ := hm
      split at ha
      · rename_i es hget
        obtain ⟨ces, clock, hheap, hmr⟩ := MR_of hr hget hg
        have hob := run_getObj_map (P := P) hheap
        have hck := checkKey_sound (P := P) hfit hk false w
        unfold updA at ha
        split at ha
        · rename_i es' hes
          injection ha with ha; subst ha
          split at hes
          · rename_i j hj
            injection hes with hes; subst hes
            obtain ⟨hf, hsame⟩ := findKey_sound (P := P) hfit hk hj hmr w
            obtain ⟨ce, hce, hsb⟩ := hsame j rfl
            simp only [hit, hce, Option.map_some, Nat.zero_add] at hf
            have hce' : ces[j]? = some ce := by simpa using hce
            have hupd := map_upd hr hget hg (ces' := ces.modify j fun e => { e with key := kv, val := vv }) (clock' := clock) hheap
              (by simpa using hmr.set (f := fun e => { e with key := kv, val := vv }) (fun e => ⟨hk, hv⟩) j) h.next
            refine ⟨_, ?_, rfl, hupd.1, hupd.2⟩
            simp only [Instr.mapUpdate, Sem.run_bind, run_underlying hty.und, Result.andThen_ok, hob, hck, hf, hce', Option.map_some, Option.getD_some, Instr.keyThatStays, hsb, if_true, Sem.run_pure, run_setObj_map (P := P) hheap]
          · rename_i hj
            injection hes with hes; subst hes
            obtain ⟨hf, _⟩ := findKey_sound (P := P) hfit hk hj hmr w
            simp only [hit] at hf
            have hupd := map_upd hr hget hg (ces' := ces.push { key := kv, val := vv, born := clock }) (clock' := clock + 1) hheap
              (by simpa using MR.push (e := { key := kv, val := vv, born := clock }) hk hv hmr) h.next
            refine ⟨_, ?_, rfl, hupd.1, hupd.2⟩
            simp only [Instr.mapUpdate, Sem.run_bind, run_underlying hty.und, Result.andThen_ok, hob, hck, hf, run_setObj_map (P := P) hheap]
          · cases hes
        · cases ha
      · cases ha
    · cases ha
  · cases ha

theorem delete_sound {ρ : Ren} {h : AH} {w : World} (hr : HR ρ h w) {t ty : TypeId} {ts : List TypeId} {m k : AV} {r : R} {mv kv : Value} (ha : deleteA P h t m k = some r) (hm : VR ρ m mv) (hk : VR ρ k kv) :
    ∃ w' u, (Builtin.delete_ (t :: ts).toArray ty #[mv, kv]).run P w = .ok u w' ∧ VR ρ r.v u ∧ HR ρ r.h w' ∧ Fr h.next ρ h w ρ r.h w' := by
  unfold deleteA at ha
  split at ha
  · rename_i kt et hkd
    obtain ⟨ti, i, d, z, hty, e0⟩ := kindOf_spec hkd
    have := tk_map (e0 ▸ hty.kind); subst this
    split at ha
    · rename_i hfit
      injection ha with ha; subst ha
      simp only [VR] at hm; subst hm
      have hck := checkKey_sound (P := P) hfit hk true w
      refine ⟨w, .tuple #[], ?_, ⟨[], rfl, rfl⟩, hr, Fr.refl _ _ _ _⟩
      simp [Builtin.delete_, run_underlying hty.und, hck]
    · rename_i b hfit
      obtain ⟨g, hg, rfl⟩ := hm
      split at ha
      · rename_i es hget
        obtain ⟨ces, clock, hheap, hmr⟩ := MR_of hr hget hg
        have hob := run_getObj_map (P := P) hheap
        have hck := fun em => checkKey_sound (P := P) hfit hk em w
        unfold delA at ha
        split at ha
        · rename_i es' hes
          injection ha with ha; subst ha
          split at hes
          · rename_i j hj
            injection hes with hes; subst hes
            obtain ⟨hf, hsame⟩ := findKey_sound (P := P) hfit hk hj hmr w
            obtain ⟨ce, hce, hsb⟩ := hsame j rfl
            simp only [hit, hce, Option.map_some, Nat.zero_add] at hf
            have hupd := map_upd hr hget hg (ces' := ces.eraseIdxIfInBounds j) (clock' := clock) hheap (by simpa [Array.toList_eraseIdxIfInBounds] using hmr.erase j) h.next
            refine ⟨_, .tuple #[], ?_, ⟨[], rfl, rfl⟩, hupd.1, hupd.2⟩
            simp only [Builtin.delete_, List.getElem?_toArray, List.getElem?_cons_zero, List.getElem?_cons_succ, Sem.run_bind, run_underlying hty.und, Result.andThen_ok, hob, hck, hf, run_setObj_map (P := P) hheap, Sem.run_pure]
          · rename_i hj
            injection hes with hes; subst hes
            obtain ⟨hf, _⟩ := findKey_sound (P := P) hfit hk hj hmr w
            simp only [hit] at hf
            have hupd := map_upd hr hget hg (ces' := ces) (clock' := clock) hheap hmr h.next
            refine ⟨_, .tuple #[], ?_, ⟨[], rfl, rfl⟩, hupd.1, hupd.2⟩
            simp only [Builtin.delete_, List.getElem?_toArray, List.getElem?_cons_zero, List.getElem?_cons_succ, Sem.run_bind, run_underlying hty.und, Result.andThen_ok, hob, hck, hf, run_setObj_map (P := P) hheap, Sem.run_pure]
          · cases hes
        · cases ha
      · cases ha
    · cases ha
  · cases ha

/-- All effects that are no calls. -/
theorem effA_sound {ρ : Ren} {env : Env} {ev : Operand → Value} (he : EnvR ρ env ev) {h : AH} {w : World} (hr : HR ρ h w) {o : Oper} (hc : cls o.op = .eff) {r : R} (ha : effA P env h o.op = some (.val r)) :
    ∃ ρ' w' u, ((execOp ev o).run P w = .ok (.value u) w' ∨ ((execOp ev o).run P w = .ok .skip w' ∧ u = undef)) ∧ VR ρ' r.v u ∧ HR ρ' r.h w' ∧ Fr h.next ρ h w ρ' r.h w' := by
  obtain ⟨dst, op, type, pos, after, guard⟩ := o
  simp only at hc ha ⊢
  cases op <;> simp only [cls] at hc <;> first | (cases hc; done) | skip
  case store t a x =>
    simp only [effA, on2, valO] at ha
    split at ha
    · rename_i v hv
      split at ha
      · rename_i u hu
        split at ha
        · rename_i r' hr'
          injection ha with ha; injection ha with ha; subst ha
          obtain ⟨w', hrun, hrv, hhr, hfr⟩ := store_sound (P := P) hr hr' (he a v hv) (he x u hu) h.next
          refine ⟨ρ, w', undef, .inr ⟨?_, rfl⟩, by rw [hrv]; exact ⟨[], rfl, rfl⟩, hhr, hfr⟩
          simp only [execOp, Sem.run_bind, hrun, Result.andThen_ok, Sem.run_pure]
        · cases ha
      · cases ha
    · cases ha
  case mapUpdate t m k x =>
    simp only [effA, on2, on1, valO] at ha
    split at ha
    · rename_i v hv
      split at ha
      · rename_i u hu
        split at ha
        · rename_i y hy
          split at ha
          · rename_i r' hr'
            injection ha with ha; injection ha with ha; subst ha
            obtain ⟨w', hrun, hrv, hhr, hfr⟩ := mapUpdate_sound (P := P) hr hr' (he m v hv) (he k u hu) (he x y hy)
            refine ⟨ρ, w', undef, .inr ⟨?_, rfl⟩, by rw [hrv]; exact ⟨[], rfl, rfl⟩, hhr, hfr⟩
            simp only [execOp, Sem.run_bind, hrun, Result.andThen_ok, Sem.run_pure]
          · cases ha
        · cases ha
      · cases ha
    · cases ha
  case call c =>
    obtain ⟨callee, args, argTypes⟩ := c
    simp only at hc ha ⊢
    simp only [effA] at ha
    split at ha
    · rename_i bi
      split at ha
      · rename_i o0 t t2 s x e1 e2
        simp only [valO] at ha
        split at ha
        · rename_i r' hr'
          injection ha with ha; injection ha with ha; subst ha
          obtain ⟨sv, rest, hus, hsv, hrest⟩ := evs_sound he e2
          obtain ⟨xv, rest2, rfl, hxv, hnil⟩ := hrest
          simp only [VRs] at hnil; subst hnil
          obtain ⟨ρ', w', u, hrun, h1, h2, h3⟩ := append_sound (P := P) (ty := type) hr hr' hsv hxv
          refine ⟨ρ', w', u, .inl ?_, h1, h2, h3⟩
          have haa : args.map ev = #[sv, xv] := by apply Array.ext'; simpa using hus
          have ht : argTypes = #[t, t2] := by apply Array.ext'; simpa using e1
          simp only [execOp, resolve, Sem.run_bind, Sem.run_pure, Result.andThen_ok, invoke, builtin, haa, ht, hrun]
        · cases ha
      · rename_i o0 t ts d s e1 e2
        simp only [valO] at ha
        split at ha
        · rename_i r' hr'
          injection ha with ha; injection ha with ha; subst ha
          obtain ⟨dv, rest, hus, hdv, hrest⟩ := evs_sound he e2
          obtain ⟨sv, rest2, rfl, hsv, hnil⟩ := hrest
          simp only [VRs] at hnil; subst hnil
          obtain ⟨w', u, hrun, h1, h2, h3⟩ := copy_sound (P := P) (ts := ts) (ty := type) hr hr' hdv hsv
          refine ⟨ρ, w', u, .inl ?_, h1, h2, h3⟩
          have haa : args.map ev = #[dv, sv] := by apply Array.ext'; simpa using hus
          have ht : argTypes = (t :: ts).toArray := by apply Array.ext'; simpa using e1
          simp only [execOp, resolve, Sem.run_bind, Sem.run_pure, Result.andThen_ok, invoke, builtin, haa, ht, hrun]
        · cases ha
      · rename_i o0 t ts m k e1 e2
        simp only [valO] at ha
        split at ha
        · rename_i r' hr'
          injection ha with ha; injection ha with ha; subst ha
          obtain ⟨mv, rest, hus, hmv, hrest⟩ := evs_sound he e2
          obtain ⟨kv, rest2, rfl, hkv, hnil⟩ := hrest
          simp only [VRs] at hnil; subst hnil
          obtain ⟨w', u, hrun, h1, h2, h3⟩ := delete_sound (P := P) (ts := ts) (ty := type) hr hr' hmv hkv
          refine ⟨ρ, w', u, .inl ?_, h1, h2, h3⟩
          have haa : args.map ev = #[mv, kv] := by apply Array.ext'; simpa using hus
          have ht : argTypes = (t :: ts).toArray := by apply Array.ext'; simpa using e1
          simp only [execOp, resolve, Sem.run_bind, Sem.run_pure, Result.andThen_ok, invoke, builtin, haa, ht, hrun]
        · cases ha
      · rename_i o0 t ts x e1 e2
        simp only [valO] at ha
        split at ha
        · rename_i r' hr'
          injection ha with ha; injection ha with ha; subst ha
          obtain ⟨xv, rest, hus, hxv, hnil⟩ := evs_sound he e2
          simp only [VRs] at hnil; subst hnil
          obtain ⟨w', u, hrun, h1, h2, h3⟩ := clear_sound (P := P) (ts := ts) (ty := type) hr hr' hxv
          refine ⟨ρ, w', u, .inl ?_, h1, h2, h3⟩
          have haa : args.map ev = #[xv] := by apply Array.ext'; simpa using hus
          have ht : argTypes = (t :: ts).toArray := by apply Array.ext'; simpa using e1
          simp only [execOp, resolve, Sem.run_bind, Sem.run_pure, Result.andThen_ok, invoke, builtin, haa, ht, hrun]
        · cases ha
      · cases ha
    · split at ha
      · split at ha
        · injection ha with ha; cases ha
        · cases ha
      · cases ha
    · cases ha

/-- A call: which function, with which arguments. -/
theorem effA_call {ρ : Ren} {env : Env} {ev : Operand → Value} (he : EnvR ρ env ev) {h : AH} {o : Oper} {f : Nat} {args : List AV} (ha : effA P env h o.op = some (.call f args))
    (hf : ∀ (args : Array Value) (w : World), (callFunc f args).run P w = .ok (.enter f args) w) :
    ∃ vs : List Value, VRs ρ args vs ∧ ∀ w, (execOp ev o).run P w = .ok (.enter f vs.toArray) w := by
  obtain ⟨dst, op, type, pos, after, guard⟩ := o
  simp only at ha ⊢
  cases op <;> simp only [effA] at ha <;> first | (cases ha; done) | skip
  case store t a x =>
    simp only [on2, valO] at ha
    split at ha
    · split at ha
      · split at ha
        · injection ha with ha; cases ha
        · cases ha
      · cases ha
    · cases ha
  case mapUpdate t m k x =>
    simp only [on2, on1, valO] at ha
    split at ha
    · split at ha
      · split at ha
        · split at ha
          · injection ha with ha; cases ha
          · cases ha
        · cases ha
      · cases ha
    · cases ha
  case call c =>
    obtain ⟨callee, cargs, argTypes⟩ := c
    simp only at ha
    split at ha
    · split at ha <;> first | (cases ha; done) | skip
      all_goals
        simp only [valO] at ha
        split at ha
        · injection ha with ha; cases ha
        · cases ha
    · rename_i fo
      split at ha
      · rename_i f' first cap hfv
        split at ha
        · rename_i vs hvs
          injection ha with ha; injection ha with ha1 ha2; subst ha1 ha2
          obtain ⟨as, bs, hv, h1, h2⟩ := he fo _ hfv
          have h3 := evs_sound he hvs
          refine ⟨as ++ cargs.toList.map ev ++ bs, (h1.append h3).append h2, fun w => ?_⟩
          have harr : as.toArray ++ cargs.map ev ++ bs.toArray = (as ++ cargs.toList.map ev ++ bs).toArray := by apply Array.ext'; simp
          simp only [execOp, resolve, hv, Deferred.ofValue, Sem.run_bind, Sem.run_pure, Result.andThen_ok, invoke, hf, harr]
        · cases ha
      · cases ha
    · cases ha

end
end Go.Abs

/-! Soundness: one operation; regions in the order of the text. -/
namespace Go.Abs
open Go

def GlobR (gs : Nat → Option Nat) (ρ : Ren) : Prop := ∀ g b, gs g = some b → ρ b = some ⟨g, 0, 0⟩

theorem GlobR.ext {gs : Nat → Option Nat} {ρ ρ' : Ren} (h : GlobR gs ρ) (hx : Ext ρ ρ') : GlobR gs ρ' := fun g b e => hx _ _ (h g b e)

structure TmpR (ρ : Ren) (T : Nat → Option AV) (n : Nat) (a : Act) : Prop where
  val : ∀ i v, T i = some v → ∃ u, a.tmps[i]? = some u ∧ VR ρ v u
  size : a.tmps.size = n
  dfr : a.defers = []

def updT (T : Nat → Option AV) (d : Option Tmp) (v : AV) : Nat → Option AV := match d with
  | none => T
  | some i => fun j => if j = i then some v else T j

theorem TmpR.ext {ρ ρ' : Ren} {T : Nat → Option AV} {n : Nat} {a : Act} (h : TmpR ρ T n a) (hx : Ext ρ ρ') : TmpR ρ' T n a :=
  ⟨fun i v hv => let ⟨u, hu, hr⟩ := h.val i v hv; ⟨u, hu, hr.mono hx⟩, h.size, h.dfr⟩

theorem TmpR.put {ρ : Ren} {T : Nat → Option AV} {n : Nat} {a : Act} (h : TmpR ρ T n a) {d : Option Tmp} (hd : ∀ i, d = some i → i < n) {v : AV} {u : Value} (hv : VR ρ v u) :
    TmpR ρ (updT T d v) n (a.put d u) := by
  cases d with
  | none => exact h
  | some i =>
    have hi := hd i rfl
    refine ⟨fun j x hx => ?_, by simp [Act.put, h.size], h.dfr⟩
    simp only [updT] at hx
    simp only [Act.put]
    split at hx
    · rename_i e; subst e
      injection hx with hx; subst hx
      exact ⟨u, by simp [h.size, hi], hv⟩
    · rename_i e
      rw [Array.getElem?_setIfInBounds_ne (Ne.symm e)]
      exact h.val j x hx

theorem envR {gs : Nat → Option Nat} {ρ : Ren} {T : Nat → Option AV} {n : Nat} {a : Act} (hg : GlobR gs ρ) (ht : TmpR ρ T n a) : EnvR ρ (globF gs T) a.eval := by
  intro x v hx
  cases x with
  | tmp t =>
    obtain ⟨u, hu, hr⟩ := ht.val t v hx
    simp only [Act.eval]
    rw [Array.getD_eq_getD_getElem?, hu]
    exact hr
  | const c => exact ofVA_sound hx ρ
  | global g =>
    simp only [globF] at hx
    split at hx
    · rename_i b hb
      injection hx with hx; subst hx
      exact ⟨_, hg g b hb, rfl⟩
    · cases hx
  | func f =>
    simp only [globF] at hx
    injection hx with hx; subst hx
    exact ⟨[], [], rfl, rfl, rfl⟩

structure Rel (C : Ctx) (ρ : Ren) (s : St) (a : Act) (w : World) : Prop where
  tmp : TmpR ρ s.tmps.get s.n a
  hr : HR ρ s.h w
  gl : GlobR C.gs ρ

/-- Beyond the next number nothing lies. -/
def WF (h : AH) : Prop := ∀ b, h.next ≤ b → h.get b = .dead

/-- From one abstract heap to a later one: what is not told stays. -/
structure Mild (h h' : AH) (l : Log) : Prop where
  next : h.next ≤ h'.next
  wf : WF h → WF h'
  keep : ∀ b, b ∉ l → b < h.next → h'.get b = h.get b

/-- What a call's evaluation vouches for. -/
def CallOK (C : Ctx) (cf : CallF) : Prop := ∀ f args h r, cf f args h = some r →
  (∀ (xs : Array Value) (w : World), (callFunc f xs).run C.P w = .ok (.enter f xs) w) ∧
  Mild h r.h r.log ∧
  ∀ ρ w vs, WF h → GlobR C.gs ρ → HR ρ h w → VRs ρ args vs →
    Calls C.P f vs.toArray w fun e w' => ∃ v ρ', e = .returned v ∧ VR ρ' r.v v ∧ HR ρ' r.h w' ∧ Fr h.next ρ h w ρ' r.h w'

theorem wanted_sound {ops : Array Oper} {T : Nat → Option AV} {o : Oper} {b : Bool} (h : wantedA ops T o = some b) {ρ : Ren} {n : Nat} {a : Act} (ht : TmpR ρ T n a) :
    Region.wanted o (yielded ops a.tmps) = b := by
  unfold wantedA at h
  unfold Region.wanted
  split at h
  · rename_i hg; rw [hg]; injection h
  · rename_i j want hg
    rw [hg]
    simp only
    unfold yielded
    split at h
    · rename_i d hd
      rw [hd]
      simp only [Option.bind_some]
      split at h
      · rename_i c hc
        injection h with h; subst h
        obtain ⟨u, hu, hr⟩ := ht.val d _ hc
        simp only [VR] at hr; subst hr
        rw [hu]; rfl
      · cases h
      · rename_i v hv1 hv2 hv
        injection h with h; subst h
        obtain ⟨u, hu, hr⟩ := ht.val d _ hv
        rw [hu]
        cases v <;> simp only [VR] at hr
        case bool c => exact absurd rfl (hv1 c)
        case junk => exact absurd rfl hv2
        all_goals first
          | (subst hr; rfl)
          | (obtain ⟨_, _, rfl⟩ := hr; rfl)
          | (obtain ⟨_, _, rfl, _⟩ := hr; rfl)
          | (obtain ⟨_, rfl, _⟩ := hr; rfl)
      · cases h
    · rename_i hd
      rw [hd]
      exact Option.some.inj h

end Go.Abs
