/-
  Soundness of what writes: stores, copies, clears, appends. (Helper theorems; each says its own conditions.)
-/
import Derived.Test.YtghcfkgfccmaoaaGreatDoorAbs9

/-! Soundness of what writes: stores, copies, clears, appends. -/
namespace Go.Abs
open Go

/-- A list of cells laid into a row. -/
def laid (cur : Array Value) (o : Nat) (us : List Value) : Array Value := (cur.toList.take o ++ us ++ cur.toList.drop (o + us.length)).toArray

theorem laid_size {cur : Array Value} {o : Nat} {us : List Value} (h : o + us.length ≤ cur.size) : (laid cur o us).size = cur.size := by
  simp [laid]; omega

theorem laid_get {cur : Array Value} {o : Nat} {us : List Value} (h : o + us.length ≤ cur.size) (i : Nat) :
    (laid cur o us)[i]? = if o ≤ i ∧ i < o + us.length then us[i - o]? else cur[i]? := by
  have hlt : (cur.toList.take o).length = o := by simp; omega
  simp only [laid, List.getElem?_toArray]
  by_cases h1 : i < o
  · rw [if_neg (by omega), List.append_assoc, List.getElem?_append_left (by omega), List.getElem?_take_of_lt h1]
    simp
  · rw [List.append_assoc, List.getElem?_append_right (by omega), hlt]
    by_cases h2 : i < o + us.length
    · rw [if_pos (by omega), List.getElem?_append_left (by omega)]
    · rw [if_neg (by omega), List.getElem?_append_right (by omega), List.getElem?_drop]
      simp only [Array.getElem?_toList]
      congr 1
      omega

section
variable {P : Program}

theorem setCells_sound {ρ : Ren} {h h' : AH} {w : World} (hr : HR ρ h w) {b off : Nat} {vs : List AV} (hs : setCells h b off vs = some h') (h1 : allOne vs = true) {g : Pl} (hg : ρ b = some g)
    {us : List Value} (hu : VRs ρ vs us) (n : Nat) :
    ∃ w', (storeCells ⟨g.blk, g.off + off, none⟩ us).run P w = .ok () w' ∧ HR ρ h' w' ∧ Fr n ρ h w ρ h' w' := by
  unfold setCells at hs
  split at hs
  · rename_i c hget
    cases hro : c.ro with
    | true => rw [hro] at hs; simp at hs
    | false =>
      rw [hro] at hs
      simp only [cond_false] at hs
      cases hlt : Nat.ble (off + vs.length) c.n with
      | false => rw [hlt] at hs; simp at hs
      | true =>
        rw [hlt] at hs; simp at hs; subst hs
        have hle : off + vs.length ≤ c.n := by simpa [Nat.ble_eq] using hlt
        have hB := hr.blk b g hg
        rw [hget] at hB
        unfold BR at hB
        simp only [hro] at hB
        obtain ⟨cur, hcur, hsz, hcells⟩ := hB
        have hlen := hu.length
        have hfit : g.off + off + 0 + us.length ≤ cur.size := by rw [hsz]; omega
        have hrun := run_storeCells_at P g.blk (g.off + off) c.elem us 0 cur w hcur hfit (hu.ones h1)
        simp only [Nat.add_zero] at hrun hfit
        refine ⟨_, hrun, ?_, ?_⟩
        · refine hr.upd hg (by rw [hget]; simp [ABlk.rw, hro]) (by simp) (fun k hk => setRow_other w g.blk k _ hk) ?_
          unfold BR
          simp only
          refine ⟨laid cur (g.off + off) us, setRow_heap w g.blk cur _ c.elem _ hcur, by rw [laid_size hfit, hsz], fun i hi => ?_⟩
          rw [laid_get hfit, Sto.get_setL]
          by_cases hin : off ≤ i ∧ i < off + vs.length
          · rw [if_pos (by omega), if_pos hin]
            have hlt2 : i - off < vs.length := by omega
            obtain ⟨u, huu, hru⟩ := hu.get (i - off) _ (List.getElem?_eq_getElem hlt2)
            refine ⟨u, by rw [show g.off + i - (g.off + off) = i - off by omega]; exact huu, ?_⟩
            simpa [List.getD, List.getElem?_eq_getElem hlt2] using hru
          · rw [if_neg (by omega), if_neg hin]
            exact hcells i hi
        · exact Fr.upd (w := w) (w' := w.setRow g.blk _) hg (by rw [hget]; simp [ABlk.rw, hro]) rfl rfl rfl (by simp) (fun k hk => setRow_other w g.blk k _ hk) n
  · cases hs

theorem store_sound {ρ : Ren} {h : AH} {w : World} (hr : HR ρ h w) {t : TypeId} {a v : AV} {r : R} {u x : Value} (hs : storeA P h t a v = some r) (ha : VR ρ a u) (hv : VR ρ v x) (n : Nat) :
    ∃ w', (Instr.storeAt t u x).run P w = .ok () w' ∧ r.v = .tup [] ∧ HR ρ r.h w' ∧ Fr n ρ h w ρ r.h w' := by
  unfold storeA at hs
  split at hs
  · rename_i b off
    obtain ⟨g, hg, rfl⟩ := ha
    split at hs
    · rename_i ti cs hti hcs
      obtain ⟨i, d, z, hty⟩ := tiOf_spec hti
      split at hs
      · rename_i hl h1
        split at hs
        · rename_i h' hset
          injection hs with hs; subst hs
          have hvc := VR.cells hcs hv
          obtain ⟨w', hrun, hhr, hfr⟩ := setCells_sound (P := P) hr hset h1 hg hvc n
          refine ⟨w', ?_, rfl, hhr, hfr⟩
          have hsz : x.cells.size = ti.size := by
            have := hvc.length
            have h2 := Nat.eq_of_beq_eq_true hl
            simp only [Array.length_toList] at this
            omega
          simp only [Instr.storeAt, Instr.sureAddr, storeVar, Sem.run_bind, Sem.run_pure, Result.andThen_ok, hty.run_size, hsz, ne_eq, not_true_eq_false, if_false, hrun]
        · cases hs
      · cases hs
    · cases hs
  · cases hs

theorem elemsA_sound {ρ : Ren} {h : AH} {w : World} (hr : HR ρ h w) {esz : Nat} {b off len cap : Nat} {ex : Bool} {new : List AV} (he : elemsA h esz (.sl b off len cap ex) = some new) {x : Value}
    (hx : VR ρ (.sl b off len cap ex) x) :
    ∃ g, ρ b = some g ∧ x = .slice (some ⟨g.blk, g.off + off, none⟩) len (if ex then cap else cap + g.ext) ∧ ∃ vs : List Value, vs.length = len * esz ∧ VRs ρ new vs ∧
      ∀ (j : Nat) (v : Value), vs[j]? = some v → w.cell? ((⟨g.blk, g.off + off, none⟩ : Addr).add j) = some v := by
  obtain ⟨g, hg, rfl⟩ := hx
  obtain ⟨vs, h1, h2, h3⟩ := cellsAt_sound hr he hg
  exact ⟨g, hg, rfl, vs, h1, h2, h3⟩

theorem append_types {t t2 e e2 ty : TypeId} (h : P.underlying t = some (.slice e)) (h2 : P.underlying t2 = some (.slice e2)) {a b : Value} (ha : ∃ x y z, a = .slice x y z) (w : World) :
    (Builtin.append_ #[t, t2] ty #[a, b]).run P w = (Builtin.append_ #[t, t] ty #[a, b]).run P w := by
  obtain ⟨x, y, z, rfl⟩ := ha
  simp only [Builtin.append_, List.getElem?_toArray, List.getElem?_cons_zero, List.getElem?_cons_succ, Sem.run_bind, run_underlying h, run_underlying h2, Result.andThen_ok, Sem.run_pure]

theorem small_spec {n bytes : Nat} (h : small n bytes = true) : n * bytes ≤ 140737488355328 ∧ (n : Int) ≤ 9223372036854775807 ∧ n * bytes ≤ 281474976710656 := by
  unfold small at h
  simp only [Bool.and_eq_true, Nat.ble_eq] at h
  obtain ⟨h1, h2⟩ := h
  refine ⟨by omega, by omega, by omega⟩

/-- A row that has grown: what it holds. -/
theorem grown_BR {ρ : Ren} {cs : List AV} {vs : List Value} (hv : VRs ρ cs vs) {w : World} {g elem esz : Nat} {zs : Array Value} {k : Nat} (hz : zs.size = k * esz)
    (hg : w.heap[g]? = some (.cells (vs.toArray ++ zs) elem (0, 0))) : BR ρ ⟨g, 0, k⟩ (blkOf cs elem esz) w := by
  refine ⟨vs.toArray ++ zs, hg, by simp [hv.length, hz], fun i hi => ?_⟩
  simp only at hi
  obtain ⟨v, hvv, hr⟩ := hv.get i _ (List.getElem?_eq_getElem hi)
  have hlt : i < vs.length := by rw [← hv.length]; exact hi
  refine ⟨v, ?_, ?_⟩
  · simp only [Nat.zero_add]
    rw [Array.getElem?_append_left (by simpa using hlt)]
    simpa using hvv
  · have : (Sto.tr Tr.lf (listFn cs)).get i = cs[i] := by
      simp only [Sto.get, Tr.get_lf]
      exact listFn_get cs i _ (List.getElem?_eq_getElem hi)
    rw [this]; exact hr

theorem HR.next_lt {ρ : Ren} {h : AH} {w : World} (hr : HR ρ h w) {b : Nat} (hb : ρ b ≠ none) : b < h.next := by
  rcases Nat.lt_or_ge b h.next with h1 | h1
  · exact h1
  · exact absurd (hr.fresh b h1) hb

/-- A slice in new memory. -/
theorem grow_sound {ρ : Ren} {h : AH} {w : World} (hr : HR ρ h w) {cs : List AV} {vs : List Value} (hv : VRs ρ cs vs) {e esz m cap : Nat} {zs : Array Value} (hz : zs.size = (cap - m) * esz) (hm : m ≤ cap) :
    ∃ ρ', VR ρ' (.sl h.next 0 m m false) (.slice (some ⟨w.heap.size, 0, none⟩) m cap) ∧ HR ρ' (newCells h cs e esz) (w.drew.alloc (.cells (vs.toArray ++ zs) e)) ∧
      Fr h.next ρ h w ρ' (newCells h cs e esz) (w.drew.alloc (.cells (vs.toArray ++ zs) e)) := by
  have hn : ρ h.next = none := hr.fresh _ (Nat.le_refl _)
  have hr1 : HR ρ (newCells h cs e esz) w.drew := (hr.push _).of_heap rfl
  have hnew := heap_alloc_new w.drew (.cells (vs.toArray ++ zs) e)
  have hget : (newCells h cs e esz).get h.next = blkOf cs e esz := by unfold newCells; rw [AH.get_push, if_pos rfl]
  refine ⟨updR ρ h.next ⟨w.heap.size, 0, cap - m⟩, ⟨⟨w.heap.size, 0, cap - m⟩, by simp [updR], ?_⟩, ?_, ?_⟩
  · simp; omega
  · refine (hr1.grow _).bind (by simp [newCells, AH.push]) hn (by simp) ?_ fun b' g' hg' he => ?_
    · rw [hget]; exact grown_BR (hv.mono (updR_ext hn)) hz hnew
    · have := hr1.lt b' g' hg'; simp only at he; simp at this; omega
  · have f1 : Fr h.next ρ h w ρ h w.drew := Fr.of_heap rfl rfl rfl rfl
    refine f1.trans (Fr.alloc (e := cap - m) hn (fun x hx => ?_) (by simp [newCells, AH.push]) (Nat.le_refl _)) (Nat.le_refl _)
    unfold newCells
    rw [AH.get_push, if_neg]
    intro e'; subst e'; exact hx hn

theorem append_sound {ρ : Ren} {h : AH} {w : World} (hr : HR ρ h w) {t t2 ty : TypeId} {s x : AV} {r : R} {sv xv : Value} (ha : appendA P h t t2 s x = some r) (hs : VR ρ s sv) (hx : VR ρ x xv) :
    ∃ ρ' w' u, (Builtin.append_ #[t, t2] ty #[sv, xv]).run P w = .ok u w' ∧ VR ρ' r.v u ∧ HR ρ' r.h w' ∧ Fr h.next ρ h w ρ' r.h w' := by
  unfold appendA at ha
  split at ha
  · rename_i e esz bytes e2 esz2 bytes2 hk1 hk2
    obtain ⟨ti1, i1, d1, z1, hty1, ek1⟩ := kindOf_spec hk1
    obtain ⟨ti2, i2, d2, z2, hty2, ek2⟩ := kindOf_spec hk2
    obtain ⟨rfl, ie, hie, hse, hby⟩ := tk_slice (ek1 ▸ hty1.kind)
    obtain ⟨rfl, _⟩ := tk_slice (ek2 ▸ hty2.kind)
    have hsl : ∃ x y z, sv = .slice x y z := by
      have : s = .sl0 ∨ ∃ b o l c x, s = .sl b o l c x := by
        cases s with
        | sl0 => exact .inl rfl
        | sl b o l c x => exact .inr ⟨b, o, l, c, x, rfl⟩
        | _ =>
          exfalso
          split at ha
          · cases ha
          · cases ha
          · split at ha
            · split at ha <;> cases ha
            · cases ha
      rcases this with rfl | ⟨b, o, l, c, x, rfl⟩
      · simp only [VR] at hs; exact ⟨_, _, _, hs⟩
      · obtain ⟨g, _, hs⟩ := hs; exact ⟨_, _, _, hs⟩
    rw [append_types hty1.und hty2.und hsl]
    split at ha
    · cases ha
    · rename_i hl
      have hx0 : ∃ a c, xv = .slice a 0 c ∧ ∀ w, (Builtin.firstCells ie.size 0 xv).run P w = .ok #[] w := by
        unfold lenOfA at hl
        split at hl
        · simp only [VR] at hx; subst hx; exact ⟨none, 0, rfl, fun w => by simp [Builtin.firstCells]⟩
        · injection hl with hl; subst hl
          obtain ⟨g, hg, rfl⟩ := hx; exact ⟨_, _, rfl, fun w => by simp [Builtin.firstCells, loadCells, loadCellsFrom]⟩
        · cases hl
      obtain ⟨xa, xc, rfl, hfc⟩ := hx0
      split at ha
      · injection ha with ha; subst ha
        simp only [VR] at hs; subst hs
        refine ⟨ρ, w, .slice none 0 0, ?_, rfl, hr, Fr.refl _ _ _ _⟩
        simp [Builtin.append_, run_underlying hty1.und, sizeOf, typeInfo, hie, Builtin.lenOf, hfc]
      · split at ha
        · rename_i b off len cap ex _ hle
          injection ha with ha; subst ha
          obtain ⟨g, hg, rfl⟩ := hs
          have hle' : len ≤ cap := by simpa [Nat.ble_eq] using hle
          have hle2 : len ≤ (if ex = true then cap else cap + g.ext) := by split <;> omega
          refine ⟨ρ, w, _, ?_, ⟨g, hg, rfl⟩, hr, Fr.refl _ _ _ _⟩
          simp [Builtin.append_, run_underlying hty1.und, sizeOf, typeInfo, hie, Builtin.lenOf, hfc, hle2, storeCells]
        · cases ha
      · cases ha
    · rename_i m' hl
      split at ha
      · rename_i new z hnew hz
        split at ha
        · cases ha
        · rename_i hchk
          simp only [Bool.and_eq_true, Nat.blt_eq, Nat.beq_eq] at hchk
          obtain ⟨⟨hpos, hzl⟩, hone⟩ := hchk
          unfold zeroOf at hz
          split at hz
          · rename_i te hte
            obtain ⟨ie2, de, ze, htye⟩ := tiOf_spec hte
            have hie2 : ie2 = ie := by have := htye.info; rw [hie] at this; injection this with this; exact this.symm
            subst hie2
            have hzc : ze.cells.size = esz := by
              have := (VR.cells hz (htye.zeroR ρ)).length
              simp only [Array.length_toList] at this
              omega
            cases x with
            | sl xb xoff xlen xcap xex =>
              simp only [lenOfA] at hl
              injection hl with hl; subst hl
              obtain ⟨xg, hxg, rfl, vs, hvl, hvs, hvc⟩ := elemsA_sound hr hnew hx
              split at ha
              · simp only [VR] at hs; subst hs
                split at ha
                · rename_i hsm
                  injection ha with ha; subst ha
                  obtain ⟨s1, s2, s3⟩ := small_spec hsm
                  have hrun := run_append_nil (P := P) w t ty e ie2 ze hty1.und hie htye.zero ⟨xg.blk, xg.off + xoff, none⟩ (m' + 1) (if xex = true then xcap else xcap + xg.ext) vs (by rw [hvl, hse]) hvc (by omega) s2 (by rw [hby]; exact s3)
                  have hge := grownCap_ge w (m' + 1) 0 e
                  obtain ⟨ρ', a1, a2, a3⟩ := grow_sound (e := e) hr hvs (m := m' + 1) (cap := grownCap w (m' + 1) 0 e) (zs := Builtin.zeroCells ze.cells (grownCap w (m' + 1) 0 e - (m' + 1))) (by rw [size_zeroCells, hzc]) hge
                  exact ⟨ρ', _, _, hrun, a1, a2, a3⟩
                · cases ha
              · rename_i b off len cap ex
                obtain ⟨g, hg, rfl⟩ := hs
                have hinplace : ∀ (w' : World) (cp : Nat), len + (m' + 1) ≤ cp → (storeCells ⟨g.blk, g.off + (off + len * esz), none⟩ vs).run P w = .ok () w' →
                    (Builtin.append_ #[t, t] ty #[.slice (some ⟨g.blk, g.off + off, none⟩) len cp, .slice (some ⟨xg.blk, xg.off + xoff, none⟩) (m' + 1) (if xex = true then xcap else xcap + xg.ext)]).run P w =
                      .ok (.slice (some ⟨g.blk, g.off + off, none⟩) (len + (m' + 1)) cp) w' := by
                  intro w' cp hcp hst
                  have hf := run_firstCells_some (P := P) w ie2.size (m' + 1) ⟨xg.blk, xg.off + xoff, none⟩ (m' + 1) (if xex = true then xcap else xcap + xg.ext) vs (by rw [hvl, hse]) hvc
                  rw [← Nat.add_assoc, ← add_none, ← hse] at hst
                  simp only [Builtin.append_, Sem.run_bind, run_underlying hty1.und, Result.andThen_ok, List.getElem?_toArray, List.getElem?_cons_zero, List.getElem?_cons_succ, sizeOf, typeInfo, run_program, hie, Sem.run_pure,
                    Bool.false_eq_true, if_false, Builtin.lenOf, hcp, if_true, Bool.not_false, hf, hst]
                have hgrow : ∀ (cp : Nat) (old : List AV) (olds : List Value), cp < len + (m' + 1) → small (len + (m' + 1)) bytes = true → olds.length = len * esz →
                    (∀ (j : Nat) (v : Value), olds[j]? = some v → w.cell? ((⟨g.blk, g.off + off, none⟩ : Addr).add j) = some v) →
                    (Builtin.append_ #[t, t] ty #[.slice (some ⟨g.blk, g.off + off, none⟩) len cp, .slice (some ⟨xg.blk, xg.off + xoff, none⟩) (m' + 1) (if xex = true then xcap else xcap + xg.ext)]).run P w =
                      .ok (.slice (some ⟨w.heap.size, 0, none⟩) (len + (m' + 1)) (grownCap w (len + (m' + 1)) cp e))
                        (w.drew.alloc (.cells ((olds ++ vs).toArray ++ Builtin.zeroCells ze.cells (grownCap w (len + (m' + 1)) cp e - (len + (m' + 1)))) e)) := by
                  intro cp old olds hcp hsm hol hoc
                  obtain ⟨s1, s2, s3⟩ := small_spec hsm
                  have := run_append_grow (P := P) w t ty e ie2 ze hty1.und hie htye.zero ⟨g.blk, g.off + off, none⟩ len cp olds (by rw [hol, hse]) hoc ⟨xg.blk, xg.off + xoff, none⟩ (m' + 1)
                    (if xex = true then xcap else xcap + xg.ext) vs (by rw [hvl, hse]) hvc hcp s2 (growslice_fits hcp (by rw [hby]; exact s1))
                  rw [this]
                  simp
                split at ha
                · rename_i hroom
                  have hroom' : len + (m' + 1) ≤ cap := by simpa [Nat.ble_eq] using hroom
                  split at ha
                  · rename_i h' hset
                    injection ha with ha; subst ha
                    obtain ⟨w', hst, hhr, hfr⟩ := setCells_sound (P := P) hr hset hone hg hvs h.next
                    refine ⟨ρ, w', _, hinplace w' _ (by split <;> omega) hst, ⟨g, hg, rfl⟩, hhr, hfr⟩
                  · cases ha
                · rename_i hroom
                  have hroom' : cap < len + (m' + 1) := by
                    rcases Nat.lt_or_ge cap (len + (m' + 1)) with h1 | h1
                    · exact h1
                    · have : Nat.ble (len + (m' + 1)) cap = true := by rw [Nat.ble_eq]; exact h1
                      rw [this] at hroom; cases hroom
                  split at ha
                  · rename_i old hsm hold
                    obtain ⟨olds, hol, hovr, hoc⟩ := cellsAt_sound hr hold hg
                    split at ha
                    · injection ha with ha; subst ha
                      have hrun := hgrow cap old olds hroom' hsm hol hoc
                      have hge := grownCap_ge w (len + (m' + 1)) cap e
                      obtain ⟨ρ', a1, a2, a3⟩ := grow_sound (e := e) hr (hovr.append hvs) (m := len + (m' + 1)) (cap := grownCap w (len + (m' + 1)) cap e) (zs := Builtin.zeroCells ze.cells (grownCap w (len + (m' + 1)) cap e - (len + (m' + 1)))) (by rw [size_zeroCells, hzc]) hge
                      exact ⟨ρ', _, _, by simpa using hrun, a1, a2, a3⟩
                    · split at ha
                      · rename_i c hget
                        split at ha
                        · rename_i hck
                          injection ha with ha; subst ha
                          simp only [Bool.and_eq_true, Nat.beq_eq, Bool.not_eq_true'] at hck
                          obtain ⟨⟨⟨q1, q2⟩, q3⟩, q4⟩ := hck
                          have hrw : (h.get b).rw = true := by rw [hget]; simp [ABlk.rw, q4]
                          have hB := hr.blk b g hg
                          rw [hget] at hB
                          unfold BR at hB
                          simp only [q4] at hB
                          obtain ⟨cur, hcur, hsz, hcells⟩ := hB
                          have hdead : ∀ b' g', ρ b' = some g' → b' ≠ b → g'.blk = g.blk → h.get b' = .dead := fun b' g' hg' hne he => by
                            rcases hr.inj b' b g' g hg' hg he hne with h1 | h1 | ⟨_, h2⟩
                            · exact h1
                            · rw [h1] at hrw; cases hrw
                            · rw [h2] at hrw; cases hrw
                          by_cases hin : len + (m' + 1) ≤ cap + g.ext
                          · have hmul : (len + (m' + 1)) * esz ≤ (cap + g.ext) * esz := Nat.mul_le_mul_right _ hin
                            rw [Nat.add_mul len (m' + 1) esz, Nat.add_mul cap g.ext esz] at hmul
                            rw [q2] at hsz
                            have hvl2 : vs.length = (m' + 1) * esz := hvl
                            have hfit : g.off + (off + len * esz) + 0 + vs.length ≤ cur.size := by omega
                            have hst := run_storeCells_at P g.blk (g.off + (off + len * esz)) c.elem vs 0 cur w hcur hfit (hvs.ones hone)
                            simp only [Nat.add_zero] at hst hfit
                            have hn : ρ h.next = none := hr.fresh _ (Nat.le_refl _)
                            have hbn : b < h.next := hr.next_lt (by rw [hg]; simp)
                            have hnb : h.next ≠ b := by omega
                            have hr1 := hr.upd (B' := .dead) (w' := w.setRow g.blk (laid cur (g.off + (off + len * esz)) vs)) hg hrw (by simp) (fun k hk => setRow_other w g.blk k _ hk) trivial
                            have hr2 := hr1.push (blkOf (old ++ new) e esz)
                            have hon := hovr.append hvs
                            have holl : (old ++ new).length = len * esz + (m' + 1) * esz := by rw [hon.length, List.length_append, hol, hvl2]
                            have hget2 : (newCells (h.put b .dead) (old ++ new) e esz).get h.next = blkOf (old ++ new) e esz := by
                              unfold newCells; rw [AH.get_push]; simp [AH.put]
                            have hgets : ∀ x, x ≠ h.next → (newCells (h.put b .dead) (old ++ new) e esz).get x = if x = b then .dead else h.get x := fun x hx => by
                              unfold newCells
                              rw [AH.get_push, if_neg (by simpa [AH.put] using hx), AH.get_put]
                            have hx1 := updR_ext (g := ⟨g.blk, g.off + off, cap + g.ext - (len + (m' + 1))⟩) hn
                            refine ⟨updR ρ h.next ⟨g.blk, g.off + off, cap + g.ext - (len + (m' + 1))⟩, w.setRow g.blk (laid cur (g.off + (off + len * esz)) vs), _, hinplace _ (cap + g.ext) hin hst, ⟨_, by simp [updR]; rfl, ?_⟩, ?_, ?_⟩
                            · simp; omega
                            · refine hr2.bind (by simp [AH.push, AH.put]) hn (by simp; exact hr.lt b g hg) ?_ fun b' g' hg' he => ?_
                              · show BR _ _ ((newCells (h.put b .dead) (old ++ new) e esz).get h.next) _
                                rw [hget2]
                                refine ⟨laid cur (g.off + (off + len * esz)) vs, ?_, ?_, fun i hi => ?_⟩
                                · rw [← q3]; exact setRow_heap w g.blk cur _ c.elem _ hcur
                                · show (laid cur (g.off + (off + len * esz)) vs).size = g.off + off + (old ++ new).length + (cap + g.ext - (len + (m' + 1))) * esz
                                  have : (cap + g.ext - (len + (m' + 1))) * esz = (cap + g.ext) * esz - (len + (m' + 1)) * esz := Nat.sub_mul _ _ _
                                  rw [this, Nat.add_mul len (m' + 1) esz, Nat.add_mul cap g.ext esz, laid_size hfit]
                                  omega
                                · simp only at hi
                                  obtain ⟨u, hu, hru⟩ := hon.get i _ (List.getElem?_eq_getElem hi)
                                  refine ⟨u, ?_, ?_⟩
                                  · show (laid cur (g.off + (off + len * esz)) vs)[g.off + off + i]? = some u
                                    rw [laid_get hfit]
                                    by_cases hlo : i < len * esz
                                    · rw [if_neg (by omega)]
                                      rw [List.getElem?_append_left (by omega)] at hu
                                      have := hoc i u hu
                                      rw [add_none, cell_of_row w _ _ cur _ _ hcur] at this
                                      exact this
                                    · rw [if_pos (by omega)]
                                      rw [List.getElem?_append_right (by omega), hol] at hu
                                      rw [show g.off + off + i - (g.off + (off + len * esz)) = i - len * esz by omega]
                                      exact hu
                                  · have : (Sto.tr Tr.lf (listFn (old ++ new))).get i = (old ++ new)[i] := by
                                      simp only [Sto.get, Tr.get_lf]
                                      exact listFn_get _ i _ (List.getElem?_eq_getElem hi)
                                    rw [this]; exact hru.mono hx1
                              · have hb'n : b' ≠ h.next := fun e' => by rw [e', hn] at hg'; cases hg'
                                refine .inl ?_
                                show (newCells (h.put b .dead) (old ++ new) e esz).get b' = .dead
                                rw [hgets b' hb'n]
                                split
                                · rfl
                                · rename_i hne; exact hdead b' g' hg' hne he
                            · refine ⟨rfl, rfl, rfl, by simp, fun k hk hno => setRow_other w g.blk k _ fun e' => ?_, fun x y hx2 hrx => ?_, fun x hx2 => by unfold updR; rw [if_neg (by omega)], by simp [newCells, AH.push, AH.put], hx1⟩
                              · have := hno b g hg e'.symm
                                rw [hrw] at this; cases this
                              · unfold updR at hx2
                                split at hx2
                                · injection hx2 with hx2; subst hx2
                                  exact .inl ⟨b, g, hg, hrw, rfl⟩
                                · rename_i hne
                                  rw [hgets x hne] at hrx
                                  split at hrx
                                  · cases hrx
                                  · exact .inl ⟨x, y, hx2, hrx, rfl⟩
                          · have hrun := hgrow (cap + g.ext) old olds (by omega) hsm hol hoc
                            have hge := grownCap_ge w (len + (m' + 1)) (cap + g.ext) e
                            have hr1 := hr.upd (B' := .dead) (w' := w) hg hrw rfl (fun _ _ => rfl) trivial
                            have hf1 := Fr.upd (w := w) (w' := w) (B' := .dead) hg hrw rfl rfl rfl rfl (fun _ _ => rfl) h.next
                            obtain ⟨ρ', a1, a2, a3⟩ := grow_sound (e := e) hr1 (hovr.append hvs) (m := len + (m' + 1)) (cap := grownCap w (len + (m' + 1)) (cap + g.ext) e) (zs := Builtin.zeroCells ze.cells (grownCap w (len + (m' + 1)) (cap + g.ext) e - (len + (m' + 1)))) (by rw [size_zeroCells, hzc]) hge
                            exact ⟨ρ', _, _, by simpa using hrun, a1, a2, hf1.trans a3 (Nat.le_refl _)⟩
                        · cases ha
                      · cases ha
                  · cases ha
              · cases ha
            | sl0 => simp [lenOfA] at hl
            | _ => simp [lenOfA] at hl
          · cases hz
      · cases ha
  · cases ha

end
end Go.Abs
