/-
  Soundness of what writes: copies, clears, maps; all effects together. (Helper theorems; each says its own conditions.)
-/
import Derived.Test.YtghcfkgfccmaoaaGreatDoorAbs10

/-! Soundness of what writes: copies, clears, maps; all effects together. -/
namespace Go.Abs
open Go

section
variable {P : Program}

theorem copy_sound {ρ : Ren} {h : AH} {w : World} (hr : HR ρ h w) {t ty : TypeId} {ts : List TypeId} {d s : AV} {r : R} {dv sv : Value} (ha : copyA P h t d s = some r) (hd : VR ρ d dv) (hs : VR ρ s sv) :
    ∃ w' u, (Builtin.copy_ (t :: ts).toArray ty #[dv, sv]).run P w = .ok u w' ∧ VR ρ r.v u ∧ HR ρ r.h w' ∧ Fr h.next ρ h w ρ r.h w' := by
  unfold copyA at ha
  split at ha
  · rename_i e esz bytes m n hk hm hn
    obtain ⟨ti, i, dd, z, hty, ek⟩ := kindOf_spec hk
    obtain ⟨rfl, ie, hie, hse, hby⟩ := tk_slice (ek ▸ hty.kind)
    have hd0 : ∃ a c, dv = .slice a m c := by
      unfold lenOfA at hm
      split at hm
      · injection hm with hm; subst hm; simp only [VR] at hd; exact ⟨none, 0, hd⟩
      · injection hm with hm; subst hm; obtain ⟨g, _, hd⟩ := hd; exact ⟨_, _, hd⟩
      · cases hm
    have hs0 : ∃ a c, sv = .slice a n c := by
      unfold lenOfA at hn
      split at hn
      · injection hn with hn; subst hn; simp only [VR] at hs; exact ⟨none, 0, hs⟩
      · injection hn with hn; subst hn; obtain ⟨g, _, hs⟩ := hs; exact ⟨_, _, hs⟩
      · cases hn
    split at ha
    · rename_i hmin
      injection ha with ha; subst ha
      obtain ⟨da, dc, rfl⟩ := hd0
      obtain ⟨sa, sc, rfl⟩ := hs0
      refine ⟨w, .int .i64 0, ?_, rfl, hr, Fr.refl _ _ _ _⟩
      have hmin' : n.min m = 0 := hmin
      have hf : (Builtin.firstCells ie.size 0 (.slice sa n sc)).run P w = .ok #[] w := by
        cases sa <;> simp [Builtin.firstCells, loadCells, loadCellsFrom]
      cases da <;> simp [Builtin.copy_, run_underlying hty.und, Builtin.lenOf, hmin', sizeOf, typeInfo, hie, hf, storeCells, goInt]
    · rename_i k hmin
      split at ha
      · rename_i b off dl dcap dex b' off' sl' scap sex
        split at ha
        · rename_i cs hcs
          split at ha
          · rename_i h' hset h1
            injection ha with ha; subst ha
            obtain ⟨g, hg, rfl⟩ := hd
            obtain ⟨g', hg', rfl⟩ := hs
            simp only [lenOfA] at hm hn
            injection hm with hm; subst hm
            injection hn with hn; subst hn
            obtain ⟨vs, hvl, hvs, hvc⟩ := cellsAt_sound hr hcs hg'
            obtain ⟨w', hst, hhr, hfr⟩ := setCells_sound (P := P) hr hset h1 hg hvs h.next
            refine ⟨w', .int .i64 ((k + 1 : Nat) : Int), ?_, rfl, hhr, hfr⟩
            have hmin' : sl'.min dl = k + 1 := hmin
            have hf := run_firstCells_some (P := P) w ie.size (k + 1) ⟨g'.blk, g'.off + off', none⟩ sl' (if sex = true then scap else scap + g'.ext) vs (by rw [hvl, hse]) hvc
            simp only [Builtin.copy_, Sem.run_bind, List.getElem?_toArray, List.getElem?_cons_zero, List.getElem?_cons_succ, run_underlying hty.und, Result.andThen_ok, Builtin.lenOf, Sem.run_pure, hmin', sizeOf, typeInfo, run_program, hie, hf, hst, goInt]
          · cases ha
        · cases ha
      · cases ha
  · cases ha

theorem clear_sound {ρ : Ren} {h : AH} {w : World} (hr : HR ρ h w) {t ty : TypeId} {ts : List TypeId} {x : AV} {r : R} {xv : Value} (ha : clearA P h t x = some r) (hx : VR ρ x xv) :
    ∃ w' u, (Builtin.clear_ (t :: ts).toArray ty #[xv]).run P w = .ok u w' ∧ VR ρ r.v u ∧ HR ρ r.h w' ∧ Fr h.next ρ h w ρ r.h w' := by
  unfold clearA at ha
  split at ha
  · rename_i e esz bytes b off len cap ex hk
    obtain ⟨ti, i, dd, z, hty, ek⟩ := kindOf_spec hk
    obtain ⟨rfl, ie, hie, hse, hby⟩ := tk_slice (ek ▸ hty.kind)
    obtain ⟨g, hg, rfl⟩ := hx
    split at ha
    · injection ha with ha; subst ha
      refine ⟨w, .tuple #[], ?_, ⟨[], rfl, rfl⟩, hr, Fr.refl _ _ _ _⟩
      simp [Builtin.clear_, run_underlying hty.und]
    · rename_i n zc hz
      split at ha
      · rename_i hl h1
        split at ha
        · rename_i h' hset
          injection ha with ha; subst ha
          unfold zeroOf at hz
          split at hz
          · rename_i te hte
            obtain ⟨ie2, de, ze, htye⟩ := tiOf_spec hte
            have hie2 : ie2 = ie := by have := htye.info; rw [hie] at this; injection this with this; exact this.symm
            subst hie2
            have hzr := VR.cells hz (htye.zeroR ρ)
            have hzl := hzr.length
            simp only [Array.length_toList] at hzl
            have hl' := Nat.eq_of_beq_eq_true hl
            by_cases hpos : 0 < zc.length
            · have hrep := reps_VRs hzr hpos (n + 1)
              have hone : allOne (reps zc (n + 1)) = true := by
                have : ∀ k, allOne (reps zc k) = true := by
                  have app : ∀ (a b : List AV), allOne a = true → allOne b = true → allOne (a ++ b) = true := by
                    intro a
                    induction a with
                    | nil => intro b _ h2; exact h2
                    | cons x a ih =>
                      intro b h1 h2
                      simp only [allOne] at h1
                      simp only [List.cons_append, allOne]
                      split at h1
                      · exact ih b h1 h2
                      · cases h1
                  intro k
                  induction k with
                  | zero => rfl
                  | succ k ih => exact app _ _ h1 ih
                exact this _
              obtain ⟨w', hst, hhr, hfr⟩ := setCells_sound (P := P) hr hset hone hg hrep h.next
              refine ⟨w', .tuple #[], ?_, ⟨[], rfl, rfl⟩, hhr, hfr⟩
              have hzc : (Builtin.zeroCells ze.cells (n + 1)).toList = ((Array.range ((n + 1) * ze.cells.size)).map (ze.cells[· % ze.cells.size]!)).toList := rfl
              rw [← hzc] at hst
              simp [Builtin.clear_, run_underlying hty.und, htye.run_zero, hst]
            · have h0 : zc = [] := List.eq_nil_of_length_eq_zero (by omega)
              subst h0
              have hrz : ∀ k, reps ([] : List AV) k = [] := fun k => by induction k with | zero => rfl | succ k ih => simp [reps, ih]
              rw [hrz] at hset
              obtain ⟨w', hst, hhr, hfr⟩ := setCells_sound (P := P) hr hset rfl hg (VRs.nil) h.next
              refine ⟨w', .tuple #[], ?_, ⟨[], rfl, rfl⟩, hhr, hfr⟩
              have hsz : ze.cells.size = 0 := by simpa using hzl.symm
              have hzc : (Builtin.zeroCells ze.cells (n + 1)).toList = [] := by
                apply List.eq_nil_of_length_eq_zero
                simp [Builtin.zeroCells, hsz]
              simp [Builtin.clear_, run_underlying hty.und, htye.run_zero, hzc, hst]
          · cases hz
        · cases ha
      · cases ha
    · cases ha
  · rename_i hk
    obtain ⟨ti, i, dd, z, hty, ek⟩ := kindOf_spec hk
    obtain ⟨rfl, ie, hie, hse, hby⟩ := tk_slice (ek ▸ hty.kind)
    injection ha with ha; subst ha
    simp only [VR] at hx; subst hx
    refine ⟨w, .tuple #[], ?_, ⟨[], rfl, rfl⟩, hr, Fr.refl _ _ _ _⟩
    simp [Builtin.clear_, run_underlying hty.und]
  · cases ha

/-- A map's block is laid anew. -/
def setBlock (w : World) (r : Nat) (o : Obj) : World := { w with heap := w.heap.setIfInBounds r o }

theorem run_setObj_map {w : World} {r : Nat} {ces : Array MapEntry} {clock : Nat} (h : w.heap[r]? = some (.map ces clock)) (o : Obj) : (setObj r o).run P w = .ok () (setBlock w r o) := by
  simp [setObj, Sem.run, h, setBlock]

theorem map_upd {ρ : Ren} {h : AH} {w : World} (hr : HR ρ h w) {b : Nat} {es es' : List (AV × AV)} (hget : h.get b = .map es) {g : Pl} (hg : ρ b = some g) {ces ces' : Array MapEntry} {clock clock' : Nat}
    (hheap : w.heap[g.blk]? = some (.map ces clock)) (hm : MR ρ es' ces'.toList) (n : Nat) :
    HR ρ (h.put b (.map es')) (setBlock w g.blk (.map ces' clock')) ∧ Fr n ρ h w ρ (h.put b (.map es')) (setBlock w g.blk (.map ces' clock')) := by
  have hlt : g.blk < w.heap.size := (Array.getElem?_eq_some_iff.1 hheap).1
  have hrw : (h.get b).rw = true := by rw [hget]; rfl
  have hother : ∀ c, c ≠ g.blk → (setBlock w g.blk (.map ces' clock')).heap[c]? = w.heap[c]? := fun c hc => by
    simp only [setBlock]; rw [Array.getElem?_setIfInBounds_ne (Ne.symm hc)]
  refine ⟨hr.upd hg hrw (by simp [setBlock]) hother ⟨ces', clock', by simp [setBlock, hlt], hm⟩, ?_⟩
  exact Fr.upd (w := w) (w' := setBlock w g.blk (.map ces' clock')) hg hrw rfl rfl rfl (by simp [setBlock]) hother n

theorem mapUpdate_sound {ρ : Ren} {h : AH} {w : World} (hr : HR ρ h w) {t : TypeId} {m k v : AV} {r : R} {mv kv vv : Value} (ha : mapUpdateA P h t m k v = some r) (hm : VR ρ m mv) (hk : VR ρ k kv) (hv : VR ρ v vv) :
    ∃ w', (Instr.mapUpdate t mv kv vv).run P w = .ok () w' ∧ r.v = .tup [] ∧ HR ρ r.h w' ∧ Fr h.next ρ h w ρ r.h w' := by
  unfold mapUpdateA at ha
  split at ha
  · rename_i kt et hkd
    obtain ⟨ti, i, d, z, hty, e0⟩ := kindOf_spec hkd
    have := tk_map (e0 ▸ hty.kind); subst this
    split at ha
    · rename_i b hfit
      obtain ⟨g, hg, rfl⟩ := hm
      split at ha
      · rename_i es hget
        obtain ⟨ces, clock, hheap, hmr⟩ := MR_of hr hget hg
        have hob := run_getObj_map (P := P) hheap
        have hck := checkKey_sound (P := P) hfit hk false w
        unfold updA at ha
        split at ha
        · rename_i es' hes
          injection ha with ha; subst ha
          split at hes
          · rename_i j hj
            injection hes with hes; subst hes
            obtain ⟨hf, hsame⟩ := findKey_sound (P := P) hfit hk hj hmr w
            obtain ⟨ce, hce, hsb⟩ := hsame j rfl
            simp only [hit, hce, Option.map_some, Nat.zero_add] at hf
            have hce' : ces[j]? = some ce := by simpa using hce
            have hupd := map_upd hr hget hg (ces' := ces.modify j fun e => { e with key := kv, val := vv }) (clock' := clock) hheap
              (by simpa using hmr.set (f := fun e => { e with key := kv, val := vv }) (fun e => ⟨hk, hv⟩) j) h.next
            refine ⟨_, ?_, rfl, hupd.1, hupd.2⟩
            simp only [Instr.mapUpdate, Sem.run_bind, run_underlying hty.und, Result.andThen_ok, hob, hck, hf, hce', Option.map_some, Option.getD_some, Instr.keyThatStays, hsb, if_true, Sem.run_pure, run_setObj_map (P := P) hheap]
          · rename_i hj
            injection hes with hes; subst hes
            obtain ⟨hf, _⟩ := findKey_sound (P := P) hfit hk hj hmr w
            simp only [hit] at hf
            have hupd := map_upd hr hget hg (ces' := ces.push { key := kv, val := vv, born := clock }) (clock' := clock + 1) hheap
              (by simpa using MR.push (e := { key := kv, val := vv, born := clock }) hk hv hmr) h.next
            refine ⟨_, ?_, rfl, hupd.1, hupd.2⟩
            simp only [Instr.mapUpdate, Sem.run_bind, run_underlying hty.und, Result.andThen_ok, hob, hck, hf, run_setObj_map (P := P) hheap]
          · cases hes
        · cases ha
      · cases ha
    · cases ha
  · cases ha

theorem delete_sound {ρ : Ren} {h : AH} {w : World} (hr : HR ρ h w) {t ty : TypeId} {ts : List TypeId} {m k : AV} {r : R} {mv kv : Value} (ha : deleteA P h t m k = some r) (hm : VR ρ m mv) (hk : VR ρ k kv) :
    ∃ w' u, (Builtin.delete_ (t :: ts).toArray ty #[mv, kv]).run P w = .ok u w' ∧ VR ρ r.v u ∧ HR ρ r.h w' ∧ Fr h.next ρ h w ρ r.h w' := by
  unfold deleteA at ha
  split at ha
  · rename_i kt et hkd
    obtain ⟨ti, i, d, z, hty, e0⟩ := kindOf_spec hkd
    have := tk_map (e0 ▸ hty.kind); subst this
    split at ha
    · rename_i hfit
      injection ha with ha; subst ha
      simp only [VR] at hm; subst hm
      have hck := checkKey_sound (P := P) hfit hk true w
      refine ⟨w, .tuple #[], ?_, ⟨[], rfl, rfl⟩, hr, Fr.refl _ _ _ _⟩
      simp [Builtin.delete_, run_underlying hty.und, hck]
    · rename_i b hfit
      obtain ⟨g, hg, rfl⟩ := hm
      split at ha
      · rename_i es hget
        obtain ⟨ces, clock, hheap, hmr⟩ := MR_of hr hget hg
        have hob := run_getObj_map (P := P) hheap
        have hck := fun em => checkKey_sound (P := P) hfit hk em w
        unfold delA at ha
        split at ha
        · rename_i es' hes
          injection ha with ha; subst ha
          split at hes
          · rename_i j hj
            injection hes with hes; subst hes
            obtain ⟨hf, hsame⟩ := findKey_sound (P := P) hfit hk hj hmr w
            obtain ⟨ce, hce, hsb⟩ := hsame j rfl
            simp only [hit, hce, Option.map_some, Nat.zero_add] at hf
            have hupd := map_upd hr hget hg (ces' := ces.eraseIdxIfInBounds j) (clock' := clock) hheap (by simpa [Array.toList_eraseIdxIfInBounds] using hmr.erase j) h.next
            refine ⟨_, .tuple #[], ?_, ⟨[], rfl, rfl⟩, hupd.1, hupd.2⟩
            simp only [Builtin.delete_, List.getElem?_toArray, List.getElem?_cons_zero, List.getElem?_cons_succ, Sem.run_bind, run_underlying hty.und, Result.andThen_ok, hob, hck, hf, run_setObj_map (P := P) hheap, Sem.run_pure]
          · rename_i hj
            injection hes with hes; subst hes
            obtain ⟨hf, _⟩ := findKey_sound (P := P) hfit hk hj hmr w
            simp only [hit] at hf
            have hupd := map_upd hr hget hg (ces' := ces) (clock' := clock) hheap hmr h.next
            refine ⟨_, .tuple #[], ?_, ⟨[], rfl, rfl⟩, hupd.1, hupd.2⟩
            simp only [Builtin.delete_, List.getElem?_toArray, List.getElem?_cons_zero, List.getElem?_cons_succ, Sem.run_bind, run_underlying hty.und, Result.andThen_ok, hob, hck, hf, run_setObj_map (P := P) hheap, Sem.run_pure]
          · cases hes
        · cases ha
      · cases ha
    · cases ha
  · cases ha

/-- All effects that are no calls. -/
theorem effA_sound {ρ : Ren} {env : Env} {ev : Operand → Value} (he : EnvR ρ env ev) {h : AH} {w : World} (hr : HR ρ h w) {o : Oper} (hc : cls o.op = .eff) {r : R} (ha : effA P env h o.op = some (.val r)) :
    ∃ ρ' w' u, ((execOp ev o).run P w = .ok (.value u) w' ∨ ((execOp ev o).run P w = .ok .skip w' ∧ u = undef)) ∧ VR ρ' r.v u ∧ HR ρ' r.h w' ∧ Fr h.next ρ h w ρ' r.h w' := by
  obtain ⟨dst, op, type, pos, after, guard⟩ := o
  simp only at hc ha ⊢
  cases op <;> simp only [cls] at hc <;> first | (cases hc; done) | skip
  case store t a x =>
    simp only [effA, on2, valO] at ha
    split at ha
    · rename_i v hv
      split at ha
      · rename_i u hu
        split at ha
        · rename_i r' hr'
          injection ha with ha; injection ha with ha; subst ha
          obtain ⟨w', hrun, hrv, hhr, hfr⟩ := store_sound (P := P) hr hr' (he a v hv) (he x u hu) h.next
          refine ⟨ρ, w', undef, .inr ⟨?_, rfl⟩, by rw [hrv]; exact ⟨[], rfl, rfl⟩, hhr, hfr⟩
          simp only [execOp, Sem.run_bind, hrun, Result.andThen_ok, Sem.run_pure]
        · cases ha
      · cases ha
    · cases ha
  case mapUpdate t m k x =>
    simp only [effA, on2, on1, valO] at ha
    split at ha
    · rename_i v hv
      split at ha
      · rename_i u hu
        split at ha
        · rename_i y hy
          split at ha
          · rename_i r' hr'
            injection ha with ha; injection ha with ha; subst ha
            obtain ⟨w', hrun, hrv, hhr, hfr⟩ := mapUpdate_sound (P := P) hr hr' (he m v hv) (he k u hu) (he x y hy)
            refine ⟨ρ, w', undef, .inr ⟨?_, rfl⟩, by rw [hrv]; exact ⟨[], rfl, rfl⟩, hhr, hfr⟩
            simp only [execOp, Sem.run_bind, hrun, Result.andThen_ok, Sem.run_pure]
          · cases ha
        · cases ha
      · cases ha
    · cases ha
  case call c =>
    obtain ⟨callee, args, argTypes⟩ := c
    simp only at hc ha ⊢
    simp only [effA] at ha
    split at ha
    · rename_i bi
      split at ha
      · rename_i o0 t t2 s x e1 e2
        simp only [valO] at ha
        split at ha
        · rename_i r' hr'
          injection ha with ha; injection ha with ha; subst ha
          obtain ⟨sv, rest, hus, hsv, hrest⟩ := evs_sound he e2
          obtain ⟨xv, rest2, rfl, hxv, hnil⟩ := hrest
          simp only [VRs] at hnil; subst hnil
          obtain ⟨ρ', w', u, hrun, h1, h2, h3⟩ := append_sound (P := P) (ty := type) hr hr' hsv hxv
          refine ⟨ρ', w', u, .inl ?_, h1, h2, h3⟩
          have haa : args.map ev = #[sv, xv] := by apply Array.ext'; simpa using hus
          have ht : argTypes = #[t, t2] := by apply Array.ext'; simpa using e1
          simp only [execOp, resolve, Sem.run_bind, Sem.run_pure, Result.andThen_ok, invoke, builtin, haa, ht, hrun]
        · cases ha
      · rename_i o0 t ts d s e1 e2
        simp only [valO] at ha
        split at ha
        · rename_i r' hr'
          injection ha with ha; injection ha with ha; subst ha
          obtain ⟨dv, rest, hus, hdv, hrest⟩ := evs_sound he e2
          obtain ⟨sv, rest2, rfl, hsv, hnil⟩ := hrest
          simp only [VRs] at hnil; subst hnil
          obtain ⟨w', u, hrun, h1, h2, h3⟩ := copy_sound (P := P) (ts := ts) (ty := type) hr hr' hdv hsv
          refine ⟨ρ, w', u, .inl ?_, h1, h2, h3⟩
          have haa : args.map ev = #[dv, sv] := by apply Array.ext'; simpa using hus
          have ht : argTypes = (t :: ts).toArray := by apply Array.ext'; simpa using e1
          simp only [execOp, resolve, Sem.run_bind, Sem.run_pure, Result.andThen_ok, invoke, builtin, haa, ht, hrun]
        · cases ha
      · rename_i o0 t ts m k e1 e2
        simp only [valO] at ha
        split at ha
        · rename_i r' hr'
          injection ha with ha; injection ha with ha; subst ha
          obtain ⟨mv, rest, hus, hmv, hrest⟩ := evs_sound he e2
          obtain ⟨kv, rest2, rfl, hkv, hnil⟩ := hrest
          simp only [VRs] at hnil; subst hnil
          obtain ⟨w', u, hrun, h1, h2, h3⟩ := delete_sound (P := P) (ts := ts) (ty := type) hr hr' hmv hkv
          refine ⟨ρ, w', u, .inl ?_, h1, h2, h3⟩
          have haa : args.map ev = #[mv, kv] := by apply Array.ext'; simpa using hus
          have ht : argTypes = (t :: ts).toArray := by apply Array.ext'; simpa using e1
          simp only [execOp, resolve, Sem.run_bind, Sem.run_pure, Result.andThen_ok, invoke, builtin, haa, ht, hrun]
        · cases ha
      · rename_i o0 t ts x e1 e2
        simp only [valO] at ha
        split at ha
        · rename_i r' hr'
          injection ha with ha; injection ha with ha; subst ha
          obtain ⟨xv, rest, hus, hxv, hnil⟩ := evs_sound he e2
          simp only [VRs] at hnil; subst hnil
          obtain ⟨w', u, hrun, h1, h2, h3⟩ := clear_sound (P := P) (ts := ts) (ty := type) hr hr' hxv
          refine ⟨ρ, w', u, .inl ?_, h1, h2, h3⟩
          have haa : args.map ev = #[xv] := by apply Array.ext'; simpa using hus
          have ht : argTypes = (t :: ts).toArray := by apply Array.ext'; simpa using e1
          simp only [execOp, resolve, Sem.run_bind, Sem.run_pure, Result.andThen_ok, invoke, builtin, haa, ht, hrun]
        · cases ha
      · cases ha
    · split at ha
      · split at ha
        · injection ha with ha; cases ha
        · cases ha
      · cases ha
    · cases ha

/-- A call: which function, with which arguments. -/
theorem effA_call {ρ : Ren} {env : Env} {ev : Operand → Value} (he : EnvR ρ env ev) {h : AH} {o : Oper} {f : Nat} {args : List AV} (ha : effA P env h o.op = some (.call f args))
    (hf : ∀ (args : Array Value) (w : World), (callFunc f args).run P w = .ok (.enter f args) w) :
    ∃ vs : List Value, VRs ρ args vs ∧ ∀ w, (execOp ev o).run P w = .ok (.enter f vs.toArray) w := by
  obtain ⟨dst, op, type, pos, after, guard⟩ := o
  simp only at ha ⊢
  cases op <;> simp only [effA] at ha <;> first | (cases ha; done) | skip
  case store t a x =>
    simp only [on2, valO] at ha
    split at ha
    · split at ha
      · split at ha
        · injection ha with ha; cases ha
        · cases ha
      · cases ha
    · cases ha
  case mapUpdate t m k x =>
    simp only [on2, on1, valO] at ha
    split at ha
    · split at ha
      · split at ha
        · split at ha
          · injection ha with ha; cases ha
          · cases ha
        · cases ha
      · cases ha
    · cases ha
  case call c =>
    obtain ⟨callee, cargs, argTypes⟩ := c
    simp only at ha
    split at ha
    · split at ha <;> first | (cases ha; done) | skip
      all_goals
        simp only [valO] at ha
        split at ha
        · injection ha with ha; cases ha
        · cases ha
    · rename_i fo
      split at ha
      · rename_i f' first cap hfv
        split at ha
        · rename_i vs hvs
          injection ha with ha; injection ha with ha1 ha2; subst ha1 ha2
          obtain ⟨as, bs, hv, h1, h2⟩ := he fo _ hfv
          have h3 := evs_sound he hvs
          refine ⟨as ++ cargs.toList.map ev ++ bs, (h1.append h3).append h2, fun w => ?_⟩
          have harr : as.toArray ++ cargs.map ev ++ bs.toArray = (as ++ cargs.toList.map ev ++ bs).toArray := by apply Array.ext'; simp
          simp only [execOp, resolve, hv, Deferred.ofValue, Sem.run_bind, Sem.run_pure, Result.andThen_ok, invoke, hf, harr]
        · cases ha
      · cases ha
    · cases ha

end
end Go.Abs
