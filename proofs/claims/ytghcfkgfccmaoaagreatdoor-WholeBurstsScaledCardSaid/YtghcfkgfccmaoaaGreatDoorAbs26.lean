/-
  A law: from its walk to what its row asks. (Helper theorems; each says its own conditions.)
-/
import Derived.Test.YtghcfkgfccmaoaaGreatDoorAbs25
import Derived.Below
import Derived.ChangeSame
import Derived.WideKeyArgs
import Derived.Deep.Slices
import Derived.Deep.Fields
import Derived.Lib.LaidTab
import Derived.ProofKit

/-! A law: from its walk to what its row asks. -/
namespace Go.Abs
open Go Go.RowKit

theorem AWL.law {C : Ctx} {g : Nat} {fn : Func} {c : Code} (hf : C.P.funcs[g]? = some fn) (hb : fn.body = some c) {args : List AV} {bs : List ABlk} (hro : ∀ j B, nth bs j = some B → B.rw = false) {oq : Opq} {n : Nat} (hn : n ≤ bs.length)
    {N : Nat} {cs : List Code} {rs : List ResultVar} (hN : args.length + (fn.ntmps - args.length) = N) (hcs : flatC c [] = cs) (hrs : fn.results.toList = rs)
    (h' : AWL C n cs ⟨N, argsT args 0 .lf, hOf bs, []⟩ (EndsF oq C.P rs 0 fun v L => v = .bool true ∧ L = []))
    {ρ : Ren} {w : World} {vs : List Value} (hg : GlobR C.gs ρ) (hr : HR ρ (hOf bs) w) (hvs : VRs ρ args vs) :
    Calls C.P g vs.toArray w fun e w' => e = .returned (.bool true) ∧ Below w.heap.size w w' := by
  have h := h'
  rw [← hN, ← hcs, ← hrs] at h
  refine calls_of_wp hf hb ?_
  have hlen := hvs.length
  have hsz : vs.toArray.size = args.length := by simp [hlen]
  rw [hsz]
  refine AW.of_flat h ρ _ w _ (by rw [hOf_next]; exact hn) (hOf_wf bs) ⟨args_rel hvs _, hr, hg⟩ fun x s' ρ' a' w' hK hn' hwf' hrel' hf' => ?_
  have hbelow : Below w.heap.size w w' := by
    refine ⟨hf'.os, hf'.tape, hf'.output, hf'.size, fun k hk => hf'.keep k hk fun b g' hb' _ => ?_⟩
    show ((hOf bs).get b).rw = false
    rw [hOf_get]
    cases hj : nth bs b with
    | none => rfl
    | some B => exact hro b B hj
  have key : ∀ vs', resultsA C.P s'.h s'.tmps fn.results.toList = some vs' → fin oq 0 (oneOrTup vs') s'.h (fun v L => v = .bool true ∧ L = []) →
      ∃ v, (results fn a'.tmps).run C.P w' = .ok v w' ∧ (Ending.returned v = .returned (.bool true) ∧ Below w.heap.size w w') := by
    intro vs' hvs' hfin
    obtain ⟨v, L, ⟨rfl, rfl⟩, _, sel, hc, hcv, _⟩ := fin_spec hfin
    obtain ⟨u, hu1, hu2⟩ := results_sound (P := C.P) hrel'.hr hrel'.tmp.val hvs'
    have hu3 : oneOrTup vs' = .bool true := hcv
    rw [hu3] at hu2
    have hu4 : u = .bool true := hu2
    subst hu4
    exact ⟨_, hu1, rfl, hbelow⟩
  have hK' : EndsF oq C.P fn.results.toList 0 (fun v L => v = .bool true ∧ L = []) x s' := by
    cases x <;> exact hK
  unfold EndsF at hK'
  cases x with
  | normal =>
    simp only at hK'
    split at hK'
    · rename_i vs' hvs'; exact ⟨hrel'.tmp.dfr, key vs' hvs' hK'⟩
    · exact hK'.elim
  | ret =>
    simp only at hK'
    split at hK'
    · rename_i vs' hvs'; exact ⟨hrel'.tmp.dfr, key vs' hvs' hK'⟩
    · exact hK'.elim
  | exit id => exact hK'.elim
  | goto l => exact hK'.elim

/-! ## A heap of blocks that are only read -/
theorem HR.ro {bs : List ABlk} {gs : List Pl} {w : World} (h : ∀ j B, nth bs j = some B → B.rw = false ∧ ∃ g, nth gs j = some g ∧ BR (nth gs) g B w ∧ g.blk < w.heap.size) (hlen : gs.length = bs.length) : HR (nth gs) (hOf bs) w := by
  have at' : ∀ j g, nth gs j = some g → ∃ B, nth bs j = some B ∧ (hOf bs).get j = B ∧ B.rw = false ∧ BR (nth gs) g B w ∧ g.blk < w.heap.size := by
    intro j g hj
    obtain ⟨B, hB⟩ := nth_some (l := bs) (j := j) (by rw [← hlen]; exact nth_lt hj)
    obtain ⟨h1, g', hg', h2, h3⟩ := h j B hB
    rw [hj] at hg'; injection hg' with hg'; subst hg'
    exact ⟨B, hB, by rw [hOf_get, hB], h1, h2, h3⟩
  refine ⟨fun b g hb => ?_, fun b b' g g' hb hb' _ _ => ?_, fun b hb => ?_, fun b g hb => ?_⟩
  · obtain ⟨B, _, hB, _, hbr, _⟩ := at' b g hb
    rw [hB]; exact hbr
  · obtain ⟨B, _, hB, hrw, _, _⟩ := at' b g hb
    obtain ⟨B', _, hB', hrw', _, _⟩ := at' b' g' hb'
    exact .inr (.inr ⟨by rw [hB]; exact hrw, by rw [hB']; exact hrw'⟩)
  · rw [hOf_next] at hb
    exact nth_none (by rw [hlen]; exact hb)
  · obtain ⟨_, _, _, _, _, hlt⟩ := at' b g hb
    exact hlt

/-- A cell of the world, as far as it is seen. -/
def cellV : Option Value → AV
  | some (.int k n) => .int k n
  | some (.bool b) => .bool b
  | _ => .junk

theorem cellV_vr {ρ : Ren} {v : Value} : VR ρ (cellV (some v)) v := by
  unfold cellV
  split
  · rename_i h; injection h with h
  · rename_i h; injection h with h
  · trivial

theorem cellV_closed (o : Option Value) : (cellV o).closed = true := by
  unfold cellV
  split <;> rfl

def seen (w : World) (a : Addr) (i : Nat) : AV := cellV (w.cell? (a.add i))

theorem tab_world {w : World} {P : Program} (ht : Lib.TabIs P w "math/bits.deBruijn32tab" .u8 [0, 1, 28, 2, 29, 14, 24, 3, 30, 22, 20, 15, 25, 17, 4, 8, 31, 27, 13, 23, 21, 19, 16, 7, 26, 12, 18, 6, 11, 5, 10, 9]) (hg : P.globalNamed "math/bits.deBruijn32tab" = some 0) :
    HR (only0 0) tabH w := by
  have hc : ∀ (i n : Nat), tabL[i]? = some n → w.cell? ⟨0, i, none⟩ = some (.int .u8 n) := by
    intro i n hn
    have hi : i < 32 := by
      have := (List.getElem?_eq_some_iff.1 hn).1
      simpa [tabL] using this
    rw [ht.cell hg i (by simpa using hi)]
    have key : ∀ j : Fin 32, (tabL[j.1]?).map (fun n : Nat => (n : Int)) = some (([0, 1, 28, 2, 29, 14, 24, 3, 30, 22, 20, 15, 25, 17, 4, 8, 31, 27, 13, 23, 21, 19, 16, 7, 26, 12, 18, 6, 11, 5, 10, 9] : List Int).getD j.1 0) := by decide
    have := key ⟨i, hi⟩
    simp only [hn, Option.map] at this
    injection this with this
    rw [this]
  refine tab_of_world ?_ hc
  have h0 := hc 0 0 rfl
  unfold World.cell? at h0
  cases Nat.lt_or_ge 0 w.heap.size with
  | inl h => exact h
  | inr h =>
    have : w.heap[0]? = none := Array.getElem?_eq_none h
    simp [this] at h0

theorem tab_br {w : World} {ρ : Ren} (h : HR (only0 0) tabH w) : BR ρ ⟨0, 0, 0⟩ tabB w ∧ 0 < w.heap.size := by
  refine ⟨?_, h.lt 0 ⟨0, 0, 0⟩ rfl⟩
  have hb := h.blk 0 ⟨0, 0, 0⟩ rfl
  rw [tabH_get, if_pos rfl] at hb
  unfold BR tabB at *
  simp only at *
  intro i hi
  obtain ⟨v, hv, hr⟩ := hb i hi
  refine ⟨v, hv, VR.anywhere _ _ ?_ hr⟩
  have key : ∀ j : Fin 32, (listFn tabV j.1).closed = true := by decide
  exact key ⟨i, hi⟩

theorem blk_lt {w : World} {a : Addr} {v : Value} (h : w.cell? a = some v) : a.block < w.heap.size := by
  unfold World.cell? at h
  cases Nat.lt_or_ge a.block w.heap.size with
  | inl h => exact h
  | inr hge =>
    have : w.heap[a.block]? = none := Array.getElem?_eq_none hge
    simp [this] at h

/-- An input: cells of the world that are there. -/
theorem seen_br {w : World} {ρ : Ren} {b o : Nat} {n e z : Nat} (h : ∀ i, i < n → ∃ v, w.cell? ⟨b, o + i, none⟩ = some v) : BR ρ ⟨b, o, 0⟩ (.cells { sto := .fn (fun i => cellV (w.cell? ⟨b, o + i, none⟩)), n := n, elem := e, esz := z, ro := true }) w := by
  unfold BR
  simp only
  intro i hi
  obtain ⟨v, hv⟩ := h i hi
  refine ⟨v, hv, ?_⟩
  show VR ρ (cellV (w.cell? ⟨b, o + i, none⟩)) v
  rw [hv]
  exact cellV_vr

/-! ## What the row asks behind the call -/
open Go.ChangeShapes Go.WideShapes Go.ChangeAt in
theorem trodAll_stays {H : Type} {enc : TypeId × Value → H} {P : Program} (hl : laidOutB P = true) {W W' : World} (hb : Below W.heap.size W W') {sp : Nat → Bool} :
    ∀ {ts : List TypeId} {vs : List Value} {ds : List (DataW H)} {ps : List MemPlace}, ts.all (fun t => P.readableRec t && decide (t < P.types.size)) = true →
      DataW.TrodAll enc P W 0 (fun _ => true) true ts vs ds ps → (∀ p ∈ ps, p.block < W.heap.size) → (∀ p ∈ ps, sp p.block = true) → DataW.TrodAll enc P W' 0 sp true ts vs ds ps
  | [], [], [], _, _, h, _, _ => h
  | t :: ts, v :: vs, d :: ds, _, ht, h, hlt, hsp => by
    obtain ⟨p, q, h1, h2, rfl⟩ := h
    simp only [List.all_cons, Bool.and_eq_true, decide_eq_true_eq] at ht
    obtain ⟨⟨ht1, ht2⟩, ht3⟩ := ht
    refine ⟨p, q, ?_, ?_, rfl⟩
    · exact WideElems.Trod_stays hl ht1 ht2 h1 (fun x hx => hb.same (hlt x (List.mem_append_left _ hx))) (fun x hx => hsp x (List.mem_append_left _ hx))
    · exact trodAll_stays hl hb (by simpa using ht3) h2 (fun x hx => hlt x (List.mem_append_right _ hx)) (fun x hx => hsp x (List.mem_append_right _ hx))
  | [], _ :: _, _, _, _, h, _, _ => by simp [DataW.TrodAll] at h
  | [], [], _ :: _, _, _, h, _, _ => by simp [DataW.TrodAll] at h
  | _ :: _, [], _, _, _, h, _, _ => by simp [DataW.TrodAll] at h
  | _ :: _, _ :: _, [], _, _, h, _, _ => by simp [DataW.TrodAll] at h

/-- What a law's row asks: it answers true, and nothing that was there has turned. -/
theorem law_post {H : Type} {enc : TypeId × Value → H} {P : Program} {f : Func} {s : ChangeSpec} {W W' : World} {args : Array Value} {ds gs : List (DataW H)} {before : List MemPlace} {tb : TypeId}
    (hl : laidOutB P = true) (hps : f.params.toList.all (fun t => P.readableRec t && decide (t < P.types.size)) = true) (hr : f.resultTypes = #[tb]) (hb : P.underlying tb = some .bool) (hvars : s.vars = [])
    (hfn : gs = [] → s.fn H (ds ++ gs) = { results := [.lit (.bool true)], args := ds })
    (hW : DataW.Whole enc P f.params.toList s.vars false W args.toList ds gs before) (hbel : Below W.heap.size W W') : s.post enc P f false true false false W args (.bool true) W' := by
  have hlt : ∀ p ∈ before, p.block < W.heap.size := fun p hp => hW.lt p hp
  have hW' := hW
  obtain ⟨p, q, hA, hV, hps', _, _⟩ := hW
  rw [hvars] at hV
  have hgs : gs = [] ∧ q = [] := by
    cases gs with
    | nil => exact ⟨rfl, hV⟩
    | cons g gs => simp [DataW.TrodVars] at hV
  obtain ⟨rfl, rfl⟩ := hgs
  rw [List.append_nil] at hps'
  subst hps'
  have e := hfn rfl
  refine ⟨ds, [], before, [], before, [], hW', ?_, ?_, ?_, World.keptBut_mono (fun x hx => ⟨hx, .inr (.inl hx)⟩) (hbel.frame (· ∈ before)), fun h => by cases h⟩
  · rw [e, hr]
    exact ⟨[], [], ⟨1, by simp [DataW.trod, Value.cells, hb]⟩, rfl, rfl⟩
  · rw [e]
    exact trodAll_stays hl hbel hps hA hlt (fun x hx => by simpa using hlt x hx)
  · rw [e, hvars]
    rfl

/-! ## Arguments -/
open Go.ChangeShapes Go.WideShapes Go.ChangeAt in
/-- A slice of structs of one-cell fields that came in. -/
theorem slice_in {H : Type} {enc : TypeId × Value → H} {P : Program} {w : World} {t e : TypeId} {fs : Array Field} {v : Value} {d : DataW H} {ps : List MemPlace} {b0 : Nat}
    (ht : P.underlying t = some (.slice e)) (he : P.underlying e = some (.struct fs)) (hone : Deep.oneCellFields P fs = true) (hC : P.cellsOf e = fs.size) (hok : Value.okWide P w .any b0 t v) (h : DataW.Trod enc P w 0 (fun _ => true) true t v d ps) :
    v = .slice none 0 0 ∨ ∃ b o len cap, v = .slice (some ⟨b, o, none⟩) len cap ∧ len ≤ cap ∧ cap ≤ maxLen ∧ b < w.heap.size ∧ (∀ i, i < cap * fs.size → ∃ x, w.cell? ⟨b, o + i, none⟩ = some x) ∧
      ∀ i j f, i < cap → fs[j]? = some f → ∃ x y n, w.cell? ⟨b, o + (i * fs.size + j), none⟩ = some x ∧ DataW.trod enc P w 0 (fun _ => true) true n f.type [x] = some y := by
  obtain ⟨a0, len, cap, rfl⟩ := okWide_slice ht hok
  obtain ⟨fuel, hf⟩ := h
  rcases Deep.open_slice ht hf with ⟨h0, _⟩ | ⟨a, len', cap', m, n, D, Pl, hcs, _, hl, hm, hmm, _, hi⟩
  · refine .inl ?_
    have h1 : #[Value.slice a0 len cap].toList = [.slice none 0 0] := h0
    simpa using h1
  · refine .inr ?_
    have h1 : #[Value.slice a0 len cap].toList = [.slice (some a) len' cap'] := hcs
    have h2 : Value.slice a0 len cap = .slice (some a) len' cap' := by simpa using h1
    injection h2 with h3 h4 h5
    subst h3 h4 h5
    have hmc : m = cap := by rw [hmm]; rfl
    subst hmc
    -- the place
    have hspot : a.spot = none ∧ a.block < w.heap.size := by
      simp only [Value.okWide, ht, Cell.okWide, Cell.ok] at hok
      obtain ⟨_, _, _, hs, row, cells, hsh, _⟩ := hok
      refine ⟨hs, ?_⟩
      unfold World.shape? at hsh
      cases Nat.lt_or_ge a.block w.heap.size with
      | inl h => exact h
      | inr hge =>
        have : w.heap[a.block]? = none := Array.getElem?_eq_none hge
        rw [this] at hsh; cases hsh
    obtain ⟨b, o, sp⟩ := a
    obtain ⟨rfl, hlt⟩ := hspot
    have hadd : ∀ o k, (⟨b, o, none⟩ : Addr).add k = ⟨b, o + k, none⟩ := by
      intro o k
      unfold Addr.add
      split
      · rename_i hk; subst hk; rfl
      · rfl
    have fields : ∀ i j f, i < m → fs[j]? = some f → ∃ x y n, w.cell? ⟨b, o + (i * fs.size + j), none⟩ = some x ∧ DataW.trod enc P w 0 (fun _ => true) true n f.type [x] = some y := by
      intro i j f him hj
      obtain ⟨cs', hc, ht'⟩ := hi i him
      rw [hC] at hc
      obtain ⟨ys, n', hn', hy, hlen, hyl, hff⟩ := DataW.trod_struct he ht'
      obtain ⟨_, hcl, hat⟩ := World.cells?_some hc
      obtain ⟨ho, hk⟩ := Deep.hone_of hone j f hj
      have hjl : j < fs.size := (Array.getElem?_eq_some_iff.1 hj).1
      have hcell := hat j hjl
      have h1 := hff j f hj
      rw [ho, hk] at h1
      have hv : cs'[j]? = some (cs'[j]'(by omega)) := List.getElem?_eq_getElem (by omega)
      have hone' : (cs'.drop j).take 1 = [cs'[j]'(by omega)] := by
        rw [List.drop_eq_getElem_cons (by omega)]
        rfl
      rw [hone'] at h1
      have hys : ys[j]? = some (ys[j]'(by omega)) := List.getElem?_eq_getElem (by omega)
      refine ⟨_, _, n', ?_, h1.trans hys⟩
      rw [hadd, hadd] at hcell
      rw [show o + (i * fs.size + j) = o + i * fs.size + j by omega]
      exact hcell.trans hv
    refine ⟨b, o, len, m, rfl, hl, hm, hlt, fun i hilt => ?_, fields⟩
    have hpos : 0 < fs.size := by
      cases hz : fs.size with
      | zero => rw [hz] at hilt; omega
      | succ k => omega
    have hmod := Nat.mod_lt i hpos
    have hdiv : i / fs.size < m := Nat.div_lt_of_lt_mul (by rw [Nat.mul_comm]; exact hilt)
    obtain ⟨x, _, _, hx, _⟩ := fields (i / fs.size) (i % fs.size) (fs[i % fs.size]'hmod) hdiv (Array.getElem?_eq_getElem hmod)
    exact ⟨x, by rw [← hx, Nat.mul_comm, Nat.div_add_mod]⟩

open Go.ChangeShapes Go.WideShapes Go.ChangeAt in
/-- A field that is a number. -/
theorem field_int {H : Type} {enc : TypeId × Value → H} {P : Program} {w : World} {base : Nat} {sp : Nat → Bool} {hd : Bool} {n : Nat} {t : TypeId} {k : IntKind} {x : Value} {y : DataW H × List MemPlace} (ht : P.underlying t = some (.int k)) (h : DataW.trod enc P w base sp hd n t [x] = some y) :
    ∃ z, x = .int k z ∧ k.min ≤ z ∧ z ≤ k.max := by
  obtain ⟨z, h1, _, h3⟩ := DataW.trod_int ht h
  refine ⟨z, by simpa using h1, ?_⟩
  simpa [Lit.wf] using h3

end Go.Abs
