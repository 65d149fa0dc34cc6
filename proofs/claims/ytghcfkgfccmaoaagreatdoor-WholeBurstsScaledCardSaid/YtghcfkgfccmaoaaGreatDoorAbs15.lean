/-
  Regions that draw their order: any order comes to what the reference's order comes to. (Helper theorems; each says its own conditions.)
-/
import Derived.Test.YtghcfkgfccmaoaaGreatDoorAbs14

/-! Regions that draw their order: any order comes to what the reference's order comes to. -/
namespace Go.Abs
open Go

section
variable {C : Ctx} {cf : CallF} {ops : Array Oper}

def stH (pd : List Ent) (sN : St) : AH := match pd with
  | [] => sN.h
  | e :: _ => e.sb.h

structure Inv (C : Ctx) (ops : Array Oper) (tr : List Ent) (s0 sN : St) (ρ0 : Ren) (w0 : World) (S : Nat → Bool) (a : Act) (w : World) (ρ : Ren) (dn pd : List Ent) : Prop where
  split : tr = dn ++ pd
  dnE : ∀ e ∈ dn, e.x.c = .eff → S e.x.i = true
  pdH : ∀ e es, pd = e :: es → e.x.c = .eff ∧ S e.x.i = false
  hr : HR ρ (stH pd sN) w
  tm : TmpR ρ (TS S tr s0.tmps.get) s0.n a
  gl : GlobR C.gs ρ
  fr : Fr s0.h.next ρ0 s0.h w0 ρ (stH pd sN) w
  al : ∀ e ∈ dn, e.x.c = .alloc → S e.x.i = false → Wanted ops e → ρ e.sb.h.next = none
  cl : Closed ops S

def setS (S : Nat → Bool) (i : Nat) : Nat → Bool := fun j => S j || Nat.beq j i

theorem setS_same (S : Nat → Bool) (i : Nat) : setS S i i = true := by simp [setS]
theorem setS_ne {S : Nat → Bool} {i j : Nat} (h : j ≠ i) : setS S i j = S j := by
  unfold setS
  have : Nat.beq j i = false := by
    cases hb : Nat.beq j i with
    | false => rfl
    | true => exact absurd (Nat.eq_of_beq_eq_true hb) h
  rw [this]; simp
theorem setS_mono {S : Nat → Bool} {i j : Nat} (h : S j = true) : setS S i j = true := by simp [setS, h]

theorem Closed.set {S : Nat → Bool} (h : Closed ops S) {i : Nat} {o : Oper} (hi : ops[i]? = some o) (hd : Deps o S) : Closed ops (setS S i) := by
  intro j p hj hp e he hb
  by_cases hij : j = i
  · subst hij
    rw [hi] at hp; injection hp with hp; subst hp
    exact setS_mono (hd e he hb)
  · rw [setS_ne hij] at hj
    exact setS_mono (h j p hj hp e he hb)

/-- The parts of a trace about one entry. -/
structure About (C : Ctx) (cf : CallF) (ops : Array Oper) (pre : List Ent) (e : Ent) (post : List Ent) : Prop where
  ent : EntOK C cf ops e
  entsPre : ∀ x ∈ pre, EntOK C cf ops x
  entsPost : ∀ x ∈ post, EntOK C cf ops x
  before : ∀ x ∈ pre, Pair ops x e
  behind : ∀ x ∈ post, Pair ops e x
  bits : BitsOK ops e.x
  bitsPost : ∀ x ∈ post, BitsOK ops x.x

theorem RegOK.about {tr pre post : List Ent} {e : Ent} (h : RegOK C cf ops tr) (hs : tr = pre ++ e :: post) : About C cf ops pre e post := by
  subst hs
  have hp := h.pw
  rw [List.pairwise_append, List.pairwise_cons] at hp
  obtain ⟨_, ⟨h2, _⟩, h3⟩ := hp
  exact ⟨h.ents e (by simp), fun x hx => h.ents x (by simp [hx]), fun x hx => h.ents x (by simp [hx]), fun x hx => h3 x hx e (by simp), fun x hx => h2 x hx, h.bits e (by simp), fun x hx => h.bits x (by simp [hx])⟩

/-- What the entry looks at reads, where a part is done, as in the reference. -/
theorem About.looks {pre post : List Ent} {e : Ent} (h : About C cf ops pre e post) {S : Nat → Bool} (hc : Closed ops S) (hn : S e.x.i = false) (hd : Deps e.x.o S) {s0 : St} (hch : Chain s0 pre e.sb) :
    ∀ t, (t ∈ Abs.looks ops e.x.o ∨ e.x.o.dst = some t) → TS S (pre ++ e :: post) s0.tmps.get t = e.sb.tmps.get t := by
  intro t ht
  rw [hch.tmps h.entsPre, TS_append]
  have h1 : TS S (e :: post) (TS S pre s0.tmps.get) t = TS S pre s0.tmps.get t := by
    refine TS_none fun x hx hdx => ?_
    cases hx with
    | head => exact hn
    | tail _ hx =>
      cases hs : S x.x.i with
      | false => rfl
      | true =>
        have hb := (h.behind x hx).writes' hdx ht
        have := h.bitsPost x hx S hc (hc x.x.i x.x.o hs (h.entsPost x hx).op) e.x.i hb
        rw [hn] at this; cases this
  rw [h1]
  refine TS_same rfl fun x hx hdx => ?_
  exact h.bits S hc hd x.x.i ((h.before x hx).writes hdx ht)

/-- Once it is done, too, it has written its own. -/
theorem About.wrote {pre post : List Ent} {e : Ent} (h : About C cf ops pre e post) {S : Nat → Bool} (hc : Closed ops S) (hn : S e.x.i = false) (T : Nat → Option AV) :
    TS (setS S e.x.i) (pre ++ e :: post) T = updT (TS S (pre ++ e :: post) T) e.x.o.dst e.r := by
  funext t
  rw [TS_append, TS_append, updT_apply]
  have hpre : ∀ t, TS (setS S e.x.i) pre T t = TS S pre T t := fun t => TS_same rfl fun x hx _ => setS_ne (h.before x hx).ne
  by_cases hd : e.x.o.dst = some t
  · rw [if_pos hd]
    simp only [TS, setS_same]
    rw [TS_none]
    · rw [updT_apply, if_pos hd]
    · intro x hx hdx
      rw [setS_ne (Ne.symm (h.behind x hx).ne)]
      cases hs : S x.x.i with
      | false => rfl
      | true =>
        have hb := (h.behind x hx).writes' hdx (.inr hd)
        have := h.bitsPost x hx S hc (hc x.x.i x.x.o hs (h.entsPost x hx).op) e.x.i hb
        rw [hn] at this; cases this
  · rw [if_neg hd]
    simp only [TS, setS_same, hn]
    refine TS_same ?_ fun x hx _ => setS_ne (Ne.symm (h.behind x hx).ne)
    rw [updT_apply, if_neg hd]
    exact hpre t

theorem mem_split {tr : List Ent} {e : Ent} (h : e ∈ tr) : ∃ pre post, tr = pre ++ e :: post := List.append_of_mem h

/-- The first effect of a list, and what stands ahead of it. -/
theorem firstEff : ∀ (es : List Ent), ∃ mid rest, es = mid ++ rest ∧ (∀ x ∈ mid, x.x.c ≠ .eff) ∧ ∀ e r, rest = e :: r → e.x.c = .eff
  | [] => ⟨[], [], rfl, (fun x hx => by cases hx), fun e r h => by cases h⟩
  | x :: xs => by
    by_cases hx : x.x.c = .eff
    · exact ⟨[], x :: xs, rfl, (fun y hy => by cases hy), fun e r h => by injection h with h1 h2; subst h1; exact hx⟩
    · obtain ⟨mid, rest, h1, h2, h3⟩ := firstEff xs
      refine ⟨x :: mid, rest, by rw [h1]; rfl, fun y hy => ?_, h3⟩
      cases hy with
      | head => exact hx
      | tail _ hy => exact h2 y hy

theorem Chain.last {s sN : St} {pd : List Ent} (h : Chain s pd sN) : stH pd sN = s.h := by
  cases h with
  | nil => rfl
  | cons e es _ h => rfl

theorem EntOK.pureOut {e : Ent} (h : EntOK C cf ops e) (hc : e.x.c = .pure) (hw : Wanted ops e) : pureA C.P (globF C.gs e.sb.tmps.get) e.x.o.op = some e.r ∧ e.sa.h = e.sb.h := by
  rcases h.out with ⟨hw', _⟩ | ⟨_, R, hR, hv, hh⟩
  · unfold Wanted at hw; rw [hw] at hw'; cases hw'
  · unfold opOut opOutE at hR
    rw [← h.cl, hc] at hR
    simp only at hR
    split at hR
    · rename_i v hp
      injection hR with hR; injection hR with h1 h2; subst h1
      refine ⟨?_, hh⟩
      rw [← hv]; exact hp
    · cases hR

theorem EntOK.readOut {e : Ent} (h : EntOK C cf ops e) (hc : e.x.c = .read) (hw : Wanted ops e) :
    readA C.P (globF C.gs e.sb.tmps.get) e.sb.h e.x.o.op = some e.r ∧ e.sa.h = e.sb.h ∧ e.l = readAt (globF C.gs e.sb.tmps.get) e.x.o.op := by
  rcases h.out with ⟨hw', _⟩ | ⟨_, R, hR, hv, hh⟩
  · unfold Wanted at hw; rw [hw] at hw'; cases hw'
  · unfold opOut opOutE at hR
    rw [← h.cl, hc] at hR
    simp only at hR
    split at hR
    · rename_i v hp
      injection hR with hR; injection hR with h1 h2; subst h1
      refine ⟨?_, hh, h2.symm⟩
      rw [← hv]; exact hp
    · cases hR

theorem EntOK.allocOut {e : Ent} (h : EntOK C cf ops e) (hc : e.x.c = .alloc) (hw : Wanted ops e) :
    ∃ B, allocA C.P (globF C.gs e.sb.tmps.get) e.sb.h.next e.x.o.op = some (e.r, B) ∧ e.sa.h = e.sb.h.push B ∧ e.l = [e.sb.h.next] := by
  rcases h.out with ⟨hw', _⟩ | ⟨_, R, hR, hv, hh⟩
  · unfold Wanted at hw; rw [hw] at hw'; cases hw'
  · unfold opOut opOutE at hR
    rw [← h.cl, hc] at hR
    simp only at hR
    split at hR
    · rename_i v B hp
      injection hR with hR; injection hR with h1 h2; subst h1
      refine ⟨B, ?_, hh, h2.symm⟩
      rw [← hv]; exact hp
    · cases hR

theorem EntOK.grows {e : Ent} (h : EntOK C cf ops e) (hc : e.x.c = .alloc) (hw : Wanted ops e) : e.sa.h.next = e.sb.h.next + 1 := by
  obtain ⟨B, _, hB, _⟩ := h.allocOut hc hw
  rw [hB]; rfl

theorem Chain.wf (hcf : CallOK C cf) {s s' : St} {es : List Ent} (h : Chain s es s') (ho : ∀ e ∈ es, EntOK C cf ops e) (hw : WF s.h) : WF s'.h := by
  induction h with
  | nil => exact hw
  | cons e es s' h ih => exact ih (fun x hx => ho x (List.mem_cons_of_mem _ hx)) (((ho e List.mem_cons_self).heap hcf).1.wf hw)

theorem Chain.bounds (hcf : CallOK C cf) {s s' : St} {es : List Ent} (h : Chain s es s') (ho : ∀ e ∈ es, EntOK C cf ops e) {x : Ent} (hx : x ∈ es) :
    s.h.next ≤ x.sb.h.next ∧ (x.x.c = .alloc → Wanted ops x → x.sb.h.next < s'.h.next) := by
  obtain ⟨p, q, rfl⟩ := mem_split hx
  obtain ⟨m, h1, h2⟩ := h.append
  obtain ⟨rfl, h3⟩ := h2.head
  refine ⟨(h1.next hcf fun y hy => ho y (by simp [hy])).1, fun hc hw => ?_⟩
  have := (ho x (by simp)).grows hc hw
  have := (h3.next hcf fun y hy => ho y (by simp [hy])).1
  omega

/-- One number, one entry. -/
theorem RegOK.one {tr : List Ent} (hok : RegOK C cf ops tr) {x e : Ent} (hx : x ∈ tr) (he : e ∈ tr) (hxi : x.x.i = e.x.i) : x = e := by
  obtain ⟨pre, post, hsp⟩ := mem_split he
  have hab := hok.about hsp
  rw [hsp] at hx
  rcases List.mem_append.1 hx with hp | hp
  · exact absurd hxi (hab.before x hp).ne
  · cases hp with
    | head => rfl
    | tail _ hp => exact absurd hxi.symm (hab.behind x hp).ne

/-- Of two, the one ahead is apart in the list. -/
theorem RegOK.pair {tr xs ys : List Ent} {x y : Ent} (hok : RegOK C cf ops tr) (hs : tr = xs ++ ys) (hx : x ∈ xs) (hy : y ∈ ys) : Pair ops x y := by
  have := hok.pw
  rw [hs, List.pairwise_append] at this
  exact this.2.2 x hx y hy

/-- An ordering that stands, stands in every order. -/
theorem BitsOK.done {x : It} (h : BitsOK ops x) {S : Nat → Bool} (hc : Closed ops S) (hx : S x.i = true) (ho : ops[x.i]? = some x.o) {k : Nat} (hk : x.bits.testBit k = true) : S k = true :=
  h S hc (hc x.i x.o hx ho) k hk

section
variable {tr : List Ent} {s0 sN : St} {ρ0 : Ren} {w0 : World} {S : Nat → Bool} {a : Act} {w : World} {ρ : Ren} {dn pd : List Ent} {e : Ent}

theorem Inv.stay (hok : RegOK C cf ops tr) (hI : Inv C ops tr s0 sN ρ0 w0 S a w ρ dn pd) (he : e ∈ tr) (hd : Deps e.x.o S) (hdst : ∀ i, e.x.o.dst = some i → i < s0.n)
    (hwr : TS (setS S e.x.i) tr s0.tmps.get = updT (TS S tr s0.tmps.get) e.x.o.dst e.r) {u : Value} (hu : VR ρ e.r u) (hne : e.x.c ≠ .eff) :
    Inv C ops tr s0 sN ρ0 w0 (setS S e.x.i) (a.put e.x.o.dst u) w ρ dn pd := by
  refine ⟨hI.split, fun x hx hxe => setS_mono (hI.dnE x hx hxe), fun x es hx => ?_, hI.hr, ?_, hI.gl, hI.fr, fun x hx hxa hxs hxw => hI.al x hx hxa (by
    cases hS : S x.x.i with
    | false => rfl
    | true => rw [setS_mono hS] at hxs; cases hxs) hxw, hI.cl.set (hok.ents e he).op hd⟩
  · obtain ⟨h1, h2⟩ := hI.pdH x es hx
    refine ⟨h1, ?_⟩
    rw [setS_ne, h2]
    intro hxi
    have hxt : x ∈ tr := by rw [hI.split, hx]; simp
    have := hok.one hxt he hxi
    subst this
    exact hne h1
  · rw [hwr]
    exact hI.tm.put hdst hu

theorem Inv.adv (hcf : CallOK C cf) (hok : RegOK C cf ops tr) (hch : Chain s0 tr sN) {es : List Ent} (hI : Inv C ops tr s0 sN ρ0 w0 S a w ρ dn (e :: es)) (hd : Deps e.x.o S)
    (hdst : ∀ i, e.x.o.dst = some i → i < s0.n) (hwr : TS (setS S e.x.i) tr s0.tmps.get = updT (TS S tr s0.tmps.get) e.x.o.dst e.r) {u : Value} {ρ' : Ren} {w' : World}
    (hu : VR ρ' e.r u) (hh : HR ρ' e.sa.h w') (hf : Fr e.sb.h.next ρ e.sb.h w ρ' e.sa.h w') :
    ∃ dn' pd', Inv C ops tr s0 sN ρ0 w0 (setS S e.x.i) (a.put e.x.o.dst u) w' ρ' dn' pd' := by
  have hec := (hI.pdH e es rfl).1
  have hes := (hI.pdH e es rfl).2
  have he : e ∈ tr := by rw [hI.split]; simp
  obtain ⟨mid, rest, h1, h2, h3⟩ := firstEff es
  subst h1
  have hent : ∀ x ∈ tr, EntOK C cf ops x := hok.ents
  have hch' := hch
  rw [hI.split] at hch'
  obtain ⟨m, hc1, hc2⟩ := hch'.append
  obtain ⟨rfl, hc3⟩ := hc2.head
  obtain ⟨m2, hc4, hc5⟩ := hc3.append
  have hmidE : ∀ x ∈ mid, EntOK C cf ops x := fun x hx => hent x (by rw [hI.split]; simp [hx])
  have hdnE : ∀ x ∈ dn, EntOK C cf ops x := fun x hx => hent x (by rw [hI.split]; simp [hx])
  obtain ⟨hm1, hm2⟩ := hc4.mild hcf hmidE h2 hh e.sb.h.next
  have hlast := hc5.last
  have hs0n := (hc1.next hcf hdnE).1
  refine ⟨dn ++ e :: mid, rest, by rw [hI.split]; simp, ?_, fun x r hx => ?_, by rw [hlast]; exact hm1, ?_, hI.gl.ext hf.ext, ?_, ?_, hI.cl.set (hent e he).op hd⟩
  · intro x hx hxe
    rcases List.mem_append.1 hx with hx | hx
    · exact setS_mono (hI.dnE x hx hxe)
    · cases hx with
      | head => exact setS_same _ _
      | tail _ hx => exact absurd hxe (h2 x hx)
  · refine ⟨h3 x r hx, ?_⟩
    have hxt : x ∈ rest := by rw [hx]; simp
    have hp : Pair ops e x := hok.pair (xs := dn ++ [e]) (ys := mid ++ rest) (by rw [hI.split]; simp) (by simp) (by simp [hxt])
    have hxtr : x ∈ tr := by rw [hI.split]; simp [hxt]
    rw [setS_ne (Ne.symm hp.ne)]
    cases hS : S x.x.i with
    | false => rfl
    | true =>
      have := (hok.bits x hxtr).done hI.cl hS (hent x hxtr).op (hp.effs hec (.inl (h3 x r hx)))
      rw [hes] at this; cases this
  · rw [hwr]
    exact (hI.tm.ext hf.ext).put hdst hu
  · rw [hlast]
    exact hI.fr.trans (hf.trans hm2 (Nat.le_refl _)) hs0n
  · intro x hx hxa hxs hxw
    rcases List.mem_append.1 hx with hx | hx
    · have hlt := (hc1.bounds hcf hdnE hx).2 hxa hxw
      rw [hf.old _ hlt]
      refine hI.al x hx hxa ?_ hxw
      cases hS : S x.x.i with
      | false => rfl
      | true => rw [setS_mono hS] at hxs; cases hxs
    · cases hx with
      | head => rw [hec] at hxa; cases hxa
      | tail _ hx => exact hh.fresh _ (hc4.bounds hcf hmidE hx).1

/-- An effect that is ready is the next one. -/
theorem Inv.effHead (hok : RegOK C cf ops tr) (hI : Inv C ops tr s0 sN ρ0 w0 S a w ρ dn pd) (he : e ∈ tr) (hn : S e.x.i = false) (hd : Deps e.x.o S) (hc : e.x.c = .eff) : ∃ es, pd = e :: es := by
  have he' := he
  rw [hI.split] at he'
  rcases List.mem_append.1 he' with hp | hp
  · have := hI.dnE e hp hc
    rw [hn] at this; cases this
  · cases pd with
    | nil => cases hp
    | cons x es =>
      cases hp with
      | head => exact ⟨_, rfl⟩
      | tail _ hp =>
        have hpr : Pair ops x e := hok.pair (xs := dn ++ [x]) (ys := es) (by rw [hI.split]; simp) (by simp) hp
        have := hok.bits e he S hI.cl hd x.x.i (hpr.effs (hI.pdH x es rfl).1 (.inl hc))
        rw [(hI.pdH x es rfl).2] at this; cases this

/-- What is made now is made ahead of the next effect. -/
theorem Inv.allocDone (hok : RegOK C cf ops tr) (hI : Inv C ops tr s0 sN ρ0 w0 S a w ρ dn pd) (he : e ∈ tr) (hd : Deps e.x.o S) (hc : e.x.c = .alloc) : e ∈ dn := by
  have he' := he
  rw [hI.split] at he'
  rcases List.mem_append.1 he' with hp | hp
  · exact hp
  · cases pd with
    | nil => cases hp
    | cons x es =>
      cases hp with
      | head => have := (hI.pdH _ es rfl).1; rw [hc] at this; cases this
      | tail _ hp =>
        have hpr : Pair ops x e := hok.pair (xs := dn ++ [x]) (ys := es) (by rw [hI.split]; simp) (by simp) hp
        have := hok.bits e he S hI.cl hd x.x.i (hpr.effs (hI.pdH x es rfl).1 (.inr hc))
        rw [(hI.pdH x es rfl).2] at this; cases this

/-- The effects behind the next one are not done. -/
theorem Inv.pdOpen (hok : RegOK C cf ops tr) (hI : Inv C ops tr s0 sN ρ0 w0 S a w ρ dn pd) {x : Ent} (hx : x ∈ pd) (hc : x.x.c = .eff) : S x.x.i = false := by
  cases pd with
  | nil => cases hx
  | cons y es =>
    cases hx with
    | head => exact (hI.pdH _ es rfl).2
    | tail _ hx =>
      replace hx : x ∈ es := hx
      cases hS : S x.x.i with
      | false => rfl
      | true =>
        have hxt : x ∈ tr := by rw [hI.split]; simp [hx]
        have hpr : Pair ops y x := hok.pair (xs := dn ++ [y]) (ys := es) (by rw [hI.split]; simp) (by simp) hx
        have := (hok.bits x hxt).done hI.cl hS (hok.ents x hxt).op (hpr.effs (hI.pdH y es rfl).1 (.inl hc))
        rw [(hI.pdH y es rfl).2] at this; cases this

/-- What one that is ready reads stands in the heap that is. -/
theorem Inv.reads (hcf : CallOK C cf) (hok : RegOK C cf ops tr) (hch : Chain s0 tr sN) (hwf : WF s0.h) (hI : Inv C ops tr s0 sN ρ0 w0 S a w ρ dn pd) (he : e ∈ tr) (hn : S e.x.i = false) (hd : Deps e.x.o S)
    (hc : e.x.c = .read) : ∀ b ∈ e.l, e.sb.h.get b ≠ .dead → ρ b ≠ none → (stH pd sN).get b = e.sb.h.get b := by
  intro b hb hlive hnm
  have hent := hok.ents
  have hch' := hch
  rw [hI.split] at hch'
  obtain ⟨m, hc1, hc2⟩ := hch'.append
  have hm := hc2.last
  have hlt : b < (stH pd sN).next := by
    cases Nat.lt_or_ge b (stH pd sN).next with
    | inl h => exact h
    | inr h => exact absurd (hI.hr.fresh b h) hnm
  have he' := he
  rw [hI.split] at he'
  rcases List.mem_append.1 he' with hp | hp
  · obtain ⟨p, q, rfl⟩ := mem_split hp
    obtain ⟨m2, hd1, hd2⟩ := hc1.append
    obtain ⟨rfl, hd3⟩ := hd2.head
    have hsplit : tr = p ++ e :: (q ++ pd) := by rw [hI.split]; simp
    have hab := hok.about hsplit
    have hwf' : WF e.sb.h := hd1.wf hcf hab.entsPre hwf
    have hbl : b < e.sb.h.next := by
      cases Nat.lt_or_ge b e.sb.h.next with
      | inl h => exact h
      | inr h => exact absurd (hwf' b h) hlive
    have hkeep := Chain.keep hcf (.cons e q m hd3) (ops := ops) (fun x hx => by
      cases hx with
      | head => exact hab.ent
      | tail _ hx => exact hab.entsPost x (List.mem_append_left _ hx)) hbl (fun x hx hxe => by
      cases hx with
      | head => rw [hc] at hxe; cases hxe
      | tail _ hx =>
        replace hx : x ∈ q := hx
        have hpr := hab.behind x (by simp [hx])
        have hxd : S x.x.i = true := hI.dnE x (by simp [hx]) hxe
        have hxtr : x ∈ tr := by rw [hsplit]; simp [hx]
        refine apartL_spec (hpr.re hc hxe ?_) b hb
        cases ho : ordered e.x x.x with
        | false => rfl
        | true =>
          unfold ordered at ho
          rw [hpr.noBack, Bool.or_false] at ho
          have := (hok.bits x hxtr).done hI.cl hxd (hent x hxtr).op ho
          rw [hn] at this; cases this)
    rw [hm]; exact hkeep
  · obtain ⟨p, q, rfl⟩ := mem_split hp
    obtain ⟨m2, hd1, hd2⟩ := hc2.append
    obtain ⟨rfl, _⟩ := hd2.head
    have hsplit : tr = (dn ++ p) ++ e :: q := by rw [hI.split]; simp
    have hab := hok.about hsplit
    rw [hm] at hlt
    have hkeep := hd1.keep hcf (ops := ops) (fun x hx => hab.entsPre x (by simp [hx])) hlt (fun x hx hxe => by
        have hpr := hab.before x (by simp [hx])
        have hxd : S x.x.i = false := hI.pdOpen hok (by simp [hx]) hxe
        refine apartL_spec (hpr.er hxe hc ?_) b hb
        cases ho : ordered x.x e.x with
        | false => rfl
        | true =>
          unfold ordered at ho
          rw [hpr.noBack, Bool.or_false] at ho
          have := hok.bits e he S hI.cl hd x.x.i ho
          rw [hxd] at this; cases this)
    rw [hm]; exact hkeep.symm

/-- What one that is ready makes stands in the heap that is. -/
theorem Inv.made (hcf : CallOK C cf) (hok : RegOK C cf ops tr) (hch : Chain s0 tr sN) (hI : Inv C ops tr s0 sN ρ0 w0 S a w ρ dn pd) (he : e ∈ dn) (hn : S e.x.i = false)
    (hc : e.x.c = .alloc) (hw : Wanted ops e) : (stH pd sN).get e.sb.h.next = e.sa.h.get e.sb.h.next ∧ e.sb.h.next < (stH pd sN).next ∧ s0.h.next ≤ e.sb.h.next ∧
      ∀ x ∈ dn, x ≠ e → x.x.c = .alloc → Wanted ops x → x.sb.h.next ≠ e.sb.h.next := by
  have hent := hok.ents
  have hch' := hch
  rw [hI.split] at hch'
  obtain ⟨m, hc1, hc2⟩ := hch'.append
  have hm := hc2.last
  obtain ⟨p, q, rfl⟩ := mem_split he
  obtain ⟨m2, hd1, hd2⟩ := hc1.append
  obtain ⟨rfl, hd3⟩ := hd2.head
  have hsplit : tr = p ++ e :: (q ++ pd) := by rw [hI.split]; simp
  have hab := hok.about hsplit
  have hgr := hab.ent.grows hc hw
  obtain ⟨B, _, hB, hl⟩ := hab.ent.allocOut hc hw
  have hqE : ∀ x ∈ q, EntOK C cf ops x := fun x hx => hab.entsPost x (by simp [hx])
  have hkeep := hd3.keep hcf hqE (b := e.sb.h.next) (by omega) (fun x hx hxe => by
    have hpr := hab.behind x (by simp [hx])
    have hxd : S x.x.i = true := hI.dnE x (by simp [hx]) hxe
    have hxtr : x ∈ tr := by rw [hsplit]; simp [hx]
    refine apartL_spec (hpr.ae hc hxe ?_) _ (by rw [hl]; simp)
    cases ho : ordered e.x x.x with
    | false => rfl
    | true =>
      unfold ordered at ho
      rw [hpr.noBack, Bool.or_false] at ho
      have := (hok.bits x hxtr).done hI.cl hxd (hent x hxtr).op ho
      rw [hn] at this; cases this)
  have hnx := (hd3.next hcf hqE).1
  refine ⟨by rw [hm]; exact hkeep, by rw [hm]; omega, (hd1.next hcf hab.entsPre).1, fun x hx hne hxc hxw => ?_⟩
  rcases List.mem_append.1 hx with hx | hx
  · have := (hd1.bounds hcf hab.entsPre hx).2 hxc hxw
    omega
  · cases hx with
    | head => exact absurd rfl hne
    | tail _ hx =>
      have := (hd3.bounds hcf hqE hx).1
      omega

end

/-- One step: any operation that is ready. -/
theorem Inv.step (hcf : CallOK C cf) {tr : List Ent} {s0 sN : St} (hwf : WF s0.h) (hok : RegOK C cf ops tr) (hch : Chain s0 tr sN) {ρ0 : Ren} {w0 : World} {S : Nat → Bool} {a : Act} {w : World} {ρ : Ren} {dn pd : List Ent}
    (hI : Inv C ops tr s0 sN ρ0 w0 S a w ρ dn pd) {e : Ent} (he : e ∈ tr) (hn : S e.x.i = false) (hd : Deps e.x.o S) {K : Act → World → Prop} {Q : Exit → Act → World → Prop}
    (hK : ∀ a' w' ρ' dn' pd', Inv C ops tr s0 sN ρ0 w0 (setS S e.x.i) a' w' ρ' dn' pd' → K a' w') : wpOp C.P ops Q e.x.i K a w := by
  obtain ⟨pre, post, hsp⟩ := mem_split he
  have hab := hok.about hsp
  have hch' := hch
  rw [hsp] at hch'
  obtain ⟨m, hc1, hc2⟩ := hch'.append
  obtain ⟨rfl, hc3⟩ := hc2.head
  have hlooks := hab.looks hI.cl hn hd hc1
  have hwrote := hab.wrote hI.cl hn s0.tmps.get
  rw [← hsp] at hlooks hwrote
  have hnn : e.sb.n = s0.n := (hc1.next hcf hab.entsPre).2
  have hdst : ∀ i, e.x.o.dst = some i → i < s0.n := fun i hi => by rw [← hnn]; exact hab.ent.dst i hi
  have henv : ∀ x ∈ e.x.o.op.operands, globF C.gs (TS S tr s0.tmps.get) x = globF C.gs e.sb.tmps.get x := globF_congr (ops := ops) fun t ht => hlooks t (.inl ht)
  have hER := envR hI.gl hI.tm
  unfold wpOp
  simp only [hab.ent.op]
  rcases hab.ent.out with ⟨hw, hrr, hh, hl⟩ | ⟨hw, R, hR, hRv, hh⟩
  · rw [← wantedA_congr (T := TS S tr s0.tmps.get) (fun t ht => hlooks t (.inl ht))] at hw
    have hwt := wanted_sound hw hI.tm
    simp only [hwt, Bool.false_eq_true, if_false]
    have hu : VR ρ e.r undef := by rw [hrr]; exact ⟨[], rfl, rfl⟩
    by_cases hc : e.x.c = .eff
    · obtain ⟨es, rfl⟩ := hI.effHead hok he hn hd hc
      obtain ⟨dn', pd', h⟩ := hI.adv hcf hok hch hd hdst hwrote (u := undef) (w' := w) hu (by rw [hh]; exact hI.hr) (by rw [hh]; exact Fr.refl _ _ _ _)
      exact hK _ _ _ _ _ h
    · exact hK _ _ _ _ _ (hI.stay hok he hd hdst hwrote hu hc)
  · have hW : Wanted ops e := hw
    have hw' := hw
    rw [← wantedA_congr (T := TS S tr s0.tmps.get) (fun t ht => hlooks t (.inl ht))] at hw'
    have hwt := wanted_sound hw' hI.tm
    simp only [hwt, if_true]
    refine .inl ?_
    cases hc : e.x.c with
    | bad => exact absurd hc (hok.nb e he)
    | eff =>
      obtain ⟨es, rfl⟩ := hI.effHead hok he hn hd hc
      have hR' : opOutE C cf e.x.o (globF C.gs (TS S tr s0.tmps.get)) e.sb.h = some (R, e.l) := (opOutE_congr henv).trans hR
      refine opOut_wp hcf hR' (hc1.wf hcf hab.entsPre hwf) hI.gl hER hI.hr fun u ρ' w' hu hh' hf => ?_
      obtain ⟨dn', pd', h⟩ := hI.adv hcf hok hch hd hdst hwrote (u := u) (w' := w') (ρ' := ρ') (by rw [← hRv]; exact hu) (by rw [hh]; exact hh') (by rw [hh]; exact hf)
      exact hK _ _ _ _ _ h
    | pure =>
      obtain ⟨h1, _⟩ := hab.ent.pureOut hc hW
      rw [← pureA_congr henv] at h1
      obtain ⟨u, hu, hrun⟩ := pureA_sound (o := e.x.o) hER (hab.ent.cl.symm.trans hc) h1
      unfold Oper.wp
      rw [hrun w]
      exact hK _ _ _ _ _ (hI.stay hok he hd hdst hwrote hu (by rw [hc]; simp))
    | read =>
      obtain ⟨h1, _, h3⟩ := hab.ent.readOut hc hW
      have hb : ∀ b ∈ readAt (globF C.gs (TS S tr s0.tmps.get)) e.x.o.op, (stH pd sN).get b = e.sb.h.get b := by
        intro b hb
        refine hI.reads hcf hok hch hwf he hn hd hc b ?_ ?_ (readAt_named hER b hb)
        · rw [h3, ← readAt_congr henv]; exact hb
        · refine readA_live h1 b ?_
          rw [← readAt_congr henv]; exact hb
      rw [← readA_congr henv, ← readA_heap hb] at h1
      obtain ⟨u, hu, hrun⟩ := readA_sound (o := e.x.o) hER hI.hr (hab.ent.cl.symm.trans hc) h1
      unfold Oper.wp
      rw [hrun]
      exact hK _ _ _ _ _ (hI.stay hok he hd hdst hwrote hu (by rw [hc]; simp))
    | alloc =>
      have hdn := hI.allocDone hok he hd hc
      obtain ⟨B, h1, h2, h3⟩ := hab.ent.allocOut hc hW
      rw [← allocA_congr henv] at h1
      obtain ⟨m1, m2, m3, m4⟩ := hI.made hcf hok hch hdn hn hc hW
      obtain ⟨ob, u, hrun, hall⟩ := allocA_sound (o := e.x.o) hER (hab.ent.cl.symm.trans hc) h1 w
      have hnone := hI.al e hdn hc hn hW
      have hx := updR_ext (g := ⟨w.heap.size, 0, 0⟩) hnone
      obtain ⟨hu, hB⟩ := hall (updR ρ e.sb.h.next ⟨w.heap.size, 0, 0⟩) hx (by simp [updR])
      have hgetB : (stH pd sN).get e.sb.h.next = B := by rw [m1, h2, AH.get_push, if_pos rfl]
      unfold Oper.wp
      rw [hrun]
      refine hK _ _ (updR ρ e.sb.h.next ⟨w.heap.size, 0, 0⟩) dn pd ?_
      have hf : Fr s0.h.next ρ (stH pd sN) w (updR ρ e.sb.h.next ⟨w.heap.size, 0, 0⟩) (stH pd sN) (w.alloc ob) := Fr.alloc hnone (fun _ _ => rfl) (Nat.le_refl _) m3
      refine ⟨hI.split, fun x hx hxe => setS_mono (hI.dnE x hx hxe), fun x es hx' => ?_, alloc_bind hI.hr m2 hnone (by rw [hgetB]; exact hB), ?_, hI.gl.ext hx, hI.fr.trans hf (Nat.le_refl _), ?_, hI.cl.set hab.ent.op hd⟩
      · obtain ⟨g1, g2⟩ := hI.pdH x es hx'
        refine ⟨g1, ?_⟩
        rw [setS_ne, g2]
        intro hxi
        have hxt : x ∈ tr := by rw [hI.split, hx']; simp
        have := hok.one hxt he hxi
        subst this
        rw [hc] at g1; cases g1
      · rw [hwrote]
        exact (hI.tm.ext hx).put hdst hu
      · intro x hx' hxa hxs hxw
        have hxe : x ≠ e := fun heq => by subst heq; rw [setS_same] at hxs; cases hxs
        unfold updR
        rw [if_neg (m4 x hx' hxe hxa hxw)]
        refine hI.al x hx' hxa ?_ hxw
        cases hS' : S x.x.i with
        | false => rfl
        | true => rw [setS_mono hS'] at hxs; cases hxs

end
end Go.Abs
