/-
  Regions that draw their order: any order comes to what the reference's order comes to. (Helper theorems; each says its own conditions.)
-/
import Derived.Test.YtkikjebliennbaaGreatDoorEvE
import Derived.Scope
/-! Regions that draw their order: any order comes to what the reference's order comes to. -/
namespace Go.Abs
open Go

section
variable {C : Ctx} {cf : CallF} {ops : Array Oper}

def stH (pd : List Ent) (sN : St) : AH := match pd with
  | [] => sN.h
  | e :: _ => e.sb.h

structure Inv (C : Ctx) (ops : Array Oper) (tr : List Ent) (s0 sN : St) (ρ0 : Ren) (w0 : World) (S : Nat → Bool) (a : Act) (w : World) (ρ : Ren) (dn pd : List Ent) : Prop where
  split : tr = dn ++ pd
  dnE : ∀ e ∈ dn, e.x.c = .eff → S e.x.i = true
  pdH : ∀ e es, pd = e :: es → e.x.c = .eff ∧ S e.x.i = false
  hr : HR ρ (stH pd sN) w
  tm : TmpR ρ (TS S tr s0.tmps.get) s0.n a
  gl : GlobR C.gs ρ
  fr : Fr s0.h.next ρ0 s0.h w0 ρ (stH pd sN) w
  al : ∀ e ∈ dn, e.x.c = .alloc → S e.x.i = false → Wanted ops e → ρ e.sb.h.next = none
  cl : Closed ops S

def setS (S : Nat → Bool) (i : Nat) : Nat → Bool := fun j => S j || Nat.beq j i

theorem setS_same (S : Nat → Bool) (i : Nat) : setS S i i = true := by simp [setS]
theorem setS_ne {S : Nat → Bool} {i j : Nat} (h : j ≠ i) : setS S i j = S j := by
  unfold setS
  have : Nat.beq j i = false := by
    cases hb : Nat.beq j i with
    | false => rfl
    | true => exact absurd (Nat.eq_of_beq_eq_true hb) h
  rw [this]; simp
theorem setS_mono {S : Nat → Bool} {i j : Nat} (h : S j = true) : setS S i j = true := by simp [setS, h]

theorem Closed.set {S : Nat → Bool} (h : Closed ops S) {i : Nat} {o : Oper} (hi : ops[i]? = some o) (hd : Deps o S) : Closed ops (setS S i) := by
  intro j p hj hp e he hb
  by_cases hij : j = i
  · subst hij
    rw [hi] at hp; injection hp with hp; subst hp
    exact setS_mono (hd e he hb)
  · rw [setS_ne hij] at hj
    exact setS_mono (h j p hj hp e he hb)

/-- The parts of a trace about one entry. -/
structure About (C : Ctx) (cf : CallF) (ops : Array Oper) (pre : List Ent) (e : Ent) (post : List Ent) : Prop where
  ent : EntOK C cf ops e
  entsPre : ∀ x ∈ pre, EntOK C cf ops x
  entsPost : ∀ x ∈ post, EntOK C cf ops x
  before : ∀ x ∈ pre, Pair ops x e
  behind : ∀ x ∈ post, Pair ops e x
  bits : BitsOK ops e.x
  bitsPost : ∀ x ∈ post, BitsOK ops x.x

theorem RegOK.about {tr pre post : List Ent} {e : Ent} (h : RegOK C cf ops tr) (hs : tr = pre ++ e :: post) : About C cf ops pre e post := by
  subst hs
  have hp := h.pw
  rw [List.pairwise_append, List.pairwise_cons] at hp
  obtain ⟨_, ⟨h2, _⟩, h3⟩ := hp
  exact ⟨h.ents e (by simp), fun x hx => h.ents x (by simp [hx]), fun x hx => h.ents x (by simp [hx]), fun x hx => h3 x hx e (by simp), fun x hx => h2 x hx, h.bits e (by simp), fun x hx => h.bits x (by simp [hx])⟩

/-- What the entry looks at reads, where a part is done, as in the reference. -/
theorem About.looks {pre post : List Ent} {e : Ent} (h : About C cf ops pre e post) {S : Nat → Bool} (hc : Closed ops S) (hn : S e.x.i = false) (hd : Deps e.x.o S) {s0 : St} (hch : Chain s0 pre e.sb) :
    ∀ t, (t ∈ Abs.looks ops e.x.o ∨ e.x.o.dst = some t) → TS S (pre ++ e :: post) s0.tmps.get t = e.sb.tmps.get t := by
  intro t ht
  rw [hch.tmps h.entsPre, TS_append]
  have h1 : TS S (e :: post) (TS S pre s0.tmps.get) t = TS S pre s0.tmps.get t := by
    refine TS_none fun x hx hdx => ?_
    cases hx with
    | head => exact hn
    | tail _ hx =>
      cases hs : S x.x.i with
      | false => rfl
      | true =>
        have hb := (h.behind x hx).writes' hdx ht
        have := h.bitsPost x hx S hc (hc x.x.i x.x.o hs (h.entsPost x hx).op) e.x.i hb
        rw [hn] at this; cases this
  rw [h1]
  refine TS_same rfl fun x hx hdx => ?_
  exact h.bits S hc hd x.x.i ((h.before x hx).writes hdx ht)

/-- Once it is done, too, it has written its own. -/
theorem About.wrote {pre post : List Ent} {e : Ent} (h : About C cf ops pre e post) {S : Nat → Bool} (hc : Closed ops S) (hn : S e.x.i = false) (T : Nat → Option AV) :
    TS (setS S e.x.i) (pre ++ e :: post) T = updT (TS S (pre ++ e :: post) T) e.x.o.dst e.r := by
  funext t
  rw [TS_append, TS_append, updT_apply]
  have hpre : ∀ t, TS (setS S e.x.i) pre T t = TS S pre T t := fun t => TS_same rfl fun x hx _ => setS_ne (h.before x hx).ne
  by_cases hd : e.x.o.dst = some t
  · rw [if_pos hd]
    simp only [TS, setS_same]
    rw [TS_none]
    · rw [updT_apply, if_pos hd]
    · intro x hx hdx
      rw [setS_ne (Ne.symm (h.behind x hx).ne)]
      cases hs : S x.x.i with
      | false => rfl
      | true =>
        have hb := (h.behind x hx).writes' hdx (.inr hd)
        have := h.bitsPost x hx S hc (hc x.x.i x.x.o hs (h.entsPost x hx).op) e.x.i hb
        rw [hn] at this; cases this
  · rw [if_neg hd]
    simp only [TS, setS_same, hn]
    refine TS_same ?_ fun x hx _ => setS_ne (Ne.symm (h.behind x hx).ne)
    rw [updT_apply, if_neg hd]
    exact hpre t

theorem mem_split {tr : List Ent} {e : Ent} (h : e ∈ tr) : ∃ pre post, tr = pre ++ e :: post := List.append_of_mem h

/-- The first effect of a list, and what stands ahead of it. -/
theorem firstEff : ∀ (es : List Ent), ∃ mid rest, es = mid ++ rest ∧ (∀ x ∈ mid, x.x.c ≠ .eff) ∧ ∀ e r, rest = e :: r → e.x.c = .eff
  | [] => ⟨[], [], rfl, (fun x hx => by cases hx), fun e r h => by cases h⟩
  | x :: xs => by
    by_cases hx : x.x.c = .eff
    · exact ⟨[], x :: xs, rfl, (fun y hy => by cases hy), fun e r h => by injection h with h1 h2; subst h1; exact hx⟩
    · obtain ⟨mid, rest, h1, h2, h3⟩ := firstEff xs
      refine ⟨x :: mid, rest, by rw [h1]; rfl, fun y hy => ?_, h3⟩
      cases hy with
      | head => exact hx
      | tail _ hy => exact h2 y hy

theorem Chain.last {s sN : St} {pd : List Ent} (h : Chain s pd sN) : stH pd sN = s.h := by
  cases h with
  | nil => rfl
  | cons e es _ h => rfl

theorem EntOK.pureOut {e : Ent} (h : EntOK C cf ops e) (hc : e.x.c = .pure) (hw : Wanted ops e) : pureA C.P (globF C.gs e.sb.tmps.get) e.x.o.op = some e.r ∧ e.sa.h = e.sb.h := by
  rcases h.out with ⟨hw', _⟩ | ⟨_, R, hR, hv, hh⟩
  · unfold Wanted at hw; rw [hw] at hw'; cases hw'
  · unfold opOut opOutE at hR
    rw [← h.cl, hc] at hR
    simp only at hR
    split at hR
    · rename_i v hp
      injection hR with hR; injection hR with h1 h2; subst h1
      refine ⟨?_, hh⟩
      rw [← hv]; exact hp
    · cases hR

theorem EntOK.readOut {e : Ent} (h : EntOK C cf ops e) (hc : e.x.c = .read) (hw : Wanted ops e) :
    readA C.P (globF C.gs e.sb.tmps.get) e.sb.h e.x.o.op = some e.r ∧ e.sa.h = e.sb.h ∧ e.l = readAt (globF C.gs e.sb.tmps.get) e.x.o.op := by
  rcases h.out with ⟨hw', _⟩ | ⟨_, R, hR, hv, hh⟩
  · unfold Wanted at hw; rw [hw] at hw'; cases hw'
  · unfold opOut opOutE at hR
    rw [← h.cl, hc] at hR
    simp only at hR
    split at hR
    · rename_i v hp
      injection hR with hR; injection hR with h1 h2; subst h1
      refine ⟨?_, hh, h2.symm⟩
      rw [← hv]; exact hp
    · cases hR

theorem EntOK.allocOut {e : Ent} (h : EntOK C cf ops e) (hc : e.x.c = .alloc) (hw : Wanted ops e) :
    ∃ B, allocA C.P (globF C.gs e.sb.tmps.get) e.sb.h.next e.x.o.op = some (e.r, B) ∧ e.sa.h = e.sb.h.push B ∧ e.l = [e.sb.h.next] := by
  rcases h.out with ⟨hw', _⟩ | ⟨_, R, hR, hv, hh⟩
  · unfold Wanted at hw; rw [hw] at hw'; cases hw'
  · unfold opOut opOutE at hR
    rw [← h.cl, hc] at hR
    simp only at hR
    split at hR
    · rename_i v B hp
      injection hR with hR; injection hR with h1 h2; subst h1
      refine ⟨B, ?_, hh, h2.symm⟩
      rw [← hv]; exact hp
    · cases hR

theorem EntOK.grows {e : Ent} (h : EntOK C cf ops e) (hc : e.x.c = .alloc) (hw : Wanted ops e) : e.sa.h.next = e.sb.h.next + 1 := by
  obtain ⟨B, _, hB, _⟩ := h.allocOut hc hw
  rw [hB]; rfl

theorem Chain.wf (hcf : CallOK C cf) {s s' : St} {es : List Ent} (h : Chain s es s') (ho : ∀ e ∈ es, EntOK C cf ops e) (hw : WF s.h) : WF s'.h := by
  induction h with
  | nil => exact hw
  | cons e es s' h ih => exact ih (fun x hx => ho x (List.mem_cons_of_mem _ hx)) (((ho e List.mem_cons_self).heap hcf).1.wf hw)

theorem Chain.bounds (hcf : CallOK C cf) {s s' : St} {es : List Ent} (h : Chain s es s') (ho : ∀ e ∈ es, EntOK C cf ops e) {x : Ent} (hx : x ∈ es) :
    s.h.next ≤ x.sb.h.next ∧ (x.x.c = .alloc → Wanted ops x → x.sb.h.next < s'.h.next) := by
  obtain ⟨p, q, rfl⟩ := mem_split hx
  obtain ⟨m, h1, h2⟩ := h.append
  obtain ⟨rfl, h3⟩ := h2.head
  refine ⟨(h1.next hcf fun y hy => ho y (by simp [hy])).1, fun hc hw => ?_⟩
  have := (ho x (by simp)).grows hc hw
  have := (h3.next hcf fun y hy => ho y (by simp [hy])).1
  omega

/-- One number, one entry. -/
theorem RegOK.one {tr : List Ent} (hok : RegOK C cf ops tr) {x e : Ent} (hx : x ∈ tr) (he : e ∈ tr) (hxi : x.x.i = e.x.i) : x = e := by
  obtain ⟨pre, post, hsp⟩ := mem_split he
  have hab := hok.about hsp
  rw [hsp] at hx
  rcases List.mem_append.1 hx with hp | hp
  · exact absurd hxi (hab.before x hp).ne
  · cases hp with
    | head => rfl
    | tail _ hp => exact absurd hxi.symm (hab.behind x hp).ne

/-- Of two, the one ahead is apart in the list. -/
theorem RegOK.pair {tr xs ys : List Ent} {x y : Ent} (hok : RegOK C cf ops tr) (hs : tr = xs ++ ys) (hx : x ∈ xs) (hy : y ∈ ys) : Pair ops x y := by
  have := hok.pw
  rw [hs, List.pairwise_append] at this
  exact this.2.2 x hx y hy

/-- An ordering that stands, stands in every order. -/
theorem BitsOK.done {x : It} (h : BitsOK ops x) {S : Nat → Bool} (hc : Closed ops S) (hx : S x.i = true) (ho : ops[x.i]? = some x.o) {k : Nat} (hk : x.bits.testBit k = true) : S k = true :=
  h S hc (hc x.i x.o hx ho) k hk

section
variable {tr : List Ent} {s0 sN : St} {ρ0 : Ren} {w0 : World} {S : Nat → Bool} {a : Act} {w : World} {ρ : Ren} {dn pd : List Ent} {e : Ent}

theorem Inv.stay (hok : RegOK C cf ops tr) (hI : Inv C ops tr s0 sN ρ0 w0 S a w ρ dn pd) (he : e ∈ tr) (hd : Deps e.x.o S) (hdst : ∀ i, e.x.o.dst = some i → i < s0.n)
    (hwr : TS (setS S e.x.i) tr s0.tmps.get = updT (TS S tr s0.tmps.get) e.x.o.dst e.r) {u : Value} (hu : VR ρ e.r u) (hne : e.x.c ≠ .eff) :
    Inv C ops tr s0 sN ρ0 w0 (setS S e.x.i) (a.put e.x.o.dst u) w ρ dn pd := by
  refine ⟨hI.split, fun x hx hxe => setS_mono (hI.dnE x hx hxe), fun x es hx => ?_, hI.hr, ?_, hI.gl, hI.fr, fun x hx hxa hxs hxw => hI.al x hx hxa (by
    cases hS : S x.x.i with
    | false => rfl
    | true => rw [setS_mono hS] at hxs; cases hxs) hxw, hI.cl.set (hok.ents e he).op hd⟩
  · obtain ⟨h1, h2⟩ := hI.pdH x es hx
    refine ⟨h1, ?_⟩
    rw [setS_ne, h2]
    intro hxi
    have hxt : x ∈ tr := by rw [hI.split, hx]; simp
    have := hok.one hxt he hxi
    subst this
    exact hne h1
  · rw [hwr]
    exact hI.tm.put hdst hu

theorem Inv.adv (hcf : CallOK C cf) (hok : RegOK C cf ops tr) (hch : Chain s0 tr sN) {es : List Ent} (hI : Inv C ops tr s0 sN ρ0 w0 S a w ρ dn (e :: es)) (hd : Deps e.x.o S)
    (hdst : ∀ i, e.x.o.dst = some i → i < s0.n) (hwr : TS (setS S e.x.i) tr s0.tmps.get = updT (TS S tr s0.tmps.get) e.x.o.dst e.r) {u : Value} {ρ' : Ren} {w' : World}
    (hu : VR ρ' e.r u) (hh : HR ρ' e.sa.h w') (hf : Fr e.sb.h.next ρ e.sb.h w ρ' e.sa.h w') :
    ∃ dn' pd', Inv C ops tr s0 sN ρ0 w0 (setS S e.x.i) (a.put e.x.o.dst u) w' ρ' dn' pd' := by
  have hec := (hI.pdH e es rfl).1
  have hes := (hI.pdH e es rfl).2
  have he : e ∈ tr := by rw [hI.split]; simp
  obtain ⟨mid, rest, h1, h2, h3⟩ := firstEff es
  subst h1
  have hent : ∀ x ∈ tr, EntOK C cf ops x := hok.ents
  have hch' := hch
  rw [hI.split] at hch'
  obtain ⟨m, hc1, hc2⟩ := hch'.append
  obtain ⟨rfl, hc3⟩ := hc2.head
  obtain ⟨m2, hc4, hc5⟩ := hc3.append
  have hmidE : ∀ x ∈ mid, EntOK C cf ops x := fun x hx => hent x (by rw [hI.split]; simp [hx])
  have hdnE : ∀ x ∈ dn, EntOK C cf ops x := fun x hx => hent x (by rw [hI.split]; simp [hx])
  obtain ⟨hm1, hm2⟩ := hc4.mild hcf hmidE h2 hh e.sb.h.next
  have hlast := hc5.last
  have hs0n := (hc1.next hcf hdnE).1
  refine ⟨dn ++ e :: mid, rest, by rw [hI.split]; simp, ?_, fun x r hx => ?_, by rw [hlast]; exact hm1, ?_, hI.gl.ext hf.ext, ?_, ?_, hI.cl.set (hent e he).op hd⟩
  · intro x hx hxe
    rcases List.mem_append.1 hx with hx | hx
    · exact setS_mono (hI.dnE x hx hxe)
    · cases hx with
      | head => exact setS_same _ _
      | tail _ hx => exact absurd hxe (h2 x hx)
  · refine ⟨h3 x r hx, ?_⟩
    have hxt : x ∈ rest := by rw [hx]; simp
    have hp : Pair ops e x := hok.pair (xs := dn ++ [e]) (ys := mid ++ rest) (by rw [hI.split]; simp) (by simp) (by simp [hxt])
    have hxtr : x ∈ tr := by rw [hI.split]; simp [hxt]
    rw [setS_ne (Ne.symm hp.ne)]
    cases hS : S x.x.i with
    | false => rfl
    | true =>
      have := (hok.bits x hxtr).done hI.cl hS (hent x hxtr).op (hp.effs hec (.inl (h3 x r hx)))
      rw [hes] at this; cases this
  · rw [hwr]
    exact (hI.tm.ext hf.ext).put hdst hu
  · rw [hlast]
    exact hI.fr.trans (hf.trans hm2 (Nat.le_refl _)) hs0n
  · intro x hx hxa hxs hxw
    rcases List.mem_append.1 hx with hx | hx
    · have hlt := (hc1.bounds hcf hdnE hx).2 hxa hxw
      rw [hf.old _ hlt]
      refine hI.al x hx hxa ?_ hxw
      cases hS : S x.x.i with
      | false => rfl
      | true => rw [setS_mono hS] at hxs; cases hxs
    · cases hx with
      | head => rw [hec] at hxa; cases hxa
      | tail _ hx => exact hh.fresh _ (hc4.bounds hcf hmidE hx).1

/-- An effect that is ready is the next one. -/
theorem Inv.effHead (hok : RegOK C cf ops tr) (hI : Inv C ops tr s0 sN ρ0 w0 S a w ρ dn pd) (he : e ∈ tr) (hn : S e.x.i = false) (hd : Deps e.x.o S) (hc : e.x.c = .eff) : ∃ es, pd = e :: es := by
  have he' := he
  rw [hI.split] at he'
  rcases List.mem_append.1 he' with hp | hp
  · have := hI.dnE e hp hc
    rw [hn] at this; cases this
  · cases pd with
    | nil => cases hp
    | cons x es =>
      cases hp with
      | head => exact ⟨_, rfl⟩
      | tail _ hp =>
        have hpr : Pair ops x e := hok.pair (xs := dn ++ [x]) (ys := es) (by rw [hI.split]; simp) (by simp) hp
        have := hok.bits e he S hI.cl hd x.x.i (hpr.effs (hI.pdH x es rfl).1 (.inl hc))
        rw [(hI.pdH x es rfl).2] at this; cases this

/-- What is made now is made ahead of the next effect. -/
theorem Inv.allocDone (hok : RegOK C cf ops tr) (hI : Inv C ops tr s0 sN ρ0 w0 S a w ρ dn pd) (he : e ∈ tr) (hd : Deps e.x.o S) (hc : e.x.c = .alloc) : e ∈ dn := by
  have he' := he
  rw [hI.split] at he'
  rcases List.mem_append.1 he' with hp | hp
  · exact hp
  · cases pd with
    | nil => cases hp
    | cons x es =>
      cases hp with
      | head => have := (hI.pdH _ es rfl).1; rw [hc] at this; cases this
      | tail _ hp =>
        have hpr : Pair ops x e := hok.pair (xs := dn ++ [x]) (ys := es) (by rw [hI.split]; simp) (by simp) hp
        have := hok.bits e he S hI.cl hd x.x.i (hpr.effs (hI.pdH x es rfl).1 (.inr hc))
        rw [(hI.pdH x es rfl).2] at this; cases this

/-- The effects behind the next one are not done. -/
theorem Inv.pdOpen (hok : RegOK C cf ops tr) (hI : Inv C ops tr s0 sN ρ0 w0 S a w ρ dn pd) {x : Ent} (hx : x ∈ pd) (hc : x.x.c = .eff) : S x.x.i = false := by
  cases pd with
  | nil => cases hx
  | cons y es =>
    cases hx with
    | head => exact (hI.pdH _ es rfl).2
    | tail _ hx =>
      replace hx : x ∈ es := hx
      cases hS : S x.x.i with
      | false => rfl
      | true =>
        have hxt : x ∈ tr := by rw [hI.split]; simp [hx]
        have hpr : Pair ops y x := hok.pair (xs := dn ++ [y]) (ys := es) (by rw [hI.split]; simp) (by simp) hx
        have := (hok.bits x hxt).done hI.cl hS (hok.ents x hxt).op (hpr.effs (hI.pdH y es rfl).1 (.inl hc))
        rw [(hI.pdH y es rfl).2] at this; cases this

/-- What one that is ready reads stands in the heap that is. -/
theorem Inv.reads (hcf : CallOK C cf) (hok : RegOK C cf ops tr) (hch : Chain s0 tr sN) (hwf : WF s0.h) (hI : Inv C ops tr s0 sN ρ0 w0 S a w ρ dn pd) (he : e ∈ tr) (hn : S e.x.i = false) (hd : Deps e.x.o S)
    (hc : e.x.c = .read) : ∀ b ∈ e.l, e.sb.h.get b ≠ .dead → ρ b ≠ none → (stH pd sN).get b = e.sb.h.get b := by
  intro b hb hlive hnm
  have hent := hok.ents
  have hch' := hch
  rw [hI.split] at hch'
  obtain ⟨m, hc1, hc2⟩ := hch'.append
  have hm := hc2.last
  have hlt : b < (stH pd sN).next := by
    cases Nat.lt_or_ge b (stH pd sN).next with
    | inl h => exact h
    | inr h => exact absurd (hI.hr.fresh b h) hnm
  have he' := he
  rw [hI.split] at he'
  rcases List.mem_append.1 he' with hp | hp
  · obtain ⟨p, q, rfl⟩ := mem_split hp
    obtain ⟨m2, hd1, hd2⟩ := hc1.append
    obtain ⟨rfl, hd3⟩ := hd2.head
    have hsplit : tr = p ++ e :: (q ++ pd) := by rw [hI.split]; simp
    have hab := hok.about hsplit
    have hwf' : WF e.sb.h := hd1.wf hcf hab.entsPre hwf
    have hbl : b < e.sb.h.next := by
      cases Nat.lt_or_ge b e.sb.h.next with
      | inl h => exact h
      | inr h => exact absurd (hwf' b h) hlive
    have hkeep := Chain.keep hcf (.cons e q m hd3) (ops := ops) (fun x hx => by
      cases hx with
      | head => exact hab.ent
      | tail _ hx => exact hab.entsPost x (List.mem_append_left _ hx)) hbl (fun x hx hxe => by
      cases hx with
      | head => rw [hc] at hxe; cases hxe
      | tail _ hx =>
        replace hx : x ∈ q := hx
        have hpr := hab.behind x (by simp [hx])
        have hxd : S x.x.i = true := hI.dnE x (by simp [hx]) hxe
        have hxtr : x ∈ tr := by rw [hsplit]; simp [hx]
        refine apartL_spec (hpr.re hc hxe ?_) b hb
        cases ho : ordered e.x x.x with
        | false => rfl
        | true =>
          unfold ordered at ho
          rw [hpr.noBack, Bool.or_false] at ho
          have := (hok.bits x hxtr).done hI.cl hxd (hent x hxtr).op ho
          rw [hn] at this; cases this)
    rw [hm]; exact hkeep
  · obtain ⟨p, q, rfl⟩ := mem_split hp
    obtain ⟨m2, hd1, hd2⟩ := hc2.append
    obtain ⟨rfl, _⟩ := hd2.head
    have hsplit : tr = (dn ++ p) ++ e :: q := by rw [hI.split]; simp
    have hab := hok.about hsplit
    rw [hm] at hlt
    have hkeep := hd1.keep hcf (ops := ops) (fun x hx => hab.entsPre x (by simp [hx])) hlt (fun x hx hxe => by
        have hpr := hab.before x (by simp [hx])
        have hxd : S x.x.i = false := hI.pdOpen hok (by simp [hx]) hxe
        refine apartL_spec (hpr.er hxe hc ?_) b hb
        cases ho : ordered x.x e.x with
        | false => rfl
        | true =>
          unfold ordered at ho
          rw [hpr.noBack, Bool.or_false] at ho
          have := hok.bits e he S hI.cl hd x.x.i ho
          rw [hxd] at this; cases this)
    rw [hm]; exact hkeep.symm

/-- What one that is ready makes stands in the heap that is. -/
theorem Inv.made (hcf : CallOK C cf) (hok : RegOK C cf ops tr) (hch : Chain s0 tr sN) (hI : Inv C ops tr s0 sN ρ0 w0 S a w ρ dn pd) (he : e ∈ dn) (hn : S e.x.i = false)
    (hc : e.x.c = .alloc) (hw : Wanted ops e) : (stH pd sN).get e.sb.h.next = e.sa.h.get e.sb.h.next ∧ e.sb.h.next < (stH pd sN).next ∧ s0.h.next ≤ e.sb.h.next ∧
      ∀ x ∈ dn, x ≠ e → x.x.c = .alloc → Wanted ops x → x.sb.h.next ≠ e.sb.h.next := by
  have hent := hok.ents
  have hch' := hch
  rw [hI.split] at hch'
  obtain ⟨m, hc1, hc2⟩ := hch'.append
  have hm := hc2.last
  obtain ⟨p, q, rfl⟩ := mem_split he
  obtain ⟨m2, hd1, hd2⟩ := hc1.append
  obtain ⟨rfl, hd3⟩ := hd2.head
  have hsplit : tr = p ++ e :: (q ++ pd) := by rw [hI.split]; simp
  have hab := hok.about hsplit
  have hgr := hab.ent.grows hc hw
  obtain ⟨B, _, hB, hl⟩ := hab.ent.allocOut hc hw
  have hqE : ∀ x ∈ q, EntOK C cf ops x := fun x hx => hab.entsPost x (by simp [hx])
  have hkeep := hd3.keep hcf hqE (b := e.sb.h.next) (by omega) (fun x hx hxe => by
    have hpr := hab.behind x (by simp [hx])
    have hxd : S x.x.i = true := hI.dnE x (by simp [hx]) hxe
    have hxtr : x ∈ tr := by rw [hsplit]; simp [hx]
    refine apartL_spec (hpr.ae hc hxe ?_) _ (by rw [hl]; simp)
    cases ho : ordered e.x x.x with
    | false => rfl
    | true =>
      unfold ordered at ho
      rw [hpr.noBack, Bool.or_false] at ho
      have := (hok.bits x hxtr).done hI.cl hxd (hent x hxtr).op ho
      rw [hn] at this; cases this)
  have hnx := (hd3.next hcf hqE).1
  refine ⟨by rw [hm]; exact hkeep, by rw [hm]; omega, (hd1.next hcf hab.entsPre).1, fun x hx hne hxc hxw => ?_⟩
  rcases List.mem_append.1 hx with hx | hx
  · have := (hd1.bounds hcf hab.entsPre hx).2 hxc hxw
    omega
  · cases hx with
    | head => exact absurd rfl hne
    | tail _ hx =>
      have := (hd3.bounds hcf hqE hx).1
      omega

end

/-- One step: any operation that is ready. -/
theorem Inv.step (hcf : CallOK C cf) {tr : List Ent} {s0 sN : St} (hwf : WF s0.h) (hok : RegOK C cf ops tr) (hch : Chain s0 tr sN) {ρ0 : Ren} {w0 : World} {S : Nat → Bool} {a : Act} {w : World} {ρ : Ren} {dn pd : List Ent}
    (hI : Inv C ops tr s0 sN ρ0 w0 S a w ρ dn pd) {e : Ent} (he : e ∈ tr) (hn : S e.x.i = false) (hd : Deps e.x.o S) {K : Act → World → Prop} {Q : Exit → Act → World → Prop}
    (hK : ∀ a' w' ρ' dn' pd', Inv C ops tr s0 sN ρ0 w0 (setS S e.x.i) a' w' ρ' dn' pd' → K a' w') : wpOp C.P ops Q e.x.i K a w := by
  obtain ⟨pre, post, hsp⟩ := mem_split he
  have hab := hok.about hsp
  have hch' := hch
  rw [hsp] at hch'
  obtain ⟨m, hc1, hc2⟩ := hch'.append
  obtain ⟨rfl, hc3⟩ := hc2.head
  have hlooks := hab.looks hI.cl hn hd hc1
  have hwrote := hab.wrote hI.cl hn s0.tmps.get
  rw [← hsp] at hlooks hwrote
  have hnn : e.sb.n = s0.n := (hc1.next hcf hab.entsPre).2
  have hdst : ∀ i, e.x.o.dst = some i → i < s0.n := fun i hi => by rw [← hnn]; exact hab.ent.dst i hi
  have henv : ∀ x ∈ e.x.o.op.operands, globF C.gs (TS S tr s0.tmps.get) x = globF C.gs e.sb.tmps.get x := globF_congr (ops := ops) fun t ht => hlooks t (.inl ht)
  have hER := envR hI.gl hI.tm
  unfold wpOp
  simp only [hab.ent.op]
  rcases hab.ent.out with ⟨hw, hrr, hh, hl⟩ | ⟨hw, R, hR, hRv, hh⟩
  · rw [← wantedA_congr (T := TS S tr s0.tmps.get) (fun t ht => hlooks t (.inl ht))] at hw
    have hwt := wanted_sound hw hI.tm
    simp only [hwt, Bool.false_eq_true, if_false]
    have hu : VR ρ e.r undef := by rw [hrr]; exact ⟨[], rfl, rfl⟩
    by_cases hc : e.x.c = .eff
    · obtain ⟨es, rfl⟩ := hI.effHead hok he hn hd hc
      obtain ⟨dn', pd', h⟩ := hI.adv hcf hok hch hd hdst hwrote (u := undef) (w' := w) hu (by rw [hh]; exact hI.hr) (by rw [hh]; exact Fr.refl _ _ _ _)
      exact hK _ _ _ _ _ h
    · exact hK _ _ _ _ _ (hI.stay hok he hd hdst hwrote hu hc)
  · have hW : Wanted ops e := hw
    have hw' := hw
    rw [← wantedA_congr (T := TS S tr s0.tmps.get) (fun t ht => hlooks t (.inl ht))] at hw'
    have hwt := wanted_sound hw' hI.tm
    simp only [hwt, if_true]
    refine .inl ?_
    cases hc : e.x.c with
    | bad => exact absurd hc (hok.nb e he)
    | eff =>
      obtain ⟨es, rfl⟩ := hI.effHead hok he hn hd hc
      have hR' : opOutE C cf e.x.o (globF C.gs (TS S tr s0.tmps.get)) e.sb.h = some (R, e.l) := (opOutE_congr henv).trans hR
      refine opOut_wp hcf hR' (hc1.wf hcf hab.entsPre hwf) hI.gl hER hI.hr fun u ρ' w' hu hh' hf => ?_
      obtain ⟨dn', pd', h⟩ := hI.adv hcf hok hch hd hdst hwrote (u := u) (w' := w') (ρ' := ρ') (by rw [← hRv]; exact hu) (by rw [hh]; exact hh') (by rw [hh]; exact hf)
      exact hK _ _ _ _ _ h
    | pure =>
      obtain ⟨h1, _⟩ := hab.ent.pureOut hc hW
      rw [← pureA_congr henv] at h1
      obtain ⟨u, hu, hrun⟩ := pureA_sound (o := e.x.o) hER (hab.ent.cl.symm.trans hc) h1
      unfold Oper.wp
      rw [hrun w]
      exact hK _ _ _ _ _ (hI.stay hok he hd hdst hwrote hu (by rw [hc]; simp))
    | read =>
      obtain ⟨h1, _, h3⟩ := hab.ent.readOut hc hW
      have hb : ∀ b ∈ readAt (globF C.gs (TS S tr s0.tmps.get)) e.x.o.op, (stH pd sN).get b = e.sb.h.get b := by
        intro b hb
        refine hI.reads hcf hok hch hwf he hn hd hc b ?_ ?_ (readAt_named hER b hb)
        · rw [h3, ← readAt_congr henv]; exact hb
        · refine readA_live h1 b ?_
          rw [← readAt_congr henv]; exact hb
      rw [← readA_congr henv, ← readA_heap hb] at h1
      obtain ⟨u, hu, hrun⟩ := readA_sound (o := e.x.o) hER hI.hr (hab.ent.cl.symm.trans hc) h1
      unfold Oper.wp
      rw [hrun]
      exact hK _ _ _ _ _ (hI.stay hok he hd hdst hwrote hu (by rw [hc]; simp))
    | alloc =>
      have hdn := hI.allocDone hok he hd hc
      obtain ⟨B, h1, h2, h3⟩ := hab.ent.allocOut hc hW
      rw [← allocA_congr henv] at h1
      obtain ⟨m1, m2, m3, m4⟩ := hI.made hcf hok hch hdn hn hc hW
      obtain ⟨ob, u, hrun, hall⟩ := allocA_sound (o := e.x.o) hER (hab.ent.cl.symm.trans hc) h1 w
      have hnone := hI.al e hdn hc hn hW
      have hx := updR_ext (g := ⟨w.heap.size, 0, 0⟩) hnone
      obtain ⟨hu, hB⟩ := hall (updR ρ e.sb.h.next ⟨w.heap.size, 0, 0⟩) hx (by simp [updR])
      have hgetB : (stH pd sN).get e.sb.h.next = B := by rw [m1, h2, AH.get_push, if_pos rfl]
      unfold Oper.wp
      rw [hrun]
      refine hK _ _ (updR ρ e.sb.h.next ⟨w.heap.size, 0, 0⟩) dn pd ?_
      have hf : Fr s0.h.next ρ (stH pd sN) w (updR ρ e.sb.h.next ⟨w.heap.size, 0, 0⟩) (stH pd sN) (w.alloc ob) := Fr.alloc hnone (fun _ _ => rfl) (Nat.le_refl _) m3
      refine ⟨hI.split, fun x hx hxe => setS_mono (hI.dnE x hx hxe), fun x es hx' => ?_, alloc_bind hI.hr m2 hnone (by rw [hgetB]; exact hB), ?_, hI.gl.ext hx, hI.fr.trans hf (Nat.le_refl _), ?_, hI.cl.set hab.ent.op hd⟩
      · obtain ⟨g1, g2⟩ := hI.pdH x es hx'
        refine ⟨g1, ?_⟩
        rw [setS_ne, g2]
        intro hxi
        have hxt : x ∈ tr := by rw [hI.split, hx']; simp
        have := hok.one hxt he hxi
        subst this
        rw [hc] at g1; cases g1
      · rw [hwrote]
        exact (hI.tm.ext hx).put hdst hu
      · intro x hx' hxa hxs hxw
        have hxe : x ≠ e := fun heq => by subst heq; rw [setS_same] at hxs; cases hxs
        unfold updR
        rw [if_neg (m4 x hx' hxe hxa hxw)]
        refine hI.al x hx' hxa ?_ hxw
        cases hS' : S x.x.i with
        | false => rfl
        | true => rw [setS_mono hS'] at hxs; cases hxs

end
end Go.Abs

/-! Regions that draw their order: from the evaluator's run to every order. -/
namespace Go.Abs
open Go

/-! ## The items -/
theorem itemsOf_mem {x : It} : ∀ {os : List Oper} {bs : List Nat} {i : Nat}, x ∈ itemsOf os bs i → i ≤ x.i ∧ os[x.i - i]? = some x.o ∧ bs[x.i - i]? = some x.bits ∧ x.c = cls x.o.op
  | [], bs, i, h => by cases bs <;> cases h
  | _ :: _, [], _, h => by cases h
  | o :: os, b :: bs, i, h => by
    simp only [itemsOf] at h
    cases h with
    | head => exact ⟨Nat.le_refl _, by simp, by simp, rfl⟩
    | tail _ h =>
      obtain ⟨h1, h2, h3, h4⟩ := itemsOf_mem h
      have : x.i - i = (x.i - (i + 1)) + 1 := by omega
      exact ⟨by omega, by rw [this]; simpa using h2, by rw [this]; simpa using h3, h4⟩

theorem itemsOf_apart : ∀ {os : List Oper} {bs : List Nat} {i : Nat}, (itemsOf os bs i).Pairwise fun x y => x.i ≠ y.i
  | [], bs, i => by cases bs <;> exact List.Pairwise.nil
  | _ :: _, [], _ => List.Pairwise.nil
  | o :: os, b :: bs, i => by
    simp only [itemsOf]
    refine List.Pairwise.cons (fun y hy => ?_) itemsOf_apart
    have := (itemsOf_mem hy).1
    simp only; omega

theorem itemsOf_all : ∀ {os : List Oper} {bs : List Nat} {i j : Nat}, os.length = bs.length → j < os.length → ∃ x ∈ itemsOf os bs i, x.i = i + j
  | [], _, _, _, _, h => by simp at h
  | _ :: _, [], _, _, h, _ => by simp at h
  | o :: os, b :: bs, i, j, hl, hj => by
    simp only [itemsOf]
    cases j with
    | zero => exact ⟨_, List.mem_cons_self, rfl⟩
    | succ j =>
      obtain ⟨x, hx, he⟩ := itemsOf_all (os := os) (bs := bs) (i := i + 1) (j := j) (by simpa using hl) (by simpa using hj)
      exact ⟨x, List.mem_cons_of_mem _ hx, by omega⟩

/-! ## The bits -/
theorem bitsOf_length : ∀ (os : List Oper) (acc : List Nat), (bitsOf os acc).length = acc.length + os.length
  | [], acc => by simp [bitsOf]
  | o :: os, acc => by
    simp only [bitsOf]
    rw [bitsOf_length os]
    simp; omega

def AccOK (ops : Array Oper) (acc : List Nat) : Prop := ∀ (j b : Nat), acc[j]? = some b → ∃ o : Oper, ops[j]? = some o ∧ ∀ S, Closed ops S → Deps o S → ∀ k, b.testBit k = true → S k = true

theorem edgeBits_ok {ops : Array Oper} {acc : List Nat} (ha : AccOK ops acc) {S : Nat → Bool} (hc : Closed ops S) : ∀ {es : List Edge}, (∀ e ∈ es, Region.binds .any e = true → S e.on = true) →
    ∀ k, (edgeBits acc es).testBit k = true → S k = true
  | [], _, k, h => by simp [edgeBits] at h
  | e :: es, hd, k, h => by
    simp only [edgeBits] at h
    have ih := edgeBits_ok ha hc (es := es) fun x hx => hd x (List.mem_cons_of_mem _ hx)
    split at h
    · rename_i hb
      have hs := hd e List.mem_cons_self hb
      rw [Nat.testBit_or, Nat.testBit_or, Bool.or_eq_true, Bool.or_eq_true] at h
      rcases h with (h | h) | h
      · split at h
        · rename_i b hn
          rw [nth_eq] at hn
          obtain ⟨o, ho, hall⟩ := ha _ _ hn
          exact hall S hc (hc _ _ hs ho) k h
        · simp at h
      · rw [Nat.one_shiftLeft, Nat.testBit_two_pow] at h
        simp only [decide_eq_true_eq] at h
        rw [← h]; exact hs
      · exact ih k h
    · exact ih k h

theorem bitsOf_ok {ops : Array Oper} : ∀ {os : List Oper} {acc : List Nat}, AccOK ops acc → ops.toList.drop acc.length = os → AccOK ops (bitsOf os acc)
  | [], _, ha, _ => ha
  | o :: os, acc, ha, hd => by
    simp only [bitsOf]
    refine bitsOf_ok ?_ (by
      rw [List.length_append, List.length_singleton, ← List.drop_drop, hd]; rfl)
    intro j b hj
    rw [List.getElem?_append] at hj
    split at hj
    · exact ha j b hj
    · rename_i hlt
      have : j = acc.length := by
        cases hk : j - acc.length with
        | zero => omega
        | succ k => rw [hk] at hj; simp at hj
      subst this
      simp only [Nat.sub_self, List.getElem?_cons_zero, Option.some.injEq] at hj
      subst hj
      refine ⟨o, ?_, fun S hc hdp k hk => edgeBits_ok ha hc (fun e he => hdp e (by simpa using he)) k hk⟩
      have : (ops.toList.drop acc.length)[0]? = some o := by rw [hd]; rfl
      rw [List.getElem?_drop] at this
      simpa using this

/-! ## The order of the reference -/
theorem pairsOk_spec {ops : Array Oper} : ∀ {l : List It}, pairsOk ops l = true → (l.Pairwise fun x y => pairOk ops x y = true) ∧ ∀ x ∈ l, x.c ≠ .bad
  | [], _ => ⟨.nil, fun x hx => by cases hx⟩
  | x :: xs, h => by
    simp only [pairsOk, Bool.and_eq_true] at h
    obtain ⟨⟨h1, h2⟩, h3⟩ := h
    obtain ⟨h4, h5⟩ := pairsOk_spec h3
    rw [List.all_eq_true] at h2
    refine ⟨.cons (fun y hy => h2 y hy) h4, fun y hy => ?_⟩
    cases hy with
    | head => simpa using h1
    | tail _ hy => exact h5 y hy

theorem reOf_spec : ∀ {l : List It}, l.Pairwise fun x y => ordered x y = false →
    (x.c = .read → y.c = .eff → (x.i, y.i) ∈ reOf l) ∧ (x.c = .eff → y.c = .read → (y.i, x.i) ∈ reOf l) ∧ (x.c = .alloc → y.c = .eff → (x.i, y.i) ∈ reOf l)
  | [] => .nil
  | x :: xs => by
    refine .cons (fun y hy ho => ?_) ?_
    · simp only [reOf, List.mem_append, List.mem_filterMap]
      refine ⟨fun h1 h2 => .inl ⟨y, hy, ?_⟩, fun h1 h2 => .inl ⟨y, hy, ?_⟩, fun h1 h2 => .inl ⟨y, hy, ?_⟩⟩ <;> simp [h1, h2, ho]
    · refine (reOf_spec (l := xs)).imp fun {a b} h ho => ?_
      obtain ⟨h1, h2, h3⟩ := h ho
      simp only [reOf, List.mem_append]
      exact ⟨fun a b => .inr (h1 a b), fun a b => .inr (h2 a b), fun a b => .inr (h3 a b)⟩

structure OrdOK (ops : Array Oper) (ord : List It) : Prop where
  ent : ∀ x ∈ ord, ops[x.i]? = some x.o ∧ x.c = cls x.o.op ∧ BitsOK ops x
  apart : ord.Pairwise fun x y => x.i ≠ y.i
  all : ∀ j, j < ops.size → ∃ x ∈ ord, x.i = j
  pairs : ord.Pairwise fun x y => pairOk ops x y = true
  nb : ∀ x ∈ ord, x.c ≠ .bad
  back : ∀ (j : Nat) (o : Oper), ops[j]? = some o → ∀ e ∈ o.after, Region.binds .any e = true → e.on < j

theorem backOk_spec : ∀ {l : List It}, backOk l = true → ∀ x ∈ l, ∀ e ∈ x.o.after, Region.binds .any e = true → e.on < x.i
  | [], _, _, hx => by cases hx
  | y :: ys, h, x, hx => by
    simp only [backOk, Bool.and_eq_true] at h
    cases hx with
    | head =>
      intro e he hb
      have := h.1
      rw [List.all_eq_true] at this
      have := this e (by simpa using he)
      rw [hb] at this
      simpa [Nat.blt_eq] using this
    | tail _ hx => exact backOk_spec h.2 x hx

theorem pair_one {its : List It} (h : its.Pairwise fun x y => x.i ≠ y.i) {x y : It} (hx : x ∈ its) (hy : y ∈ its) (he : x.i = y.i) : x = y := by
  induction h with
  | nil => cases hx
  | cons h1 h2 ih =>
    cases hx with
    | head =>
      cases hy with
      | head => rfl
      | tail _ hy => exact absurd he (h1 y hy)
    | tail _ hx =>
      cases hy with
      | head => exact absurd he.symm (h1 x hx)
      | tail _ hy => exact ih hx hy

theorem regOf_spec {ops : Array Oper} {g : Reg} (h : regOf ops = some g) : OrdOK ops g.ord ∧ g.re = reOf g.ord := by
  unfold regOf at h
  simp only at h
  split at h
  · rename_i hp hb
    injection h with h; subst h
    refine ⟨?_, rfl⟩
    have hlen : (bitsOf ops.toList []).length = ops.toList.length := by rw [bitsOf_length]; simp
    have hacc : AccOK ops (bitsOf ops.toList []) := bitsOf_ok (fun j b hj => by simp at hj) rfl
    have hits : ∀ x ∈ itemsOf ops.toList (bitsOf ops.toList []) 0, ops[x.i]? = some x.o ∧ x.c = cls x.o.op ∧ BitsOK ops x := by
      intro x hx
      obtain ⟨_, h2, h3, h4⟩ := itemsOf_mem hx
      simp only [Nat.sub_zero] at h2 h3
      have h2' : ops[x.i]? = some x.o := by simpa using h2
      refine ⟨h2', h4, fun S hc hd k hk => ?_⟩
      obtain ⟨o, ho, hall⟩ := hacc _ _ h3
      rw [h2'] at ho; injection ho with ho; subst ho
      exact hall S hc hd k hk
    have hall : ∀ j, j < ops.size → ∃ x ∈ itemsOf ops.toList (bitsOf ops.toList []) 0, x.i = j := by
      intro j hj
      obtain ⟨x, hx, he⟩ := itemsOf_all (i := 0) (j := j) hlen.symm (by simpa using hj)
      exact ⟨x, hx, by omega⟩
    obtain ⟨hp1, hp2⟩ := pairsOk_spec hp
    refine ⟨fun x hx => ?_, ?_, fun j hj => ?_, hp1, hp2, fun j o ho e he hbd => ?_⟩
    · rw [List.mem_append, List.mem_filter, List.mem_filter] at hx
      exact hits x (hx.elim (·.1) (·.1))
    · rw [List.pairwise_append]
      refine ⟨itemsOf_apart.filter _, itemsOf_apart.filter _, fun x hx y hy hxy => ?_⟩
      rw [List.mem_filter] at hx hy
      have := pair_one itemsOf_apart hx.1 hy.1 hxy
      subst this
      rw [hx.2] at hy
      simp at hy
    · obtain ⟨x, hx, he⟩ := hall j hj
      refine ⟨x, ?_, he⟩
      rw [List.mem_append, List.mem_filter, List.mem_filter]
      cases hh : hoist x with
      | true => exact .inl ⟨hx, rfl⟩
      | false => exact .inr ⟨hx, rfl⟩
    · have hj : j < ops.size := by
        cases Nat.lt_or_ge j ops.size with
        | inl h => exact h
        | inr h => rw [Array.getElem?_eq_none h] at ho; cases ho
      obtain ⟨x, hx, hxe⟩ := hall j hj
      have hxo := (hits x hx).1
      rw [hxe, ho] at hxo; injection hxo with hxo; subst hxo
      rw [← hxe]; exact backOk_spec hb x hx e he hbd
  · cases h

section
variable {C : Ctx} {cf : CallF} {ops : Array Oper}

theorem stepOp_ent {x : It} (hx : ops[x.i]? = some x.o) (hc : x.c = cls x.o.op) {s s' : St} {l : Log} (h : stepOp C cf ops x.o s = some (s', l)) : ∃ r, EntOK C cf ops ⟨x, s, s', l, r⟩ := by
  unfold stepOp at h
  split at h
  · rename_i hw
    split at h
    · rename_i s1 hp
      injection h with h; injection h with h1 h2; subst h1 h2
      obtain ⟨e1, e2, e3, e4, e5⟩ := putTmp_spec hp
      exact ⟨.tup [], hx, hc, e1, e4, e5, .inl ⟨hw, rfl, e2, rfl⟩⟩
    · cases h
  · rename_i hw
    split at h
    · rename_i r l' hop
      split at h
      · rename_i s1 hp
        injection h with h; injection h with h1 h2; subst h1 h2
        obtain ⟨e1, e2, e3, e4, e5⟩ := putTmp_spec hp
        exact ⟨r.v, hx, hc, e1, e4, e5, .inr ⟨hw, r, hop, rfl, e2⟩⟩
      · cases h
    · cases h
  · cases h

theorem runRec_trace : ∀ {xs : List It} {s s' : St} {rs rs' : List (Nat × Log)}, (∀ x ∈ xs, ops[x.i]? = some x.o ∧ x.c = cls x.o.op) → runRec C cf ops xs s rs = some (s', rs') →
    ∃ tr, tr.map (·.x) = xs ∧ Chain s tr s' ∧ (∀ e ∈ tr, EntOK C cf ops e) ∧ rs' = (tr.map fun e => (e.x.i, e.l)).reverse ++ rs
  | [], s, s', rs, rs', _, h => by
    simp only [runRec] at h
    injection h with h; injection h with h1 h2; subst h1 h2
    exact ⟨[], rfl, .nil s, (fun e he => by cases he), rfl⟩
  | x :: xs, s, s', rs, rs', hx, h => by
    simp only [runRec] at h
    split at h
    · rename_i s1 l hs
      obtain ⟨hx1, hx2⟩ := hx x List.mem_cons_self
      obtain ⟨r, he⟩ := stepOp_ent hx1 hx2 hs
      obtain ⟨tr, h1, h2, h3, h4⟩ := runRec_trace (fun y hy => hx y (List.mem_cons_of_mem _ hy)) h
      refine ⟨⟨x, s, s1, l, r⟩ :: tr, by simp [h1], Chain.cons ⟨x, s, s1, l, r⟩ tr s' h2, fun e hm => ?_, by rw [h4]; simp⟩
      cases hm with
      | head => exact he
      | tail _ hm => exact h3 e hm
    · cases h

theorem findRec_mem : ∀ {rs : List (Nat × Log)}, (rs.Pairwise fun p q => p.1 ≠ q.1) → ∀ {i : Nat} {l : Log}, (i, l) ∈ rs → findRec i rs = l
  | [], _, _, _, h => by cases h
  | (j, m) :: rs, hp, i, l, h => by
    cases hp with
    | cons h1 h2 =>
      simp only [findRec]
      cases h with
      | head => simp
      | tail _ h =>
        have hne : Nat.beq i j = false := by
          cases hb : Nat.beq i j with
          | false => rfl
          | true => exact absurd (Nat.eq_of_beq_eq_true hb).symm (h1 _ h)
        rw [hne]
        exact findRec_mem h2 h

theorem runRec_ok {g : Reg} (hg : regOf ops = some g) {s s' : St} {rs : List (Nat × Log)} (hr : runRec C cf ops g.ord s [] = some (s', rs)) (hre : recsOk g.re rs = true) :
    ∃ tr, tr.map (·.x) = g.ord ∧ Chain s tr s' ∧ RegOK C cf ops tr := by
  obtain ⟨ho, hre'⟩ := regOf_spec hg
  obtain ⟨tr, h1, h2, h3, h4⟩ := runRec_trace (fun x hx => ⟨(ho.ent x hx).1, (ho.ent x hx).2.1⟩) hr
  refine ⟨tr, h1, h2, h3, ?_, fun e he => ?_, fun e he => ?_⟩
  · have hap := ho.apart
    have hps := ho.pairs
    have hro := reOf_spec (l := g.ord)
    rw [← h1, List.pairwise_map] at hap hps
    rw [← hre'] at hro
    rw [← h1, List.pairwise_map] at hro
    have hrs : rs.Pairwise fun p q => p.1 ≠ q.1 := by
      rw [h4, List.append_nil, List.pairwise_reverse, List.pairwise_map]
      exact hap.imp fun h => Ne.symm h
    have hfind : ∀ e ∈ tr, findRec e.x.i rs = e.l := fun e he => findRec_mem hrs (by
      rw [h4, List.append_nil, List.mem_reverse, List.mem_map]; exact ⟨e, he, rfl⟩)
    have hrec : ∀ p ∈ g.re, apartL (findRec p.1 rs) (findRec p.2 rs) = true := by
      unfold recsOk at hre
      rw [List.all_eq_true] at hre
      exact hre
    have hboth := (hap.and hps).and hro
    refine List.Pairwise.imp_of_mem (fun {a b} ha hb h => ?_) hboth
    obtain ⟨⟨p1, p2⟩, p3⟩ := h
    refine ⟨p2, p1, fun c1 c2 c3 => ?_, fun c1 c2 c3 => ?_, fun c1 c2 c3 => ?_⟩
    · have := hrec _ ((p3 c3).1 c1 c2)
      simpa [hfind a ha, hfind b hb] using this
    · have := hrec _ ((p3 c3).2.1 c1 c2)
      simpa [hfind a ha, hfind b hb] using this
    · have := hrec _ ((p3 c3).2.2 c1 c2)
      simpa [hfind a ha, hfind b hb] using this
  · have : e.x ∈ g.ord := by rw [← h1]; exact List.mem_map.2 ⟨e, he, rfl⟩
    exact (ho.ent _ this).2.2
  · have : e.x ∈ g.ord := by rw [← h1]; exact List.mem_map.2 ⟨e, he, rfl⟩
    exact ho.nb _ this

/-! ## Every order -/
theorem ready_spec {listed : Array Bool} (hsz : listed.size = ops.size) {i : Nat} : i ∈ Region.ready .any ops listed ↔ ∃ o, ops[i]? = some o ∧ listed.getD i false = false ∧ Deps o fun j => listed.getD j false := by
  unfold Region.ready
  rw [List.mem_filter, List.mem_range]
  constructor
  · rintro ⟨h1, h2⟩
    have hi : ops[i]? = some ops[i] := Array.getElem?_eq_getElem h1
    rw [hi] at h2
    simp only [Option.map_some, Option.getD_some, Bool.and_eq_true, Bool.not_eq_true', Array.all_eq_true_iff_forall_mem] at h2
    refine ⟨_, hi, ?_, fun e he hb => ?_⟩
    · have h3 := h2.1
      have hl : i < listed.size := by omega
      simp only [Array.getD, hl, dif_pos] at h3 ⊢
      exact h3
    · have := h2.2 e he
      rw [hb] at this
      simpa using this
  · rintro ⟨o, ho, h1, h2⟩
    have hlt : i < ops.size := by
      cases Nat.lt_or_ge i ops.size with
      | inl h => exact h
      | inr h => rw [Array.getElem?_eq_none h] at ho; cases ho
    refine ⟨hlt, ?_⟩
    rw [ho]
    simp only [Option.map_some, Option.getD_some, Bool.and_eq_true, Bool.not_eq_true', Array.all_eq_true_iff_forall_mem]
    refine ⟨?_, fun e he => ?_⟩
    · have hl : i < listed.size := by omega
      simp only [Array.getD, hl, dif_pos] at h1 ⊢
      exact h1
    · cases hb : Region.binds .any e with
      | false => rfl
      | true => simpa using h2 e he hb

theorem allListed {listed : Array Bool} (hsz : listed.size = ops.size) (hback : ∀ (j : Nat) (o : Oper), ops[j]? = some o → ∀ e ∈ o.after, Region.binds .any e = true → e.on < j)
    (hr : Region.ready .any ops listed = []) : ∀ j, j < ops.size → listed.getD j false = true := by
  intro j
  induction j using Nat.strongRecOn with
  | _ j ih =>
    intro hj
    cases hl : listed.getD j false with
    | true => rfl
    | false =>
      have hi : ops[j]? = some ops[j] := Array.getElem?_eq_getElem hj
      have : j ∈ Region.ready .any ops listed := (ready_spec hsz).2 ⟨_, hi, hl, fun e he hb => by
        have := hback j _ hi e he hb
        exact ih _ this (by omega)⟩
      rw [hr] at this; cases this

theorem set_spec {listed : Array Bool} {i : Nat} (hi : i < listed.size) : (fun j => (listed.setIfInBounds i true).getD j false) = setS (fun j => listed.getD j false) i := by
  funext j
  by_cases hj : j = i
  · subst hj
    rw [setS_same]
    simp [Array.getD, hi]
  · rw [setS_ne hj]
    simp only [Array.getD_eq_getD_getElem?]
    rw [Array.getElem?_setIfInBounds_ne (Ne.symm hj)]

theorem wpAny_all (hcf : CallOK C cf) {tr : List Ent} {s0 sN : St} (hwf : WF s0.h) (hok : RegOK C cf ops tr) (hch : Chain s0 tr sN) (hord : OrdOK ops (tr.map (·.x))) {ρ0 : Ren} {w0 : World} {Q : Exit → Act → World → Prop}
    (hQ : ∀ a w ρ, TmpR ρ sN.tmps.get s0.n a → HR ρ sN.h w → GlobR C.gs ρ → Fr s0.h.next ρ0 s0.h w0 ρ sN.h w → Q .normal a w) :
    ∀ (fuel : Nat) (listed : Array Bool) (L : List Nat) (a : Act) (w : World) (ρ : Ren) (dn pd : List Ent), listed.size = ops.size → L.length ≤ fuel → (∀ j, j < ops.size → listed.getD j false = false → j ∈ L) →
      Inv C ops tr s0 sN ρ0 w0 (fun j => listed.getD j false) a w ρ dn pd → wpAny C.P .any ops Q fuel listed a w := by
  have done : ∀ (listed : Array Bool) (a : Act) (w : World) (ρ : Ren) (dn pd : List Ent), listed.size = ops.size → (∀ j, j < ops.size → listed.getD j false = true) →
      Inv C ops tr s0 sN ρ0 w0 (fun j => listed.getD j false) a w ρ dn pd → Q .normal a w := by
    intro listed a w ρ dn pd hsz hall hI
    have hS : ∀ e ∈ tr, listed.getD e.x.i false = true := by
      intro e he
      refine hall _ ?_
      cases Nat.lt_or_ge e.x.i ops.size with
      | inl h => exact h
      | inr h => have := (hok.ents e he).op; rw [Array.getElem?_eq_none h] at this; cases this
    have hpd : pd = [] := by
      cases pd with
      | nil => rfl
      | cons x es =>
        have h1 : listed.getD x.x.i false = false := (hI.pdH x es rfl).2
        have h2 := hS x (by rw [hI.split]; simp)
        rw [h2] at h1; cases h1
    subst hpd
    have htm : TS (fun j => listed.getD j false) tr s0.tmps.get = sN.tmps.get := by
      rw [hch.tmps hok.ents]
      funext t
      exact TS_same rfl fun e he _ => hS e he
    have h1 := hI.tm
    rw [htm] at h1
    exact hQ a w ρ h1 hI.hr hI.gl hI.fr
  intro fuel
  induction fuel with
  | zero =>
    intro listed L a w ρ dn pd hsz hL hLm hI
    have hnil : L = [] := List.length_eq_zero_iff.1 (by omega)
    subst hnil
    have hall : ∀ j, j < ops.size → listed.getD j false = true := fun j hj => by
      cases hl : listed.getD j false with
      | true => rfl
      | false => cases hLm j hj hl
    refine ⟨?_, done listed a w ρ dn pd hsz hall hI⟩
    rw [List.eq_nil_iff_forall_not_mem]
    intro i hi
    obtain ⟨o, ho, hl, _⟩ := (ready_spec hsz).1 hi
    have hlt : i < ops.size := by
      cases Nat.lt_or_ge i ops.size with
      | inl h => exact h
      | inr h => rw [Array.getElem?_eq_none h] at ho; cases ho
    rw [hall i hlt] at hl; cases hl
  | succ fuel ih =>
    intro listed L a w ρ dn pd hsz hL hLm hI
    refine ⟨fun hr => done listed a w ρ dn pd hsz (allListed hsz hord.back hr) hI, fun i hi => ?_⟩
    obtain ⟨o, ho, hl, hdp⟩ := (ready_spec hsz).1 hi
    have hlt : i < ops.size := by
      cases Nat.lt_or_ge i ops.size with
      | inl h => exact h
      | inr h => rw [Array.getElem?_eq_none h] at ho; cases ho
    obtain ⟨x, hx, hxi⟩ := hord.all i hlt
    obtain ⟨e, he, hex⟩ := List.mem_map.1 hx
    have hei : e.x.i = i := by rw [hex]; exact hxi
    subst hei
    have hop := (hok.ents e he).op
    rw [ho] at hop; injection hop with hop
    refine hI.step hcf hwf hok hch he hl (by rw [← hop]; exact hdp) fun a' w' ρ' dn' pd' hI' => ?_
    refine ih _ (L.erase e.x.i) a' w' ρ' dn' pd' (by simpa using hsz) ?_ ?_ ?_
    · have := hLm _ hlt hl
      rw [List.length_erase_of_mem this]; omega
    · intro j hj hjl
      have hset : (listed.setIfInBounds e.x.i true).getD j false = setS (fun j => listed.getD j false) e.x.i j := congrFun (set_spec (listed := listed) (i := e.x.i) (by omega)) j
      rw [hset] at hjl
      have hne : j ≠ e.x.i := fun heq => by rw [heq, setS_same] at hjl; cases hjl
      rw [setS_ne hne] at hjl
      exact (List.mem_erase_of_ne hne).2 (hLm j hj hjl)
    · rw [set_spec (by omega)]; exact hI'

end
end Go.Abs

/-! Soundness: regions, control, calls. -/
namespace Go.Abs
open Go

/-! ## What an evaluation leaves -/
structure Later (s s' : St) : Prop where
  n : s'.n = s.n
  log : ∃ l, s'.log = l ++ s.log ∧ Mild s.h s'.h l

theorem Later.refl (s : St) : Later s s := ⟨rfl, [], rfl, .refl _ _⟩

theorem Later.trans {s s1 s2 : St} (a : Later s s1) (b : Later s1 s2) : Later s s2 := by
  obtain ⟨l, h1, h2⟩ := a.log
  obtain ⟨l', h3, h4⟩ := b.log
  exact ⟨b.n.trans a.n, l' ++ l, by rw [h3, h1, List.append_assoc], h2.trans h4⟩

theorem Later.wf {s s' : St} (a : Later s s') (h : WF s.h) : WF s'.h := by
  obtain ⟨l, _, h2⟩ := a.log
  exact h2.wf h

section
variable {C : Ctx} {cf : CallF}

theorem stepOp_later (hcf : CallOK C cf) {ops : Array Oper} {o : Oper} {s s' : St} {l : Log} (hs : stepOp C cf ops o s = some (s', l)) : Later s s' := by
  unfold stepOp at hs
  split at hs
  · split at hs
    · rename_i s1 hp
      injection hs with hs; injection hs with h1 h2; subst h1 h2
      obtain ⟨e1, e2, e3, _, _⟩ := putTmp_spec hp
      exact ⟨e1, [], by rw [e3]; rfl, by rw [e2]; exact .refl _ _⟩
    · cases hs
  · split at hs
    · rename_i r l' hop
      split at hs
      · rename_i s1 hp
        injection hs with hs; injection hs with h1 h2; subst h1 h2
        obtain ⟨e1, e2, e3, _, _⟩ := putTmp_spec hp
        have hm := opOutE_mild hcf (show opOutE C cf o (glob C.gs s.tmps) s.h = _ from hop)
        exact ⟨e1, r.log, e3, by rw [e2]; exact hm⟩
      · cases hs
    · cases hs
  · cases hs

theorem runOps_later (hcf : CallOK C cf) {ops : Array Oper} : ∀ {os : List Oper} {s s' : St}, runOps C cf ops os s = some s' → Later s s'
  | [], s, s', h => by simp only [runOps] at h; injection h with h; subst h; exact .refl _
  | o :: os, s, s', h => by
    simp only [runOps] at h
    split at h
    · rename_i s1 l hs
      exact (stepOp_later hcf hs).trans (runOps_later hcf h)
    · cases h

theorem runRec_later (hcf : CallOK C cf) {ops : Array Oper} : ∀ {xs : List It} {s s' : St} {rs rs' : List (Nat × Log)}, runRec C cf ops xs s rs = some (s', rs') → Later s s'
  | [], s, s', rs, rs', h => by simp only [runRec] at h; injection h with h; injection h with h1 h2; subst h1; exact .refl _
  | x :: xs, s, s', rs, rs', h => by
    simp only [runRec] at h
    split at h
    · rename_i s1 l hs
      exact (stepOp_later hcf hs).trans (runRec_later hcf h)
    · cases h

theorem runRegion_later (hcf : CallOK C cf) {ops : Array Oper} {draw : Bool} {s s' : St} (h : runRegion C cf ops draw s = some s') : Later s s' := by
  unfold runRegion at h
  split at h
  · exact runOps_later hcf h
  · split at h
    · split at h
      · rename_i s1 rs hr
        split at h
        · injection h with h; subst h; exact runRec_later hcf hr
        · cases h
      · cases h
    · cases h

theorem HR.drawn {ρ : Ren} {h : AH} {w : World} (hr : HR ρ h w) (n : Nat) : HR ρ h { w with drawn := n } :=
  ⟨fun b g hg => (hr.blk b g hg).same rfl, hr.inj, hr.fresh, hr.lt⟩

theorem Fr.drawn (n : Nat) (ρ : Ren) (h : AH) (w : World) (d : Nat) : Fr n ρ h w ρ h { w with drawn := d } :=
  ⟨rfl, rfl, rfl, Nat.le_refl _, fun _ _ _ => rfl, fun b g hb hr => .inl ⟨b, g, hb, hr, rfl⟩, fun _ _ => rfl, Nat.le_refl _, Ext.refl _⟩

theorem region_wp (hm : C.P.follows .mixedOrders = true) (hcf : CallOK C cf) {id : Nat} {ops : Array Oper} {draw : Bool} {Q : Exit → Act → World → Prop} {s s' : St} {ρ : Ren} {a : Act} {w : World}
    (hr : runRegion C cf ops draw s = some s') (hwf : WF s.h) (hrel : Rel C ρ s a w)
    (hQ : ∀ ρ' a' w', Rel C ρ' s' a' w' → Fr s.h.next ρ s.h w ρ' s'.h w' → Q .normal a' w') : (Code.region id ops draw).wp C.P Q a w := by
  cases draw with
  | false => exact region_text_wp hcf (show runOps C cf ops ops.toList s = some s' from hr) hwf hrel fun ρ' a' w' h1 _ h3 => hQ ρ' a' w' h1 h3
  | true =>
    simp only [runRegion] at hr
    split at hr
    · rename_i g hg
      split at hr
      · rename_i s1 rs hrun
        split at hr
        · rename_i hre
          injection hr with hr; subst hr
          obtain ⟨tr, h1, h2, h3⟩ := runRec_ok hg hrun hre
          have hord := (regOf_spec hg).1
          rw [← h1] at hord
          have hn := (h2.next hcf h3.ents).2
          refine wp_region_any hm ?_
          obtain ⟨mid, rest, hs, hne, hhead⟩ := firstEff tr
          subst hs
          obtain ⟨m, hc1, hc2⟩ := h2.append
          have hmidE : ∀ e ∈ mid, EntOK C cf ops e := fun e he => h3.ents e (List.mem_append_left _ he)
          have hr1 := hrel.hr.drawn (w.drawn + 1)
          obtain ⟨hm1, hm2⟩ := hc1.mild hcf hmidE hne hr1 s.h.next
          have hlast := hc2.last
          have hfalse : ∀ j, (Array.replicate ops.size false).getD j false = false := fun j => by
            rw [Array.getD_eq_getD_getElem?, Array.getElem?_replicate]
            split <;> rfl
          refine wpAny_all hcf hwf h3 h2 hord (ρ0 := ρ) (w0 := w) (fun a' w' ρ' e1 e2 e3 e4 => hQ ρ' a' w' ⟨by rw [hn]; exact e1, e2, e3⟩ e4) ops.size _ (List.range ops.size) a _ ρ mid rest (by simp) (by simp) (fun j hj _ => List.mem_range.2 hj) ?_
          refine ⟨rfl, fun e he hc => absurd hc (hne e he), fun e es he => ⟨hhead e es he, hfalse _⟩, by rw [hlast]; exact hm1, ?_, hrel.gl, ?_, fun e he _ _ _ => hr1.fresh _ ((hc1.bounds hcf hmidE he).1), fun j o hj _ => by simp only [hfalse] at hj; cases hj⟩
          · have : TS (fun j => (Array.replicate ops.size false).getD j false) (mid ++ rest) s.tmps.get = s.tmps.get := by
              funext t
              exact TS_none fun e _ _ => hfalse _
            rw [this]; exact hrel.tmp
          · rw [hlast]
            exact (Fr.drawn s.h.next ρ s.h w (w.drawn + 1)).trans hm2 (Nat.le_refl _)
        · cases hr
      · cases hr
    · cases hr

end

/-! ## Results, arguments -/
section
variable {P : Program}

def resF (tmps : Array Value) : ResultVar → Sem Value
  | .tmp t => pure (tmps.getD t undef)
  | .cell a t => do loadVar t (← asAddr (tmps.getD a undef))

theorem results_eq (fn : Func) (tmps : Array Value) : results fn tmps = (do
    let vs ← fn.results.mapM (resF tmps)
    pure (if h : vs.size = 1 then vs[0] else .tuple vs)) := by
  unfold results
  congr 1

theorem resultsA_run {ρ : Ren} {h : AH} {w : World} (hr : HR ρ h w) {T : Tr AV} {tmps : Array Value} (ht : ∀ i v, T.get i = some v → ∃ u, tmps[i]? = some u ∧ VR ρ v u) :
    ∀ {rs : List ResultVar} {vs : List AV}, resultsA P h T rs = some vs →
    ∃ us, VRs ρ vs us ∧ (rs.mapM (resF tmps)).run P w = .ok us w
  | [], vs, h => by
    simp only [resultsA] at h; injection h with h; subst h
    exact ⟨[], .nil, by simp [Sem.run_pure]⟩
  | r :: rs, vs, h => by
    simp only [resultsA] at h
    split at h
    · rename_i x hx
      split at h
      · rename_i xs hxs
        injection h with h; subst h
        obtain ⟨us, hus, hrun⟩ := resultsA_run hr ht hxs
        cases r with
        | tmp t =>
          simp only at hx
          obtain ⟨u, hu, hur⟩ := ht t x hx
          refine ⟨u :: us, .cons hur hus, ?_⟩
          have : tmps.getD t undef = u := by rw [Array.getD_eq_getD_getElem?, hu]; rfl
          simp only [List.mapM_cons, resF, Sem.run_bind, Sem.run_pure, Result.andThen_ok, hrun, this]
        | cell a t =>
          simp only at hx
          split at hx
          · rename_i v hv
            obtain ⟨u, hu, hur⟩ := ht a v hv
            obtain ⟨z, hz, hl⟩ := load_sound (P := P) hr hx hur
            refine ⟨z :: us, .cons hz hus, ?_⟩
            have he : tmps.getD a undef = u := by rw [Array.getD_eq_getD_getElem?, hu]; rfl
            have hptr : (do loadVar t (← asAddr u) : Sem Value).run P w = .ok z w := by
              unfold loadA at hx
              split at hx
              · obtain ⟨g, hg, rfl⟩ := hur
                simpa [Instr.loadAt, Instr.sureAddr, asAddr, Sem.run_bind, Sem.run_pure, Result.andThen_ok] using hl
              · cases hx
            have hF : (resF tmps (.cell a t)).run P w = .ok z w := by simp only [resF, he]; exact hptr
            rw [List.mapM_cons, Sem.run_bind, hF]
            simp only [Sem.run_bind, Sem.run_pure, Result.andThen_ok, hrun]
          · cases hx
      · cases h
    · cases h

theorem oneOrTup_run {ρ : Ren} {vs : List AV} {us : List Value} (h : VRs ρ vs us) : VR ρ (oneOrTup vs) (if h : us.toArray.size = 1 then us.toArray[0] else .tuple us.toArray) := by
  have hl := h.length
  match vs, us, h, hl with
  | [], [], h, _ => exact ⟨[], rfl, h⟩
  | [v], [u], h, _ => obtain ⟨_, _, he, h1, _⟩ := h; injection he with e1 e2; subst e1; exact h1
  | a :: b :: vs, x :: y :: us, h, _ =>
    simp only [List.size_toArray, List.length_cons]
    rw [dif_neg (by omega)]
    exact ⟨_, rfl, h⟩

theorem results_sound {ρ : Ren} {h : AH} {w : World} (hr : HR ρ h w) {T : Tr AV} {tmps : Array Value} (ht : ∀ i v, T.get i = some v → ∃ u, tmps[i]? = some u ∧ VR ρ v u) {fn : Func} {vs : List AV}
    (hs : resultsA P h T fn.results.toList = some vs) : ∃ v, (results fn tmps).run P w = .ok v w ∧ VR ρ (oneOrTup vs) v := by
  obtain ⟨us, hus, hrun⟩ := resultsA_run (P := P) hr ht hs
  refine ⟨_, ?_, oneOrTup_run hus⟩
  rw [results_eq, Array.mapM_eq_mapM_toList]
  simp only [map_eq_pure_bind, bind_assoc, pure_bind]
  rw [Sem.run_bind, hrun]
  rfl

theorem argsT_get : ∀ (vs : List AV) (i : Nat) (t : Tr AV) (j : Nat), (argsT vs i t).get j = if i ≤ j ∧ j < i + vs.length then vs[j - i]? else t.get j
  | [], i, t, j => by
    simp only [argsT, List.length_nil]
    rw [if_neg (by omega)]
  | v :: vs, i, t, j => by
    simp only [argsT]
    rw [argsT_get vs (i + 1) _ j, Tr.get_set]
    by_cases h1 : j = i
    · subst h1
      rw [if_neg (by omega), if_pos rfl, if_pos (by simp)]
      simp
    · by_cases h2 : i + 1 ≤ j ∧ j < i + 1 + vs.length
      · rw [if_pos h2, if_pos (by simp only [List.length_cons]; omega)]
        have : j - i = (j - (i + 1)) + 1 := by omega
        rw [this]; simp
      · rw [if_neg h2, if_neg h1, if_neg (by simp only [List.length_cons]; omega)]

theorem args_rel {ρ : Ren} {args : List AV} {vs : List Value} (h : VRs ρ args vs) (k : Nat) : TmpR ρ (argsT args 0 .lf).get (args.length + k) { tmps := vs.toArray ++ Array.replicate k undef, defers := [] } := by
  have hl := h.length
  refine ⟨fun i v hv => ?_, by simp [hl], rfl⟩
  rw [argsT_get] at hv
  split at hv
  · rename_i hi
    simp only [Nat.sub_zero] at hv
    obtain ⟨u, hu, hur⟩ := h.get i v hv
    refine ⟨u, ?_, hur⟩
    rw [Array.getElem?_append_left (by simp; omega)]
    simpa using hu
  · rw [Tr.get_lf] at hv; cases hv

end

/-! ## Control -/
def AExit.exit' : AExit → Exit
  | .normal => .normal
  | .exit id => .exit id
  | .goto l => .goto l
  | .ret => .ret

/-- From inside a loop. -/
def LoopWp (P : Program) (c : Code) (Q : Exit → Act → World → Prop) (a : Act) (w : World) : Prop :=
  ∀ (b : Frame) (k : List Item) (cs : List Frame), ∃ e a' w', Q e a' w' ∧ Arrives P (lone (b.at a (.code c :: .inLoop c :: k)) cs w) b k cs e a' w'

/-- From inside a scope. -/
def ScopeWp (P : Program) (body c : Code) (Q : Exit → Act → World → Prop) (a : Act) (w : World) : Prop :=
  ∀ (b : Frame) (k : List Item) (cs : List Frame), ∃ e a' w', Q e a' w' ∧ Arrives P (lone (b.at a (.code c :: .inScope body :: k)) cs w) b k cs e a' w'

section
variable {P : Program} {Q : Exit → Act → World → Prop} {a : Act} {w : World}

theorem LoopWp.loop {c : Code} (h : LoopWp P c Q a w) : (Code.loop c).wp P Q a w := by
  intro b k cs
  obtain ⟨e, a', w', hq, harr⟩ := h b k cs
  exact ⟨e, a', w', hq, .of_steps (.one step_loop) harr⟩

theorem LoopWp.round {c : Code} (h : c.wp P (Exit.then (LoopWp P c Q) Q) a w) : LoopWp P c Q a w := by
  intro b k cs
  obtain ⟨e, a₁, w₁, hq, harr⟩ := h b (.inLoop c :: k) cs
  cases e with
  | normal =>
    obtain ⟨e₂, a₂, w₂, hq₂, harr₂⟩ := hq b k cs
    exact ⟨e₂, a₂, w₂, hq₂, .of_steps (Steps.trans harr (.one step_inLoop)) harr₂⟩
  | exit id => exact ⟨_, a₁, w₁, hq, .pass (x := .inLoop c) rfl (fun _ _ => .inl (by simp)) harr⟩
  | goto l => exact ⟨_, a₁, w₁, hq, .pass (x := .inLoop c) rfl (fun _ _ => .inl (by simp)) harr⟩
  | ret => exact ⟨_, a₁, w₁, hq, .pass (x := .inLoop c) rfl (fun _ _ => .inl (by simp)) harr⟩
  | panic ch => exact ⟨_, a₁, w₁, hq, .pass (x := .inLoop c) rfl (fun _ _ => .inl (by simp)) harr⟩
  | outgrown => exact ⟨_, a₁, w₁, hq, .pass (x := .inLoop c) rfl (fun _ _ => .inl (by simp)) harr⟩

/-- A goto to a label of the scope: on from there; else out of it. -/
def Exit.inScope (body : Code) (Q : Exit → Act → World → Prop) (G : Code → Act → World → Prop) : Exit → Act → World → Prop
  | .goto l, a, w => match findLabel body l with
    | some rest => G rest a w
    | none => Q (.goto l) a w
  | e, a, w => Q e a w

theorem ScopeWp.enter {body c : Code} (h : c.wp P (Exit.inScope body Q (fun rest => ScopeWp P body rest Q)) a w) : ScopeWp P body c Q a w := by
  intro b k cs
  obtain ⟨e, a₁, w₁, hq, harr⟩ := h b (.inScope body :: k) cs
  cases e with
  | normal => exact ⟨.normal, a₁, w₁, hq, Steps.trans harr (.one step_inScope)⟩
  | exit id => exact ⟨.exit id, a₁, w₁, hq, fun k' hk => harr k' (by simp [exitTo, hk])⟩
  | goto l =>
    simp only [Exit.inScope] at hq
    cases hf : findLabel body l with
    | some rest =>
      rw [hf] at hq
      obtain ⟨e₂, a₂, w₂, hq₂, harr₂⟩ := hq b k cs
      exact ⟨e₂, a₂, w₂, hq₂, .of_steps (harr _ (by simp [gotoIn, hf])) harr₂⟩
    | none =>
      rw [hf] at hq
      exact ⟨.goto l, a₁, w₁, hq, fun k' hk => harr k' (by simp [gotoIn, hf, hk])⟩
  | ret => exact ⟨_, a₁, w₁, hq, harr⟩
  | panic ch => exact ⟨_, a₁, w₁, hq, harr⟩
  | outgrown => exact ⟨_, a₁, w₁, hq, harr⟩

theorem ScopeWp.scope {c : Code} (h : ScopeWp P c c Q a w) : (Code.scope c).wp P Q a w := by
  intro b k cs
  obtain ⟨e, a', w', hq, harr⟩ := h b k cs
  exact ⟨e, a', w', hq, .of_steps (.one step_scope) harr⟩
end

/-- What the program must be like: its regions draw their order; no function with a text bears the one name that the dispatcher knows. -/
structure Fit (P : Program) : Prop where
  mixed : P.follows .mixedOrders = true
  named : ∀ (f : Nat) (fn : Func), P.funcs[f]? = some fn → fn.body ≠ none → (fn.name == "runtime.NumGoroutine") = false

section
variable {C : Ctx}

def Walks (C : Ctx) (W : (Exit → Act → World → Prop) → Act → World → Prop) (s : St) (x : AExit) (s' : St) : Prop :=
  Later s s' ∧ ∀ (ρ : Ren) (a : Act) (w : World) (Q : Exit → Act → World → Prop), WF s.h → Rel C ρ s a w →
    (∀ ρ' a' w', Rel C ρ' s' a' w' → Fr s.h.next ρ s.h w ρ' s'.h w' → Q x.exit' a' w') → W Q a w

theorem Walks.here {W : (Exit → Act → World → Prop) → Act → World → Prop} {s : St} {x : AExit} (h : ∀ Q a w, Q x.exit' a w → W Q a w) : Walks C W s x s :=
  ⟨.refl s, fun ρ a w Q _ hrel hQ => h Q a w (hQ ρ a w hrel (.refl _ _ _ _))⟩

theorem controls (hfit : Fit C.P) (horc : CallOK C C.orc) : ∀ f : Nat,
    (∀ c s x s', aexec C f c s = some (x, s') → Walks C (fun Q => c.wp C.P Q) s x s' ∧ ∀ d, c = .loop d → Walks C (fun Q => LoopWp C.P d Q) s x s') ∧
    (∀ b c s x s', ascope C f b c s = some (x, s') → Walks C (fun Q => ScopeWp C.P b c Q) s x s') ∧
    CallOK C (acall C f) := by
  intro f
  induction f with
  | zero => exact ⟨fun c s x s' h => by simp [aexec] at h, fun b c s x s' h => by simp [ascope] at h, fun f args h r hr => by simp [acall] at hr⟩
  | succ f ih =>
    obtain ⟨ihE, ihS, ihC⟩ := ih
    have ihW : ∀ c s x s', aexec C f c s = some (x, s') → Walks C (fun Q => c.wp C.P Q) s x s' := fun c s x s' h => (ihE c s x s' h).1
    refine ⟨fun c s x s' h => ?_, fun b c s x s' h => ?_, fun g args h r hr => ?_⟩
    · have other : (∀ d, c ≠ .loop d) → Walks C (fun Q => c.wp C.P Q) s x s' → Walks C (fun Q => c.wp C.P Q) s x s' ∧ ∀ d, c = .loop d → Walks C (fun Q => LoopWp C.P d Q) s x s' :=
        fun hn hw => ⟨hw, fun d hd => absurd hd (hn d)⟩
      cases c with
      | skip => simp only [aexec] at h; injection h with h; injection h with h1 h2; subst h1 h2; exact other (by simp) (.here fun Q a w hq => wp_skip hq)
      | label l => simp only [aexec] at h; injection h with h; injection h with h1 h2; subst h1 h2; exact other (by simp) (.here fun Q a w hq => wp_label hq)
      | exit id => simp only [aexec] at h; injection h with h; injection h with h1 h2; subst h1 h2; exact other (by simp) (.here fun Q a w hq => wp_exit hq)
      | goto l => simp only [aexec] at h; injection h with h; injection h with h1 h2; subst h1 h2; exact other (by simp) (.here fun Q a w hq => wp_goto hq)
      | ret => simp only [aexec] at h; injection h with h; injection h with h1 h2; subst h1 h2; exact other (by simp) (.here fun Q a w hq => wp_ret hq)
      | region id ops draw =>
        simp only [aexec] at h
        split at h
        · rename_i s1 hr
          injection h with h; injection h with h1 h2; subst h1 h2
          exact other (by simp) ⟨runRegion_later ihC hr, fun ρ a w Q hwf hrel hQ => region_wp hfit.mixed ihC hr hwf hrel hQ⟩
        · cases h
      | seq c d =>
        refine other (by simp) ?_
        simp only [aexec] at h
        split at h
        · rename_i s1 h1
          obtain ⟨hl1, hw1⟩ := ihW c s _ _ h1
          obtain ⟨hl2, hw2⟩ := ihW d s1 _ _ h
          refine ⟨hl1.trans hl2, fun ρ a w Q hwf hrel hQ => wp_seq (hw1 ρ a w _ hwf hrel fun ρ1 a1 w1 hrel1 hf1 => ?_)⟩
          exact hw2 ρ1 a1 w1 _ (hl1.wf hwf) hrel1 fun ρ2 a2 w2 hrel2 hf2 => hQ ρ2 a2 w2 hrel2 (hf1.trans hf2 hf1.next)
        · rename_i r hne
          obtain ⟨hl1, hw1⟩ := ihW c s _ _ h
          refine ⟨hl1, fun ρ a w Q hwf hrel hQ => wp_seq (hw1 ρ a w _ hwf hrel fun ρ1 a1 w1 hrel1 hf1 => ?_)⟩
          have := hQ ρ1 a1 w1 hrel1 hf1
          cases x with
          | normal => exact absurd h (hne s')
          | _ => exact this
      | cond e c d =>
        refine other (by simp) ?_
        simp only [aexec] at h
        split at h
        · rename_i hc
          obtain ⟨hl1, hw1⟩ := ihW c s _ _ h
          exact ⟨hl1, fun ρ a w Q hwf hrel hQ => wp_cond_true (envR hrel.gl hrel.tmp e _ hc) (hw1 ρ a w _ hwf hrel hQ)⟩
        · rename_i hc
          obtain ⟨hl1, hw1⟩ := ihW d s _ _ h
          exact ⟨hl1, fun ρ a w Q hwf hrel hQ => wp_cond_false (envR hrel.gl hrel.tmp e _ hc) (hw1 ρ a w _ hwf hrel hQ)⟩
        · cases h
      | block id c =>
        refine other (by simp) ?_
        simp only [aexec] at h
        split at h
        · rename_i id' s1 h1
          obtain ⟨hl1, hw1⟩ := ihW c s _ _ h1
          split at h
          · rename_i hid
            injection h with h; injection h with e1 e2; subst e1 e2
            refine ⟨hl1, fun ρ a w Q hwf hrel hQ => wp_block (hw1 ρ a w _ hwf hrel fun ρ1 a1 w1 hrel1 hf1 => ?_)⟩
            simp only [AExit.exit', Exit.inBlock]
            rw [if_pos (Nat.eq_of_beq_eq_true hid)]
            exact hQ ρ1 a1 w1 hrel1 hf1
          · rename_i hid
            injection h with h; injection h with e1 e2; subst e1 e2
            refine ⟨hl1, fun ρ a w Q hwf hrel hQ => wp_block (hw1 ρ a w _ hwf hrel fun ρ1 a1 w1 hrel1 hf1 => ?_)⟩
            simp only [AExit.exit', Exit.inBlock]
            rw [if_neg (Nat.ne_of_beq_eq_false hid)]
            exact hQ ρ1 a1 w1 hrel1 hf1
        · rename_i r hne
          obtain ⟨hl1, hw1⟩ := ihW c s _ _ h
          refine ⟨hl1, fun ρ a w Q hwf hrel hQ => wp_block (hw1 ρ a w _ hwf hrel fun ρ1 a1 w1 hrel1 hf1 => ?_)⟩
          have := hQ ρ1 a1 w1 hrel1 hf1
          cases x with
          | exit id' => exact absurd h (hne id' s')
          | _ => exact this
      | loop c =>
        have key : Walks C (fun Q => LoopWp C.P c Q) s x s' := by
          simp only [aexec] at h
          split at h
          · rename_i s1 h1
            obtain ⟨hl1, hw1⟩ := ihW c s _ _ h1
            obtain ⟨hl2, hw2⟩ := (ihE (.loop c) s1 _ _ h).2 c rfl
            refine ⟨hl1.trans hl2, fun ρ a w Q hwf hrel hQ => .round (hw1 ρ a w _ hwf hrel fun ρ1 a1 w1 hrel1 hf1 => ?_)⟩
            exact hw2 ρ1 a1 w1 _ (hl1.wf hwf) hrel1 fun ρ2 a2 w2 hrel2 hf2 => hQ ρ2 a2 w2 hrel2 (hf1.trans hf2 hf1.next)
          · rename_i r hne
            obtain ⟨hl1, hw1⟩ := ihW c s _ _ h
            refine ⟨hl1, fun ρ a w Q hwf hrel hQ => .round (hw1 ρ a w _ hwf hrel fun ρ1 a1 w1 hrel1 hf1 => ?_)⟩
            have := hQ ρ1 a1 w1 hrel1 hf1
            cases x with
            | normal => exact absurd h (hne s')
            | _ => exact this
        exact ⟨⟨key.1, fun ρ a w Q hwf hrel hQ => (key.2 ρ a w Q hwf hrel hQ).loop⟩, fun d hd => by injection hd with hd; subst hd; exact key⟩
      | scope c =>
        refine other (by simp) ?_
        simp only [aexec] at h
        obtain ⟨hl1, hw1⟩ := ihS c c s _ _ h
        exact ⟨hl1, fun ρ a w Q hwf hrel hQ => (hw1 ρ a w Q hwf hrel hQ).scope⟩
      | _ => simp [aexec] at h
    · simp only [ascope] at h
      split at h
      · rename_i l s1 h1
        obtain ⟨hl1, hw1⟩ := ihW c s _ _ h1
        split at h
        · rename_i rest hf
          obtain ⟨hl2, hw2⟩ := ihS b rest s1 _ _ h
          refine ⟨hl1.trans hl2, fun ρ a w Q hwf hrel hQ => .enter (hw1 ρ a w _ hwf hrel fun ρ1 a1 w1 hrel1 hf1 => ?_)⟩
          simp only [AExit.exit', Exit.inScope, hf]
          exact hw2 ρ1 a1 w1 _ (hl1.wf hwf) hrel1 fun ρ2 a2 w2 hrel2 hf2 => hQ ρ2 a2 w2 hrel2 (hf1.trans hf2 hf1.next)
        · rename_i hf
          injection h with h; injection h with e1 e2; subst e1 e2
          refine ⟨hl1, fun ρ a w Q hwf hrel hQ => .enter (hw1 ρ a w _ hwf hrel fun ρ1 a1 w1 hrel1 hf1 => ?_)⟩
          simp only [AExit.exit', Exit.inScope, hf]
          exact hQ ρ1 a1 w1 hrel1 hf1
      · rename_i r hne
        obtain ⟨hl1, hw1⟩ := ihW c s _ _ h
        refine ⟨hl1, fun ρ a w Q hwf hrel hQ => .enter (hw1 ρ a w _ hwf hrel fun ρ1 a1 w1 hrel1 hf1 => ?_)⟩
        have := hQ ρ1 a1 w1 hrel1 hf1
        cases x with
        | goto l => exact absurd h (hne l s')
        | _ => exact this
    · simp only [acall] at hr
      split at hr
      · rename_i r' hr'
        injection hr with hr; subst hr
        exact horc g args h r' hr'
      split at hr
      · cases hr
      · rename_i fn hfn
        split at hr
        · cases hr
        · rename_i c hbody
          have fin : ∀ x s, aexec C f c ⟨args.length + (fn.ntmps - args.length), argsT args 0 .lf, h, []⟩ = some (x, s) → (x = .normal ∨ x = .ret) →
              (match resultsA C.P s.h s.tmps fn.results.toList with | some vs => some (⟨oneOrTup vs, s.h, s.log⟩ : R) | none => none) = some r →
              (∀ (xs : Array Value) (w : World), (callFunc g xs).run C.P w = .ok (.enter g xs) w) ∧ Mild h r.h r.log ∧
              ∀ ρ w vs, WF h → GlobR C.gs ρ → HR ρ h w → VRs ρ args vs → Calls C.P g vs.toArray w fun e w' => ∃ v ρ', e = .returned v ∧ VR ρ' r.v v ∧ HR ρ' r.h w' ∧ Fr h.next ρ h w ρ' r.h w' := by
            intro x s hx hxx hres
            split at hres
            · rename_i vs hvs
              injection hres with hres; subst hres
              obtain ⟨hl, hw⟩ := ihW c _ _ _ hx
              obtain ⟨l, hl1, hl2⟩ := hl.log
              simp only [List.append_nil] at hl1
              refine ⟨fun xs w => ?_, by simp only; rw [hl1]; exact hl2, fun ρ w us hwf hg hh hus => ?_⟩
              · have hn := hfit.named g fn hfn (by rw [hbody]; simp)
                simp only [callFunc, Sem.run_bind, run_program, Result.andThen_ok, hfn, hn, hbody, Option.isNone_some, Bool.false_eq_true, if_false, Sem.run_pure]
              · refine calls_of_wp hfn hbody ?_
                have hlen := hus.length
                have hsz : us.toArray.size = args.length := by simp [hlen]
                rw [hsz]
                refine hw ρ _ w _ hwf ⟨args_rel hus _, hh, hg⟩ fun ρ' a' w' hrel' hf' => ?_
                obtain ⟨v, hv1, hv2⟩ := results_sound (P := C.P) hrel'.hr hrel'.tmp.val hvs
                rcases hxx with rfl | rfl
                · exact ⟨hrel'.tmp.dfr, v, hv1, v, ρ', rfl, hv2, hrel'.hr, hf'⟩
                · exact ⟨hrel'.tmp.dfr, v, hv1, v, ρ', rfl, hv2, hrel'.hr, hf'⟩
            · cases hres
          split at hr
          · rename_i s hx; exact fin _ _ hx (.inl rfl) hr
          · rename_i s hx; exact fin _ _ hx (.inr rfl) hr
          · cases hr

theorem acall_ok (hfit : Fit C.P) (horc : CallOK C C.orc) (f : Nat) : CallOK C (acall C f) := (controls hfit horc f).2.2
theorem aexec_ok (hfit : Fit C.P) (horc : CallOK C C.orc) (f : Nat) {c : Code} {s s' : St} {x : AExit} (h : aexec C f c s = some (x, s')) : Walks C (fun Q => c.wp C.P Q) s x s' := ((controls hfit horc f).1 c s x s' h).1

end
end Go.Abs
