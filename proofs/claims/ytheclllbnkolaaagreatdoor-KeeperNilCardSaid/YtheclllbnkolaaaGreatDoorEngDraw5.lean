import Derived.Test.YtheclllbnkolaaaGreatDoorEngDraw4
namespace Go.Eng
open Go
variable {E : Env}

def inS (listed : Array Bool) (i : Nat) : Prop := listed.getD i false = true

/-- What is fixed while a region is carried out. -/
structure Ctx where
  ops : Array Oper
  ms : T Nat
  r : Option Nat
  base : Nat
  m0 : Mu
  h0 : H
  nx0 : Nat
  W0 : World
  f0 : Fr
  a0 : Act

/-- What a light operation that the machine has not carried out was found to be. -/
structure Pend (E : Env) (C : Ctx) (s : DS) (w : Hp) (i : Nat) (o : Oper) (tm : Tm) (b : Bool) (v : AV) : Prop where
  read1 : ∀ t ∈ o.looksAt C.ops, ∀ (j : Nat) (p : Oper), C.ops[j]? = some p → p.dst = some t → (mkAt C.ms i).testBit j = true → (tm.get t).getD (.s undef) = (s.f.tm.get t).getD (.s undef)
  read0 : ∀ t ∈ o.looksAt C.ops, (∀ (j : Nat) (p : Oper), C.ops[j]? = some p → p.dst = some t → ¬ (mkAt C.ms i).testBit j = true) → (tm.get t).getD (.s undef) = (C.f0.tm.get t).getD (.s undef)
  want : wantedA C.ops.toList ⟨0, tm, [], false⟩ o = some b
  val : ∀ d, o.dst = some d → s.f.tm.get d = some v
  light : isW o.op = false
  off : b = false → v = .s undef
  on : b = true → (isA E o.op = true ∧ ∃ (mk : Nat → AV) (blk : AB), (i, blk) ∈ s.pd ∧ v = mk (C.base + i) ∧ ∀ w : Hp, opA E (rhoT tm) w o = some (.val (mk w.nx) ⟨w.h.set w.nx blk, w.nx + 1⟩)) ∨
    (isA E o.op = false ∧ (⟨i, o, tm, v⟩ : Wt) ∈ s.ws ∧ ∃ w', opA E (rhoT tm) w o = some (.val v w'))
  nopd : b = false ∨ isA E o.op = false → ∀ x ∈ s.pd, x.1 ≠ i

structure Inv (E : Env) (C : Ctx) (acts : List Nat) (s : DS) (w : Hp) (L : Array Bool) (m : Mu) (a : Act) (W : World) : Prop where
  st : Step C.m0 C.h0 C.nx0 C.W0 m w.h w.nx W
  base : C.base = C.nx0
  nx : C.base + C.ops.size ≤ w.nx
  size : L.size = C.ops.size
  sub : ∀ i, inS L i → s.done.testBit i = true
  dn : ∀ i, s.done.testBit i = true → i < C.ops.size
  closed : ∀ i, inS L i → ∀ j, (mkAt C.ms i).testBit j = true → inS L j
  dclosed : ∀ i, s.done.testBit i = true → ∀ j, (mkAt C.ms i).testBit j = true → s.done.testBit j = true
  acts1 : ∀ i o, C.ops[i]? = some o → isW o.op = true → (s.done.testBit i = true ∧ inS L i) ∨ (s.done.testBit i = false ∧ i ∈ acts)
  acts2 : ∀ i ∈ acts, s.done.testBit i = false ∧ ∃ o, C.ops[i]? = some o ∧ isW o.op = true
  chain : chainOk C.ms acts = true
  nodup : acts.Nodup
  fn : s.f.n = C.f0.n
  frnd : s.f.rnd = C.f0.rnd
  fdf : s.f.df = C.f0.df
  adf : a.defers = C.a0.defers
  asz : a.tmps.size = C.f0.n
  fout : ∀ t, C.f0.n ≤ t → s.f.tm.get t = none
  ti1 : ∀ t (j : Nat) (p : Oper), C.ops[j]? = some p → p.dst = some t → inS L j → VR m ((s.f.tm.get t).getD (.s undef)) (a.tmps.getD t undef)
  ti0 : ∀ t, (∀ (j : Nat) (p : Oper), C.ops[j]? = some p → p.dst = some t → ¬ inS L j) → VR m ((C.f0.tm.get t).getD (.s undef)) (a.tmps.getD t undef)
  ei : ∀ t, (∀ (j : Nat) (p : Oper), C.ops[j]? = some p → p.dst = some t → ¬ s.done.testBit j = true) → s.f.tm.get t = C.f0.tm.get t
  pend : ∀ i o, C.ops[i]? = some o → s.done.testBit i = true → ¬ inS L i → ∃ tm b v, Pend E C s w i o tm b v
  pds : ∀ x ∈ s.pd, s.done.testBit x.1 = true
  pdl : ∀ x ∈ s.pd, ∃ o, C.ops[x.1]? = some o ∧ isW o.op = false
  pdu : ∀ x ∈ s.pd, ∀ y ∈ s.pd, x.1 = y.1 → x = y
  pdS : ∀ x ∈ s.pd, inS L x.1 → ∃ p, PdOk m W C.base C.W0.heap.size w.h x p
  pdne : ∀ x ∈ s.pd, ∀ y ∈ s.pd, ∀ p q, x.1 ≠ y.1 → inS L x.1 → inS L y.1 → m (C.base + x.1) = some p → m (C.base + y.1) = some q → p.blk ≠ q.blk
  free : ∀ i, i < C.ops.size → ¬ inS L i → (s.done.testBit i = true → ∃ blk, (i, blk) ∈ s.pd) → m (C.base + i) = none

theorem inS_lt {C : Ctx} {L : Array Bool} (hs : L.size = C.ops.size) {i : Nat} (h : inS L i) : i < C.ops.size := by
  unfold inS at h
  rw [← hs]
  by_cases hi : i < L.size
  · exact hi
  · simp [Array.getD, hi] at h

theorem put_get {f f' : Fr} {d : Option Tmp} {v : AV} (h : f.put d v = some f') : (∀ t, d ≠ some t → f'.tm.get t = f.tm.get t) ∧ (∀ t, d = some t → f'.tm.get t = some v ∧ t < f.n) ∧ f'.n = f.n ∧ f'.rnd = f.rnd ∧ f'.df = f.df := by
  unfold Fr.put at h
  cases d with
  | none => cases h; exact ⟨fun _ _ => rfl, by simp, rfl, rfl, rfl⟩
  | some t =>
    simp only [cond_eq_ite, Nat.blt_eq] at h
    split at h
    · rename_i ht
      cases h
      refine ⟨fun u hu => ?_, fun u hu => ?_, rfl, rfl, rfl⟩
      · show (T.set _ _ _).get u = _
        rw [T.get_set, if_neg (fun e => hu (by rw [e]))]
      · cases hu
        refine ⟨?_, ht⟩
        show (T.set _ _ _).get t = _
        rw [T.get_set, if_pos rfl]
    · cases h

theorem wantedA_tm {l : List Oper} {f g : Fr} {o : Oper} (h : f.tm = g.tm) : wantedA l f o = wantedA l g o := by
  unfold wantedA; rw [h]

/-- What an operation reads whose time has come. -/
theorem Inv.reads {C : Ctx} {acts : List Nat} {s : DS} {w : Hp} {L : Array Bool} {m : Mu} {a : Act} {W : World} (I : Inv E C acts s w L m a W) (R : Reg C.ops C.ms) {i : Nat} {o : Oper} (hi : C.ops[i]? = some o) (hn : ¬ inS L i) (hm : ∀ j, (mkAt C.ms i).testBit j = true → inS L j) {tm : Tm}
    (h1 : ∀ t ∈ o.looksAt C.ops, ∀ (j : Nat) (p : Oper), C.ops[j]? = some p → p.dst = some t → (mkAt C.ms i).testBit j = true → (tm.get t).getD (.s undef) = (s.f.tm.get t).getD (.s undef))
    (h0 : ∀ t ∈ o.looksAt C.ops, (∀ (j : Nat) (p : Oper), C.ops[j]? = some p → p.dst = some t → ¬ (mkAt C.ms i).testBit j = true) → (tm.get t).getD (.s undef) = (C.f0.tm.get t).getD (.s undef)) : ReadsOk m C.ops o tm a := by
  intro t ht
  by_cases hw : ∃ (j : Nat) (p : Oper), C.ops[j]? = some p ∧ p.dst = some t ∧ (mkAt C.ms i).testBit j = true
  · obtain ⟨j, p, hj, hd, hb⟩ := hw
    rw [h1 t ht j p hj hd hb]
    exact I.ti1 t j p hj hd (hm j hb)
  · have hw' : ∀ (j : Nat) (p : Oper), C.ops[j]? = some p → p.dst = some t → ¬ (mkAt C.ms i).testBit j = true := fun j p hj hd hb => hw ⟨j, p, hj, hd, hb⟩
    rw [h0 t ht hw']
    refine I.ti0 t (fun j p hj hd hS => ?_)
    rcases R.read j i p o t hj hi hd ht with hb | hb
    · exact hw' j p hj hd hb
    · exact hn (I.closed j hS i hb)

/-- What the frame holds for an operation that the evaluator comes to. -/
theorem Inv.reads_now {C : Ctx} {acts : List Nat} {s : DS} {w : Hp} {L : Array Bool} {m : Mu} {a : Act} {W : World} (I : Inv E C acts s w L m a W) (R : Reg C.ops C.ms) {i : Nat} {o : Oper} (hi : C.ops[i]? = some o) (hn : ¬ s.done.testBit i = true) :
    ∀ t ∈ o.looksAt C.ops, (∀ (j : Nat) (p : Oper), C.ops[j]? = some p → p.dst = some t → ¬ (mkAt C.ms i).testBit j = true) → (s.f.tm.get t).getD (.s undef) = (C.f0.tm.get t).getD (.s undef) := by
  intro t ht hw
  rw [I.ei t (fun j p hj hd hdn => ?_)]
  rcases R.read j i p o t hj hi hd ht with hb | hb
  · exact hw j p hj hd hb
  · exact hn (I.dclosed j hdn i hb)

/-- The evaluator has gone on by one light operation. -/
theorem lightE_inv (ok : E.Ok) {C : Ctx} {acts : List Nat} {s s' : DS} {w : Hp} {L : Array Bool} {m : Mu} {a : Act} {W : World} (I : Inv E C acts s w L m a W) (R : Reg C.ops C.ms) {i : Nat} {o : Oper} (hi : C.ops[i]? = some o) (hW : isW o.op = false) (hn : ¬ s.done.testBit i = true)
    (hm : subM (mkAt C.ms i) s.done = true) (h : lightE E C.ops.toList C.base i o s w = some s') : Inv E C acts s' w L m a W := by
  have hlt : i < C.ops.size := (Array.getElem?_eq_some_iff.1 hi).1
  have hnS : ¬ inS L i := fun h => hn (I.sub i h)
  rw [subM_ok] at hm
  have hfree : m (C.base + i) = none := I.free i hlt hnS (fun h => absurd h hn)
  have main : ∀ (v : AV) (f : Fr) (ws : List Wt) (pd : List (Nat × AB)) (b : Bool), s.f.put o.dst v = some f → s' = ⟨s.done ||| 2 ^ i, f, ws, pd⟩ → (∀ x ∈ s.ws, x ∈ ws) →
      ((pd = s.pd ∧ (b = true → isA E o.op = false ∧ (⟨i, o, s.f.tm, v⟩ : Wt) ∈ ws ∧ ∃ w', opA E (rhoT s.f.tm) w o = some (.val v w'))) ∨
       (∃ (mk : Nat → AV) (blk : AB), pd = (i, blk) :: s.pd ∧ b = true ∧ isA E o.op = true ∧ v = mk (C.base + i) ∧ ∀ w : Hp, opA E (rhoT s.f.tm) w o = some (.val (mk w.nx) ⟨w.h.set w.nx blk, w.nx + 1⟩))) →
      wantedA C.ops.toList s.f o = some b → (b = false → v = .s undef) → Inv E C acts s' w L m a W := by
    intro v f ws pd b hput hs' hws hpd hwant hoff
    subst hs'
    obtain ⟨p1, p2, p3, p4, p5⟩ := put_get hput
    have keep : ∀ t (j : Nat) (p : Oper), C.ops[j]? = some p → p.dst = some t → j ≠ i → f.tm.get t = s.f.tm.get t := fun t j p hj hd hji =>
      p1 t (fun e => hji (R.one j i p o t hj hi hd e))
    have done : ∀ j, (s.done ||| 2 ^ i).testBit j = true ↔ s.done.testBit j = true ∨ j = i := bit_or _ _
    have pdmem : ∀ x ∈ pd, x ∈ s.pd ∨ (x.1 = i ∧ ∃ (mk : Nat → AV) (blk : AB), pd = (i, blk) :: s.pd ∧ x = (i, blk)) := by
      intro x hx
      rcases hpd with ⟨rfl, _⟩ | ⟨mk, blk, rfl, _⟩
      · exact .inl hx
      · simp only [List.mem_cons] at hx
        rcases hx with rfl | hx
        · exact .inr ⟨rfl, mk, blk, rfl, rfl⟩
        · exact .inl hx
    have pdsub : ∀ x ∈ s.pd, x ∈ pd := by
      intro x hx
      rcases hpd with ⟨rfl, _⟩ | ⟨mk, blk, rfl, _⟩
      · exact hx
      · simp [hx]
    have pdi : ∀ x ∈ s.pd, x.1 ≠ i := fun x hx e => hn (e ▸ I.pds x hx)
    refine { I with
      sub := fun j hj => (done j).2 (.inl (I.sub j hj))
      dn := fun j hj => ?_
      dclosed := fun j hj k hk => ?_
      acts1 := fun j p hj hp => ?_
      acts2 := fun j hj => ?_
      fn := p3.trans I.fn
      frnd := p4.trans I.frnd
      fdf := p5.trans I.fdf
      fout := fun t ht => ?_
      ti1 := fun t j p hj hd hS => ?_
      ei := fun t ht => ?_
      pend := fun j p hj hjd hjS => ?_
      pds := fun x hx => ?_
      pdl := fun x hx => ?_
      pdu := fun x hx y hy e => ?_
      pdS := fun x hx hS => ?_
      pdne := fun x hx y hy p q hne hS1 hS2 => ?_
      free := fun j hj hjS hjd => ?_ }
    · rcases (done j).1 hj with h | rfl
      · exact I.dn j h
      · exact hlt
    · rcases (done j).1 hj with h | rfl
      · exact (done k).2 (.inl (I.dclosed j h k hk))
      · exact (done k).2 (.inl (hm k hk))
    · rcases I.acts1 j p hj hp with ⟨h1, h2⟩ | ⟨h1, h2⟩
      · exact .inl ⟨(done j).2 (.inl h1), h2⟩
      · refine .inr ⟨?_, h2⟩
        rw [← Bool.not_eq_true]
        intro h
        rcases (done j).1 h with h | rfl
        · rw [h1] at h; cases h
        · rw [hi] at hj; cases hj; rw [hW] at hp; cases hp
    · obtain ⟨h1, p, hp, hpw⟩ := I.acts2 j hj
      refine ⟨?_, p, hp, hpw⟩
      rw [← Bool.not_eq_true]
      intro h
      rcases (done j).1 h with h | rfl
      · rw [h1] at h; cases h
      · rw [hi] at hp; cases hp; rw [hW] at hpw; cases hpw
    · by_cases hd : o.dst = some t
      · have := (p2 t hd).2
        rw [I.fn] at this
        exact absurd this (Nat.not_lt.2 ht)
      · rw [p1 t hd]; exact I.fout t ht
    · have hji : j ≠ i := fun e => hnS (e ▸ hS)
      rw [keep t j p hj hd hji]
      exact I.ti1 t j p hj hd hS
    · have : o.dst ≠ some t := fun e => ht i o hi e ((done i).2 (.inr rfl))
      rw [p1 t this]
      exact I.ei t (fun j p hj hd hjd => ht j p hj hd ((done j).2 (.inl hjd)))
    · rcases (done j).1 hjd with h | rfl
      · obtain ⟨tm, b', v', P⟩ := I.pend j p hj h hjS
        have hji : j ≠ i := fun e => hn (e ▸ h)
        refine ⟨tm, b', v', ⟨fun t ht k q hk hd hb => ?_, P.read0, P.want, fun d hd => ?_, P.light, P.off, fun hb => ?_, fun hb x hx => ?_⟩⟩
        · have hki : k ≠ i := fun e => hn (e ▸ I.dclosed j h k hb)
          rw [P.read1 t ht k q hk hd hb, keep t k q hk hd hki]
        · rw [keep d j p hj hd hji]; exact P.val d hd
        · rcases P.on hb with ⟨h1, mk, blk, h2, h3⟩ | ⟨h1, h2, h3⟩
          · exact .inl ⟨h1, mk, blk, pdsub _ h2, h3⟩
          · exact .inr ⟨h1, hws _ h2, h3⟩
        · rcases pdmem x hx with h' | ⟨h', _⟩
          · exact P.nopd hb x h'
          · exact fun e => hji (e.symm.trans h')
      · rw [hi] at hj; cases hj
        refine ⟨s.f.tm, b, v, ⟨fun t ht k q hk hd hb => ?_, I.reads_now R hi hn, ?_, fun d hd => (p2 d hd).1, hW, hoff, fun hb => ?_, fun hb x hx => ?_⟩⟩
        · have hki : k ≠ j := fun e => hn (e ▸ hm k hb)
          rw [keep t k q hk hd hki]
        · rw [← hwant]; exact wantedA_tm rfl
        · rcases hpd with ⟨rfl, h1⟩ | ⟨mk, blk, rfl, _, h1, h2, h3⟩
          · exact .inr (h1 hb)
          · exact .inl ⟨h1, mk, blk, by simp, h2, h3⟩
        · rcases hpd with ⟨rfl, h1⟩ | ⟨mk, blk, rfl, h0, h1, _⟩
          · exact pdi x hx
          · rcases hb with hb | hb
            · rw [h0] at hb; cases hb
            · rw [h1] at hb; cases hb
    · rcases pdmem x hx with h | ⟨h, _⟩
      · exact (done _).2 (.inl (I.pds x h))
      · exact (done _).2 (.inr h)
    · rcases pdmem x hx with h | ⟨h, _⟩
      · exact I.pdl x h
      · exact ⟨o, by rw [h]; exact hi, hW⟩
    · rcases pdmem x hx with h1 | ⟨h1, mk1, blk1, e1, rfl⟩
      · rcases pdmem y hy with h2 | ⟨h2, _⟩
        · exact I.pdu x h1 y h2 e
        · exact absurd (e.trans h2) (pdi x h1)
      · rcases pdmem y hy with h2 | ⟨h2, mk2, blk2, e2, rfl⟩
        · exact absurd e.symm (pdi y h2)
        · rw [e1] at e2; cases e2; rfl
    · rcases pdmem x hx with h | ⟨h, _⟩
      · exact I.pdS x h hS
      · exact absurd (h ▸ hS) hnS
    · rcases pdmem x hx with h | ⟨h, _⟩
      · rcases pdmem y hy with h' | ⟨h', _⟩
        · exact I.pdne x h y h' p q hne hS1 hS2
        · exact absurd (h' ▸ hS2) hnS
      · exact absurd (h ▸ hS1) hnS
    · by_cases hji : j = i
      · subst hji; exact hfree
      · refine I.free j hj hjS (fun hd => ?_)
        obtain ⟨blk, hb⟩ := hjd ((done j).2 (.inl hd))
        rcases pdmem _ hb with h | ⟨h, _⟩
        · exact ⟨blk, h⟩
        · exact absurd h hji
  unfold lightE at h
  split at h
  · cases h
  · rename_i hwant
    split at h
    · rename_i f hput
      cases h
      exact main (.s undef) f s.ws s.pd false hput rfl (fun _ h => h) (.inl ⟨rfl, fun h => by cases h⟩) hwant (fun _ => rfl)
    · cases h
  · rename_i hwant
    simp only [cond_eq_ite] at h
    split at h
    · rename_i hA
      split at h
      · rename_i v w' hop
        split at h
        · rename_i blk f hblk hput
          cases h
          rw [rhoT_eq] at hop
          rcases opA_makes ok hA hop with ⟨mk, blk', h1, _⟩ | ⟨v', h1⟩
          · rw [h1] at hop
            cases hop
            simp only [T.get_set, if_true, Option.some.injEq] at hblk
            subst hblk
            exact main _ f s.ws ((i, blk') :: s.pd) true hput rfl (fun _ h => h) (.inr ⟨mk, blk', rfl, rfl, hA, rfl, h1⟩) hwant (fun h => by cases h)
          · rw [h1] at hop
            cases hop
            obtain ⟨p, hp, _⟩ := I.st.gam.dom _ _ hblk
            rw [hfree] at hp; cases hp
        · cases h
      · cases h
    · rename_i hA
      split at h
      · rename_i v w' hop
        split at h
        · rename_i f hput
          cases h
          rw [rhoT_eq] at hop
          exact main v f _ s.pd true hput rfl (fun _ h => List.mem_cons_of_mem _ h) (.inl ⟨rfl, fun _ => ⟨by simpa using hA, by simp, w', hop⟩⟩) hwant (fun h => by cases h)
        · cases h
      · cases h

theorem lightsE_inv (ok : E.Ok) {C : Ctx} {acts : List Nat} {w : Hp} {L : Array Bool} {m : Mu} {a : Act} {W : World} (R : Reg C.ops C.ms) : ∀ (os : List Oper) (i : Nat), C.ops.toList.drop i = os → ∀ (s s' : DS), Inv E C acts s w L m a W → lightsE E C.ops.toList C.ms C.base w os i s = some s' → Inv E C acts s' w L m a W := by
  intro os
  induction os with
  | nil => intro i _ s s' I h; cases h; exact I
  | cons o os ih =>
    intro i hi s s' I h
    have hio : C.ops[i]? = some o := by
      have : (C.ops.toList.drop i)[0]? = some o := by rw [hi]; rfl
      simpa using this
    have hdrop : C.ops.toList.drop (i + 1) = os := by
      rw [← List.drop_drop, hi]; rfl
    simp only [lightsE, cond_eq_ite] at h
    split at h
    · exact ih (i + 1) hdrop s s' I h
    · rename_i hny
      unfold notYet at hny
      simp only [Bool.or_eq_true, Bool.not_eq_true', not_or] at hny
      obtain ⟨⟨h1, h2⟩, h3⟩ := hny
      split at h
      · rename_i s1 hs1
        exact ih (i + 1) hdrop s1 s' (lightE_inv ok I R hio (by simpa using h1) h2 (by simpa using h3) hs1) h
      · cases h
end Go.Eng
