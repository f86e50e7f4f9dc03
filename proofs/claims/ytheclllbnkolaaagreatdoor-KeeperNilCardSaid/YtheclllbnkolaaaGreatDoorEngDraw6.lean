import Derived.Test.YtheclllbnkolaaaGreatDoorEngDraw5
namespace Go.Eng
open Go
variable {E : Env}

theorem inS_set {L : Array Bool} {i j : Nat} (hi : i < L.size) : inS (L.setIfInBounds i true) j ↔ inS L j ∨ j = i := by
  unfold inS
  have e : ∀ A : Array Bool, A.getD j false = (A[j]?).getD false := fun A => by simp [Array.getD_eq_getD_getElem?]
  rw [e, e]
  by_cases hj : j = i
  · subst hj
    rw [Array.getElem?_setIfInBounds_self_of_lt hi]
    simp
  · rw [Array.getElem?_setIfInBounds_ne (by omega)]
    simp [hj]

theorem put_tmps {a : Act} {d : Option Tmp} {v : Value} : (a.put d v).defers = a.defers ∧ (a.put d v).tmps.size = a.tmps.size ∧ (∀ t, d ≠ some t → (a.put d v).tmps.getD t undef = a.tmps.getD t undef) ∧
    (∀ t, d = some t → t < a.tmps.size → (a.put d v).tmps.getD t undef = v) := by
  have e : ∀ (A : Array Value) (t : Nat), A.getD t undef = (A[t]?).getD undef := fun A t => by simp [Array.getD_eq_getD_getElem?]
  cases d with
  | none => exact ⟨rfl, rfl, fun _ _ => rfl, by simp⟩
  | some u =>
    refine ⟨rfl, by simp [Act.put], fun t ht => ?_, fun t ht hlt => ?_⟩
    · show (a.tmps.setIfInBounds u v).getD t undef = _
      rw [e, e, Array.getElem?_setIfInBounds_ne (fun h => ht (by rw [h]))]
    · cases ht
      show (a.tmps.setIfInBounds u v).getD u undef = _
      rw [e, Array.getElem?_setIfInBounds_self_of_lt hlt]
      rfl

/-- The machine has carried out a light operation. -/
theorem Inv.listed {C : Ctx} {acts : List Nat} {s : DS} {w : Hp} {L : Array Bool} {m m' : Mu} {a : Act} {W W' : World} (I : Inv E C acts s w L m a W) (_ : Reg C.ops C.ms) {i : Nat} {o : Oper} (hi : C.ops[i]? = some o) (_ : isW o.op = false)
    (hd : s.done.testBit i = true) (hnS : ¬ inS L i) (hm : ∀ j, (mkAt C.ms i).testBit j = true → inS L j) {v : AV} {v' : Value} (hval : ∀ d, o.dst = some d → s.f.tm.get d = some v) (hv : VR m' v v')
    (hext : Ext m m') (st : Step C.m0 C.h0 C.nx0 C.W0 m' w.h w.nx W')
    (hpdS : ∀ x ∈ s.pd, inS L x.1 ∨ x.1 = i → ∃ p, PdOk m' W' C.base C.W0.heap.size w.h x p)
    (hpdne : ∀ x ∈ s.pd, ∀ y ∈ s.pd, ∀ p q, x.1 ≠ y.1 → inS L x.1 ∨ x.1 = i → inS L y.1 ∨ y.1 = i → m' (C.base + x.1) = some p → m' (C.base + y.1) = some q → p.blk ≠ q.blk)
    (hfree : ∀ j, j < C.ops.size → ¬ inS L j → j ≠ i → m' (C.base + j) = m (C.base + j)) : Inv E C acts s w (L.setIfInBounds i true) m' (a.put o.dst v') W' := by
  have hlt : i < C.ops.size := (Array.getElem?_eq_some_iff.1 hi).1
  have hS : ∀ {j}, inS (L.setIfInBounds i true) j ↔ inS L j ∨ j = i := inS_set (by rw [I.size]; exact hlt)
  obtain ⟨t1, t2, t3, t4⟩ := put_tmps (a := a) (d := o.dst) (v := v')
  have hdl : ∀ d, o.dst = some d → d < a.tmps.size := fun d hdd => by
    rw [I.asz]
    rcases Nat.lt_or_ge d C.f0.n with h | h
    · exact h
    · have := hval d hdd
      rw [I.fout d h] at this; cases this
  refine { I with
    st := st
    size := by rw [Array.size_setIfInBounds]; exact I.size
    sub := fun j hj => (hS.1 hj).elim (I.sub j) (fun e => e ▸ hd)
    closed := fun j hj k hk => ?_
    acts1 := fun j p hj hp => ?_
    adf := t1.trans I.adf
    asz := t2.trans I.asz
    ti1 := fun t j p hj hdj hSj => ?_
    ti0 := fun t ht => ?_
    pend := fun j p hj hjd hjS => I.pend j p hj hjd (fun h => hjS (hS.2 (.inl h)))
    pdS := fun x hx h => hpdS x hx (hS.1 h)
    pdne := fun x hx y hy p q hne h1 h2 => hpdne x hx y hy p q hne (hS.1 h1) (hS.1 h2)
    free := fun j hj hjS hjd => ?_ }
  · rcases hS.1 hj with h | rfl
    · exact hS.2 (.inl (I.closed j h k hk))
    · exact hS.2 (.inl (hm k hk))
  · rcases I.acts1 j p hj hp with ⟨h1, h2⟩ | h
    · exact .inl ⟨h1, hS.2 (.inl h2)⟩
    · exact .inr h
  · by_cases hdt : o.dst = some t
    · rw [t4 t hdt (hdl t hdt), hval t hdt]
      exact hv
    · rw [t3 t hdt]
      rcases hS.1 hSj with h | rfl
      · exact VR.mono hext _ _ (I.ti1 t j p hj hdj h)
      · rw [hi] at hj; cases hj
        exact absurd hdj hdt
  · have hdt : o.dst ≠ some t := fun e => ht i o hi e (hS.2 (.inr rfl))
    rw [t3 t hdt]
    exact VR.mono hext _ _ (I.ti0 t (fun j p hj hdj h => ht j p hj hdj (hS.2 (.inl h))))
  · have h1 : ¬ inS L j := fun h => hjS (hS.2 (.inl h))
    have h2 : j ≠ i := fun e => hjS (hS.2 (.inr e))
    rw [hfree j hj h1 h2]
    exact I.free j hj h1 hjd

theorem light_step (ok : E.Ok) {C : Ctx} {acts : List Nat} {s : DS} {w : Hp} {L : Array Bool} {m : Mu} {a : Act} {W : World} (I : Inv E C acts s w L m a W) (R : Reg C.ops C.ms) {i n : Nat} {r : Option Nat} {o : Oper} (hi : C.ops[i]? = some o) (hW : isW o.op = false)
    (hd : s.done.testBit i = true) (hnS : ¬ inS L i) (hm : ∀ j, (mkAt C.ms i).testBit j = true → inS L j) {next : Act → World → Prop} {Q : Exit → Act → World → Prop}
    (hnext : ∀ m' a' W', Inv E C acts s w (L.setIfInBounds i true) m' a' W' → next a' W') : wpOpIn (FW r) n E.P C.ops Q i next a W := by
  have hlt : i < C.ops.size := (Array.getElem?_eq_some_iff.1 hi).1
  obtain ⟨tm, b, v, P⟩ := I.pend i o hi hd hnS
  have hr := I.reads R hi hnS hm P.read1 P.read0
  have nd : ∀ c, o.op ≠ .defer c := fun c hc => by rw [hc] at hW; simp [isW] at hW
  have pdi : ∀ x ∈ s.pd, x.1 = i → ∀ y ∈ s.pd, y.1 = i → x = y := fun x hx e y hy e2 => I.pdu x hx y hy (e.trans e2.symm)
  unfold wpOpIn
  simp only [hi]
  have hwant := wantedA_reads (f := ⟨0, tm, [], false⟩) hr P.want
  rw [hwant]
  -- no block is made
  have quietly : (∀ x ∈ s.pd, x.1 ≠ i) → ∀ v', VR m v v' → Inv E C acts s w (L.setIfInBounds i true) m (a.put o.dst v') W := by
    intro hno v' hv
    refine I.listed R hi hW hd hnS hm P.val hv (fun _ _ h => h) I.st (fun x hx h => ?_) (fun x hx y hy p q hne h1 h2 => ?_) (fun _ _ _ _ => rfl)
    · rcases h with h | h
      · exact I.pdS x hx h
      · exact absurd h (hno x hx)
    · rcases h1 with h1 | h1
      · rcases h2 with h2 | h2
        · exact I.pdne x hx y hy p q hne h1 h2
        · exact absurd h2 (hno y hy)
      · exact absurd h1 (hno x hx)
  cases b with
  | false =>
    refine ⟨fun _ _ => trivial, ?_⟩
    exact hnext m _ W (quietly (P.nopd (.inl rfl)) undef (by rw [P.off rfl]; rfl))
  | true =>
    refine ⟨fun _ _ => trivial, ?_⟩
    rw [Oper.semAt_eq _ _ _ nd]
    have heval := rhoW_ok (o := o) hr
    rcases P.on rfl with ⟨hA, mk, blk, hmem, hvm, hop⟩ | ⟨hA, hws, w', hop⟩
    · have hop' : ∀ w : Hp, opA E (rhoW o (rhoT tm) a.eval) w o = some (.val (mk w.nx) ⟨w.h.set w.nx blk, w.nx + 1⟩) := fun w => by rw [← opA_rhoW]; exact hop w
      rcases opA_makes ok hA (hop' w) with ⟨mk', blk', h1, h2⟩ | ⟨v0, h1⟩
      · have hmk : mk' (C.base + i) = mk (C.base + i) ∧ blk' = blk := by
          have := (h1 ⟨.nil, C.base + i⟩).symm.trans (hop' ⟨.nil, C.base + i⟩)
          simp only [Option.some.injEq, OR.val.injEq, Hp.mk.injEq] at this
          refine ⟨this.1, ?_⟩
          have h3 : (T.set (T.nil : H) (C.base + i) blk').get (C.base + i) = (T.set (T.nil : H) (C.base + i) blk).get (C.base + i) := by rw [this.2.1]
          rw [T.get_set, T.get_set, if_pos rfl, if_pos rfl] at h3
          exact Option.some.inj h3
        obtain ⟨v', W', p, hs, hp, hold, ho, ht, hu, hsz, hmm⟩ := h2 m W a.eval heval
        rw [hs]
        have hfree : m (C.base + i) = none := I.free i hlt hnS (fun _ => ⟨blk, hmem⟩)
        have hext := upd_ext (p := p) hfree
        obtain ⟨hv, hbr⟩ := hmm (upd m (C.base + i) p) (C.base + i) hext (upd_same _ _ _)
        rw [hmk.1] at hv
        rw [hmk.2] at hbr
        have hst := Step.hidden (W' := W') I.st hfree (by rw [I.base]; omega) (by have := I.nx; omega) hold ho ht hu hsz (p := p)
        have oldpd : ∀ x ∈ s.pd, inS L x.1 → ∀ q, PdOk m W C.base C.W0.heap.size w.h x q → PdOk (upd m (C.base + i) p) W' C.base C.W0.heap.size w.h x q := by
          intro x hx hSx q hq
          exact ⟨hext _ _ hq.at_, (hq.br.same (hold _ hq.br.lt)).mono hext, fun hl => hq.free (Live.of_ext I.st.gam hext hl), hq.young⟩
        refine hnext _ _ W' (I.listed R hi hW hd hnS hm P.val (by rw [hvm]; exact hv) hext hst (fun x hx h => ?_) (fun x hx y hy p1 q1 hne h1 h2 e1 e2 => ?_) (fun j hj hjS hji => upd_ne _ _ _ (by omega)))
        · rcases h with h | h
          · obtain ⟨q, hq⟩ := I.pdS x hx h
            exact ⟨q, oldpd x hx h q hq⟩
          · have hxe := pdi x hx h _ hmem rfl
            subst hxe
            refine ⟨p, upd_same _ _ _, hbr, fun hl => ?_, ?_⟩
            · have := Live.lt I.st.gam (Live.of_ext I.st.gam hext hl)
              omega
            · rw [hp]; exact I.st.size
        · have low : ∀ z ∈ s.pd, inS L z.1 → ∀ q, (upd m (C.base + i) p) (C.base + z.1) = some q → q.blk < W.heap.size ∧ m (C.base + z.1) = some q := by
            intro z hz hSz q hq
            obtain ⟨q', hq'⟩ := I.pdS z hz hSz
            have e := hext _ _ hq'.at_
            rw [hq] at e; cases e
            exact ⟨hq'.br.lt, hq'.at_⟩
          rcases h1 with h1 | h1
          · obtain ⟨l1, m1⟩ := low x hx h1 p1 e1
            rcases h2 with h2 | h2
            · obtain ⟨l2, m2⟩ := low y hy h2 q1 e2
              exact I.pdne x hx y hy p1 q1 hne h1 h2 m1 m2
            · rw [h2, upd_same] at e2; cases e2
              omega
          · rw [h1, upd_same] at e1; cases e1
            rcases h2 with h2 | h2
            · obtain ⟨l2, m2⟩ := low y hy h2 q1 e2
              omega
            · exact absurd (h1.trans h2.symm) hne
      · have := (h1 w).symm.trans (hop' w)
        simp only [Option.some.injEq, OR.val.injEq] at this
        have h3 := congrArg Hp.nx this.2
        simp at h3
    · rw [opA_rhoW (σ := a.eval)] at hop
      obtain ⟨u, v', hu, hs, hv⟩ := opA_light ok I.st.gam heval hW hA hop
      cases hu
      rw [hs]
      exact hnext m _ W (quietly (P.nopd (.inr hA)) v' hv)
end Go.Eng
