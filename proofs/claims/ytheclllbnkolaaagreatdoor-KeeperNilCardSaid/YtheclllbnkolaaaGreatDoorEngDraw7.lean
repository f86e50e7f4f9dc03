import Derived.Test.YtheclllbnkolaaaGreatDoorEngDraw6
namespace Go.Eng
open Go
variable {E : Env}

theorem turn_step (ok : E.Ok) {call : CallF} (sc : Sound E call) {C : Ctx} {rest : List Nat} {s : DS} {w : Hp} {L : Array Bool} {m : Mu} {a : Act} {W : World} {i n : Nat} {r : Option Nat} (I : Inv E C (i :: rest) s w L m a W) (R : Reg C.ops C.ms) {o : Oper} (hi : C.ops[i]? = some o)
    (hm : ∀ j, (mkAt C.ms i).testBit j = true → inS L j) {next : Act → World → Prop} {Q : Exit → Act → World → Prop} {l2 : List (DS × Hp)} (h : turnE E call C.ops.toList C.ms C.base i s w = some l2)
    (hnext : ∀ y ∈ l2, ∀ m' a' W', Inv E C rest y.1 y.2 (L.setIfInBounds i true) m' a' W' → next a' W') : wpOpIn (FW r) n E.P C.ops Q i next a W := by
  have hlt : i < C.ops.size := (Array.getElem?_eq_some_iff.1 hi).1
  have hS : ∀ {j}, inS (L.setIfInBounds i true) j ↔ inS L j ∨ j = i := inS_set (by rw [I.size]; exact hlt)
  obtain ⟨hnd, o', ho', hW⟩ := I.acts2 i (by simp)
  rw [hi] at ho'; cases ho'
  have hn : ¬ s.done.testBit i = true := by rw [hnd]; simp
  have hnS : ¬ inS L i := fun h => hn (I.sub i h)
  have hr := I.reads R hi hnS hm (tm := s.f.tm) (fun _ _ _ _ _ _ _ => rfl) (I.reads_now R hi hn)
  unfold turnE at h
  rw [nthOp_get] at h
  have hi' : C.ops.toList[i]? = some o := by simpa using hi
  rw [hi'] at h
  simp only [cond_eq_ite, Bool.and_eq_true] at h
  split at h
  · split at h
    · rename_i l hact
      have g1 := insP_step I.st (base := C.base) (msk := mkAt C.ms i) (l := s.pd) (fun x hx hb => I.pdS x hx (hm _ hb)) (fun x hx y hy p q hne hb1 hb2 => I.pdne x hx y hy p q hne (hm _ hb1) (hm _ hb2))
      refine actE_ok (w := ⟨insP C.base (mkAt C.ms i) s.pd w.h, w.nx⟩) ok sc hi hr g1.gam g1.fresh hact (fun x hx m' v' W' hv st => ?_)
      obtain ⟨rs, h1, h2⟩ := bindL_mem h x hx
      split at h1
      · rename_i y hy
        cases h1
        refine hnext y (h2 _ (List.mem_singleton.2 rfl)) m' _ W' ?_
        unfold nextE at hy
        split at hy
        · rename_i f hput
          simp only [cond_eq_ite] at hy
          split at hy
          · rename_i hsame
            cases hy
            obtain ⟨p1, p2, p3, p4, p5⟩ := put_get hput
            obtain ⟨t1, t2, t3, t4⟩ := put_tmps (a := a) (d := o.dst) (v := v')
            have hext := st.ext g1.fresh
            have done : ∀ j, (s.done ||| 2 ^ i).testBit j = true ↔ s.done.testBit j = true ∨ j = i := bit_or _ _
            have keep : ∀ t (j : Nat) (p : Oper), C.ops[j]? = some p → p.dst = some t → j ≠ i → o.dst ≠ some t := fun t j p hj hd hji e => hji (R.one j i p o t hj hi hd e)
            have fsub : ∀ {z : Nat × AB}, z ∈ s.pd.filter (fun y => !(mkAt C.ms i).testBit y.1) → z ∈ s.pd ∧ (mkAt C.ms i).testBit z.1 = false := fun hz => by
              rw [List.mem_filter] at hz; exact ⟨hz.1, by simpa using hz.2⟩
            have pdi : ∀ z ∈ s.pd, z.1 ≠ i := fun z hz e => by
              obtain ⟨o2, ho2, hw2⟩ := I.pdl z hz
              rw [e, hi] at ho2; cases ho2
              rw [hW] at hw2; cases hw2
            have nolive : ∀ z ∈ s.pd, (mkAt C.ms i).testBit z.1 = false → inS L z.1 → ∀ p, PdOk m W C.base C.W0.heap.size w.h z p → ¬ Live m (insP C.base (mkAt C.ms i) s.pd w.h) p.blk := by
              intro z hz hzb hzS p hp hl
              rcases insP_live hl with h3 | ⟨x', hx', hb', p', hp', e⟩
              · exact hp.free h3
              · refine I.pdne x' hx' z hz p' p (fun e2 => ?_) (hm _ hb') hzS hp' hp.at_ e
                rw [e2, hzb] at hb'; cases hb'
            refine {
              st := g1.trans st
              base := I.base
              nx := Nat.le_trans I.nx st.le
              size := by rw [Array.size_setIfInBounds]; exact I.size
              sub := fun j hj => ?_
              dn := fun j hj => ?_
              closed := fun j hj k hk => ?_
              dclosed := fun j hj k hk => ?_
              acts1 := fun j p hj hp => ?_
              acts2 := fun j hj => ?_
              chain := ?_
              nodup := (List.nodup_cons.1 I.nodup).2
              fn := p3.trans I.fn
              frnd := p4.trans I.frnd
              fdf := p5.trans I.fdf
              adf := t1.trans I.adf
              asz := t2.trans I.asz
              fout := fun t ht => ?_
              ti1 := fun t j p hj hd hSj => ?_
              ti0 := fun t ht => ?_
              ei := fun t ht => ?_
              pend := fun j p hj hjd hjS => ?_
              pds := fun z hz => (done _).2 (.inl (I.pds z (fsub hz).1))
              pdl := fun z hz => I.pdl z (fsub hz).1
              pdu := fun z hz y hy e => I.pdu z (fsub hz).1 y (fsub hy).1 e
              pdS := fun z hz hzS => ?_
              pdne := fun z hz y hy p q hne h3 h4 e1 e2 => ?_
              free := fun j hj hjS hjd => ?_ }
            · rcases hS.1 hj with h3 | rfl
              · exact (done j).2 (.inl (I.sub j h3))
              · exact (done j).2 (.inr rfl)
            · rcases (done j).1 hj with h3 | rfl
              · exact I.dn j h3
              · exact hlt
            · rcases hS.1 hj with h3 | rfl
              · exact hS.2 (.inl (I.closed j h3 k hk))
              · exact hS.2 (.inl (hm k hk))
            · rcases (done j).1 hj with h3 | rfl
              · exact (done k).2 (.inl (I.dclosed j h3 k hk))
              · exact (done k).2 (.inl (I.sub k (hm k hk)))
            · rcases I.acts1 j p hj hp with ⟨h3, h4⟩ | ⟨h3, h4⟩
              · exact .inl ⟨(done j).2 (.inl h3), hS.2 (.inl h4)⟩
              · simp only [List.mem_cons] at h4
                rcases h4 with rfl | h4
                · exact .inl ⟨(done j).2 (.inr rfl), hS.2 (.inr rfl)⟩
                · refine .inr ⟨?_, h4⟩
                  rw [← Bool.not_eq_true]
                  intro h5
                  rcases (done j).1 h5 with h6 | rfl
                  · rw [h3] at h6; cases h6
                  · exact (List.nodup_cons.1 I.nodup).1 h4
            · obtain ⟨h3, p, hp, hpw⟩ := I.acts2 j (by simp [hj])
              refine ⟨?_, p, hp, hpw⟩
              rw [← Bool.not_eq_true]
              intro h5
              rcases (done j).1 h5 with h6 | rfl
              · rw [h3] at h6; cases h6
              · exact (List.nodup_cons.1 I.nodup).1 hj
            · have := I.chain
              simp only [chainOk, Bool.and_eq_true] at this
              exact this.2
            · by_cases hd : o.dst = some t
              · have := (p2 t hd).2
                rw [I.fn] at this
                exact absurd this (Nat.not_lt.2 ht)
              · rw [p1 t hd]; exact I.fout t ht
            · by_cases hdt : o.dst = some t
              · rw [t4 t hdt (by have := (p2 t hdt).2; rw [I.fn] at this; rw [I.asz]; exact this), (p2 t hdt).1]
                exact hv
              · rw [t3 t hdt, p1 t hdt]
                rcases hS.1 hSj with h3 | rfl
                · exact VR.mono hext _ _ (I.ti1 t j p hj hd h3)
                · rw [hi] at hj; cases hj; exact absurd hd hdt
            · have hdt : o.dst ≠ some t := fun e => ht i o hi e (hS.2 (.inr rfl))
              rw [t3 t hdt]
              exact VR.mono hext _ _ (I.ti0 t (fun j p hj hd h3 => ht j p hj hd (hS.2 (.inl h3))))
            · have hdt : o.dst ≠ some t := fun e => ht i o hi e ((done i).2 (.inr rfl))
              rw [p1 t hdt]
              exact I.ei t (fun j p hj hd h3 => ht j p hj hd ((done j).2 (.inl h3)))
            · have hji : j ≠ i := fun e => hjS (hS.2 (.inr e))
              have hjS' : ¬ inS L j := fun h3 => hjS (hS.2 (.inl h3))
              have hjd' : s.done.testBit j = true := ((done j).1 hjd).resolve_right hji
              have hjm : (mkAt C.ms i).testBit j = false := by
                rw [← Bool.not_eq_true]; exact fun h3 => hjS' (hm j h3)
              obtain ⟨tm, b, v, P⟩ := I.pend j p hj hjd' hjS'
              refine ⟨tm, b, v, ⟨fun t ht k q hk hd hb => ?_, P.read0, P.want, fun d hd => ?_, P.light, P.off, fun hb => ?_, fun hb z hz => P.nopd hb z (fsub hz).1⟩⟩
              · have hki : k ≠ i := fun e => hn (e ▸ I.dclosed j hjd' k hb)
                rw [P.read1 t ht k q hk hd hb, p1 t (keep t k q hk hd hki)]
              · rw [p1 d (keep d j p hj hd hji)]; exact P.val d hd
              · rcases P.on hb with ⟨h3, mk, blk, h4, h5⟩ | ⟨h3, h4, _⟩
                · exact .inl ⟨h3, mk, blk, List.mem_filter.2 ⟨h4, by simp [hjm]⟩, h5⟩
                · have hmem : (⟨j, p, tm, v⟩ : Wt) ∈ s.ws.filter (fun y => !(mkAt C.ms i).testBit y.i) := List.mem_filter.2 ⟨h4, by simp [hjm]⟩
                  exact .inr ⟨h3, hmem, sameW_ok hsame _ hmem⟩
            · obtain ⟨hz1, hz2⟩ := fsub hz
              have hzS' : inS L z.1 := (hS.1 hzS).resolve_right (pdi z hz1)
              obtain ⟨p, hp⟩ := I.pdS z hz1 hzS'
              have hnl := nolive z hz1 hz2 hzS' p hp
              refine ⟨p, hext _ _ hp.at_, (hp.br.same (st.frame _ hp.br.lt hnl)).mono hext, fun hl => ?_, hp.young⟩
              rcases st.back _ hl with h3 | h3
              · have := hp.br.lt; omega
              · exact hnl h3
            · obtain ⟨hz1, hz2⟩ := fsub hz
              obtain ⟨hy1, hy2⟩ := fsub hy
              have hzS' : inS L z.1 := (hS.1 h3).resolve_right (pdi z hz1)
              have hyS' : inS L y.1 := (hS.1 h4).resolve_right (pdi y hy1)
              obtain ⟨p0, hp0⟩ := I.pdS z hz1 hzS'
              obtain ⟨q0, hq0⟩ := I.pdS y hy1 hyS'
              have e3 := hext _ _ hp0.at_
              have e4 := hext _ _ hq0.at_
              rw [e3] at e1; cases e1
              rw [e4] at e2; cases e2
              exact I.pdne z hz1 y hy1 _ _ hne hzS' hyS' hp0.at_ hq0.at_
            · have h3 : ¬ inS L j := fun h3 => hjS (hS.2 (.inl h3))
              have hlt2 : C.base + j < w.nx := by have := I.nx; omega
              rw [st.same _ hlt2]
              refine I.free j hj h3 (fun h4 => ?_)
              obtain ⟨blk, hb⟩ := hjd ((done j).2 (.inl h4))
              exact ⟨blk, (fsub hb).1⟩
          · cases hy
        · cases hy
      · cases h1
    · cases h
  · cases h

theorem countP_drop {p q : Nat → Bool} {i : Nat} : ∀ (l : List Nat), i ∈ l → p i = true → q i = false → (∀ k, q k = true → p k = true) → l.countP q + 1 ≤ l.countP p
  | [], h, _, _, _ => by simp at h
  | x :: xs, h, hp, hq, hk => by
    simp only [List.countP_cons]
    have mono : ∀ ys : List Nat, ys.countP q ≤ ys.countP p := fun ys => List.countP_mono_left (fun x _ h => hk x h)
    by_cases hx : x = i
    · subst hx
      rw [hp, hq]
      have := mono xs
      simp; omega
    · have hmem : i ∈ xs := by simpa [Ne.symm hx] using h
      have ih := countP_drop xs hmem hp hq hk
      have : (if q x = true then 1 else 0) ≤ (if p x = true then 1 else 0) := by
        by_cases hqx : q x = true
        · rw [if_pos hqx, if_pos (hk x hqx)]; exact Nat.le_refl _
        · rw [if_neg hqx]; exact Nat.zero_le _
      omega
end Go.Eng
