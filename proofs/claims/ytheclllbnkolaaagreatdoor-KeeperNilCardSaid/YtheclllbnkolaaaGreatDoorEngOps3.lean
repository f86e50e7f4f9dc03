import Derived.Test.YtheclllbnkolaaaGreatDoorEngOps2
namespace Go.Eng
open Go
variable {E : Env} {m : Mu} {w : Hp} {W : World}

def NextOk (E : Env) (m : Mu) (w : Hp) (W : World) (r : OR) (s : Sem Next) : Prop :=
  ∃ v v', r = .val v w ∧ s.run E.P W = .ok (.value v') W ∧ VR m v v'

theorem methodA_run (ok : E.Ok) {t : TypeId} {name : String} {md : Method} (h : methodA E t name = some md) :
    ∃ i, (∀ W : World, (typeInfo t).run E.P W = .ok i W) ∧ i.methods.find? (·.name == name) = some md := by
  simp only [methodA, Option.bind_eq_some_iff] at h
  obtain ⟨i, hi, hm⟩ := h
  exact ⟨i, fun W => run_inf ok hi W, hm⟩

theorem notNilA_ok (ok : E.Ok) {t : TypeId} {v : AV} {x : Value} {name : String} (h : notNilA E t v name = true) (k : Nat) (W : World) :
    (nilAhead (k + 1) t x name).run E.P W = .ok (some false) W := by
  unfold notNilA at h
  split at h
  · rename_i md hm
    obtain ⟨i, hi, hf⟩ := methodA_run ok hm
    split at h
    · rename_i g hp hfn
      simp [nilAhead, hi, hf, hp, followBlind, hfn]
    · rename_i g fs hp hfn hu
      simp [nilAhead, hi, hf, hp, followBlind, hfn, run_und ok hu]
    · cases h
  · cases h

theorem ifcOf_ok {x : AV} {x' : Value} {t : TypeId} {v : AV} (h : ifcOf x = some (t, v)) (hx : VR m x x') : ∃ y, x' = .iface t y ∧ VR m v y := by
  unfold ifcOf at h
  split at h
  · cases h; obtain ⟨y, hy, rfl⟩ := hx; exact ⟨y, rfl, hy⟩
  · cases h; obtain rfl : x' = _ := hx; exact ⟨_, rfl, rfl⟩
  · cases h

theorem opNil_ok (ok : E.Ok) {σ : Operand → Value} {o : Oper} {y : Operand} {x : AV} {r : OR} (ho : o.op = .nilCheck y) (hx : VR m x (σ y)) (h : opNil E w x = some r) :
    NextOk E m w W r (execOp σ o) := by
  have h0 := hx
  unfold opNil at h
  unfold execOp
  simp only [ho]
  split at h
  · cases h; obtain ⟨p, hp, e⟩ := hx
    exact ⟨_, σ y, rfl, by rw [e]; rfl, h0⟩
  · cases h; obtain ⟨as, bs, _, _, e⟩ := hx
    exact ⟨_, σ y, rfl, by rw [e]; rfl, h0⟩
  · rename_i name rr rest b
    split at h
    · rename_i t v hi
      simp only [cond_eq_ite] at h
      split at h
      · rename_i hn
        cases h
        obtain ⟨as, bs, ha, _, e⟩ := hx
        obtain ⟨a0, as', rfl, ha0, _⟩ := ha
        obtain ⟨x', rfl, hx'⟩ := ifcOf_ok hi ha0
        refine ⟨_, σ y, rfl, ?_, h0⟩
        rw [e]
        have hk : ∃ k, E.P.types.size + Made.depth = k + 1 := ⟨E.P.types.size + 99, rfl⟩
        obtain ⟨k, hk⟩ := hk
        have hN := notNilA_ok ok (x := x') hn k W
        simp only [List.getElem?_toArray, List.getElem?_cons_zero, Sem.run_bind, run_program, Result.andThen_ok, hk, hN]
        simp
      · cases h
    · cases h
  · cases h; obtain ⟨p, hp, e⟩ := hx
    exact ⟨_, σ y, rfl, by rw [e]; rfl, h0⟩
  · cases h; obtain ⟨u, hu, e⟩ := hx
    exact ⟨_, σ y, rfl, by rw [e]; rfl, h0⟩
  · cases h

/-! ### Two operands -/
def binSem (op : BinOp) (t : TypeId) (x y : Operand) (a b : Value) : Sem Value := do eqGuard op t x y a b; binOp op t a b

theorem intBin_ok {op : BinOp} {k : IntKind} {a b : Int} {v : Value} (h : intBin op k a b = some v) (t : TypeId) (x y : Operand) :
    (binSem op t x y (.int k a) (.int k b)).run E.P W = .ok v W := by
  unfold intBin at h
  split at h <;> first
    | (simp only [Option.some.injEq] at h; subst h; simp [binSem, eqGuard, binOp, Op.intArith, Op.intCmp])
    | cases h

theorem binS_ok {op : BinOp} {t : TypeId} {x y : Operand} {a b v : Value} (h : binS E op t x y a b = some v) : (binSem op t x y a b).run E.P W = .ok v W := by
  unfold binS at h
  split at h
  · exact quiet_run _ _ h W
  · exact quiet_run _ _ h W
  · rename_i k1 m1 k2 n1
    simp only [cond_eq_ite, decide_eq_true_eq] at h
    split at h
    · rename_i hk
      subst hk
      split at h
      · rename_i u hu
        cases h
        exact intBin_ok hu _ _ _
      · exact quiet_run _ _ h W
    · cases h
  · exact quiet_run _ _ h W

theorem same_block {a b : Addr} (h : a.block = b.block) (W : World) : (sameAddr a b).run E.P W = .ok (a == b) W := by
  simp [sameAddr, h]

theorem other_block {a b : Addr} (h : a.block ≠ b.block) (ha : plainB W a.block) (hb : plainB W b.block) (sa : a.spot = none) (sb : b.spot = none) :
    (sameAddr a b).run E.P W = .ok false W := by
  obtain ⟨⟨xa, ha1⟩, ha2⟩ := ha
  obtain ⟨⟨xb, hb1⟩, hb2⟩ := hb
  have fa : ∀ o, W.frozen? { block := a.block, off := o } = false := ha2
  have fb : ∀ o, W.frozen? { block := b.block, off := o } = false := hb2
  have fa' : W.frozen? a = false := by have := ha2 a.off; rw [← sa] at this; exact this
  have fb' : W.frozen? b = false := by have := hb2 b.off; rw [← sb] at this; exact this
  have na : (noView a).run E.P W = .ok () W := by simp [noView, viewAt, ha1]
  have nb : (noView b).run E.P W = .ok () W := by simp [noView, viewAt, hb1]
  have st : ∀ c : Addr, W.frozen? c = false → (∀ o, W.frozen? { block := c.block, off := o } = false) → (∃ x, W.shape? c.block = some x) → (stringish c).run E.P W = .ok false W := by
    intro c h1 h2 h3
    obtain ⟨⟨e, n⟩, h3⟩ := h3
    simp [stringish, h1, h3, h2]
  have hs1 := st a fa' fa ⟨xa, ha1⟩
  have hs2 := st b fb' fb ⟨xb, hb1⟩
  have mb : (mayBeOne a b).run E.P W = .ok false W := by
    simp [mayBeOne, hs1, hs2, hb1]
  simp [sameAddr, h, fa', na, nb, mb]

theorem ptrEq_ok {i o j o' : Nat} {b : Bool} {x y : Value} (g : Gam m w.h W) (h : ptrEq w i o j o' = some b) (hx : VR m (.ptr i o) x) (hy : VR m (.ptr j o') y) :
    ∃ a a', x = .pointer (some a) ∧ y = .pointer (some a') ∧ (sameAddr a a').run E.P W = .ok b W := by
  obtain ⟨p, hp, rfl⟩ := hx
  obtain ⟨q, hq, rfl⟩ := hy
  refine ⟨_, _, rfl, rfl, ?_⟩
  simp only [ptrEq, cond_eq_ite, Nat.beq_eq] at h
  split at h
  · rename_i hij
    subst hij
    rw [hp] at hq; cases hq
    simp only [Option.some.injEq] at h
    subst h
    rw [same_block (by rfl)]
    congr 1
    rw [Bool.eq_iff_iff]
    simp
  · rename_i hij
    split at h
    · rename_i vs et es vs' et' es' h1 h2
      cases h
      obtain ⟨p', hp', hb1⟩ := g.dom _ _ h1
      obtain ⟨q', hq', hb2⟩ := g.dom _ _ h2
      rw [hp] at hp'; cases hp'
      rw [hq] at hq'; cases hq'
      exact other_block (g.inj _ _ _ _ _ _ h1 h2 hij hp hq) (hb1.2.2.2.2 rfl) (hb2.2.2.2.2 rfl) rfl rfl
    · cases h

theorem ptrEqT_ok (ok : E.Ok) {t : TypeId} {x y : AV} {x' y' : Value} {b : Bool} (g : Gam m w.h W) (h : ptrEqT E w t x y = some b) (hx : VR m x x') (hy : VR m y y') (d : Nat) :
    (Op.equalIn (d + 1) t x' y').run E.P W = .ok b W := by
  unfold ptrEqT at h
  split at h
  · rename_i e i o j o' hu
    split at h
    · rename_i n hsz
      obtain ⟨a, a', rfl, rfl, hr⟩ := ptrEq_ok (E := E) g h hx hy
      simp [Op.equalIn, run_und ok hu, run_sz ok hsz, hr]
    · cases h
  · cases h

theorem memA_ok {d : TypeDesc} {x y : AV} {x' y' : Value} (h : memA d x y = true) (hx : VR m x x') (hy : VR m y y') (t : TypeId) (k : Nat) (hu : ∀ W : World, (underlying t).run E.P W = .ok d W) :
    (Op.equalIn (k + 1) t x' y').run E.P W = .ok false W ∧ (Op.equalIn (k + 1) t y' x').run E.P W = .ok false W := by
  unfold memA at h
  split at h
  · obtain ⟨p, hp, rfl⟩ := hx; obtain rfl : y' = _ := hy
    simp [Op.equalIn, hu]
  · obtain ⟨p, hp, o', c', rfl, _⟩ := hx; obtain rfl : y' = _ := hy
    simp [Op.equalIn, hu]
  · obtain ⟨p, hp, rfl⟩ := hx; obtain rfl : y' = _ := hy
    simp [Op.equalIn, hu]
  · obtain ⟨as, bs, _, _, rfl⟩ := hx; obtain rfl : y' = _ := hy
    simp [Op.equalIn, hu]
  · obtain ⟨u, hu', rfl⟩ := hx; obtain rfl : y' = _ := hy
    simp [Op.equalIn, hu]
  · cases h

theorem eqA_ok (ok : E.Ok) {t : TypeId} {x y : AV} {x' y' : Value} {b : Bool} (g : Gam m w.h W) (h : eqA E w t x y = some b) (hx : VR m x x') (hy : VR m y y') :
    (Op.equal t x' y').run E.P W = .ok b W := by
  unfold eqA at h
  unfold Op.equal
  show (Op.equalIn (9999 + 1) t x' y').run E.P W = .ok b W
  split at h
  · rename_i d hd
    simp only [cond_eq_ite, Bool.or_eq_true] at h
    split at h
    · rename_i hm
      cases h
      rcases hm with hm | hm
      · exact (memA_ok hm hx hy t 9999 (fun W => run_und ok hd W)).1
      · exact (memA_ok hm hy hx t 9999 (fun W => run_und ok hd W)).2
    · split at h
      · rename_i _ ms a u b' v
        obtain ⟨u', hu', rfl⟩ := hx
        obtain ⟨v', hv', rfl⟩ := hy
        simp only [Nat.beq_eq] at h
        split at h
        · rename_i hab
          subst hab
          split at h
          · rename_i inf hinf
            split at h
            · rename_i hc
              have := ptrEqT_ok ok g h hu' hv' 9998
              rw [Op.equalIn]
              simp [run_und ok hd, run_inf ok hinf, hc, this]
            · cases h
          · cases h
        · rename_i hab
          cases h
          rw [Op.equalIn]
          simp [run_und ok hd, hab]
      · rename_i _ ms a u b' v
        obtain ⟨u', hu', rfl⟩ := hx
        obtain rfl : y' = _ := hy
        simp only [Nat.beq_eq] at h
        split at h
        · cases h
        · rename_i hab
          cases h
          rw [Op.equalIn]
          simp [run_und ok hd, hab]
      · rename_i _ ms b' v a u
        obtain ⟨u', hu', rfl⟩ := hy
        obtain rfl : x' = _ := hx
        simp only [Nat.beq_eq] at h
        split at h
        · cases h
        · rename_i hab
          cases h
          rw [Op.equalIn]
          simp [run_und ok hd]
          intro e
          exact absurd e.symm hab
      · exact ptrEqT_ok ok g h hx hy 9999
      · cases h
  · cases h
end Go.Eng
