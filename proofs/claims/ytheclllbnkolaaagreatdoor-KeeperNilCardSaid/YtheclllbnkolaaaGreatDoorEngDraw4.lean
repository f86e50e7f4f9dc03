import Derived.Test.YtheclllbnkolaaaGreatDoorEngDraw3
import Derived.MapKept
namespace Go.Eng
open Go
variable {E : Env}

/-! ### The same -/
theorem emp_ok {α : Type} {a b : Array α} (h1 : a.isEmpty = true) (h2 : b.isEmpty = true) : a = b := by
  have e : ∀ c : Array α, c.isEmpty = true → c = #[] := fun c h => by
    apply Array.eq_empty_of_size_eq_zero
    simpa [Array.isEmpty] using h
  rw [e a h1, e b h2]

theorem vEq_ok : ∀ (a b : Value), vEq a b = true → a = b := by
  intro a b h
  unfold vEq at h
  split at h
  · rw [beq_iff_eq] at h; rw [h]
  · rw [Bool.and_eq_true, decide_eq_true_eq, beq_iff_eq] at h; rw [h.1, h.2]
  · rw [(Go.MapKept.bytes_beq _ _).1 h]
  · rfl
  · rw [Bool.and_eq_true, Nat.beq_eq, Nat.beq_eq] at h; rw [h.1, h.2]
  · rfl
  · rfl
  · rename_i f x y g c d
    simp only [Bool.and_eq_true, Nat.beq_eq] at h
    obtain ⟨⟨⟨⟨rfl, h1⟩, h2⟩, h3⟩, h4⟩ := h
    rw [emp_ok h1 h3, emp_ok h2 h4]
  · rfl
  · rw [Bool.and_eq_true] at h; rw [emp_ok h.1 h.2]
  · cases h

mutual
theorem avEq_ok : ∀ (a b : AV), avEq a b = true → a = b
  | .s v, b, h => by
    cases b <;> simp only [avEq] at h <;> first | cases h | (rw [vEq_ok _ _ h])
  | .ptr i o, b, h => by
    cases b <;> simp only [avEq] at h <;> first | cases h | (simp only [Bool.and_eq_true, Nat.beq_eq] at h; rw [h.1, h.2])
  | .slc i o l c, b, h => by
    cases b <;> simp only [avEq] at h <;> first | (cases h; done) | skip
    rename_i j p m d
    simp only [Bool.and_eq_true, Nat.beq_eq] at h
    obtain ⟨⟨⟨rfl, rfl⟩, rfl⟩, h⟩ := h
    cases c <;> cases d <;> simp only [Nat.beq_eq] at h <;> first | cases h; rfl | (cases h)
  | .mp i, b, h => by
    cases b <;> simp only [avEq] at h <;> first | cases h | (simp only [Nat.beq_eq] at h; rw [h])
  | .fn f x y, b, h => by
    cases b <;> simp only [avEq] at h <;> first | cases h | (simp only [Bool.and_eq_true, decide_eq_true_eq] at h; rw [h.1.1, avEqL_ok _ _ h.1.2, avEqL_ok _ _ h.2])
  | .yld i, b, h => by
    cases b <;> simp only [avEq] at h <;> first | cases h | (simp only [Nat.beq_eq] at h; rw [h])
  | .ifc t v, b, h => by
    cases b <;> simp only [avEq] at h <;> first | cases h | (simp only [Bool.and_eq_true, Nat.beq_eq] at h; rw [h.1, avEq_ok _ _ h.2])
  | .agg l, b, h => by
    cases b <;> simp only [avEq] at h <;> first | cases h | (rw [avEqL_ok _ _ h])
  | .tup l, b, h => by
    cases b <;> simp only [avEq] at h <;> first | cases h | (rw [avEqL_ok _ _ h])
theorem avEqL_ok : ∀ (a b : List AV), avEqL a b = true → a = b
  | [], b, h => by cases b <;> simp [avEqL] at h ⊢
  | x :: xs, b, h => by
    cases b with
    | nil => simp [avEqL] at h
    | cons y ys => simp only [avEqL, Bool.and_eq_true] at h; rw [avEq_ok _ _ h.1, avEqL_ok _ _ h.2]
end

theorem sameW_ok {w : Hp} : ∀ {l : List Wt}, sameW E w l = true → ∀ x ∈ l, ∃ w', opA E (rhoT x.tm) w x.o = some (.val x.v w')
  | [], _, x, hx => by simp at hx
  | y :: r, h, x, hx => by
    simp only [sameW, Bool.and_eq_true] at h
    simp only [List.mem_cons] at hx
    rcases hx with rfl | hx
    · have h1 := h.1
      split at h1
      · rename_i u w' hu
        exact ⟨w', by rw [hu, avEq_ok _ _ h1]⟩
      · cases h1
    · exact sameW_ok h.2 x hx

theorem subM_ok {m d : Nat} : subM m d = true ↔ ∀ j, m.testBit j = true → d.testBit j = true := by
  unfold subM
  rw [Nat.beq_eq]
  constructor
  · intro h j hj
    have : (Nat.land m d).testBit j = true := by rw [h]; exact hj
    have h2 : (m &&& d).testBit j = true := this
    rw [Nat.testBit_and, Bool.and_eq_true] at h2
    exact h2.2
  · intro h
    apply Nat.eq_of_testBit_eq
    intro j
    show (m &&& d).testBit j = m.testBit j
    rw [Nat.testBit_and]
    cases hm : m.testBit j with
    | false => rfl
    | true => rw [h j hm]; rfl

theorem bit_or (d i j : Nat) : (d ||| 2 ^ i).testBit j = true ↔ d.testBit j = true ∨ j = i := by
  rw [Nat.testBit_or, Nat.testBit_two_pow, Bool.or_eq_true, decide_eq_true_eq]
  constructor
  · rintro (h | h)
    · exact .inl h
    · exact .inr h.symm
  · rintro (h | h)
    · exact .inl h
    · exact .inr h.symm

/-! ### States -/
theorem Gam.mono {m m' : Mu} {h : H} {W : World} (g : Gam m h W) (e : Ext m m') : Gam m' h W := by
  refine ⟨fun i ab hi => ?_, fun i j ab ab' p q hi hj hne hp hq => ?_⟩
  · obtain ⟨p, hp, hb⟩ := g.dom i ab hi
    exact ⟨p, e _ _ hp, hb.mono e⟩
  · obtain ⟨p', hp', _⟩ := g.dom i ab hi
    obtain ⟨q', hq', _⟩ := g.dom j ab' hj
    rw [e _ _ hp'] at hp; cases hp
    rw [e _ _ hq'] at hq; cases hq
    exact g.inj i j ab ab' _ _ hi hj hne hp' hq'

theorem Live.of_ext {m m' : Mu} {h : H} {W : World} {b : Nat} (g : Gam m h W) (e : Ext m m') (l : Live m' h b) : Live m h b := by
  obtain ⟨i, ab, p, hi, hp, rfl⟩ := l
  obtain ⟨q, hq, _⟩ := g.dom i ab hi
  rw [e _ _ hq] at hp; cases hp
  exact ⟨i, ab, _, hi, hq, rfl⟩

theorem Live.lt {m : Mu} {h : H} {W : World} {b : Nat} (g : Gam m h W) (l : Live m h b) : b < W.heap.size := by
  obtain ⟨i, ab, p, hi, hp, rfl⟩ := l
  obtain ⟨q, hq, hb⟩ := g.dom i ab hi
  rw [hp] at hq; cases hq
  exact hb.lt

/-- A block that the machine has made and the state does not speak of yet. -/
theorem Step.hidden {m0 : Mu} {h0 : H} {nx0 : Nat} {W0 : World} {m : Mu} {h : H} {nx : Nat} {W W' : World} {i : Nat} {p : Pl} (st : Step m0 h0 nx0 W0 m h nx W) (hi : m i = none) (h1 : nx0 ≤ i) (h2 : i < nx)
    (hold : ∀ b, b < W.heap.size → W'.heap[b]? = W.heap[b]?) (ho : W'.os = W.os) (ht : W'.tape = W.tape) (hu : W'.output = W.output) (hsz : W.heap.size ≤ W'.heap.size) :
    Step m0 h0 nx0 W0 (upd m i p) h nx W' where
  gam := (st.gam.same hold).mono (upd_ext hi)
  fresh j hj := by rw [upd_ne _ _ _ (by omega)]; exact st.fresh j hj
  le := st.le
  same j hj := by rw [upd_ne _ _ _ (by omega)]; exact st.same j hj
  os := ho.trans st.os
  tape := ht.trans st.tape
  output := hu.trans st.output
  size := Nat.le_trans st.size hsz
  frame b hb hl := by rw [hold b (Nat.lt_of_lt_of_le hb st.size)]; exact st.frame b hb hl
  back b hl := st.back b (Live.of_ext st.gam (upd_ext hi) hl)

/-- Blocks that wait. -/
structure PdOk (m : Mu) (W : World) (base n0 : Nat) (h : H) (x : Nat × AB) (p : Pl) : Prop where
  at_ : m (base + x.1) = some p
  br : BR m W p x.2
  free : ¬ Live m h p.blk
  young : n0 ≤ p.blk

theorem insP_get (base msk : Nat) : ∀ (l : List (Nat × AB)) (h : H) (k : Nat) (ab : AB), (insP base msk l h).get k = some ab → h.get k = some ab ∨ ∃ x ∈ l, msk.testBit x.1 = true ∧ k = base + x.1 ∧ ab = x.2
  | [], h, k, ab, e => .inl e
  | x :: r, h, k, ab, e => by
    simp only [insP, cond_eq_ite] at e
    split at e
    · rename_i hb
      rw [T.get_set] at e
      split at e
      · rename_i hk
        cases e
        exact .inr ⟨x, by simp, hb, hk, rfl⟩
      · rcases insP_get base msk r h k ab e with h1 | ⟨y, hy, h2⟩
        · exact .inl h1
        · exact .inr ⟨y, by simp [hy], h2⟩
    · rcases insP_get base msk r h k ab e with h1 | ⟨y, hy, h2⟩
      · exact .inl h1
      · exact .inr ⟨y, by simp [hy], h2⟩

theorem insP_gam {m : Mu} {W : World} {base msk n0 : Nat} {l : List (Nat × AB)} {h : H} (g : Gam m h W) (hp : ∀ x ∈ l, msk.testBit x.1 = true → ∃ p, PdOk m W base n0 h x p)
    (hne : ∀ x ∈ l, ∀ y ∈ l, ∀ p q, x.1 ≠ y.1 → msk.testBit x.1 = true → msk.testBit y.1 = true → m (base + x.1) = some p → m (base + y.1) = some q → p.blk ≠ q.blk) : Gam m (insP base msk l h) W := by
  refine ⟨fun k ab e => ?_, fun k j ab ab' p q e1 e2 hkj f1 f2 => ?_⟩
  · rcases insP_get _ _ _ _ _ _ e with h1 | ⟨x, hx, hb, rfl, rfl⟩
    · exact g.dom _ _ h1
    · obtain ⟨p, hpd⟩ := hp x hx hb
      exact ⟨p, hpd.at_, hpd.br⟩
  · rcases insP_get _ _ _ _ _ _ e1 with h1 | ⟨x, hx, hb, rfl, rfl⟩
    · rcases insP_get _ _ _ _ _ _ e2 with h2 | ⟨y, hy, hb2, rfl, rfl⟩
      · exact g.inj _ _ _ _ _ _ h1 h2 hkj f1 f2
      · obtain ⟨q', hpd⟩ := hp y hy hb2
        rw [hpd.at_] at f2; cases f2
        exact fun e => hpd.free ⟨k, ab, p, h1, f1, e⟩
    · obtain ⟨p', hpd⟩ := hp x hx hb
      rw [hpd.at_] at f1; cases f1
      rcases insP_get _ _ _ _ _ _ e2 with h2 | ⟨y, hy, hb2, rfl, rfl⟩
      · exact fun e => hpd.free ⟨j, ab', q, h2, f2, e.symm⟩
      · exact hne x hx y hy _ _ (by omega) hb hb2 hpd.at_ f2

theorem insP_live {m : Mu} {base msk : Nat} {l : List (Nat × AB)} {h : H} {b : Nat} (hl : Live m (insP base msk l h) b) : Live m h b ∨ ∃ x ∈ l, msk.testBit x.1 = true ∧ ∃ p, m (base + x.1) = some p ∧ p.blk = b := by
  obtain ⟨k, ab, p, e, hp, rfl⟩ := hl
  rcases insP_get _ _ _ _ _ _ e with h1 | ⟨x, hx, hb, rfl, rfl⟩
  · exact .inl ⟨k, ab, p, h1, hp, rfl⟩
  · exact .inr ⟨x, hx, hb, p, hp, rfl⟩

theorem insP_step {m0 : Mu} {h0 : H} {nx0 : Nat} {W0 : World} {m : Mu} {h : H} {nx : Nat} {W : World} {base msk : Nat} {l : List (Nat × AB)} (st : Step m0 h0 nx0 W0 m h nx W) (hp : ∀ x ∈ l, msk.testBit x.1 = true → ∃ p, PdOk m W base W0.heap.size h x p)
    (hne : ∀ x ∈ l, ∀ y ∈ l, ∀ p q, x.1 ≠ y.1 → msk.testBit x.1 = true → msk.testBit y.1 = true → m (base + x.1) = some p → m (base + y.1) = some q → p.blk ≠ q.blk) : Step m0 h0 nx0 W0 m (insP base msk l h) nx W :=
  { st with
    gam := insP_gam st.gam hp hne
    back := fun b hl => by
      rcases insP_live hl with h1 | ⟨x, hx, hb, p, hp1, rfl⟩
      · exact st.back b h1
      · obtain ⟨q, hq⟩ := hp x hx hb
        rw [hq.at_] at hp1; cases hp1
        exact .inl hq.young }
end Go.Eng
