import Derived.Test.YtheclllbnkolaaaGreatDoorEngOps6
namespace Go.Eng
open Go
variable {E : Env} {m : Mu} {w : Hp} {W : World}

theorem enOk_ok {i es n : Nat} {p : Pl} (g : Gam m w.h W) (hp : m i = some p) (h : enOk w i es n = true) : n ≤ p.cap := by
  unfold enOk at h
  split at h
  · rename_i vs et bs hg
    simp only [Bool.and_eq_true, Nat.beq_eq, Nat.blt_eq, Nat.ble_eq] at h
    obtain ⟨⟨h1, h2⟩, h3⟩ := h
    subst h1
    obtain ⟨q, hq, hb⟩ := g.dom _ _ hg
    rw [hp] at hq; cases hq
    have h4 := hb.2.1
    simp only [span, if_true] at h4
    exact Nat.le_of_mul_le_mul_right (Nat.le_trans h3 h4) h2
  · cases h

theorem VRo.map {ρ : Operand → AV} {σ : Operand → Value} (hσ : ∀ x, VR m (ρ x) (σ x)) (o : Option Operand) : VRo m (o.map ρ) (o.map σ) := by
  cases o with
  | none => rfl
  | some x => exact ⟨_, rfl, hσ x⟩

theorem cutEx_ok {i off es l h' mx c : Nat} {r : OR} {p : Pl} {o' : Nat} (hp : m i = some p) (ho : c = 0 ∨ o' = p.off + off) (h : cutEx w i off es l h' mx c = some r) :
    l ≤ h' ∧ h' ≤ mx ∧ mx ≤ c ∧ ∃ v, r = .val v w ∧ VR m v (.slice (some (if mx = l then ⟨p.blk, o', none⟩ else (⟨p.blk, o', none⟩ : Addr).add (l * es))) (h' - l) (mx - l)) := by
  simp only [cutEx, cond_eq_ite, Bool.and_eq_true, Nat.ble_eq] at h
  split at h
  · rename_i hb
    obtain ⟨⟨h1, h2⟩, h3⟩ := hb
    cases h
    refine ⟨h1, h2, h3, _, rfl, p, hp, ?_⟩
    by_cases hm : mx = l
    · subst hm
      exact ⟨o', _, by rw [if_pos rfl], rfl, by omega, .inl (by omega)⟩
    · rw [if_neg hm, addAt]
      exact ⟨_, _, rfl, rfl, by omega, .inr (by omega)⟩
  · cases h

theorem opSlice_ok (ok : E.Ok) {t : TypeId} {x : AV} {x' : Value} {lo hi mx : Option AV} {lo' hi' mx' : Option Value} {r : OR} (g : Gam m w.h W) (hx : VR m x x')
    (rl : VRo m lo lo') (rh : VRo m hi hi') (rm : VRo m mx mx') (h : opSlice E w t x lo hi mx = some r) : ValOk E m w W r (Instr.sliceAt t x' lo' hi' mx') := by
  unfold opSlice at h
  split at h
  · rename_i i off len cap
    obtain ⟨p, hp, o', c', rfl, hc, hn, ho⟩ := hx
    split at h
    · rename_i et hu
      split at h
      · rename_i es hes
        have run : ∀ {l h' mm : Nat}, (Instr.sliceBounds true len c' lo' hi' mx').run E.P W = .ok (l, h', mm) W →
            (Instr.sliceAt t (.slice (some ⟨p.blk, o', none⟩) len c') lo' hi' mx').run E.P W = .ok (.slice (some (if mm = l then ⟨p.blk, o', none⟩ else (⟨p.blk, o', none⟩ : Addr).add (l * es))) (h' - l) (mm - l)) W := by
          intro l h' mm hb
          simp only [Instr.sliceAt, Sem.run_bind, run_und ok hu, Result.andThen_ok, Instr.slice, hb, run_sz ok hes, Sem.run_pure]
          split <;> rfl
        split at h
        · rename_i l h' hl hh
          split at h
          · rename_i c
            obtain rfl : c' = c := hc
            obtain ⟨h1, h2, h3, v, rfl, hv⟩ := cutEx_ok hp ho h
            exact ⟨v, _, rfl, run (bounds_ok hl hh rfl rl rh rm h1 h2 h3 (by simp)), hv⟩
          · rename_i d
            simp only [cond_eq_ite, Bool.and_eq_true, Nat.ble_eq] at h
            split at h
            · rename_i hb
              cases h
              have hcap := enOk_ok g hp hb.2
              have hc2 : c' = p.cap - d := hc
              refine ⟨_, _, rfl, run (bounds_ok hl hh rfl rl rh rm hb.1 (by omega) (Nat.le_refl _) (by simp)), p, hp, ?_⟩
              by_cases hm : c' = l
              · subst hm
                exact ⟨o', _, by rw [if_pos rfl], by simp only [CapR]; omega, by omega, .inl (by omega)⟩
              · rw [if_neg hm, addAt]
                exact ⟨_, _, rfl, by simp only [CapR]; omega, by omega, .inr (by omega)⟩
            · cases h
        · rename_i l h' mv hl hh
          simp only [cond_eq_ite] at h
          split at h
          · rename_i hhi
            split at h
            · rename_i mm hmm
              split at h
              · rename_i c
                obtain rfl : c' = c := hc
                obtain ⟨h1, h2, h3, v, rfl, hv⟩ := cutEx_ok hp ho h
                exact ⟨v, _, rfl, run (bounds_ok hl hh (show natO c' (some mv) = some mm from hmm) rl rh rm h1 h2 h3 (fun _ => hhi)), hv⟩
              · rename_i d
                split at h
                · rename_i hb
                  have hcap := enOk_ok g hp hb
                  have hc2 : c' = p.cap - d := hc
                  obtain ⟨h1, h2, h3, v, rfl, hv⟩ := cutEx_ok (o' := o') hp (by rcases ho with e | e; exact .inl (by omega); exact .inr e) h
                  exact ⟨v, _, rfl, run (bounds_ok hl hh (show natO c' (some mv) = some mm from hmm) rl rh rm h1 h2 (by omega) (fun _ => hhi)), hv⟩
                · cases h
            · cases h
          · cases h
        · cases h
      · cases h
    · cases h
  · rename_i i off
    obtain ⟨p, hp, rfl⟩ := hx
    split at h
    · rename_i n et hu
      split at h
      · rename_i es hes
        split at h
        · rename_i l h' hl hh
          obtain ⟨h1, h2, h3, v, rfl, hv⟩ := cutEx_ok (o' := p.off + off) hp (.inr rfl) h
          have hb := bounds_ok (E := E) (W := W) (sl := false) (cap := n) (mx := none) hl hh rfl rl rh rm h1 h2 (Nat.le_refl _) (by simp)
          refine ⟨v, _, rfl, ?_, hv⟩
          simp only [Instr.sliceAt, Sem.run_bind, run_und ok hu, Result.andThen_ok, Instr.sureAddr, hb, run_sz ok hes, Sem.run_pure]
        · cases h
      · cases h
    · cases h
  · rename_i s
    obtain rfl : x' = _ := hx
    split at h
    · rename_i l h' hu hl hh
      simp only [cond_eq_ite, Bool.and_eq_true, Nat.ble_eq] at h
      split at h
      · rename_i hb
        cases h
        simp only [VRo] at rm; subst rm
        have hbd := bounds_ok (E := E) (m := m) (W := W) (sl := false) (cap := s.size) (mx := none) (mx' := none) hl hh rfl rl rh rfl hb.1 hb.2 (Nat.le_refl _) (by simp)
        refine ⟨_, _, rfl, ?_, rfl⟩
        simp only [Instr.sliceAt, Sem.run_bind, run_und ok hu, Result.andThen_ok, Instr.slice, Option.isSome_none, Bool.false_eq_true, if_false, hbd, Sem.run_pure]
      · cases h
    · cases h
  · obtain rfl : x' = _ := hx
    split at h
    · rename_i et hu hl hh hm
      simp only [cond_eq_ite] at h
      split at h
      · rename_i hhi
        split at h
        · rename_i es hes
          cases h
          have hbd := bounds_ok (E := E) (m := m) (W := W) (sl := true) (cap := 0) hl hh hm rl rh rm (Nat.le_refl _) (Nat.le_refl _) (Nat.le_refl _) (fun hs => by
            cases mx with
            | none => simp at hs
            | some _ => simpa using hhi)
          refine ⟨_, _, rfl, ?_, rfl⟩
          simp only [Instr.sliceAt, Sem.run_bind, run_und ok hu, Result.andThen_ok, Instr.slice, hbd, run_sz ok hes, Sem.run_pure]
          rfl
        · cases h
      · cases h
    · cases h
  · cases h

theorem opFieldAddr_ok (ok : E.Ok) {t : TypeId} {x : AV} {x' : Value} {f : Nat} {r : OR} (hx : VR m x x') (h : opFieldAddr E w t x f = some r) : ValOk E m w W r (Instr.fieldAt t x' f) := by
  unfold opFieldAddr at h
  split at h
  · rename_i i off fields hu
    split at h
    · rename_i fd hf
      split at h
      · cases h
      · rename_i n hn hsz
        cases h
        obtain ⟨p, hp, rfl⟩ := hx
        have hf' : fields[f]? = some fd := by simpa using hf
        refine ⟨_, _, rfl, ?_, ⟨p, hp, rfl⟩⟩
        have hne : n ≠ 0 := hn
        simp only [Instr.fieldAt, Sem.run_bind, run_und ok hu, Result.andThen_ok, hf', Instr.sureAddr, Sem.run_pure, fieldPlace, run_sz ok hsz]
        simp [hne, addAt, Nat.add_assoc]
      · cases h
    · cases h
  · cases h

theorem opIndexAddr_ok (ok : E.Ok) {t : TypeId} {x ix : AV} {x' ix' : Value} {r : OR} (hx : VR m x x') (hi : VR m ix ix') (h : opIndexAddr E w t x ix = some r) : ValOk E m w W r (Instr.indexAt t x' ix') := by
  unfold opIndexAddr at h
  split at h
  · rename_i n et i off k hu hk
    split at h
    · rename_i es hes
      simp only [cond_eq_ite, Nat.blt_eq] at h
      split at h
      · rename_i hlt
        cases h
        obtain ⟨p, hp, rfl⟩ := hx
        obtain ⟨kd, rfl⟩ := natOf_ok hi hk
        refine ⟨_, _, rfl, ?_, ⟨p, hp, rfl⟩⟩
        have hc : (0 : Int) ≤ k ∧ (k : Int) < n := by omega
        simp only [Instr.indexAt, asIntOf, Sem.run_bind, Sem.run_pure, Result.andThen_ok, run_und ok hu, Instr.sureAddr]
        simp [hc, run_sz ok hes, addAt, Nat.add_assoc]
      · cases h
    · cases h
  · rename_i et i off len c k hu hk
    split at h
    · rename_i es hes
      simp only [cond_eq_ite, Nat.blt_eq] at h
      split at h
      · rename_i hlt
        cases h
        obtain ⟨p, hp, o', c', rfl, hc', hn, ho⟩ := hx
        obtain ⟨kd, rfl⟩ := natOf_ok hi hk
        have ho' : o' = p.off + off := by rcases ho with e | e; omega; exact e
        subst ho'
        refine ⟨_, _, rfl, ?_, ⟨p, hp, rfl⟩⟩
        have hc : (0 : Int) ≤ k ∧ (k : Int) < len := by omega
        simp only [Instr.indexAt, asIntOf, Sem.run_bind, Sem.run_pure, Result.andThen_ok, run_und ok hu]
        simp [hc, run_sz ok hes, addAt, Nat.add_assoc]
      · cases h
    · cases h
  · cases h
end Go.Eng
