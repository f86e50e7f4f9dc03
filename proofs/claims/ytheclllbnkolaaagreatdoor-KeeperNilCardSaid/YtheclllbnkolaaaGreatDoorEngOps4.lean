import Derived.Test.YtheclllbnkolaaaGreatDoorEngOps3
import Derived.Laws.BytesString
namespace Go.Eng
open Go
variable {E : Env} {m : Mu} {w : Hp} {W : World}

/-- A value that leads to memory is no nil interface value and no struct (unless it is written out). -/
theorem opBin_ok (ok : E.Ok) (g : Gam m w.h W) {op : BinOp} {t : TypeId} {x y : Operand} {a b : AV} {a' b' : Value} {r : OR} (ha : VR m a a') (hb : VR m b b')
    (h : opBin E w op t x y a b = some r) : ValOk E m w W r (binSem op t x y a' b') := by
  unfold opBin at h
  split at h
  · rename_i u v
    simp only [Option.map_eq_some_iff] at h
    obtain ⟨z, hz, rfl⟩ := h
    obtain rfl : a' = u := ha
    obtain rfl : b' = v := hb
    exact ⟨_, z, rfl, binS_ok hz, rfl⟩
  · split at h
    · rename_i u v hu hv
      simp only [Option.map_eq_some_iff] at h
      obtain ⟨z, hz, rfl⟩ := h
      rw [toV_VR _ _ _ hu ha, toV_VR _ _ _ hv hb]
      exact ⟨_, z, rfl, quiet_run _ _ hz W, rfl⟩
    · simp only [Option.map_eq_some_iff] at h
      obtain ⟨z, hz, rfl⟩ := h
      have key : ∀ c, eqA E w t a b = some c → (eqGuard op t x y a' b').run E.P W = .ok () W ∧
          (binOp .eql t a' b' = (do pure (.bool (← Op.equal t a' b')))) ∧ (binOp .neq t a' b' = (do pure (.bool (!(← Op.equal t a' b'))))) := by
        intro c hc
        unfold eqA at hc
        split at hc
        · rename_i d hd
          simp only [cond_eq_ite, Bool.or_eq_true] at hc
          have shapes : (∃ p o, a' = .pointer p ∧ b' = .pointer o) ∨ (∃ p1 p2 p3 q1 q2 q3, a' = .slice p1 p2 p3 ∧ b' = .slice q1 q2 q3) ∨ (∃ p q, a' = .map p ∧ b' = .map q) ∨
              (∃ f p q, a' = .func f p q ∧ b' = .nilFunc) ∨ (∃ f p q, b' = .func f p q ∧ a' = .nilFunc) ∨ (∃ p q, a' = .iface p q ∧ b' = .nilIface) ∨ (∃ p q, b' = .iface p q ∧ a' = .nilIface) ∨
              (∃ p q p' q', a' = .iface p q ∧ b' = .iface p' q') := by
            split at hc
            · rename_i hm
              rcases hm with hm | hm
              · unfold memA at hm
                split at hm
                · obtain ⟨p, hp, rfl⟩ := ha; obtain rfl : b' = _ := hb; exact .inl ⟨_, _, rfl, rfl⟩
                · obtain ⟨p, hp, o', c', rfl, _⟩ := ha; obtain rfl : b' = _ := hb; exact .inr (.inl ⟨_, _, _, _, _, _, rfl, rfl⟩)
                · obtain ⟨p, hp, rfl⟩ := ha; obtain rfl : b' = _ := hb; exact .inr (.inr (.inl ⟨_, _, rfl, rfl⟩))
                · obtain ⟨as, bs, _, _, rfl⟩ := ha; obtain rfl : b' = _ := hb; exact .inr (.inr (.inr (.inl ⟨_, _, _, rfl, rfl⟩)))
                · obtain ⟨u, hu', rfl⟩ := ha; obtain rfl : b' = _ := hb; exact .inr (.inr (.inr (.inr (.inr (.inl ⟨_, _, rfl, rfl⟩)))))
                · cases hm
              · unfold memA at hm
                split at hm
                · obtain ⟨p, hp, rfl⟩ := hb; obtain rfl : a' = _ := ha; exact .inl ⟨_, _, rfl, rfl⟩
                · obtain ⟨p, hp, o', c', rfl, _⟩ := hb; obtain rfl : a' = _ := ha; exact .inr (.inl ⟨_, _, _, _, _, _, rfl, rfl⟩)
                · obtain ⟨p, hp, rfl⟩ := hb; obtain rfl : a' = _ := ha; exact .inr (.inr (.inl ⟨_, _, rfl, rfl⟩))
                · obtain ⟨as, bs, _, _, rfl⟩ := hb; obtain rfl : a' = _ := ha; exact .inr (.inr (.inr (.inr (.inl ⟨_, _, _, rfl, rfl⟩))))
                · obtain ⟨u, hu', rfl⟩ := hb; obtain rfl : a' = _ := ha; exact .inr (.inr (.inr (.inr (.inr (.inr (.inl ⟨_, _, rfl, rfl⟩))))))
                · cases hm
            · split at hc
              · obtain ⟨u', hu', rfl⟩ := ha; obtain ⟨v', hv', rfl⟩ := hb; exact .inr (.inr (.inr (.inr (.inr (.inr (.inr ⟨_, _, _, _, rfl, rfl⟩))))))
              · obtain ⟨u', hu', rfl⟩ := ha; obtain rfl : b' = _ := hb; exact .inr (.inr (.inr (.inr (.inr (.inr (.inr ⟨_, _, _, _, rfl, rfl⟩))))))
              · obtain ⟨u', hu', rfl⟩ := hb; obtain rfl : a' = _ := ha; exact .inr (.inr (.inr (.inr (.inr (.inr (.inr ⟨_, _, _, _, rfl, rfl⟩))))))
              · obtain ⟨p, hp, rfl⟩ := ha; obtain ⟨q, hq, rfl⟩ := hb; exact .inl ⟨_, _, rfl, rfl⟩
              · cases hc
          rcases shapes with ⟨p, o, rfl, rfl⟩ | ⟨p1, p2, p3, q1, q2, q3, rfl, rfl⟩ | ⟨p, q, rfl, rfl⟩ | ⟨f, p, q, rfl, rfl⟩ | ⟨f, p, q, rfl, rfl⟩ | ⟨p, q, rfl, rfl⟩ | ⟨p, q, rfl, rfl⟩ | ⟨p, q, p', q', rfl, rfl⟩ <;>
            refine ⟨?_, rfl, rfl⟩ <;> simp [eqGuard]
        · cases hc
      unfold binM at hz
      split at hz
      · simp only [Option.map_eq_some_iff] at hz
        obtain ⟨c, hc, rfl⟩ := hz
        obtain ⟨k1, k2, k3⟩ := key c hc
        refine ⟨_, .bool c, rfl, ?_, rfl⟩
        simp only [binSem, Sem.run_bind, k1, Result.andThen_ok, k2, eqA_ok ok g hc ha hb, Sem.run_pure]
      · simp only [Option.map_eq_some_iff] at hz
        obtain ⟨c, hc, rfl⟩ := hz
        obtain ⟨k1, k2, k3⟩ := key c hc
        refine ⟨_, .bool (!c), rfl, ?_, rfl⟩
        simp only [binSem, Sem.run_bind, k1, Result.andThen_ok, k3, eqA_ok ok g hc ha hb, Sem.run_pure]
      · cases hz

theorem opUn_ok {op : UnOp} {x : AV} {x' : Value} {r : OR} (hx : VR m x x') (h : opUn E w op x = some r) : ValOk E m w W r (Op.unary op x') := by
  unfold opUn at h
  split at h
  · simp only [Option.map_eq_some_iff] at h
    obtain ⟨z, hz, rfl⟩ := h
    obtain rfl : x' = _ := hx
    exact ⟨_, z, rfl, quiet_run _ _ hz W, rfl⟩
  · cases h

theorem opPick_ok {c a b : AV} {c' a' b' : Value} {r : OR} (hc : VR m c c') (ha : VR m a a') (hb : VR m b b') (h : opPick c a b w = some r) :
    ValOk E m w W r (do pure (if ← asBool c' then a' else b')) := by
  unfold opPick at h
  split at h
  · cases h; obtain rfl : c' = _ := hc; exact ⟨_, a', rfl, by simp [asBool], ha⟩
  · cases h; obtain rfl : c' = _ := hc; exact ⟨_, b', rfl, by simp [asBool], hb⟩
  · cases h

theorem opMakeIface_ok (ok : E.Ok) {t : TypeId} {x : AV} {x' : Value} {r : OR} (hx : VR m x x') (h : opMakeIface E w t x = some r) : ValOk E m w W r (Instr.makeInterface t x') := by
  unfold opMakeIface at h
  split at h
  · cases h
  · rename_i d hne hd
    have hr : (Instr.makeInterface t x').run E.P W = .ok (.iface t x') W := by
      simp only [Instr.makeInterface, Sem.run_bind, run_und ok hd, Result.andThen_ok]
      rfl
    split at h
    · rename_i v hv
      cases h
      rw [toV_VR _ _ _ hv hx] at hr
      rw [toV_VR _ _ _ hv hx]
      exact ⟨_, _, rfl, hr, rfl⟩
    · cases h
      exact ⟨_, _, rfl, hr, ⟨x', hx, rfl⟩⟩
  · cases h

theorem opMakeFunc_ok {f : Fn} {a b : List AV} {as bs : List Value} {r : OR} (ha : VRL m a as) (hb : VRL m b bs) (h : opMakeFunc w f a b = some r) :
    ValOk E m w W r (Instr.makeFunc f as.toArray bs.toArray) := by
  unfold opMakeFunc at h
  split at h
  · cases h; exact ⟨_, _, rfl, rfl, ⟨as, bs, ha, hb, rfl⟩⟩
  · cases h; exact ⟨_, _, rfl, rfl, ⟨as, bs, ha, hb, rfl⟩⟩
  · cases h

theorem opExtract_ok {x : AV} {x' : Value} {ix : Nat} {r : OR} (hx : VR m x x') (h : opExtract w x ix = some r) : ValOk E m w W r (Instr.extract x' ix) := by
  unfold opExtract at h
  split at h
  · simp only [Option.map_eq_some_iff] at h
    obtain ⟨z, hz, rfl⟩ := h
    obtain ⟨vs, hv, rfl⟩ := hx
    obtain ⟨u, hu, hzu⟩ := hv.get _ _ hz
    exact ⟨_, u, rfl, by simp [Instr.extract, hu], hzu⟩
  · simp only [Option.map_eq_some_iff] at h
    obtain ⟨z, hz, rfl⟩ := h
    obtain rfl : x' = _ := hx
    exact ⟨_, z, rfl, by simp only [Array.getElem?_toList] at hz; simp [Instr.extract, hz], rfl⟩
  · cases h

/-! ### Parts -/
theorem partA_ok (ok : E.Ok) {t : TypeId} {cs : List AV} {vs : List Value} {off : Nat} {v : AV} (hc : VRL m cs vs) (h : partA E t cs off = some v) :
    ∃ v', (part t vs.toArray off).run E.P W = .ok v' W ∧ VR m v v' := by
  unfold partA at h
  split at h
  · rename_i n hag hsz
    simp only [cond_eq_ite, Nat.beq_eq] at h
    split at h
    · rename_i hl
      cases h
      refine ⟨.agg (spl off n vs).toArray, ?_, ⟨_, hc.spl off n, rfl⟩⟩
      simp only [part, Sem.run_bind, run_agg ok hag, Result.andThen_ok, if_true, run_sz ok hsz, Sem.run_pure]
      congr 2
      apply Array.ext'
      simp [spl]
    · cases h
  · rename_i n hag
    obtain ⟨u, hu, hv⟩ := hc.get _ _ h
    exact ⟨u, by simp [part, run_agg ok hag, hu], hv⟩
  · cases h

theorem aggOf_ok {x : AV} {x' : Value} {cs : List AV} (hx : VR m x x') (h : aggOf x = some cs) : ∃ vs : List Value, x' = .agg vs.toArray ∧ VRL m cs vs := by
  unfold aggOf at h
  split at h
  · cases h; obtain ⟨vs, hv, rfl⟩ := hx; exact ⟨vs, rfl, hv⟩
  · rename_i a
    cases h; obtain rfl : x' = _ := hx; exact ⟨a.toList, by simp, VRL.map_s _⟩
  · cases h

theorem opField_ok (ok : E.Ok) {t : TypeId} {x : AV} {x' : Value} {f : Nat} {r : OR} (hx : VR m x x') (h : opField E w t x f = some r) : ValOk E m w W r (Instr.field t x' f) := by
  unfold opField at h
  split at h
  · rename_i cs fields hcs hu
    split at h
    · rename_i fd hfd
      simp only [Option.map_eq_some_iff] at h
      obtain ⟨z, hz, rfl⟩ := h
      obtain ⟨vs, rfl, hv⟩ := aggOf_ok hx hcs
      obtain ⟨v', hr, hv'⟩ := partA_ok (W := W) ok hv hz
      refine ⟨_, v', rfl, ?_, hv'⟩
      simp only [Array.getElem?_toList] at hfd
      simp [Instr.field, run_und ok hu, hfd, asAgg, hr]
    · cases h
  · cases h

theorem natOf_ok {x : AV} {x' : Value} {n : Nat} (hx : VR m x x') (h : natOf x = some n) : ∃ k, x' = .int k n := by
  unfold natOf at h
  split at h
  · rename_i k j
    cases h; obtain rfl : x' = _ := hx; exact ⟨k, rfl⟩
  · cases h

theorem ba_get (s : ByteArray) (k : Nat) : s[k]? = s.data.toList[k]? := by
  by_cases h : k < s.size
  · rw [getElem?_pos s k h, List.getElem?_eq_getElem (by simpa using h)]
    rfl
  · rw [getElem?_neg s k h, List.getElem?_eq_none (by simpa using h)]

theorem opIndex_ok (ok : E.Ok) {t : TypeId} {x ix : AV} {x' ix' : Value} {r : OR} (hx : VR m x x') (hi : VR m ix ix') (h : opIndex E w t x ix = some r) : ValOk E m w W r (Instr.index t x' ix') := by
  unfold opIndex at h
  split at h
  · rename_i s k hu hk
    split at h
    · rename_i b hb
      cases h
      obtain rfl : x' = _ := hx
      obtain ⟨kk, rfl⟩ := natOf_ok hi hk
      refine ⟨_, .int .u8 b.toNat, rfl, ?_, rfl⟩
      have hb' : s[k]? = some b := by
        rw [← hb]; exact ba_get s k
      simp [Instr.index, asIntOf, run_und ok hu, hb']
    · cases h
  · rename_i n et k _ hu hk
    split at h
    · rename_i cs es hcs hes
      simp only [cond_eq_ite, Nat.blt_eq] at h
      split at h
      · rename_i hlt
        simp only [Option.map_eq_some_iff] at h
        obtain ⟨z, hz, rfl⟩ := h
        obtain ⟨kk, rfl⟩ := natOf_ok hi hk
        obtain ⟨vs, rfl, hv⟩ := aggOf_ok hx hcs
        obtain ⟨v', hr, hv'⟩ := partA_ok (W := W) ok hv hz
        refine ⟨_, v', rfl, ?_, hv'⟩
        simp [Instr.index, asIntOf, run_und ok hu, hlt, run_sz ok hes, hr]
      · cases h
    · cases h
  · cases h
end Go.Eng
