import Derived.Test.YtheclllbnkolaaaGreatDoorEngOps13
namespace Go.Eng
open Go
variable {E : Env} {m : Mu} {w : Hp} {W : World}

theorem recvA_ok (ok : E.Ok) {t : TypeId} {v rv : AV} {v' : Value} {name : String} {fid : FuncId} (g : Gam m w.h W) (hv : VR m v v') (h : recvA E w t v name = some (fid, rv)) (k : Nat) :
    ∃ rv', (method (k + 1) t v' name).run E.P W = .ok (fid, rv') W ∧ VR m rv rv' := by
  unfold recvA at h
  split at h
  · cases h
  · rename_i md hm
    obtain ⟨i, hi, hf⟩ := methodA_run ok hm
    split at h
    · cases h
    · rename_i f byPtr hfn
      split at h
      · rename_i hp
        have hemp : md.path = #[] := by apply Array.ext'; simpa using hp
        split at h
        · rename_i e hu
          simp only [cond_eq_ite] at h
          split at h
          · rename_i hb
            subst hb
            cases h
            exact ⟨v', by simp [method, hi, hf, hemp, follow, hfn, receiverAt, run_und ok hu, Place.get], hv⟩
          · cases h
        · rename_i fs hu
          simp only [cond_eq_ite] at h
          split at h
          · cases h
          · rename_i hb
            have hb : byPtr = false := by simpa using hb
            subst hb
            cases h
            exact ⟨v', by simp [method, hi, hf, hemp, follow, hfn, receiverAt, run_und ok hu, Place.get], hv⟩
        · cases h
      · rename_i st hp
        have hne : md.path.isEmpty = false := by
          have : md.path = #[st] := by apply Array.ext'; simpa using hp
          rw [this]; rfl
        split at h
        · rename_i i0 off fields hd hu
          split at h
          · rename_i fd hfd
            split at h
            · cases h
            · rename_i n fs hn hsz hu2
              obtain ⟨p, hpp, rfl⟩ := hv
              have hne0 : n ≠ 0 := hn
              have hplace : ∀ W : World, (fieldPlace ⟨p.blk, p.off + off, none⟩ fd).run E.P W = .ok ⟨p.blk, p.off + off + fd.offset, none⟩ W := fun W => by
                simp [fieldPlace, run_sz ok hsz, hne0, addAt]
              have hfollow : (follow [st] t (.val (.pointer (some ⟨p.blk, p.off + off, none⟩)))).run E.P W = .ok (fd.type, .var ⟨p.blk, p.off + off + fd.offset, none⟩) W := by
                simp [follow, run_und ok hu, hfd, hd, Place.get, asAddr, hplace]
              simp only [cond_eq_ite] at h
              split at h
              · rename_i hb
                subst hb
                cases h
                refine ⟨.pointer (some ⟨p.blk, p.off + off + fd.offset, none⟩), ?_, ⟨p, hpp, by rw [Nat.add_assoc]⟩⟩
                simp [method, hi, hf, hp, hfollow, hfn, receiverAt, run_und ok hu2]
              · rename_i hb
                have hb : byPtr = false := by simpa using hb
                subst hb
                split at h
                · rename_i rr hr
                  cases h
                  obtain ⟨q, rv', hq, hrun, hrv⟩ := readA_ok ok g hr
                  rw [hpp] at hq; cases hq
                  rw [← Nat.add_assoc] at hrun
                  refine ⟨rv', ?_, hrv⟩
                  simp [method, hi, hf, hp, hfollow, hfn, receiverAt, run_und ok hu2, Place.get, hrun]
                · cases h
            · cases h
          · cases h
        · cases h
      · cases h

/-- What a call is. -/
def CallOk (E : Env) (m : Mu) (W : World) (c : Callee) (s : Sem Next) : Prop :=
  match c with
  | .func f args => ∃ args', VRL m args args' ∧ ∀ fn, E.fn.get f = some fn → fn.body.isSome = true → s.run E.P W = .ok (.enter f args'.toArray) W
  | .round l args => ∃ p args', m l = some p ∧ VRL m args args' ∧ ∀ lp : Loop, W.heap[p.blk]? = some (.loop lp) → args'.length = lp.params.size →
      s.run E.P W = .ok (.round p.blk lp.fn ((lp.params.zip args'.toArray).foldl (fun tmps (t, a) => tmps.setIfInBounds t a) lp.tmps) lp.assign lp.body) W

theorem callFunc_ok (ok : E.Ok) {f : FuncId} {fn : Func} (args : Array Value) (hf : E.fn.get f = some fn) (hb : fn.body.isSome = true) : (callFunc f args).run E.P W = .ok (.enter f args) W := by
  have h1 := ok.fn f fn hf
  have h2 := ok.go f fn hf hb
  obtain ⟨c, h3⟩ := Option.isSome_iff_exists.1 hb
  have h2' : ¬ (fn.name = "runtime.NumGoroutine") := by simpa using h2
  simp [callFunc, h1, h2', h3]

def DR (m : Mu) : AD → Deferred → Prop
  | .call g all, d => ∃ a c : List Value, d = { target := .fn (.func g) c.toArray, args := a.toArray } ∧ VRL m all (a ++ c)
  | .mark r, d => ∃ p, m r = some p ∧ d = { target := .collected p.blk, args := #[] }

theorem asFn_inr {x : AV} {x' : Value} {f : FuncId} {a b : List AV} (hx : VR m x x') (h : asFn x = some (.inr (f, a, b))) : ∃ a' b' : List Value, x' = .func (.func f) a'.toArray b'.toArray ∧ VRL m a a' ∧ VRL m b b' := by
  unfold asFn at h
  split at h
  · rename_i f0 a0 b0
    cases h
    obtain rfl : x' = _ := hx
    exact ⟨a0.toList, b0.toList, by simp, VRL.map_s _, VRL.map_s _⟩
  · cases h
    obtain ⟨as, bs, ha, hb, rfl⟩ := hx
    exact ⟨as, bs, rfl, ha, hb⟩
  · cases h
  · cases h

theorem opCallV_ok (ok : E.Ok) {ρ : Operand → AV} {σ : Operand → Value} (hσ : ∀ x, VR m (ρ x) (σ x)) {fo : Operand} {args : Array Operand} {ats : Array TypeId} {ty : TypeId} {r : OR}
    (h : opCallV w (ρ fo) (args.toList.map ρ) = some r) : ∃ c, r = .call c w ∧ CallOk E m W c (do let d ← resolve σ { callee := .value fo, args := args, argTypes := ats } ty; invoke d.target d.args) := by
  have hargs := VRL.of_map hσ args.toList
  have harr : (args.toList.map σ).toArray = args.map σ := by apply Array.ext'; simp only [Array.toList_map]
  unfold opCallV at h
  split at h
  · rename_i f first cap hfn
    cases h
    obtain ⟨a', b', he, ha, hb⟩ := asFn_inr (hσ fo) hfn
    refine ⟨_, rfl, a' ++ args.toList.map σ ++ b', (ha.append hargs).append hb, fun fn h1 h2 => ?_⟩
    have := callFunc_ok (W := W) ok (a'.toArray ++ args.map σ ++ b'.toArray) h1 h2
    simp only [resolve, he, Deferred.ofValue, Sem.run_bind, Sem.run_pure, Result.andThen_ok, invoke]
    rw [this]
    congr 2
    apply Array.ext'; simp
  · rename_i l hfn
    cases h
    have hx := hσ fo
    have hl : ρ fo = .yld l := by
      unfold asFn at hfn
      split at hfn <;> first | (rename_i hh; cases hfn; exact hh) | cases hfn
    rw [hl] at hx
    obtain ⟨p, hp, he⟩ := hx
    refine ⟨_, rfl, p, args.toList.map σ, hp, hargs, fun lp hlp hsz => ?_⟩
    have hsz' : args.size = lp.params.size := by simpa using hsz
    rw [harr]
    simp [resolve, he, Deferred.ofValue, invoke, Instr.yield, Instr.getLoop, getObj_run hlp rfl, hsz']
  · cases h

theorem opInvoke_ok (ok : E.Ok) {ρ : Operand → AV} {σ : Operand → Value} (g : Gam m w.h W) (hσ : ∀ x, VR m (ρ x) (σ x)) {ro : Operand} {name : String} {args : Array Operand} {ats : Array TypeId} {ty : TypeId} {r : OR}
    (h : opInvoke E w (ρ ro) name (args.toList.map ρ) = some r) : ∃ c, r = .call c w ∧ CallOk E m W c (do let d ← resolve σ { callee := .invoke ro name, args := args, argTypes := ats } ty; invoke d.target d.args) := by
  have hargs := VRL.of_map hσ args.toList
  unfold opInvoke at h
  split at h
  · rename_i t v hi
    split at h
    · rename_i f rv hr
      cases h
      obtain ⟨y, he, hy⟩ := ifcOf_ok hi (hσ ro)
      have hk : ∃ k, E.P.types.size + Made.depth = k + 1 := ⟨E.P.types.size + 99, rfl⟩
      obtain ⟨k, hk⟩ := hk
      obtain ⟨rv', hm, hrv⟩ := recvA_ok ok g hy hr k
      refine ⟨_, rfl, rv' :: args.toList.map σ, VRL.cons hrv hargs, fun fn h1 h2 => ?_⟩
      have := callFunc_ok (W := W) ok (#[rv'] ++ args.map σ) h1 h2
      have hx : (#[Value.iface t y] ++ args.map σ).extract 1 (#[Value.iface t y] ++ args.map σ).size = args.map σ := by
        apply Array.ext'; simp [List.take_of_length_le]
      have h0 : (#[Value.iface t y] ++ args.map σ)[0]? = some (Value.iface t y) := by rw [Array.getElem?_append_left (by simp)]; rfl
      simp only [resolve, he, Sem.run_bind, Sem.run_pure, Result.andThen_ok, invoke, h0, hx, callMethod, run_program, hk, hm]
      rw [this]
      congr 2
      apply Array.ext'; simp
    · cases h
  · cases h

theorem opDefer_ok {ρ : Operand → AV} {σ : Operand → Value} (hσ : ∀ x, VR m (ρ x) (σ x)) {c : Call} {ty : TypeId} {r : OR}
    (h : opDefer ρ w c = some r) : ∃ d, r = .dfr d w ∧ ∃ d', (do pure (Next.defer (← resolve σ c ty)) : Sem Next).run E.P W = .ok (.defer d') W ∧ DR m d d' := by
  obtain ⟨callee, args, ats⟩ := c
  have hargs := VRL.of_map hσ args.toList
  unfold opDefer at h
  split at h
  · rename_i fo hc
    simp only at hc
    subst hc
    split at h
    · rename_i f first cap hfn
      cases h
      obtain ⟨a', b', he, ha, hb⟩ := asFn_inr (hσ fo) hfn
      refine ⟨_, rfl, { target := .fn (.func f) b'.toArray, args := (a' ++ args.toList.map σ).toArray }, ?_, a' ++ args.toList.map σ, b', rfl, (ha.append hargs).append hb⟩
      simp [resolve, he, Deferred.ofValue]
    · cases h
  · cases h
end Go.Eng
