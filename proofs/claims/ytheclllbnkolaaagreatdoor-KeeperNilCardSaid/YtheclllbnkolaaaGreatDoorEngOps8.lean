import Derived.Test.YtheclllbnkolaaaGreatDoorEngOps7
namespace Go.Eng
open Go
variable {E : Env} {m : Mu} {w : Hp} {W : World}

theorem MERL.length {l : List ME} {l' : List MapEntry} (h : MERL m l l') : l'.length = l.length := by
  induction h with
  | nil => rfl
  | cons _ _ ih => simp [ih]

theorem opCap_ok (ok : E.Ok) {t ty : TypeId} {x : AV} {x' : Value} {r : OR} (hx : VR m x x') (h : opCap E w t x = some r) :
    ValOk E m w W r (Builtin.cap_ #[t] ty #[x']) := by
  unfold opCap at h
  split at h
  · rename_i i off n c e hu; cases h; obtain ⟨p, hp, o', c', rfl, hc, _⟩ := hx
    obtain rfl : c' = c := hc
    exact ⟨_, _, rfl, by simp [Builtin.cap_, run_und ok hu], rfl⟩
  · rename_i a n e hu; cases h; obtain rfl : x' = _ := hx
    exact ⟨_, _, rfl, by simp [Builtin.cap_, run_und ok hu], rfl⟩
  · cases h

theorem min2A_ok {mx : Bool} {a b c : Value} (h : min2A mx a b = some c) : ((if mx then Builtin.max2 else Builtin.min2) a b).run E.P W = .ok c W := by
  unfold min2A at h
  split at h
  · simp only [Option.some.injEq] at h
    subst h
    cases mx <;> simp [Builtin.max2, Builtin.min2]
  · cases h

theorem minsA_ok {mx : Bool} : ∀ (r : List AV) (r' : List Value) (a c : Value), VRL m r r' → minsA mx a r = some c →
    (r'.foldlM (if mx then Builtin.max2 else Builtin.min2) a).run E.P W = .ok c W
  | [], r', a, c, hr, h => by
    simp [VRL] at hr; subst hr
    simp only [minsA, Option.some.injEq] at h; subst h
    simp
  | x :: r, r', a, c, hr, h => by
    obtain ⟨b, bs, rfl, hx, hr⟩ := hr
    unfold minsA at h
    split at h
    · rename_i hh; cases hh
    · rename_i b0 r0 hh
      cases hh
      split at h
      · rename_i d hd
        obtain rfl : b = b0 := hx
        have ih := minsA_ok r bs d c hr h
        simp only [List.foldlM_cons, Sem.run_bind, min2A_ok hd, Result.andThen_ok, ih]
      · cases h
    · cases h

theorem opMin_ok {mx : Bool} {l : List AV} {l' : List Value} {ts : Array TypeId} {ty : TypeId} {r : OR} (hl : VRL m l l') (h : opMin w mx l = some r) :
    ValOk E m w W r (if mx then Builtin.max_ ts ty l'.toArray else Builtin.min_ ts ty l'.toArray) := by
  unfold opMin at h
  split at h
  · rename_i k a r0
    obtain ⟨b, bs, rfl, hx, hr⟩ := hl
    obtain rfl : b = _ := hx
    simp only [Option.map_eq_some_iff] at h
    obtain ⟨v, hv, rfl⟩ := h
    have := minsA_ok (E := E) (W := W) _ _ _ _ hr hv
    refine ⟨_, v, rfl, ?_, rfl⟩
    cases mx
    · simpa [Builtin.min_] using this
    · simpa [Builtin.max_] using this
  · cases h

/-! ### Maps -/
def Obj.plain : Obj → Bool
  | .cells .. => false
  | _ => true
theorem getObj_run {P : Program} {b : Nat} {o : Obj} (h : W.heap[b]? = some o) (ho : Obj.plain o = true) : (getObj b).run P W = .ok o W := by
  cases o <;> first | (simp [Obj.plain] at ho; done) | simp [getObj, Sem.run, h]
theorem setObj_run {P : Program} {b : Nat} {o o' : Obj} (h : W.heap[b]? = some o) (ho : Obj.plain o = true) : (setObj b o').run P W = .ok () { W with heap := W.heap.setIfInBounds b o' } := by
  cases o <;> first | (simp [Obj.plain] at ho; done) | simp [setObj, Sem.run, h]

theorem keyEq_now {kt : TypeId} {d : TypeDesc} {a b : Value} {r : Bool} (hu : E.und kt = some d) (h : keyEq E kt a b = some r) :
    Instr.sameNow d a b = some r ∨ ((∃ fs, d = .struct fs) ∧ quiet E.P (Op.equal kt a b) = some r) := by
  unfold keyEq at h
  rw [hu] at h
  split at h
  · rename_i x y hd; cases hd; left; simpa [Instr.sameNow] using h
  · rename_i kd k x k' y hd; cases hd
    left
    simp only [cond_eq_ite, decide_eq_true_eq] at h
    split at h
    · rename_i hk; subst hk; simpa [Instr.sameNow] using h
    · cases h
  · rename_i x y hd; cases hd; left; simpa [Instr.sameNow] using h
  · rename_i fs hd; cases hd; exact .inr ⟨⟨_, rfl⟩, h⟩
  · cases h

theorem opLen_ok (ok : E.Ok) {t ty : TypeId} {x : AV} {x' : Value} {r : OR} (g : Gam m w.h W) (hx : VR m x x') (h : opLen E w t x = some r) :
    ValOk E m w W r (Builtin.len_ #[t] ty #[x']) := by
  unfold opLen at h
  split at h
  · rename_i s hu; cases h; obtain rfl : x' = _ := hx
    exact ⟨_, _, rfl, by simp [Builtin.len_, run_und ok hu], rfl⟩
  · rename_i i off n c e hu; cases h; obtain ⟨p, hp, o', c', rfl, _⟩ := hx
    exact ⟨_, _, rfl, by simp [Builtin.len_, run_und ok hu], rfl⟩
  · rename_i n c e hu; cases h; obtain rfl : x' = _ := hx
    exact ⟨_, _, rfl, by simp [Builtin.len_, run_und ok hu], rfl⟩
  · rename_i i kt et hu
    split at h
    · rename_i es clock hg
      cases h
      obtain ⟨p, hp, rfl⟩ := hx
      obtain ⟨q, hq, hb⟩ := g.dom _ _ hg
      rw [hp] at hq; cases hq
      obtain ⟨es', he, hm⟩ := hb
      have hl : es'.size = es.length := by have := hm.length; simpa using this
      exact ⟨_, _, rfl, by simp [Builtin.len_, run_und ok hu, getObj_run he rfl, hl], rfl⟩
    · cases h
  · rename_i kt et hu; cases h; obtain rfl : x' = _ := hx
    exact ⟨_, _, rfl, by simp [Builtin.len_, run_und ok hu], rfl⟩
  · rename_i hu
    cases h
    exact ⟨_, _, rfl, by simp [Builtin.len_, run_und ok hu], rfl⟩
  · cases h

def FindR (m : Mu) : Option (Nat × AV) → Option (Nat × Value) → Prop
  | none, x => x = none
  | some (i, v), x => ∃ v', x = some (i, v') ∧ VR m v v'

theorem findA_now {kt : TypeId} {d : TypeDesc} {k : Value} (hu : E.und kt = some d) (hd : ∀ fs, d ≠ .struct fs) :
    ∀ (es : List ME) (es' : List MapEntry) (i : Nat) (f : Option (Nat × AV)), MERL m es es' → findA E kt k es i = some f → ∃ f', Instr.findNow d k es' i = some f' ∧ FindR m f f' := by
  intro es es' i f hm
  induction hm generalizing i f with
  | nil => intro h; simp only [findA, hu, Option.map_some, Option.some.injEq] at h; subst h; exact ⟨none, rfl, rfl⟩
  | @cons e e' l l' he _ ih =>
    intro h
    unfold findA at h
    split at h
    · rename_i hk
      cases h
      rcases keyEq_now hu hk with hs | ⟨⟨fs, hf⟩, _⟩
      · exact ⟨some (i, e'.val), by simp only [Instr.findNow, he.1, hs], e'.val, rfl, he.2.2⟩
      · exact absurd hf (hd fs)
    · rename_i hk
      rcases keyEq_now hu hk with hs | ⟨⟨fs, hf⟩, _⟩
      · obtain ⟨f', h1, h2⟩ := ih _ _ h
        exact ⟨f', by simp only [Instr.findNow, he.1, hs, h1], h2⟩
      · exact absurd hf (hd fs)
    · cases h

theorem findA_ask {kt : TypeId} {fs : Array Field} {k : Value} (hu : E.und kt = some (.struct fs)) :
    ∀ (es : List ME) (es' : List MapEntry) (i : Nat) (f : Option (Nat × AV)), MERL m es es' → findA E kt k es i = some f → ∃ f', (∀ W : World, (Instr.findAsking kt k es' i).run E.P W = .ok f' W) ∧ FindR m f f' := by
  intro es es' i f hm
  induction hm generalizing i f with
  | nil => intro h; simp only [findA, hu, Option.map_some, Option.some.injEq] at h; subst h; exact ⟨none, fun W => by simp [Instr.findAsking], rfl⟩
  | @cons e e' l l' he _ ih =>
    intro h
    unfold findA at h
    split at h
    · rename_i hk
      cases h
      rcases keyEq_now hu hk with hs | ⟨_, hq⟩
      · simp [Instr.sameNow] at hs
      · exact ⟨some (i, e'.val), fun W => by simp [Instr.findAsking, he.1, quiet_run _ _ hq W], e'.val, rfl, he.2.2⟩
    · rename_i hk
      rcases keyEq_now hu hk with hs | ⟨_, hq⟩
      · simp [Instr.sameNow] at hs
      · obtain ⟨f', h1, h2⟩ := ih _ _ h
        exact ⟨f', fun W => by simp [Instr.findAsking, he.1, quiet_run _ _ hq W, h1], h2⟩
    · cases h

theorem findNow_struct {fs : Array Field} {k : Value} : ∀ (es : List MapEntry) (i : Nat), Instr.findNow (.struct fs) k es i = (if es = [] then some none else none)
  | [], i => rfl
  | e :: es, i => by simp [Instr.findNow, Instr.sameNow]

theorem findA_ok (ok : E.Ok) {kt : TypeId} {k : Value} {es : List ME} {es' : Array MapEntry} {f : Option (Nat × AV)} (hm : MERL m es es'.toList) (h : findA E kt k es 0 = some f) :
    ∃ f', (∀ W : World, (Instr.findKey kt k es'.toList).run E.P W = .ok f' W) ∧ FindR m f f' := by
  have hu : ∃ d, E.und kt = some d := by
    cases es with
    | nil => cases hd : E.und kt with
      | none => simp [findA, hd] at h
      | some d => exact ⟨d, rfl⟩
    | cons e es =>
      cases hd : E.und kt with
      | none => simp [findA, keyEq, hd] at h
      | some d => exact ⟨d, rfl⟩
  obtain ⟨d, hu⟩ := hu
  by_cases hs : ∃ fs, d = .struct fs
  · obtain ⟨fs, rfl⟩ := hs
    obtain ⟨f', h1, h2⟩ := findA_ask hu _ _ _ _ hm h
    refine ⟨f', fun W => ?_, h2⟩
    simp only [Instr.findKey, Sem.run_bind, run_und ok hu, Result.andThen_ok, findNow_struct]
    by_cases he : es'.toList = []
    · rw [if_pos he]
      have := h1 W
      rw [he] at this
      simpa [Instr.findAsking] using this
    · rw [if_neg he]; exact h1 W
  · obtain ⟨f', h1, h2⟩ := findA_now hu (fun fs e => hs ⟨fs, e⟩) _ _ _ _ hm h
    refine ⟨f', fun W => ?_, h2⟩
    simp only [Instr.findKey, Sem.run_bind, run_und ok hu, Result.andThen_ok, h1, Sem.run_pure]

theorem zeroOf_ok (ok : E.Ok) {t : TypeId} {z : AV} (h : zeroOf E t = some z) : ∃ v, z = .s v ∧ ∀ W : World, (zeroValue t).run E.P W = .ok v W := by
  simp only [zeroOf, Option.map_eq_some_iff, Option.bind_eq_some_iff] at h
  obtain ⟨v, ⟨i, hi, hz⟩, rfl⟩ := h
  exact ⟨v, rfl, fun W => by simp [zeroValue, run_inf ok hi, hz]⟩

theorem mapOf_ok {x : AV} {x' : Value} {es : List ME} (g : Gam m w.h W) (hx : VR m x x') (h : mapOf w x = some es) :
    (x' = .map none ∧ es = []) ∨ ∃ b es' clock, x' = .map (some b) ∧ W.heap[b]? = some (.map es' clock) ∧ MERL m es es'.toList := by
  unfold mapOf at h
  split at h
  · cases h; exact .inl ⟨hx, rfl⟩
  · rename_i i
    split at h
    · rename_i es0 c hg
      cases h
      obtain ⟨p, hp, rfl⟩ := hx
      obtain ⟨q, hq, hb⟩ := g.dom _ _ hg
      rw [hp] at hq; cases hq
      obtain ⟨es', he, hm⟩ := hb
      exact .inr ⟨_, es', c, rfl, he, hm⟩
    · cases h
  · cases h

theorem MERL.isEmpty {es : List ME} {es' : Array MapEntry} (h : MERL m es es'.toList) : es'.isEmpty = es.isEmpty := by
  have := h.length
  cases es with
  | nil => simp at this; simp [this]
  | cons e es =>
    simp at this
    have h0 : es' ≠ #[] := by rintro rfl; simp at this
    simp [h0]

theorem opLookup_ok (ok : E.Ok) {t : TypeId} {x ix : AV} {x' ix' : Value} {cm : Bool} {r : OR} (g : Gam m w.h W) (hx : VR m x x') (hi : VR m ix ix') (h : opLookup E w t x ix cm = some r) :
    ValOk E m w W r (Instr.lookup t x' ix' cm) := by
  unfold opLookup at h
  split at h
  · rename_i kt et es k hu hes hk
    obtain rfl : ix' = k := toV_VR _ _ _ hk hi
    split at h
    · rename_i u i v hc hf
      cases h
      rcases mapOf_ok g hx hes with ⟨rfl, rfl⟩ | ⟨b, es', clock, rfl, he, hm⟩
      · simp [findA] at hf
      · obtain ⟨f', h1, h2⟩ := findA_ok ok hm hf
        obtain ⟨v', rfl, hv⟩ := h2
        refine ⟨_, if cm then .tuple #[v', .bool true] else v', rfl, ?_, ?_⟩
        · simp only [Instr.lookup, Sem.run_bind, run_und ok hu, Result.andThen_ok, getObj_run he rfl, Sem.run_pure, hm.isEmpty, quiet_run _ _ hc W, h1]
        · cases cm
          · exact hv
          · exact ⟨[v', .bool true], ⟨_, _, rfl, hv, _, [], rfl, rfl, by simp [VRL]⟩, rfl⟩
    · rename_i u hc hf
      simp only [Option.map_eq_some_iff] at h
      obtain ⟨z, hz, rfl⟩ := h
      obtain ⟨zv, rfl, hzr⟩ := zeroOf_ok ok hz
      have fin : VR m (cond cm (.tup [.s zv, boolA false]) (.s zv)) (if cm then .tuple #[zv, .bool false] else zv) := by
        cases cm
        · rfl
        · exact ⟨[zv, .bool false], ⟨_, _, rfl, rfl, _, [], rfl, rfl, by simp [VRL]⟩, rfl⟩
      rcases mapOf_ok g hx hes with ⟨rfl, rfl⟩ | ⟨b, es', clock, rfl, he, hm⟩
      · obtain ⟨f', h1, h2⟩ := findA_ok (es' := #[]) (m := m) ok .nil hf
        obtain rfl : f' = none := h2
        refine ⟨_, _, rfl, ?_, fin⟩
        simp only [Instr.lookup, Sem.run_bind, run_und ok hu, Result.andThen_ok, Sem.run_pure]
        have hc' := quiet_run _ _ hc W
        simp only [List.isEmpty_nil] at hc'
        simp only [Array.isEmpty_empty, hc', Result.andThen_ok, h1]
        simp [hzr]
      · obtain ⟨f', h1, h2⟩ := findA_ok ok hm hf
        obtain rfl : f' = none := h2
        refine ⟨_, _, rfl, ?_, fin⟩
        simp only [Instr.lookup, Sem.run_bind, run_und ok hu, Result.andThen_ok, getObj_run he rfl, Sem.run_pure, hm.isEmpty, quiet_run _ _ hc W, h1, hzr]
    · cases h
  · cases h
end Go.Eng
