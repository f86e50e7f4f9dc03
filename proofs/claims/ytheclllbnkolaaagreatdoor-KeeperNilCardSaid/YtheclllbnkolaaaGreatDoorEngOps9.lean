import Derived.Test.YtheclllbnkolaaaGreatDoorEngOps8
namespace Go.Eng
open Go
variable {E : Env} {m : Mu} {w : Hp} {W : World}

/-! ### Blocks that are no rows of cells -/
theorem setObj_heap {W : World} {b : Nat} {o : Obj} : ∀ c, c ≠ b → ({ W with heap := W.heap.setIfInBounds b o } : World).heap[c]? = W.heap[c]? := by
  intro c hc
  show (W.heap.setIfInBounds b o)[c]? = _
  rw [Array.getElem?_setIfInBounds_ne (by omega)]
theorem setObj_at {W : World} {b : Nat} {o o' : Obj} (h : W.heap[b]? = some o) : ({ W with heap := W.heap.setIfInBounds b o' } : World).heap[b]? = some o' := by
  show (W.heap.setIfInBounds b o')[b]? = _
  rw [Array.getElem?_setIfInBounds_self_of_lt (Array.getElem?_eq_some_iff.1 h).1]

/-- A block that is no row of cells has changed. -/
theorem Step.setObj {h : H} {nx : Nat} {i : Nat} {p : Pl} {ab ab' : AB} {o o' : Obj} (g : Gam m h W) (f : Fresh m nx) (e : h.get i = some ab) (hp : m i = some p)
    (ho : W.heap[p.blk]? = some o) (hb : ∀ W' : World, W'.heap[p.blk]? = some o' → BR m W' p ab') :
    Step m h nx W m (h.set i ab') nx { W with heap := W.heap.setIfInBounds p.blk o' } :=
  Step.put g f e hp (fun b hb => setObj_heap b hb) rfl rfl rfl (by show _ ≤ (W.heap.setIfInBounds _ _).size; simp) (hb _ (setObj_at ho))

theorem Step.setSame {h : H} {nx : Nat} {b : Nat} {o : Obj} (g : Gam m h W) (f : Fresh m nx) (ho : W.heap[b]? = some o) :
    Step m h nx W m h nx { W with heap := W.heap.setIfInBounds b o } := by
  have e : W.heap.setIfInBounds b o = W.heap := by
    apply Array.ext_getElem?
    intro i
    by_cases hi : i = b
    · subst hi; rw [Array.getElem?_setIfInBounds_self_of_lt (Array.getElem?_eq_some_iff.1 ho).1, ho]
    · rw [Array.getElem?_setIfInBounds_ne (by omega)]
  rw [e]
  exact Step.refl g f

theorem setVal_ok {v : AV} {v' : Value} (hv : VR m v v') (k : Value) : ∀ (es : List ME) (es' : List MapEntry) (j : Nat), MERL m es es' →
    MERL m (setVal k v es j) (es'.modify j fun e => { e with key := k, val := v' }) := by
  intro es es' j hm
  induction hm generalizing j with
  | nil => simpa [setVal] using MERL.nil
  | @cons e e' l l' he ht ih =>
    cases j with
    | zero =>
      simp only [setVal, List.modify_zero_cons]
      exact .cons ⟨rfl, he.2.1, hv⟩ ht
    | succ j =>
      simp only [setVal, List.modify_succ_cons]
      exact .cons he (ih j)

theorem MERL.get {es : List ME} {es' : List MapEntry} (h : MERL m es es') : ∀ (j : Nat) (e : ME), es[j]? = some e → ∃ e', es'[j]? = some e' ∧ MER m e e' := by
  induction h with
  | nil => intro j e he; simp at he
  | @cons e e' l l' he _ ih =>
    intro j x hx
    cases j with
    | zero => simp at hx; subst hx; exact ⟨e', by simp, he⟩
    | succ j => obtain ⟨x', a, b⟩ := ih j x (by simpa using hx); exact ⟨x', by simpa using a, b⟩

theorem MERL.append {a c : List ME} {b d : List MapEntry} (h : MERL m a b) (k : MERL m c d) : MERL m (a ++ c) (b ++ d) := by
  induction h with
  | nil => exact k
  | cons he _ ih => exact .cons he ih

theorem opMapUpdate_ok (ok : E.Ok) {t : TypeId} {a k x : AV} {a' k' x' : Value} {r : OR} (g : Gam m w.h W) (f : Fresh m w.nx) (ha : VR m a a') (hk : VR m k k') (hx : VR m x x')
    (h : opMapUpdate E w t a k x = some r) : UnitOk E m w W r (Instr.mapUpdate t a' k' x') := by
  unfold opMapUpdate at h
  split at h
  · rename_i kt et i kv hu hkv
    obtain rfl : k' = kv := toV_VR _ _ _ hkv hk
    split at h
    · rename_i es clock hg
      obtain ⟨p, hp, rfl⟩ := ha
      obtain ⟨q, hq, hb⟩ := g.dom _ _ hg
      rw [hp] at hq; cases hq
      obtain ⟨es', he, hm⟩ := hb
      split at h
      · rename_i u j v hc hf
        obtain ⟨f', h1, h2⟩ := findA_ok ok hm hf
        obtain ⟨v', rfl, hv⟩ := h2
        split at h
        · rename_i old hold
          simp only [cond_eq_ite] at h
          split at h
          · rename_i hsb
            cases h
            simp only [Option.map_eq_some_iff] at hold
            obtain ⟨e, hej, rfl⟩ := hold
            obtain ⟨e', hej', hme⟩ := hm.get j e hej
            have hkey : ((es'[j]?).map (·.key)).getD k' = e.key := by
              have : es'[j]? = some e' := by simpa using hej'
              rw [this]; exact hme.1
            refine ⟨_, m, { W with heap := W.heap.setIfInBounds p.blk (.map (es'.modify j fun e => { e with key := k', val := x' }) clock) }, rfl, ?_, ?_⟩
            · simp only [Instr.mapUpdate, Sem.run_bind, run_und ok hu, Result.andThen_ok, getObj_run he rfl, quiet_run _ _ hc W, h1, hkey, Instr.keyThatStays, hsb, if_true, Sem.run_pure, setObj_run he rfl]
            · refine Step.setObj g f hg hp he (fun W' hW' => ⟨_, hW', ?_⟩)
              simp only [Array.toList_modify]
              exact setVal_ok hx k' _ _ _ hm
          · cases h
        · cases h
      · rename_i u hc hf
        cases h
        obtain ⟨f', h1, h2⟩ := findA_ok ok hm hf
        obtain rfl : f' = none := h2
        refine ⟨_, m, { W with heap := W.heap.setIfInBounds p.blk (.map (es'.push { key := k', val := x', born := clock }) (clock + 1)) }, rfl, ?_, ?_⟩
        · simp only [Instr.mapUpdate, Sem.run_bind, run_und ok hu, Result.andThen_ok, getObj_run he rfl, quiet_run _ _ hc W, h1, setObj_run he rfl]
        · refine Step.setObj g f hg hp he (fun W' hW' => ⟨_, hW', ?_⟩)
          simp only [Array.toList_push]
          exact hm.append (.cons ⟨rfl, rfl, hx⟩ .nil)
      · cases h
    · cases h
  · cases h

theorem opRange_ok (ok : E.Ok) {t : TypeId} {x : AV} {x' : Value} {r : OR} (g : Gam m w.h W) (f : Fresh m w.nx) (hx : VR m x x') (h : opRange E w t x = some r) : DoOk E m w W r (Instr.range t x') := by
  have key : ∀ (mo : Option Nat) (mo' : Option Nat) (c : Nat), OPl m mo mo' → (Instr.range t x').run E.P W = .ok (.pointer (some ⟨W.heap.size, 0, none⟩)) (W.alloc (.mapIter mo' c #[] c)) →
      DoOk E m w W (.val (.ptr w.nx 0) ⟨w.h.set w.nx (.iter mo c [] c), w.nx + 1⟩) (Instr.range t x') := by
    intro mo mo' c hmo hr
    have he := upd_ext (i := w.nx) (p := ⟨W.heap.size, 0, 0⟩) (f _ (Nat.le_refl _))
    refine ⟨_, _, upd m w.nx ⟨W.heap.size, 0, 0⟩, _, _, rfl, hr, ⟨_, upd_same _ _ _, by simp⟩, ?_⟩
    refine Step.new g f (fun b hb => Go.RowKit.Below.heap_alloc _ _ _ hb) rfl rfl rfl (by simp) (Nat.le_refl _) ⟨mo', ?_, hmo.mono he, rfl⟩
    show (W.heap.push _)[W.heap.size]? = _
    simp
  unfold opRange at h
  split at h
  · rename_i kt et hu
    cases h
    obtain rfl : x' = _ := hx
    exact key none none 0 rfl (by simp [Instr.range, run_und ok hu])
  · rename_i kt et i hu
    split at h
    · rename_i es clock hg
      cases h
      obtain ⟨p, hp, rfl⟩ := hx
      obtain ⟨q, hq, hb⟩ := g.dom _ _ hg
      rw [hp] at hq; cases hq
      obtain ⟨es', he, hm⟩ := hb
      exact key (some i) (some p.blk) clock ⟨p, hp, rfl⟩ (by simp [Instr.range, run_und ok hu, getObj_run he rfl])
    · cases h
  · cases h

theorem opAssert_ok (ok : E.Ok) {t0 asserted : TypeId} {cm : Bool} {x : AV} {x' : Value} {r : OR} (hx : VR m x x') (h : opAssert E w asserted cm x = some r) :
    ValOk E m w W r (Instr.typeAssert x' t0 asserted cm) := by
  have two : ∀ {a b : AV} {a' b' : Value}, VR m a a' → VR m b b' → VR m (.tup [a, b]) (.tuple #[a', b']) := fun h1 h2 => ⟨[_, _], ⟨_, _, rfl, h1, _, [], rfl, h2, by simp [VRL]⟩, rfl⟩
  unfold opAssert at h
  split at h
  · rename_i t v hi
    obtain ⟨y, rfl, hy⟩ := ifcOf_ok hi hx
    split at h
    · rename_i want hu
      split at h
      · rename_i inf hinf
        split at h
        · rename_i hm
          cases h
          refine ⟨_, if cm then .tuple #[.iface t y, .bool true] else .iface t y, rfl, ?_, ?_⟩
          · simp only [Instr.typeAssert, Sem.run_bind, run_und ok hu, Result.andThen_ok, run_inf ok hinf, hm, Sem.run_pure]
          · cases cm
            · exact hx
            · exact two hx rfl
        · cases h
      · cases h
    · rename_i d hne hu
      have hne' : ∀ ms, d ≠ .interface ms := by rintro ms rfl; exact hne ms rfl
      simp only [cond_eq_ite, Nat.beq_eq] at h
      split at h
      · rename_i ht
        subst ht
        cases h
        refine ⟨_, if cm then .tuple #[y, .bool true] else y, rfl, ?_, ?_⟩
        · cases d <;> first
            | exact absurd rfl (hne' _)
            | simp [Instr.typeAssert, run_und ok hu]
        · cases cm
          · exact hy
          · exact two hy rfl
      · rename_i ht
        split at h
        · rename_i hcm
          subst hcm
          simp only [Option.map_eq_some_iff] at h
          obtain ⟨z, hz, rfl⟩ := h
          obtain ⟨zv, rfl, hzr⟩ := zeroOf_ok ok hz
          refine ⟨_, .tuple #[zv, .bool false], rfl, ?_, two rfl rfl⟩
          cases d <;> first
            | exact absurd rfl (hne' _)
            | simp [Instr.typeAssert, run_und ok hu, ht, hzr]
        · cases h
    · cases h
  · split at h
    · obtain rfl : x' = _ := hx
      split at h
      · rename_i d hu
        simp only [cond_eq_ite] at h
        split at h
        · rename_i hcm
          subst hcm
          simp only [Option.map_eq_some_iff] at h
          obtain ⟨z, hz, rfl⟩ := h
          obtain ⟨zv, rfl, hzr⟩ := zeroOf_ok ok hz
          refine ⟨_, .tuple #[zv, .bool false], rfl, ?_, two rfl rfl⟩
          cases d <;> simp [Instr.typeAssert, run_und ok hu, hzr]
        · cases h
      · cases h
    · cases h
end Go.Eng
