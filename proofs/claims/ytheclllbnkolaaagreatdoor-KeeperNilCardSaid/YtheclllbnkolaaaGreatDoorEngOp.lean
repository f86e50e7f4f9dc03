import Derived.Test.YtheclllbnkolaaaGreatDoorEngOps14
namespace Go.Eng
open Go
variable {E : Env} {m : Mu} {w : Hp} {W : World}

def OpOk (E : Env) (m : Mu) (w : Hp) (W : World) (r : OR) (s : Sem Next) : Prop :=
  match r with
  | .val v w' => ∃ m' v' W', s.run E.P W = .ok (.value v') W' ∧ VR m' v v' ∧ Step m w.h w.nx W m' w'.h w'.nx W'
  | .skip w' => ∃ m' W', s.run E.P W = .ok .skip W' ∧ Step m w.h w.nx W m' w'.h w'.nx W'
  | .call c w' => w' = w ∧ CallOk E m W c s
  | .dfr d w' => w' = w ∧ ∃ d', s.run E.P W = .ok (.defer d') W ∧ DR m d d'
  | .pick l => ∃ x ∈ l, ∃ m' v' W', s.run E.P W = .ok (.value v') W' ∧ VR m' x.1 v' ∧ Step m w.h w.nx W m' x.2.h x.2.nx W'

theorem vrun {P : Program} {s : Sem Value} {v : Value} {W W' : World} (h : s.run P W = .ok v W') : (do pure (Next.value (← s)) : Sem Next).run P W = .ok (.value v) W' := by simp [h]
theorem urun {P : Program} {s : Sem Unit} {W W' : World} (h : s.run P W = .ok () W') : (do s; pure Next.skip : Sem Next).run P W = .ok .skip W' := by simp [h]

theorem DoOk.op {r : OR} {s : Sem Value} (h : DoOk E m w W r s) : OpOk E m w W r (do pure (Next.value (← s))) := by
  obtain ⟨v, w', m', v', W', rfl, hs, hv, st⟩ := h
  exact ⟨m', v', W', vrun hs, hv, st⟩
theorem ValOk.op {r : OR} {s : Sem Value} (g : Gam m w.h W) (f : Fresh m w.nx) (h : ValOk E m w W r s) : OpOk E m w W r (do pure (Next.value (← s))) := (h.doOk g f).op
theorem UnitOk.op {r : OR} {s : Sem Unit} (h : UnitOk E m w W r s) : OpOk E m w W r (do s; pure Next.skip) := by
  obtain ⟨w', m', W', rfl, hs, st⟩ := h
  exact ⟨m', W', urun hs, st⟩
theorem alloc_op {f : Hp → Option OR} {mk : Nat → AV} {blk : AB} {s : Sem Value} {r : OR} (g : Gam m w.h W) (fr : Fresh m w.nx) (hsh : ShapeA f mk blk) (ha : AllocOk E m W s mk blk) (h : f w = some r) :
    OpOk E m w W r (do pure (Next.value (← s))) := by
  rw [hsh w] at h
  cases h
  exact (ha.doOk g fr).op

theorem map_none {ρ : Operand → AV} {σ : Operand → Value} (hσ : ∀ x, VR m (ρ x) (σ x)) (o : Option Operand) :
    ORel m (o.map ρ) (o.map σ) := by
  cases o with
  | none => trivial
  | some x => exact hσ x

theorem opBuiltin_ok (ok : E.Ok) {ρ : Operand → AV} {σ : Operand → Value} (g : Gam m w.h W) (f : Fresh m w.nx) (hσ : ∀ x, VR m (ρ x) (σ x)) {b : Builtin} {args : Array Operand} {ats : Array TypeId} {ty : TypeId} {r : OR}
    (h : opBuiltin E w b ats.toList (args.toList.map ρ) = some r) : OpOk E m w W r (do let d ← resolve σ { callee := .builtin b, args := args, argTypes := ats } ty; invoke d.target d.args) := by
  have red : ∀ {s : Sem Value}, (∀ (c : Array Bool) (W : World), (builtin b ats ty c (args.map σ)).run E.P W = (do pure (Next.value (← s)) : Sem Next).run E.P W) →
      OpOk E m w W r (do pure (Next.value (← s))) → OpOk E m w W r (do let d ← resolve σ { callee := .builtin b, args := args, argTypes := ats } ty; invoke d.target d.args) := by
    intro s hr h
    have e : ∀ W : World, (do let d ← resolve σ { callee := .builtin b, args := args, argTypes := ats } ty; invoke d.target d.args : Sem Next).run E.P W = (do pure (Next.value (← s)) : Sem Next).run E.P W := by
      intro W
      simp only [resolve, Sem.run_bind, Sem.run_pure, Result.andThen_ok, invoke]
      rw [hr]
      simp only [Sem.run_bind, Sem.run_pure]
    cases r with
    | val v w' => obtain ⟨m', v', W', hs, hv, st⟩ := h; exact ⟨m', v', W', by rw [e]; exact hs, hv, st⟩
    | skip w' => obtain ⟨m', W', hs, st⟩ := h; exact ⟨m', W', by rw [e]; exact hs, st⟩
    | call c w' =>
      obtain ⟨e1, h⟩ := h
      refine ⟨e1, ?_⟩
      cases c with
      | func f args => obtain ⟨args', ha, hb⟩ := h; exact ⟨args', ha, fun fn h1 h2 => by rw [e]; exact hb fn h1 h2⟩
      | round l args => obtain ⟨p, args', hp, ha, hb⟩ := h; exact ⟨p, args', hp, ha, fun lp h1 h2 => by rw [e]; exact hb lp h1 h2⟩
    | dfr d w' => obtain ⟨e1, d', hs, hd⟩ := h; exact ⟨e1, d', by rw [e]; exact hs, hd⟩
    | pick l => obtain ⟨x, hx, m', v', W', hs, hv, st⟩ := h; exact ⟨x, hx, m', v', W', by rw [e]; exact hs, hv, st⟩
  have hargs := VRL.of_map hσ args.toList
  have harr : args.map σ = (args.toList.map σ).toArray := by apply Array.ext'; simp only [Array.toList_map]
  have hats : ats = ats.toList.toArray := by simp
  unfold opBuiltin at h
  generalize args.toList.map ρ = la at h hargs
  generalize args.toList.map σ = lv at hargs harr
  generalize ats.toList = lt at h hats
  split at h
  · split at h
    · obtain ⟨s', _, rfl, hs, x', _, rfl, hx, hn⟩ := hargs
      simp only [VRL] at hn; subst hn
      refine red (fun c W => ?_) (appendA_ok (ty := ty) ok g f hs hx h).op
      rw [harr, hats]; rfl
    · cases h
  · split at h
    · obtain ⟨x', _, rfl, hx, hn⟩ := hargs
      simp only [VRL] at hn; subst hn
      refine red (fun c W => ?_) ((opLen_ok (ty := ty) ok g hx h).op g f)
      rw [harr, hats]; rfl
    · cases h
  · split at h
    · obtain ⟨x', _, rfl, hx, hn⟩ := hargs
      simp only [VRL] at hn; subst hn
      refine red (fun c W => ?_) ((opCap_ok (ty := ty) ok hx h).op g f)
      rw [harr, hats]; rfl
    · cases h
  · split at h
    · rename_i t1 t2 _ _
      obtain ⟨s', _, rfl, hs, x', _, rfl, hx, hn⟩ := hargs
      simp only [VRL] at hn; subst hn
      refine red (fun c W => ?_) (opCopy_ok (t2 := t2) (ty := ty) ok g f hs hx h).op
      rw [harr, hats]; rfl
    · cases h
  · split at h
    · rename_i t1 t2 _ _
      obtain ⟨s', _, rfl, hs, x', _, rfl, hx, hn⟩ := hargs
      simp only [VRL] at hn; subst hn
      refine red (fun c W => ?_) (opDelete_ok (t2 := t2) (ty := ty) ok g f hs hx h).op
      rw [harr, hats]; rfl
    · cases h
  · split at h
    · obtain ⟨x', _, rfl, hx, hn⟩ := hargs
      simp only [VRL] at hn; subst hn
      refine red (fun c W => ?_) (opClear_ok (ty := ty) ok g f hx h).op
      rw [harr, hats]; rfl
    · cases h
  · refine red (s := Builtin.min_ ats ty lv.toArray) (fun c W => ?_) ?_
    · rw [harr]; rfl
    · exact (opMin_ok (E := E) (W := W) (mx := false) (ts := ats) (ty := ty) hargs h).op g f
  · refine red (s := Builtin.max_ ats ty lv.toArray) (fun c W => ?_) ?_
    · rw [harr]; rfl
    · exact (opMin_ok (E := E) (W := W) (mx := true) (ts := ats) (ty := ty) hargs h).op g f
  · cases h

theorem NextOk.op {r : OR} {s : Sem Next} (g : Gam m w.h W) (f : Fresh m w.nx) (h : NextOk E m w W r s) : OpOk E m w W r s := by
  obtain ⟨v, v', rfl, hs, hv⟩ := h
  exact ⟨m, v', W, hs, hv, Step.refl g f⟩

theorem pick_op {r : OR} {s : Sem Value} (h : DoOk E m w W r s ∨ ∃ l, r = .pick l ∧ PickOk E m w W l s) : OpOk E m w W r (do pure (Next.value (← s))) := by
  rcases h with h | ⟨l, rfl, x, hx, m', v', W', hs, hv, st⟩
  · exact h.op
  · exact ⟨x, hx, m', v', W', vrun hs, hv, st⟩

theorem call_op {r : OR} {s : Sem Next} (h : ∃ c, r = .call c w ∧ CallOk E m W c s) : OpOk E m w W r s := by
  obtain ⟨c, rfl, h⟩ := h
  exact ⟨rfl, h⟩

theorem VRL.map_arr {ρ : Operand → AV} {σ : Operand → Value} (hσ : ∀ x, VR m (ρ x) (σ x)) (a : Array Operand) : VRL m (a.toList.map ρ) (a.toList.map σ) := VRL.of_map hσ _

theorem opA_ok (ok : E.Ok) {ρ : Operand → AV} {σ : Operand → Value} (g : Gam m w.h W) (f : Fresh m w.nx) (hσ : ∀ x, VR m (ρ x) (σ x)) {o : Oper} {r : OR} (h : opA E ρ w o = some r) :
    OpOk E m w W r (execOp σ o) := by
  obtain ⟨dst, op, ty, pos, after, guard⟩ := o
  unfold opA at h
  cases op <;> simp only at h <;> try (cases h; done)
  case move x => cases h; exact ⟨m, σ x, W, rfl, hσ x, Step.refl g f⟩
  case assign x => cases h; exact ⟨m, σ x, W, rfl, hσ x, Step.refl g f⟩
  case pick c a b =>
    have := (opPick_ok (E := E) (W := W) (hσ c) (hσ a) (hσ b) h).op g f
    have e : ∀ W : World, (execOp σ { dst := dst, op := .pick c a b, type := ty, pos := pos, after := after, guard := guard }).run E.P W = (do pure (Next.value (← (do pure (if ← asBool (σ c) then σ a else σ b)))) : Sem Next).run E.P W := by
      intro W; simp [execOp]
    unfold opPick at h
    split at h <;> cases h <;> (obtain ⟨m', v', W', h1, h2⟩ := this; exact ⟨m', v', W', by rw [e]; exact h1, h2⟩)
  case alloc et =>
    obtain ⟨mk, blk, h1, h2⟩ := opAlloc_ok ok h
    exact alloc_op g f h1 (h2 m W) h
  case box et x =>
    obtain ⟨mk, blk, h1, h2⟩ := opBox_ok (E := E) h
    exact alloc_op g f h1 (h2 m W _ (hσ x)) h
  case build t parts => exact (opBuild_ok ok hσ h).op g f
  case buildSlice t len parts =>
    obtain ⟨mk, blk, h1, h2⟩ := opBuildSlice_ok ok h
    exact alloc_op g f h1 (h2 m W σ hσ) h
  case load t a => exact (opLoad_ok ok g (hσ a) h).op g f
  case store t a x => exact (opStore_ok ok g f (hσ a) (hσ x) h).op
  case nilCheck x => exact (opNil_ok ok rfl (hσ x) h).op g f
  case binOp op t x y t2 => exact (opBin_ok ok g (hσ x) (hσ y) h).op g f
  case unOp op t x => exact (opUn_ok (hσ x) h).op g f
  case convert src dst x =>
    by_cases hd : isA E (.convert src dst (.tmp 0)) = false
    · exact (opConvert_ok ok g (hσ x) hd h).op g f
    · have : ∃ e, E.und dst = some (.slice e) := by
        simp only [isA] at hd
        split at hd
        · rename_i e he; exact ⟨e, he⟩
        · simp at hd
      obtain ⟨e, he⟩ := this
      rcases opConvertA_ok ok he h with ⟨mk, blk, h1, h2⟩ | ⟨v, h1, h2⟩
      · exact alloc_op g f h1 (h2 m W _ ⟨_, hσ x, rfl⟩) h
      · have h1w := h1 w
        simp only at h1w
        rw [h1w] at h
        cases h
        obtain ⟨v', hr, hv⟩ := h2 m W _ ⟨_, hσ x, rfl⟩
        exact ⟨m, v', W, vrun hr, hv, Step.refl g f⟩
  case makeInterface t x => exact (opMakeIface_ok ok (hσ x) h).op g f
  case makeFunc fn first cap =>
    have := (opMakeFunc_ok (E := E) (W := W) (VRL.map_arr hσ first) (VRL.map_arr hσ cap) h).op g f
    have e1 : (first.toList.map σ).toArray = first.map σ := by apply Array.ext'; simp only [Array.toList_map]
    have e2 : (cap.toList.map σ).toArray = cap.map σ := by apply Array.ext'; simp only [Array.toList_map]
    rw [e1, e2] at this
    exact this
  case makeMap t r =>
    obtain ⟨mk, blk, h1, h2⟩ := opMakeMap_ok ok h
    exact alloc_op g f h1 (h2 m W _ (map_none hσ r)) h
  case makeSlice t l c =>
    obtain ⟨mk, blk, h1, h2⟩ := opMakeSlice_ok ok h
    exact alloc_op g f h1 (h2 m W _ _ (hσ l) (hσ c)) h
  case slice t x lo hi mx => exact (opSlice_ok ok g (hσ x) (VRo.map hσ lo) (VRo.map hσ hi) (VRo.map hσ mx) h).op g f
  case fieldAddr t x fd => exact (opFieldAddr_ok ok (hσ x) h).op g f
  case field t x fd => exact (opField_ok ok (hσ x) h).op g f
  case indexAddr t x ix => exact (opIndexAddr_ok ok (hσ x) (hσ ix) h).op g f
  case index t x ix => exact (opIndex_ok ok (hσ x) (hσ ix) h).op g f
  case lookup t x ix cm => exact (opLookup_ok ok g (hσ x) (hσ ix) h).op g f
  case mapUpdate t a k x => exact (opMapUpdate_ok ok g f (hσ a) (hσ k) (hσ x) h).op
  case insert t a k x => exact (opMapUpdate_ok ok g f (hσ a) (hσ k) (hσ x) h).op
  case range t x => exact (opRange_ok ok g f (hσ x) h).op
  case next x s =>
    cases s with
    | true => cases h
    | false => exact pick_op (opNext_ok g f (hσ x) h)
  case entry x => exact (opEntry_ok g (hσ x) h).op g f
  case typeAssert x t a cm => exact (opAssert_ok ok (hσ x) h).op g f
  case extract x ix => exact (opExtract_ok (hσ x) h).op g f
  case call c =>
    obtain ⟨callee, args, ats⟩ := c
    cases callee with
    | value fo => exact call_op (opCallV_ok ok hσ h)
    | builtin b => exact opBuiltin_ok ok g f hσ h
    | invoke ro name => exact call_op (opInvoke_ok ok g hσ h)
  case defer c =>
    obtain ⟨d, rfl, d', h1, h2⟩ := opDefer_ok (E := E) (W := W) (ty := ty) hσ h
    exact ⟨rfl, d', h1, h2⟩
end Go.Eng
