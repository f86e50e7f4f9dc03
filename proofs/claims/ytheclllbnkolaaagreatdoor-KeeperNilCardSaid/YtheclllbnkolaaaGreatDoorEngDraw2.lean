import Derived.Test.YtheclllbnkolaaaGreatDoorEngDraw1
namespace Go.Eng
open Go
variable {E : Env} {m : Mu} {w : Hp} {W : World}

theorem omap_congr {ρ ρ' : Operand → AV} {o : Option Operand} (h : ∀ x, o = some x → ρ x = ρ' x) : o.map ρ = o.map ρ' := by
  cases o with
  | none => rfl
  | some x => simp [h x rfl]

/-- Only its operands count. -/
theorem opA_congr {ρ ρ' : Operand → AV} {o : Oper} (h : ∀ x ∈ o.op.operands, ρ x = ρ' x) : opA E ρ w o = opA E ρ' w o := by
  obtain ⟨dst, op, ty, pos, after, guard⟩ := o
  have arr : ∀ (a : Array Operand), (∀ x ∈ a, ρ x = ρ' x) → a.toList.map ρ = a.toList.map ρ' := fun a ha => List.map_congr_left fun x hx => ha x (by simpa using hx)
  have prt : ∀ (a : Array (Nat × Operand)), (∀ x ∈ a, ρ x.2 = ρ' x.2) → partsA ρ a = partsA ρ' a := fun a ha => List.map_congr_left fun x hx => by rw [ha x (by simpa using hx)]
  cases op <;> simp only [opA, Op.operands] at h ⊢
  case build t parts => unfold opBuild; rw [prt parts (fun x hx => h x.2 (by simp; exact ⟨x.1, hx⟩))]
  case buildSlice t len parts => unfold opBuildSlice; rw [prt parts (fun x hx => h x.2 (by simp; exact ⟨x.1, hx⟩))]
  case makeFunc fn a b => rw [arr a (fun x hx => h x (by simp [hx])), arr b (fun x hx => h x (by simp [hx]))]
  case makeMap t r => rw [omap_congr (fun x hx => h x (by simp [hx]))]
  case slice t x lo hi mx =>
    rw [h x (by simp), omap_congr (o := lo) (fun y hy => h y (by simp [hy])), omap_congr (o := hi) (fun y hy => h y (by simp [hy])), omap_congr (o := mx) (fun y hy => h y (by simp [hy]))]
  case call c =>
    obtain ⟨callee, args, ats⟩ := c
    have ha := arr args (fun x hx => h x (by simp [Call.operands, hx]))
    unfold opCall
    simp only [ha]
    cases callee with
    | value f => simp only; rw [h f (by simp [Call.operands])]
    | builtin b => rfl
    | invoke r n => simp only; rw [h r (by simp [Call.operands])]
  case defer c =>
    obtain ⟨callee, args, ats⟩ := c
    have ha := arr args (fun x hx => h x (by simp [Call.operands, hx]))
    unfold opDefer
    simp only [ha]
    cases callee with
    | value f => simp only; rw [h f (by simp [Call.operands])]
    | builtin b => rfl
    | invoke r n => rfl
  case next x s => cases s <;> simp only; rw [h x (by simp)]
  all_goals (first | rfl | simp_all)
end Go.Eng
