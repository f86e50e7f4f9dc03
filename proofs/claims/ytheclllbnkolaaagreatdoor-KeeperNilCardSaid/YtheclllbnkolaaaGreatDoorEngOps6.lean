import Derived.Test.YtheclllbnkolaaaGreatDoorEngOps5
namespace Go.Eng
open Go
variable {E : Env} {m : Mu} {w : Hp} {W : World}

def ORel (m : Mu) : Option AV → Option Value → Prop
  | none, none => True
  | some a, some b => VR m a b
  | _, _ => False

theorem opMakeMap_ok (ok : E.Ok) {t : TypeId} {ra : Option AV} {r : OR} (h : opMakeMap E w t ra = some r) :
    ∃ mk blk, ShapeA (fun w => opMakeMap E w t ra) mk blk ∧ ∀ (m : Mu) (W : World) (ra' : Option Value), ORel m ra ra' → AllocOk E m W (Instr.makeMap t ra') mk blk := by
  have main : ∀ (m : Mu) (W : World) (ra' : Option Value), (Instr.makeMap t ra').run E.P W = .ok (.map (some W.heap.size)) (W.alloc (.map #[] 0)) → AllocOk E m W (Instr.makeMap t ra') (fun i => .mp i) (.map [] 0) := by
    intro m W ra' hr
    refine ⟨_, _, ⟨W.heap.size, 0, 0⟩, hr, rfl, fun b hb => Go.RowKit.Below.heap_alloc _ _ _ hb, rfl, rfl, rfl, by simp, fun m' i he hi => ⟨⟨_, hi, rfl⟩, #[], ?_, by simpa using MERL.nil⟩⟩
    show (W.heap.push _)[W.heap.size]? = _
    simp
  cases ra with
  | none =>
    refine ⟨fun i => .mp i, .map [] 0, fun w => by simp only [opMakeMap, newMap], fun m W ra' hq => main m W ra' ?_⟩
    cases ra' with
    | none => simp [Instr.makeMap]
    | some x => exact hq.elim
  | some a =>
    simp only [opMakeMap] at h
    split at h
    · rename_i el kk n kv hu
      refine ⟨fun i => .mp i, .map [] 0, fun w => by simp only [opMakeMap, hu, newMap], fun m W ra' hq => main m W ra' ?_⟩
      cases ra' with
      | none => exact hq.elim
      | some x =>
        obtain rfl : x = _ := hq
        simp [Instr.makeMap, run_und ok hu, asInt, asIntOf]
    · cases h

theorem opMakeSlice_ok (ok : E.Ok) {t : TypeId} {l c : AV} {r : OR} (h : opMakeSlice E w t l c = some r) :
    ∃ mk blk, ShapeA (fun w => opMakeSlice E w t l c) mk blk ∧ ∀ (m : Mu) (W : World) (l' c' : Value), VR m l l' → VR m c c' → AllocOk E m W (Instr.makeSlice t l' c') mk blk := by
  unfold opMakeSlice at h
  split at h
  · rename_i et len cap hu hl hc
    split at h
    · rename_i es z inf hes hz hinf
      simp only [cond_eq_ite, Bool.and_eq_true, Nat.beq_eq, Nat.ble_eq] at h
      split at h
      · rename_i hb
        obtain ⟨⟨⟨hb1, hb2⟩, hb3⟩, hb4⟩ := hb
        obtain ⟨v, rfl, hv⟩ := run_zero ok hz
        have hsz : v.cells.size = es := by simpa using hb1
        refine ⟨fun i => .slc i 0 len (.ex cap), .cells (repl (v.cells.toList.map .s) cap) et es false, fun w => ?_, fun m W l' c' hl' hc' => ?_⟩
        · have e1 : Nat.beq (v.cells.toList.map AV.s).length es = true := by rw [Nat.beq_eq]; exact hb1
          have e2 : Nat.ble len cap = true := by rw [Nat.ble_eq]; exact hb2
          have e3 : Nat.ble (cap * inf.bytes) 1048576 = true := by rw [Nat.ble_eq]; exact hb3
          have e4 : Nat.ble cap 1048576 = true := by rw [Nat.ble_eq]; exact hb4
          simp only [opMakeSlice, hu, hl, hc, hes, hz, hinf, e1, e2, e3, e4, newCells, Bool.and_self, cond_true]
        · obtain ⟨k1, rfl⟩ := natOf_ok hl' hl
          obtain ⟨k2, rfl⟩ := natOf_ok hc' hc
          subst hsz
          refine alloc_ok (cs := (Array.range (cap * v.cells.size)).map (v.cells[· % v.cells.size]!)) (et' := et) (v' := .slice (some ⟨W.heap.size, 0, none⟩) len cap) ?_ (zeros_VRL v cap) (fun m' i _ hi => ⟨_, hi, 0, cap, rfl, rfl, hb2, .inr rfl⟩)
          have wl : IntKind.i64.wrap (len : Int) = len := wrap_small (by omega)
          have wc : IntKind.i64.wrap (cap : Int) = cap := wrap_small hb4
          have hby : ¬ ((inf.bytes : Int) * cap > 2 ^ 48) := by
            have : (inf.bytes : Int) * cap = ((cap * inf.bytes : Nat) : Int) := by push_cast; rw [Int.mul_comm]
            rw [this]; omega
          have h2 : ¬ ((len : Int) > cap) := by omega
          have h3 : ¬ ((cap : Int) < 0) := by omega
          have h4 : ¬ ((len : Int) < 0) := by omega
          have hcond : (((decide ((cap : Int) < 0) || decide ((inf.bytes : Int) * cap > 2 ^ 48)) || decide ((len : Int) < 0) || decide ((len : Int) > cap)) = true) ↔ False := by
            simp only [decide_eq_false h3, decide_eq_false hby, decide_eq_false h4, decide_eq_false h2, Bool.or_self, Bool.false_eq_true]
          simp only [Instr.makeSlice, Sem.run_bind, run_und ok hu, Result.andThen_ok, asInt, asIntOf, Sem.run_pure, run_inf ok hinf, wl, wc]
          rw [if_neg (by rw [hcond]; exact id)]
          simp only [pure_bind, Sem.run_bind, run_askRoom, Result.andThen_ok, run_sz ok hes, Int.toNat_natCast]
          by_cases h0 : cap * v.cells.size = 0
          · rw [if_pos h0]
            have e1 : (Array.range (cap * v.cells.size)).map (v.cells[· % v.cells.size]!) = #[] := by rw [h0]; simp
            have e2 : (Array.range (cap * v.cells.size)).map ((#[] : Array Value)[· % (#[] : Array Value).size]!) = #[] := by rw [h0]; simp
            rw [e1]
            show Sem.run E.P (do
              let a ← newRow et (Array.map (fun x => (#[] : Array Value)[x % (#[] : Array Value).size]!) (Array.range (cap * v.cells.size)))
              pure (Value.slice (some a) len cap)) W = _
            rw [e2]
            simp [newRow]
          · rw [if_neg h0]
            simp only [Sem.run_bind, hv, Result.andThen_ok]
            simp [newRow]
      · cases h
    · cases h
  · cases h

/-! ### Slicing -/
def VRo (m : Mu) : Option AV → Option Value → Prop
  | none, x => x = none
  | some a, x => ∃ b, x = some b ∧ VR m a b

theorem bound_ok {x : AV} {x' : Value} {n y : Nat} (hx : VR m x x') (h : natOf x = some n) (hle : n ≤ y) (code : BoundsCode) :
    (Instr.sliceBound x' y code).run E.P W = .ok n W := by
  obtain ⟨k, rfl⟩ := natOf_ok hx h
  have : (0 : Int) ≤ n ∧ (n : Int) ≤ y := by omega
  simp [Instr.sliceBound, asIntOf, this]

theorem bounds_ok {sl : Bool} {len cap l h c : Nat} {lo hi mx : Option AV} {lo' hi' mx' : Option Value} (hl : natO 0 lo = some l) (hh : natO len hi = some h) (hm : natO cap mx = some c)
    (rl : VRo m lo lo') (rh : VRo m hi hi') (rm : VRo m mx mx') (h1 : l ≤ h) (h2 : h ≤ c) (h3 : c ≤ cap) (hmh : mx.isSome = true → hi.isSome = true) :
    (Instr.sliceBounds sl len cap lo' hi' mx').run E.P W = .ok (l, h, c) W := by
  cases lo with
  | none =>
    simp only [VRo] at rl; subst rl
    simp only [natO, Option.some.injEq] at hl; subst hl
    cases mx with
    | none =>
      simp only [VRo] at rm; subst rm
      simp only [natO, Option.some.injEq] at hm; subst hm
      cases hi with
      | none =>
        simp only [VRo] at rh; subst rh
        simp only [natO, Option.some.injEq] at hh; subst hh
        simp [Instr.sliceBounds]
      | some b =>
        obtain ⟨b', rfl, hb⟩ := rh
        simp [Instr.sliceBounds, bound_ok (E := E) (W := W) hb hh h2]
    | some a =>
      obtain ⟨a', rfl, ha⟩ := rm
      cases hi with
      | none => simp at hmh
      | some b =>
        obtain ⟨b', rfl, hb⟩ := rh
        simp [Instr.sliceBounds, bound_ok (E := E) (W := W) hb hh h2, bound_ok (E := E) (W := W) ha hm h3]
  | some d =>
    obtain ⟨d', rfl, hd⟩ := rl
    cases mx with
    | none =>
      simp only [VRo] at rm; subst rm
      simp only [natO, Option.some.injEq] at hm; subst hm
      cases hi with
      | none =>
        simp only [VRo] at rh; subst rh
        simp only [natO, Option.some.injEq] at hh; subst hh
        simp [Instr.sliceBounds, bound_ok (E := E) (W := W) hd hl h1]
      | some b =>
        obtain ⟨b', rfl, hb⟩ := rh
        simp [Instr.sliceBounds, bound_ok (E := E) (W := W) hb hh h2, bound_ok (E := E) (W := W) hd hl h1]
    | some a =>
      obtain ⟨a', rfl, ha⟩ := rm
      cases hi with
      | none => simp at hmh
      | some b =>
        obtain ⟨b', rfl, hb⟩ := rh
        simp [Instr.sliceBounds, bound_ok (E := E) (W := W) hb hh h2, bound_ok (E := E) (W := W) ha hm h3, bound_ok (E := E) (W := W) hd hl h1]
end Go.Eng
