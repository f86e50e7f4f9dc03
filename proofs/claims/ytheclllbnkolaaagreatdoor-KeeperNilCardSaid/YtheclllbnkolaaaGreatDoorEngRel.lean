import Derived.Test.YtheclllbnkolaaaGreatDoorEng
namespace Go.Eng
open Go

namespace T
variable {α : Type}
theorem get_left_nil (n : Nat) : (T.nil : T α).get n = none := by simp [T.get]
theorem get_node (l : T α) (v : Option α) (r : T α) (n : Nat) :
    (T.node l v r).get n = if n = 0 then v else if n % 2 = 1 then l.get (n / 2) else r.get (n / 2 - 1) := by
  simp only [T.get, cond_eq_ite, Nat.beq_eq]
theorem get_parts (t : T α) (n : Nat) : t.get n = if n = 0 then t.val else if n % 2 = 1 then t.left.get (n / 2) else t.right.get (n / 2 - 1) := by
  cases t with
  | nil => simp [T.get, T.val, T.left, T.right]
  | node l v r => rw [get_node]; rfl
theorem get_setF (k : Nat) : ∀ (t : T α) (n j : Nat) (v : Option α), n < k → (setF k t n v).get j = if j = n then v else t.get j := by
  induction k with
  | zero => intro t n j v h; omega
  | succ k ih =>
    intro t n j v h
    simp only [setF, cond_eq_ite, Nat.beq_eq]
    by_cases h0 : n = 0
    · subst h0
      rw [if_pos rfl, get_node, get_parts t j]
      by_cases hj : j = 0 <;> simp [hj]
    · rw [if_neg h0]
      by_cases h1 : n % 2 = 1
      · rw [if_pos h1, get_node, get_parts t j]
        by_cases hj : j = 0
        · subst hj; simp; omega
        · rw [if_neg hj, if_neg hj]
          by_cases hj1 : j % 2 = 1
          · rw [if_pos hj1, if_pos hj1, ih _ _ _ _ (by omega)]
            by_cases he : j = n
            · subst he; simp
            · rw [if_neg he, if_neg (by omega)]
          · rw [if_neg hj1, if_neg hj1, if_neg (by omega)]
      · rw [if_neg h1, get_node, get_parts t j]
        by_cases hj : j = 0
        · subst hj; simp; omega
        · rw [if_neg hj, if_neg hj]
          by_cases hj1 : j % 2 = 1
          · rw [if_pos hj1, if_pos hj1, if_neg (by omega)]
          · rw [if_neg hj1, if_neg hj1, ih _ _ _ _ (by omega)]
            by_cases he : j = n
            · subst he; simp
            · rw [if_neg he, if_neg (by omega)]
theorem get_set (t : T α) (n j : Nat) (v : α) : (t.set n v).get j = if j = n then some v else t.get j := get_setF _ _ _ _ _ (Nat.lt_succ_self n)
theorem get_del (t : T α) (n j : Nat) : (t.del n).get j = if j = n then none else t.get j := get_setF _ _ _ _ _ (Nat.lt_succ_self n)
end T

/-! ### How abstract values stand to the machine's -/
structure Pl where
  blk : Nat
  off : Nat
  cap : Nat

abbrev Mu := Nat → Option Pl

def CapR (p : Pl) : Cap → Nat → Prop
  | .ex c, c' => c' = c
  | .en d, c' => c' = p.cap - d

mutual
def VR (m : Mu) : AV → Value → Prop
  | .s v, v' => v' = v
  | .ptr i o, v' => ∃ p, m i = some p ∧ v' = .pointer (some ⟨p.blk, p.off + o, none⟩)
  | .slc i o n c, v' => ∃ p, m i = some p ∧ ∃ o' c', v' = .slice (some ⟨p.blk, o', none⟩) n c' ∧ CapR p c c' ∧ n ≤ c' ∧ (c' = 0 ∨ o' = p.off + o)
  | .mp i, v' => ∃ p, m i = some p ∧ v' = .map (some p.blk)
  | .fn f a b, v' => ∃ as bs, VRL m a as ∧ VRL m b bs ∧ v' = .func f as.toArray bs.toArray
  | .yld l, v' => ∃ p, m l = some p ∧ v' = .func (.yield p.blk) #[] #[]
  | .ifc t x, v' => ∃ y, VR m x y ∧ v' = .iface t y
  | .agg cs, v' => ∃ vs, VRL m cs vs ∧ v' = .agg vs.toArray
  | .tup cs, v' => ∃ vs, VRL m cs vs ∧ v' = .tuple vs.toArray
def VRL (m : Mu) : List AV → List Value → Prop
  | [], vs => vs = []
  | x :: xs, vs => ∃ y ys, vs = y :: ys ∧ VR m x y ∧ VRL m xs ys
end

def Ext (m m' : Mu) : Prop := ∀ i p, m i = some p → m' i = some p

theorem Ext.refl (m : Mu) : Ext m m := fun _ _ h => h
theorem Ext.trans {a b c : Mu} (h : Ext a b) (k : Ext b c) : Ext a c := fun i p e => k i p (h i p e)

mutual
theorem VR.mono {m m' : Mu} (h : Ext m m') : ∀ (x : AV) (v : Value), VR m x v → VR m' x v
  | .s _, _, e => e
  | .ptr _ _, _, ⟨p, e, f⟩ => ⟨p, h _ _ e, f⟩
  | .slc _ _ _ _, _, ⟨p, e, f⟩ => ⟨p, h _ _ e, f⟩
  | .mp _, _, ⟨p, e, f⟩ => ⟨p, h _ _ e, f⟩
  | .fn _ a b, _, ⟨as, bs, ha, hb, e⟩ => ⟨as, bs, VRL.mono h a as ha, VRL.mono h b bs hb, e⟩
  | .yld _, _, ⟨p, e, f⟩ => ⟨p, h _ _ e, f⟩
  | .ifc _ x, _, ⟨y, hy, e⟩ => ⟨y, VR.mono h x y hy, e⟩
  | .agg cs, _, ⟨vs, hv, e⟩ => ⟨vs, VRL.mono h cs vs hv, e⟩
  | .tup cs, _, ⟨vs, hv, e⟩ => ⟨vs, VRL.mono h cs vs hv, e⟩
theorem VRL.mono {m m' : Mu} (h : Ext m m') : ∀ (x : List AV) (v : List Value), VRL m x v → VRL m' x v
  | [], _, e => e
  | x :: xs, _, ⟨y, ys, e, hx, hxs⟩ => ⟨y, ys, e, VR.mono h x y hx, VRL.mono h xs ys hxs⟩
end

mutual
theorem toV_VR {m : Mu} : ∀ (x : AV) (v v' : Value), toV x = some v → VR m x v' → v' = v
  | .s _, _, _, e, h => by simp only [toV, Option.some.injEq] at e; subst e; exact h
  | .ptr _ _, _, _, e, _ => by simp [toV] at e
  | .slc _ _ _ _, _, _, e, _ => by simp [toV] at e
  | .mp _, _, _, e, _ => by simp [toV] at e
  | .yld _, _, _, e, _ => by simp [toV] at e
  | .fn f a b, v, v', e, h => by
    obtain ⟨as, bs, ha, hb, rfl⟩ := h
    simp only [toV] at e
    cases h1 : toVL a with
    | none => simp [h1] at e
    | some a' => cases h2 : toVL b with
      | none => simp [h1, h2] at e
      | some b' =>
        simp only [h1, h2, Option.some.injEq] at e
        rw [toVL_VRL a a' as h1 ha, toVL_VRL b b' bs h2 hb, e]
  | .ifc t x, v, v', e, h => by
    obtain ⟨y, hy, rfl⟩ := h
    simp only [toV, Option.map_eq_some_iff] at e
    obtain ⟨u, hu, rfl⟩ := e
    rw [toV_VR x u y hu hy]
  | .agg cs, v, v', e, h => by
    obtain ⟨vs, hv, rfl⟩ := h
    simp only [toV, Option.map_eq_some_iff] at e
    obtain ⟨u, hu, rfl⟩ := e
    rw [toVL_VRL cs u vs hu hv]
  | .tup cs, v, v', e, h => by
    obtain ⟨vs, hv, rfl⟩ := h
    simp only [toV, Option.map_eq_some_iff] at e
    obtain ⟨u, hu, rfl⟩ := e
    rw [toVL_VRL cs u vs hu hv]
theorem toVL_VRL {m : Mu} : ∀ (x : List AV) (v v' : List Value), toVL x = some v → VRL m x v' → v' = v
  | [], v, v', e, h => by simp only [toVL, Option.some.injEq] at e; subst e; exact h
  | x :: xs, v, v', e, h => by
    obtain ⟨y, ys, rfl, hx, hxs⟩ := h
    simp only [toVL] at e
    cases h1 : toV x with
    | none => simp [h1] at e
    | some a' => cases h2 : toVL xs with
      | none => simp [h1, h2] at e
      | some b' =>
        simp only [h1, h2, Option.some.injEq] at e
        rw [toV_VR x a' y h1 hx, toVL_VRL xs b' ys h2 hxs, e]
end

/-! Lists of values, by place. -/
theorem VRL.nil_iff {m : Mu} {vs : List Value} : VRL m [] vs ↔ vs = [] := by simp [VRL]
theorem VRL.length {m : Mu} : ∀ {xs : List AV} {vs : List Value}, VRL m xs vs → vs.length = xs.length
  | [], vs, h => by simp [VRL] at h; simp [h]
  | x :: xs, vs, h => by obtain ⟨y, ys, rfl, _, h⟩ := h; simp [VRL.length h]
theorem VRL.cons {m : Mu} {x : AV} {v : Value} {xs : List AV} {vs : List Value} (h : VR m x v) (k : VRL m xs vs) : VRL m (x :: xs) (v :: vs) := ⟨v, vs, rfl, h, k⟩
theorem VRL.append {m : Mu} : ∀ {xs ys : List AV} {vs us : List Value}, VRL m xs vs → VRL m ys us → VRL m (xs ++ ys) (vs ++ us)
  | [], _, _, _, h, k => by simp [VRL] at h; subst h; exact k
  | x :: xs, _, _, _, ⟨y, ys, e, hx, hxs⟩, k => by subst e; exact ⟨y, _, rfl, hx, hxs.append k⟩
theorem VRL.get {m : Mu} : ∀ {xs : List AV} {vs : List Value}, VRL m xs vs → ∀ (k : Nat) (x : AV), xs[k]? = some x → ∃ v, vs[k]? = some v ∧ VR m x v
  | [], _, _, k, x, e => by simp at e
  | y :: ys, _, ⟨v, vs, rfl, hx, hxs⟩, 0, x, e => by simp at e; subst e; exact ⟨v, by simp, hx⟩
  | y :: ys, _, ⟨v, vs, rfl, hx, hxs⟩, k + 1, x, e => by simp at e; obtain ⟨u, hu, h⟩ := VRL.get hxs k x e; exact ⟨u, by simpa using hu, h⟩
theorem VRL.drop {m : Mu} : ∀ {xs : List AV} {vs : List Value} (k : Nat), VRL m xs vs → VRL m (xs.drop k) (vs.drop k)
  | xs, vs, 0, h => by simpa using h
  | [], vs, k + 1, h => by simp [VRL] at h; simp [h, VRL]
  | x :: xs, _, k + 1, ⟨y, ys, e, _, hxs⟩ => by subst e; simpa using hxs.drop k
theorem VRL.take {m : Mu} : ∀ {xs : List AV} {vs : List Value} (k : Nat), VRL m xs vs → VRL m (xs.take k) (vs.take k)
  | xs, vs, 0, h => by simp [VRL]
  | [], vs, k + 1, h => by simp [VRL] at h; simp [h, VRL]
  | x :: xs, _, k + 1, ⟨y, ys, e, hx, hxs⟩ => by subst e; simp only [List.take_succ_cons]; exact ⟨y, _, rfl, hx, hxs.take k⟩
theorem VRL.spl {m : Mu} {xs : List AV} {vs : List Value} (o k : Nat) (h : VRL m xs vs) : VRL m (Eng.spl o k xs) (Eng.spl o k vs) := (h.drop o).take k
theorem VRL.map_s {m : Mu} : ∀ (vs : List Value), VRL m (vs.map .s) vs
  | [] => by simp [VRL]
  | v :: vs => ⟨v, vs, rfl, rfl, VRL.map_s vs⟩
theorem VRL.of_map {m : Mu} {ρ : Operand → AV} {σ : Operand → Value} (h : ∀ x, VR m (ρ x) (σ x)) : ∀ (l : List Operand), VRL m (l.map ρ) (l.map σ)
  | [] => by simp [VRL]
  | x :: xs => ⟨σ x, _, rfl, h x, VRL.of_map h xs⟩
theorem VRL.reverse {m : Mu} : ∀ {xs : List AV} {vs : List Value}, VRL m xs vs → VRL m xs.reverse vs.reverse
  | [], _, h => by simp [VRL] at h; simp [h, VRL]
  | x :: xs, _, ⟨y, ys, e, hx, hxs⟩ => by subst e; simp only [List.reverse_cons]; exact hxs.reverse.append (VRL.cons hx (by simp [VRL]))

/-- A value's cells. -/
theorem cellsA_VR {m : Mu} {x : AV} {v : Value} (h : VR m x v) : VRL m (cellsA x) v.cells.toList := by
  cases x with
  | agg cs => obtain ⟨vs, hv, rfl⟩ := h; simpa [cellsA, Value.cells] using hv
  | s u =>
    obtain rfl : v = u := h
    cases v <;> first
      | (simp only [cellsA, Value.cells]; exact VRL.map_s _)
      | (simp only [cellsA, Value.cells]; exact ⟨_, [], rfl, rfl, by simp [VRL]⟩)
  | ptr i o => obtain ⟨p, hp, rfl⟩ := h; exact ⟨_, [], rfl, ⟨p, hp, rfl⟩, by simp [VRL]⟩
  | slc i o n c => obtain ⟨p, hp, o', c', rfl, hr⟩ := h; exact ⟨_, [], rfl, ⟨p, hp, o', c', rfl, hr⟩, by simp [VRL]⟩
  | mp i => obtain ⟨p, hp, rfl⟩ := h; exact ⟨_, [], rfl, ⟨p, hp, rfl⟩, by simp [VRL]⟩
  | fn f a b => obtain ⟨as, bs, ha, hb, rfl⟩ := h; exact ⟨_, [], rfl, ⟨as, bs, ha, hb, rfl⟩, by simp [VRL]⟩
  | yld l => obtain ⟨p, hp, rfl⟩ := h; exact ⟨_, [], rfl, ⟨p, hp, rfl⟩, by simp [VRL]⟩
  | ifc t x => obtain ⟨y, hy, rfl⟩ := h; exact ⟨_, [], rfl, ⟨y, hy, rfl⟩, by simp [VRL]⟩
  | tup cs => obtain ⟨vs, hv, rfl⟩ := h; exact ⟨_, [], rfl, ⟨vs, hv, rfl⟩, by simp [VRL]⟩
end Go.Eng
