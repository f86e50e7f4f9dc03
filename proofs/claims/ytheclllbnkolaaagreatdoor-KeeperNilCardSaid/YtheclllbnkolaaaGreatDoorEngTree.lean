import Derived.Test.YtheclllbnkolaaaGreatDoorEngTop
namespace Go.Eng
open Go

def everyO {α : Type} : List α → List α
  | [] => []
  | [x] => [x]
  | x :: _ :: r => x :: everyO r

namespace T
def ofL {α : Type} : Nat → List α → T α
  | 0, _ => .nil
  | _ + 1, [] => .nil
  | k + 1, x :: r => .node (ofL k (everyO r)) (some x) (ofL k (everyO (r.drop 1)))
end T

theorem everyO_get {α : Type} : ∀ (l : List α) (i : Nat), (everyO l)[i]? = l[2 * i]?
  | [], i => by simp [everyO]
  | [x], i => by
    cases i with
    | zero => rfl
    | succ i => simp [everyO, show 2 * (i + 1) = (2 * i + 1) + 1 by omega]
  | x :: y :: r, i => by
    cases i with
    | zero => rfl
    | succ i => simp [everyO, show 2 * (i + 1) = (2 * i + 1) + 1 by omega, everyO_get r i]

theorem everyO_length {α : Type} : ∀ (l : List α), (everyO l).length ≤ l.length
  | [] => by simp [everyO]
  | [x] => by simp [everyO]
  | x :: y :: r => by have := everyO_length r; simp [everyO]; omega

theorem T.get_ofL {α : Type} : ∀ (k : Nat) (l : List α) (i : Nat), l.length ≤ k → (T.ofL k l).get i = l[i]?
  | 0, l, i, h => by
    have : l = [] := List.length_eq_zero_iff.1 (by omega)
    subst this; simp [T.ofL, T.get]
  | k + 1, [], i, _ => by simp [T.ofL, T.get]
  | k + 1, x :: r, i, h => by
    simp only [T.ofL, T.get_node]
    have h1 := everyO_length r
    have h2 := everyO_length (r.drop 1)
    simp only [List.length_cons, List.length_drop] at h h2
    by_cases h0 : i = 0
    · subst h0; simp
    · rw [if_neg h0]
      by_cases hm : i % 2 = 1
      · rw [if_pos hm, T.get_ofL k _ _ (by omega), everyO_get]
        have : i = 2 * (i / 2) + 1 := by omega
        conv => rhs; rw [this]
        simp
      · rw [if_neg hm, T.get_ofL k _ _ (by omega), everyO_get, List.getElem?_drop]
        have : i = (1 + 2 * (i / 2 - 1)) + 1 := by omega
        conv => rhs; rw [this]
        simp

def okFn (f : Func) : Bool :=
  match f.body with
  | some c => !(f.name == "runtime.NumGoroutine") && goodC c
  | none => true

theorem Env.ok_of {E : Env} (hty : E.ty = T.ofL E.P.types.size E.P.types.toList) (hfn : E.fn = T.ofL E.P.funcs.size E.P.funcs.toList) (hm : E.P.follows .mixedOrders = true) (hb : E.P.funcs.toList.all okFn = true) : E.Ok := by
  have get : ∀ g f, E.fn.get g = some f → E.P.funcs[g]? = some f := fun g f h => by
    rw [hfn, T.get_ofL _ _ _ (by simp)] at h
    simpa using h
  have all : ∀ g f, E.fn.get g = some f → okFn f = true := fun g f h => by
    rw [List.all_eq_true] at hb
    exact hb f (by have := Array.mem_of_getElem? (get g f h); simpa using this)
  refine ⟨fun t i h => ?_, get, fun g f h hbd => ?_, hm, fun g f c h hc => ?_⟩
  · rw [hty, T.get_ofL _ _ _ (by simp)] at h
    have h2 : E.P.types[t]? = some i := by simpa using h
    have h3 : t < E.P.types.size := (Array.getElem?_eq_some_iff.1 h2).1
    show (if t < E.P.types.size then E.P.types[t]? else _) = some i
    rw [if_pos h3]; exact h2
  · have := all g f h
    unfold okFn at this
    obtain ⟨c, hc⟩ := Option.isSome_iff_exists.1 hbd
    rw [hc] at this
    simp only [Bool.and_eq_true, Bool.not_eq_true'] at this
    exact this.1
  · have := all g f h
    unfold okFn at this
    rw [hc] at this
    simp only [Bool.and_eq_true] at this
    exact this.2
end Go.Eng
