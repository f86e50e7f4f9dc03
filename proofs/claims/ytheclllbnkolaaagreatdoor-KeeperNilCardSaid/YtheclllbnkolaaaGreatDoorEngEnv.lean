import Derived.Test.YtheclllbnkolaaaGreatDoorEngMem
namespace Go.Eng
open Go

structure Env.Ok (E : Env) : Prop where
  ty : ∀ t i, E.ty.get t = some i → E.P.info? t = some i
  fn : ∀ g f, E.fn.get g = some f → E.P.funcs[g]? = some f
  go : ∀ g f, E.fn.get g = some f → f.body.isSome = true → (f.name == "runtime.NumGoroutine") = false
  mixed : E.P.follows .mixedOrders = true
  good : ∀ g f c, E.fn.get g = some f → f.body = some c → goodC c = true

variable {E : Env}

theorem Env.Ok.inf {t : TypeId} {i : TypeInfo} (ok : E.Ok) (h : E.inf t = some i) : E.P.info? t = some i := ok.ty t i h

theorem Env.Ok.und {t : TypeId} {d : TypeDesc} (ok : E.Ok) (h : E.und t = some d) : E.P.underlying t = some d := by
  unfold Env.und at h
  cases h1 : E.ty.get t with
  | none => simp [h1] at h
  | some i =>
    have hi := ok.ty t i h1
    rw [h1] at h
    unfold Program.underlying
    rw [hi]
    obtain ⟨ds, a1, a2, a3, a4, a5, a6, a7, a8, a9⟩ := i
    cases ds with
    | named n u =>
      simp only at h
      cases h2 : E.ty.get u with
      | none => simp [h2] at h
      | some j =>
        simp only [h2, Option.some.injEq] at h
        simp [ok.ty u j h2, h]
    | _ => simpa using h

theorem run_und (ok : E.Ok) {t : TypeId} {d : TypeDesc} (h : E.und t = some d) (W : World) : (underlying t).run E.P W = .ok d W := by
  simp [underlying, ok.und h]
theorem run_inf (ok : E.Ok) {t : TypeId} {i : TypeInfo} (h : E.inf t = some i) (W : World) : (typeInfo t).run E.P W = .ok i W := by
  simp [typeInfo, ok.inf h]
theorem run_sz (ok : E.Ok) {t : TypeId} {n : Nat} (h : szOf E t = some n) (W : World) : (sizeOf t).run E.P W = .ok n W := by
  simp only [szOf, Option.map_eq_some_iff] at h
  obtain ⟨i, hi, rfl⟩ := h
  simp [sizeOf, run_inf ok hi]
theorem run_agg (ok : E.Ok) {t : TypeId} {b : Bool} (h : aggT E t = some b) (W : World) : (isAgg t).run E.P W = .ok b W := by
  simp only [aggT, Option.map_eq_some_iff] at h
  obtain ⟨d, hd, rfl⟩ := h
  cases d <;> simp [isAgg, run_und ok hd]
theorem run_zero (ok : E.Ok) {t : TypeId} {z : List AV} (h : zeroA E t = some z) : ∃ v : Value, z = v.cells.toList.map .s ∧ ∀ W : World, (zeroValue t).run E.P W = .ok v W := by
  simp only [zeroA, Option.map_eq_some_iff, Option.bind_eq_some_iff] at h
  obtain ⟨v, ⟨i, hi, hz⟩, rfl⟩ := h
  exact ⟨v, rfl, fun W => by simp [zeroValue, run_inf ok hi, hz]⟩

/-! What needs no memory. -/
theorem quiet_run {P : Program} {α : Type} : ∀ (s : Sem α) (a : α), quiet P s = some a → ∀ W, s.run P W = .ok a W
  | .pure a, b, h, W => by simp only [quiet, Option.some.injEq] at h; subst h; rfl
  | .program k, b, h, W => by simp only [quiet] at h; simp only [Sem.run]; exact quiet_run (k P) b h W
  | .mark _ k, b, h, W => by simp only [quiet] at h; simp only [Sem.run]; exact quiet_run k b h W
  | .load .., _, h, _ => by simp [quiet] at h
  | .store .., _, h, _ => by simp [quiet] at h
  | .new .., _, h, _ => by simp [quiet] at h
  | .shape .., _, h, _ => by simp [quiet] at h
  | .freeze .., _, h, _ => by simp [quiet] at h
  | .frozen .., _, h, _ => by simp [quiet] at h
  | .getObj .., _, h, _ => by simp [quiet] at h
  | .setObj .., _, h, _ => by simp [quiet] at h
  | .choose .., _, h, _ => by simp [quiet] at h
  | .sys .., _, h, _ => by simp [quiet] at h
  | .halt .., _, h, _ => by simp [quiet] at h

theorem addAt (b o k : Nat) : (⟨b, o, none⟩ : Addr).add k = ⟨b, o + k, none⟩ := by
  unfold Addr.add; split <;> simp_all

/-! ### What an operation has to be -/
/-- It hands back a value and leaves all as it is. -/
def ValOk (E : Env) (m : Mu) (w : Hp) (W : World) (r : OR) (s : Sem Value) : Prop :=
  ∃ v v', r = .val v w ∧ s.run E.P W = .ok v' W ∧ VR m v v'

/-- It makes one block. -/
def AllocOk (E : Env) (m : Mu) (W : World) (s : Sem Value) (mk : Nat → AV) (blk : AB) : Prop :=
  ∃ v' W' p, s.run E.P W = .ok v' W' ∧ p.blk = W.heap.size ∧ (∀ b, b < W.heap.size → W'.heap[b]? = W.heap[b]?) ∧ W'.os = W.os ∧ W'.tape = W.tape ∧ W'.output = W.output ∧
    W.heap.size ≤ W'.heap.size ∧ ∀ m' i, Ext m m' → m' i = some p → VR m' (mk i) v' ∧ BR m' W' p blk

/-- It does something. -/
def DoOk (E : Env) (m : Mu) (w : Hp) (W : World) (r : OR) (s : Sem Value) : Prop :=
  ∃ v w' m' v' W', r = .val v w' ∧ s.run E.P W = .ok v' W' ∧ VR m' v v' ∧ Step m w.h w.nx W m' w'.h w'.nx W'
def UnitOk (E : Env) (m : Mu) (w : Hp) (W : World) (r : OR) (s : Sem Unit) : Prop :=
  ∃ w' m' W', r = .skip w' ∧ s.run E.P W = .ok () W' ∧ Step m w.h w.nx W m' w'.h w'.nx W'

theorem ValOk.doOk {m : Mu} {w : Hp} {W : World} {r : OR} {s : Sem Value} (h : ValOk E m w W r s) (g : Gam m w.h W) (f : Fresh m w.nx) : DoOk E m w W r s := by
  obtain ⟨v, v', hr, hs, hv⟩ := h
  exact ⟨v, w, m, v', W, hr, hs, hv, Step.refl g f⟩

theorem AllocOk.doOk {m : Mu} {w : Hp} {W : World} {s : Sem Value} {mk : Nat → AV} {blk : AB} (h : AllocOk E m W s mk blk) (g : Gam m w.h W) (f : Fresh m w.nx) :
    DoOk E m w W (.val (mk w.nx) ⟨w.h.set w.nx blk, w.nx + 1⟩) s := by
  obtain ⟨v', W', p, hs, hp, hold, ho, ht, hu, hsz, hm⟩ := h
  obtain ⟨hv, hb⟩ := hm (upd m w.nx p) w.nx (upd_ext (f _ (Nat.le_refl _))) (upd_same _ _ _)
  exact ⟨_, _, upd m w.nx p, v', W', rfl, hs, hv, Step.new g f hold ho ht hu hsz (by omega) hb⟩

/-! ### Reading -/
theorem spl_get {α : Type} (o n : Nat) (l : List α) (j : Nat) (x : α) (h : (spl o n l)[j]? = some x) : l[o + j]? = some x ∧ j < n := by
  unfold spl at h
  rw [List.getElem?_take] at h
  split at h
  · rename_i hj; rw [List.getElem?_drop] at h; exact ⟨h, hj⟩
  · cases h

theorem list_of {m : Mu} {f : Nat → Value → Prop} : ∀ (l : List AV), (∀ k x, l[k]? = some x → ∃ y, f k y ∧ VR m x y) → ∃ ys : List Value, VRL m l ys ∧ ∀ k y, ys[k]? = some y → f k y := by
  intro l
  induction l generalizing f with
  | nil => intro _; exact ⟨[], by simp [VRL], by simp⟩
  | cons x xs ih =>
    intro h
    obtain ⟨y, hy, hv⟩ := h 0 x (by simp)
    obtain ⟨ys, h1, h2⟩ := ih (f := fun k y => f (k + 1) y) (fun k z e => h (k + 1) z (by simpa using e))
    refine ⟨y :: ys, ⟨y, ys, rfl, hv, h1⟩, fun k z e => ?_⟩
    cases k with
    | zero => simp at e; subst e; exact hy
    | succ k => simp at e; exact h2 k z e

theorem readA_ok (ok : E.Ok) {m : Mu} {w : Hp} {W : World} {t : TypeId} {i off : Nat} {v : AV} (g : Gam m w.h W) (h : readA E w t i off = some v) :
    ∃ p v', m i = some p ∧ (loadVar t ⟨p.blk, p.off + off, none⟩).run E.P W = .ok v' W ∧ VR m v v' := by
  unfold readA at h
  split at h
  · rename_i vs _ _ _ n hg hag hsz
    simp only [cond_eq_ite, Nat.beq_eq] at h
    split at h
    · rename_i hl
      simp only [Option.some.injEq] at h
      subst h
      obtain ⟨p, hp, hb⟩ := g.dom _ _ hg
      obtain ⟨ys, h1, h2⟩ := list_of (m := m) (f := fun k y => W.cell? ((⟨p.blk, p.off + off, none⟩ : Addr).add k) = some y) (spl off n vs) (fun k x e => by
        obtain ⟨e', _⟩ := spl_get _ _ _ _ _ e
        obtain ⟨y, hy, hv⟩ := hb.1 _ _ e'
        exact ⟨y, by rw [addAt]; rw [← hy, Nat.add_assoc], hv⟩)
      have hlen : ys.length = n := by rw [h1.length]; exact hl
      have := run_loadCells_list (P := E.P) W ⟨p.blk, p.off + off, none⟩ ys h2
      rw [hlen] at this
      exact ⟨p, .agg ys.toArray, hp, by simp [loadVar, run_agg ok hag, run_sz ok hsz, this], ⟨ys, h1, rfl⟩⟩
    · cases h
  · rename_i vs _ _ _ hg hag
    obtain ⟨p, hp, hb⟩ := g.dom _ _ hg
    obtain ⟨y, hy, hv⟩ := hb.1 _ _ h
    have hy' : W.cell? ⟨p.blk, p.off + off, none⟩ = some y := hy
    exact ⟨p, y, hp, by simp [loadVar, run_agg ok hag, hy'], hv⟩
  · cases h

theorem opLoad_ok (ok : E.Ok) {m : Mu} {w : Hp} {W : World} {t : TypeId} {a : AV} {a' : Value} {r : OR} (g : Gam m w.h W) (ha : VR m a a') (h : opLoad E w t a = some r) :
    ValOk E m w W r (Instr.loadAt t a') := by
  unfold opLoad at h
  split at h
  · rename_i i off
    simp only [Option.map_eq_some_iff] at h
    obtain ⟨v, hv, rfl⟩ := h
    obtain ⟨p, v', hp, hr, hv'⟩ := readA_ok ok g hv
    obtain ⟨q, hq, rfl⟩ := ha
    rw [hp] at hq; cases hq
    exact ⟨v, v', rfl, by simp [Instr.loadAt, Instr.sureAddr, hr], hv'⟩
  · cases h
end Go.Eng
