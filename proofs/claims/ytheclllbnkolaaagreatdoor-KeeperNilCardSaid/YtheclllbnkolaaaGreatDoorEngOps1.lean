import Derived.Test.YtheclllbnkolaaaGreatDoorEngEnv
namespace Go.Eng
open Go
variable {E : Env} {m : Mu} {w : Hp} {W : World}

theorem VRL.of_get : ∀ {xs : List AV} {vs : List Value}, vs.length = xs.length → (∀ (k : Nat) (x : AV), xs[k]? = some x → ∃ v, vs[k]? = some v ∧ VR m x v) → VRL m xs vs
  | [], [], _, _ => by simp [VRL]
  | [], _ :: _, h, _ => by simp at h
  | _ :: _, [], h, _ => by simp at h
  | x :: xs, v :: vs, h, k => by
    obtain ⟨u, hu, hx⟩ := k 0 x (by simp)
    simp at hu; subst hu
    exact ⟨v, vs, rfl, hx, VRL.of_get (by simpa using h) (fun j y e => by
      obtain ⟨u, hu, hy⟩ := k (j + 1) y (by simpa using e)
      exact ⟨u, by simpa using hu, hy⟩)⟩

theorem putL_get : ∀ (old : List AV) (o : Nat) (new r : List AV), putL old o new = some r →
    r.length = old.length ∧ (new = [] ∨ o + new.length ≤ old.length) ∧ ∀ k, r[k]? = if o ≤ k ∧ k < o + new.length then new[k - o]? else old[k]?
  | old, o, [], r, h => by
    have : r = old := by cases old <;> simp [putL] at h <;> first | exact h | exact h.symm
    subst this
    refine ⟨rfl, .inl rfl, fun k => ?_⟩
    rw [if_neg (by simp)]
  | [], o, x :: xs, r, h => by simp [putL] at h
  | a :: as, 0, x :: xs, r, h => by
    simp only [putL, Option.map_eq_some_iff] at h
    obtain ⟨r', h', rfl⟩ := h
    obtain ⟨h1, h2, h3⟩ := putL_get as 0 xs r' h'
    refine ⟨by simp [h1], .inr ?_, fun k => ?_⟩
    · rcases h2 with h2 | h2
      · subst h2; simp
      · simp at h2 ⊢; omega
    · cases k with
      | zero => simp
      | succ k =>
        have := h3 k
        simp only [List.getElem?_cons_succ, this]
        by_cases hk : k < xs.length
        · rw [if_pos (by omega), if_pos (by simp; omega)]; simp
        · rw [if_neg (by omega), if_neg (by simp; omega)]
  | a :: as, o + 1, x :: xs, r, h => by
    simp only [putL, Option.map_eq_some_iff] at h
    obtain ⟨r', h', rfl⟩ := h
    obtain ⟨h1, h2, h3⟩ := putL_get as o (x :: xs) r' h'
    refine ⟨by simp [h1], .inr ?_, fun k => ?_⟩
    · rcases h2 with h2 | h2
      · cases h2
      · simp at h2 ⊢; omega
    · cases k with
      | zero => simp
      | succ k =>
        have := h3 k
        simp only [List.getElem?_cons_succ, this]
        by_cases hk : o ≤ k ∧ k < o + (x :: xs).length
        · rw [if_pos hk, if_pos (by simp at hk ⊢; omega)]; congr 1; omega
        · rw [if_neg hk, if_neg (by simp at hk ⊢; omega)]

/-! ### A new row of cells -/
theorem BR_alloc {cs : Array Value} {et et' : TypeId} {es : Nat} {xs : List AV} {p : Pl} {op : Bool} (hp : p.blk = W.heap.size) (ho : p.off = 0)
    (hx : ∀ (k : Nat) (x : AV), xs[k]? = some x → ∃ y, cs[k]? = some y ∧ VR m x y) (h1 : xs.length ≤ span p xs.length es op) (h2 : span p xs.length es op ≤ cs.size) :
    BR m (W.alloc (.cells cs et')) p (.cells xs et es op) := by
  have hc : ∀ k, (W.alloc (.cells cs et')).cell? ⟨p.blk, p.off + k, none⟩ = cs[k]? := fun k => by rw [hp, ho]; simp
  have hf : ∀ k, (W.alloc (.cells cs et')).frozen? ⟨p.blk, k, none⟩ = false := fun k => by rw [hp]; simp
  refine ⟨fun k x e => ?_, h1, fun k hk => ⟨?_, hf _⟩, by rw [hp]; simp, fun _ => ⟨⟨(et', cs.size), ?_⟩, hf⟩⟩
  · rw [hc]; exact hx k x e
  · rw [hc, Array.getElem?_eq_getElem (by omega)]; rfl
  · rw [hp]; show World.shape? { W with heap := W.heap.push _ } _ = _; simp only [World.shape?]; simp

theorem alloc_ok {s : Sem Value} {cs : Array Value} {et et' : TypeId} {es : Nat} {xs : List AV} {mk : Nat → AV} {v' : Value}
    (hs : s.run E.P W = .ok v' (W.alloc (.cells cs et'))) (hx : VRL m xs cs.toList)
    (hv : ∀ m' i, Ext m m' → m' i = some ⟨W.heap.size, 0, 0⟩ → VR m' (mk i) v') : AllocOk E m W s mk (.cells xs et es false) := by
  refine ⟨v', _, ⟨W.heap.size, 0, 0⟩, hs, rfl, fun b hb => Go.RowKit.Below.heap_alloc _ _ _ hb, rfl, rfl, rfl, by simp, fun m' i he hi => ⟨hv m' i he hi, ?_⟩⟩
  have hl : cs.size = xs.length := by rw [← hx.length]; simp
  refine BR_alloc rfl rfl (fun k x e => ?_) (by simp [span]) (by simp [span, hl])
  obtain ⟨y, hy, h⟩ := hx.get k x e
  exact ⟨y, by simpa using hy, VR.mono he _ _ h⟩

def ShapeA (f : Hp → Option OR) (mk : Nat → AV) (blk : AB) : Prop := ∀ w : Hp, f w = some (.val (mk w.nx) ⟨w.h.set w.nx blk, w.nx + 1⟩)

theorem opAlloc_ok (ok : E.Ok) {et : TypeId} {r : OR} (h : opAlloc E w et = some r) :
    ∃ mk blk, ShapeA (fun w => opAlloc E w et) mk blk ∧ ∀ (m : Mu) (W : World), AllocOk E m W (Instr.alloc et true (.tuple #[])) mk blk := by
  unfold opAlloc at h
  split at h
  · rename_i z es hz hes
    obtain ⟨v, rfl, hv⟩ := run_zero ok hz
    refine ⟨fun i => .ptr i 0, .cells (v.cells.toList.map .s) et es false, fun w => by simp [opAlloc, hz, hes, newCells], fun m W => ?_⟩
    refine alloc_ok (cs := v.cells) (et' := et) (v' := .pointer (some ⟨W.heap.size, 0, none⟩)) ?_ (VRL.map_s _) (fun m' i _ hi => ⟨_, hi, by simp⟩)
    simp [Instr.alloc, hv, newVar, newRow]
  · cases h

theorem opBox_ok {et : TypeId} {x : AV} {r : OR} (h : opBox E w et x = some r) :
    ∃ mk blk, ShapeA (fun w => opBox E w et x) mk blk ∧ ∀ (m : Mu) (W : World) (x' : Value), VR m x x' → AllocOk E m W (Instr.box et x') mk blk := by
  unfold opBox at h
  split at h
  · rename_i es hes
    refine ⟨fun i => .ptr i 0, .cells (cellsA x) et es false, fun w => by simp [opBox, hes, newCells], fun m W x' hx => ?_⟩
    refine alloc_ok (cs := x'.cells) (et' := et) (v' := .pointer (some ⟨W.heap.size, 0, none⟩)) ?_ (cellsA_VR hx) (fun m' i _ hi => ⟨_, hi, by simp⟩)
    simp [Instr.box, newVar, newRow]
  · cases h

/-! ### Filling in -/
theorem foldl_put (off : Nat) : ∀ (l : List Value) (j : Nat) (a : Array Value), off + j + l.length ≤ a.size →
    ((l.zipIdx j).foldl (fun cs (x : Value × Nat) => cs.setIfInBounds (off + x.2) x.1) a).size = a.size ∧
    ∀ k, ((l.zipIdx j).foldl (fun cs (x : Value × Nat) => cs.setIfInBounds (off + x.2) x.1) a)[k]? = if off + j ≤ k ∧ k < off + j + l.length then l[k - (off + j)]? else a[k]?
  | [], j, a, _ => by refine ⟨rfl, fun k => ?_⟩; rw [if_neg (by simp)]; rfl
  | x :: xs, j, a, h => by
    simp only [List.zipIdx_cons, List.foldl_cons]
    obtain ⟨h1, h2⟩ := foldl_put off xs (j + 1) (a.setIfInBounds (off + j) x) (by simp at h ⊢; omega)
    refine ⟨by rw [h1]; simp, fun k => ?_⟩
    rw [h2]
    simp only [List.length_cons] at h ⊢
    by_cases hk : k = off + j
    · subst hk
      rw [if_neg (by omega), if_pos (by omega)]
      rw [Array.getElem?_setIfInBounds_self_of_lt (by omega)]
      simp
    · rw [Array.getElem?_setIfInBounds_ne (by omega)]
      by_cases hk2 : off + (j + 1) ≤ k ∧ k < off + (j + 1) + xs.length
      · rw [if_pos hk2, if_pos (by omega)]
        have : k - (off + j) = (k - (off + (j + 1))) + 1 := by omega
        rw [this]; simp
      · rw [if_neg hk2, if_neg (by omega)]

theorem fillA_ok {place : Nat → Option (Nat × Nat)} {places : List (Nat × Nat)} (hp : ∀ (i : Nat) (x : Nat × Nat), places[i]? = some x → place i = some x) :
    ∀ (parts : List (Nat × AV)) (parts' : List (Nat × Value)) (cells r : List AV) (cells' : Array Value),
      (∀ (i : Nat) (x : Nat × AV), parts[i]? = some x → ∃ y : Nat × Value, parts'[i]? = some y ∧ y.1 = x.1 ∧ VR m x.2 y.2) → parts'.length = parts.length → VRL m cells cells'.toList →
      fillA places cells parts = some r → ∃ r', Instr.fill place cells' parts' = some r' ∧ VRL m r r'.toList
  | [], parts', cells, r, cells', _, hl, hc, h => by
    have : parts' = [] := by simpa using hl
    subst this
    simp only [fillA, Option.some.injEq] at h
    subst h
    exact ⟨cells', rfl, hc⟩
  | (i, v) :: rest, [], _, _, _, _, hl, _, _ => by simp at hl
  | (i, v) :: rest, (i', v') :: rest', cells, r, cells', hx, hl, hc, h => by
    obtain ⟨y, hy, h1, h2⟩ := hx 0 (i, v) (by simp)
    simp at hy; subst hy
    simp only at h1 h2; subst h1
    simp only [fillA] at h
    split at h
    · cases h
    · rename_i off size hpl
      simp only [cond_eq_ite, Bool.and_eq_true, Nat.beq_eq, Nat.ble_eq] at h
      split at h
      · rename_i hsz
        obtain ⟨hsz, hbd⟩ := hsz
        split at h
        · rename_i c hput
          have hcv := cellsA_VR h2
          have hlen : v'.cells.size = size := by have := hcv.length; simp at this; omega
          obtain ⟨g1, g2, g3⟩ := putL_get _ _ _ _ hput
          have hcl : cells'.size = cells.length := by have := hc.length; simpa using this
          have hz : off + v'.cells.size ≤ cells'.size := by omega
          simp only [Instr.fill, hp _ _ hpl]
          · rw [if_neg (by simp [hlen]; omega)]
            obtain ⟨f1, f2⟩ := foldl_put off v'.cells.toList 0 cells' (by simp; omega)
            have e : (v'.cells.zipIdx.foldl (fun cs (x : Value × Nat) => cs.setIfInBounds (off + x.2) x.1) cells') = ((v'.cells.toList.zipIdx 0).foldl (fun cs (x : Value × Nat) => cs.setIfInBounds (off + x.2) x.1) cells') := by
              rw [← Array.foldl_toList, Array.toList_zipIdx]
            rw [show (fun (cs : Array Value) (x : Value × Nat) => match x with | (c, j) => cs.setIfInBounds (off + j) c) = (fun cs x => cs.setIfInBounds (off + x.2) x.1) from rfl, e]
            refine fillA_ok hp rest rest' c r _ (fun j x ex => ?_) (by simpa using hl) (VRL.of_get ?_ fun k x ex => ?_) h
            · obtain ⟨y, a, b⟩ := hx (j + 1) x (by simpa using ex)
              exact ⟨y, by simpa using a, b⟩
            · simp only [Array.length_toList, f1, g1, hcl]
            · rw [g3] at ex
              simp only [Array.getElem?_toList, f2, Nat.add_zero, Array.length_toList]
              have hcvl := hcv.length
              simp only [Array.length_toList] at hcvl
              by_cases hk : off ≤ k ∧ k < off + (cellsA v).length
              · rw [if_pos hk] at ex
                rw [if_pos (by omega)]
                obtain ⟨u, hu, hvr⟩ := hcv.get _ _ ex
                exact ⟨u, by simpa using hu, hvr⟩
              · rw [if_neg hk] at ex
                rw [if_neg (by omega)]
                obtain ⟨u, hu, hvr⟩ := hc.get _ _ ex
                exact ⟨u, by simpa using hu, hvr⟩
        · cases h
      · cases h
end Go.Eng
