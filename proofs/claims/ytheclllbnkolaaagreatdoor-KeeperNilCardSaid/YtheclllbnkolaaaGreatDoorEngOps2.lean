import Derived.Test.YtheclllbnkolaaaGreatDoorEngOps1
namespace Go.Eng
open Go
variable {E : Env} {m : Mu} {w : Hp} {W : World}

theorem partsA_ok {ρ : Operand → AV} {σ : Operand → Value} (hσ : ∀ x, VR m (ρ x) (σ x)) (parts : Array (Nat × Operand)) :
    (∀ (i : Nat) (x : Nat × AV), (partsA ρ parts)[i]? = some x → ∃ y : Nat × Value, ((parts.map fun (i, x) => (i, σ x)).toList)[i]? = some y ∧ y.1 = x.1 ∧ VR m x.2 y.2) ∧
    ((parts.map fun (i, x) => (i, σ x)).toList).length = (partsA ρ parts).length := by
  refine ⟨fun i x h => ?_, by simp [partsA]⟩
  simp only [partsA, List.getElem?_map, Option.map_eq_some_iff] at h
  obtain ⟨p, hp, rfl⟩ := h
  refine ⟨(p.1, σ p.2), ?_, rfl, hσ _⟩
  simp only [Array.toList_map, List.getElem?_map, hp, Option.map_some]

theorem placesOf_run (ok : E.Ok) : ∀ (fs : List Field) (pl : List (Nat × Nat)), placesOf E fs = some pl → ∀ W : World,
    (fs.mapM (fun f => do pure (f.offset, ← sizeOf f.type) : Field → Sem (Nat × Nat))).run E.P W = .ok pl W
  | [], pl, h, W => by simp only [placesOf, Option.some.injEq] at h; subst h; simp
  | f :: fs, pl, h, W => by
    simp only [placesOf] at h
    split at h
    · rename_i s r hs hr
      simp only [Option.some.injEq] at h
      subst h
      have ih := placesOf_run ok fs r hr W
      simp only [List.mapM_cons, Sem.run_bind, run_sz ok hs, Result.andThen_ok, Sem.run_pure, ih]
    · cases h

theorem opBuild_ok (ok : E.Ok) {t : TypeId} {ρ : Operand → AV} {σ : Operand → Value} (hσ : ∀ x, VR m (ρ x) (σ x)) {parts : Array (Nat × Operand)} {r : OR} (h : opBuild E ρ w t parts = some r) :
    ValOk E m w W r (Instr.build t (parts.map fun (i, x) => (i, σ x))) := by
  unfold opBuild at h
  obtain ⟨hp1, hp2⟩ := partsA_ok hσ parts
  split at h
  · rename_i z fields hz hu
    split at h
    · rename_i pl hpl
      simp only [Option.map_eq_some_iff] at h
      obtain ⟨cs, hcs, rfl⟩ := h
      obtain ⟨v, rfl, hv⟩ := run_zero ok hz
      obtain ⟨r', h1, h2⟩ := fillA_ok (m := m) (place := fun i => pl.toArray[i]?) (places := pl) (fun i x e => by simpa using e) _ _ _ _ v.cells hp1 hp2 (VRL.map_s _) hcs
      refine ⟨_, .agg r', rfl, ?_, ⟨_, h2, by simp⟩⟩
      have hm := placesOf_run ok fields.toList pl hpl W
      simp only [Instr.build, Sem.run_bind, hv, Result.andThen_ok, run_und ok hu, Array.mapM_eq_mapM_toList, Sem.run_map, hm]
      simp only [h1, Sem.run_pure]
    · cases h
  · rename_i z n et hz hu
    split at h
    · rename_i es hes
      simp only [Option.map_eq_some_iff] at h
      obtain ⟨cs, hcs, rfl⟩ := h
      obtain ⟨v, rfl, hv⟩ := run_zero ok hz
      obtain ⟨r', h1, h2⟩ := fillA_ok (m := m) (place := fun i => some (i * es, es)) (fun i x e => by
        simp only [List.getElem?_map, Option.map_eq_some_iff] at e
        obtain ⟨j, hj, rfl⟩ := e
        have := (List.getElem?_eq_some_iff.1 hj).2
        simp at this; subst this; rfl) _ _ _ _ v.cells hp1 hp2 (VRL.map_s _) hcs
      refine ⟨_, .agg r', rfl, ?_, ⟨_, h2, by simp⟩⟩
      simp only [Instr.build, Sem.run_bind, hv, Result.andThen_ok, run_und ok hu, run_sz ok hes]
      simp only [h1, Sem.run_pure]
    · cases h
  · cases h

theorem repl_length {α : Type} (l : List α) : ∀ n, (repl l n).length = n * l.length
  | 0 => by simp [repl]
  | n + 1 => by simp [repl, repl_length l n, Nat.add_mul]; omega

theorem repl_get {α : Type} (l : List α) : ∀ (n k : Nat), k < n * l.length → (repl l n)[k]? = l[k % l.length]?
  | 0, k, h => by simp at h
  | n + 1, k, h => by
    have hp : 0 < l.length := by
      rcases Nat.eq_zero_or_pos l.length with h0 | h0
      · rw [h0] at h; simp at h
      · exact h0
    simp only [repl]
    by_cases hk : k < l.length
    · rw [List.getElem?_append_left hk, Nat.mod_eq_of_lt hk]
    · rw [List.getElem?_append_right (by omega), repl_get l n (k - l.length) (by rw [Nat.add_mul] at h; omega)]
      congr 1
      rw [Nat.mod_eq_sub_mod (a := k) (by omega)]

theorem zeros_VRL (v : Value) (n : Nat) : VRL m (repl (v.cells.toList.map .s) n) ((Array.range (n * v.cells.size)).map (v.cells[· % v.cells.size]!)).toList := by
  refine VRL.of_get ?_ fun k x e => ?_
  · simp [repl_length]
  · have hk : k < n * (v.cells.toList.map AV.s).length := by rw [← repl_length]; exact (List.getElem?_eq_some_iff.1 e).1
    rw [repl_get _ _ _ hk] at e
    simp only [List.length_map, Array.length_toList] at hk e
    simp only [List.getElem?_map, Option.map_eq_some_iff] at e
    obtain ⟨u, hu, rfl⟩ := e
    refine ⟨u, ?_, rfl⟩
    simp only [Array.toList_map, Array.toList_range, List.getElem?_map, List.getElem?_range hk, Option.map_some]
    congr 1
    have hlt := (List.getElem?_eq_some_iff.1 hu).1
    simp only [Array.length_toList] at hlt
    have e2 : v.cells[k % v.cells.size]! = v.cells[k % v.cells.size]'hlt := getElem!_pos v.cells _ hlt
    rw [e2]
    simpa [Array.getElem?_eq_getElem hlt] using hu

theorem opBuildSlice_ok (ok : E.Ok) {t : TypeId} {len : Nat} {ρ : Operand → AV} {parts : Array (Nat × Operand)} {r : OR} (h : opBuildSlice E ρ w t len parts = some r) :
    ∃ mk blk, ShapeA (fun w => opBuildSlice E ρ w t len parts) mk blk ∧ ∀ (m : Mu) (W : World) (σ : Operand → Value), (∀ x, VR m (ρ x) (σ x)) → AllocOk E m W (Instr.buildSlice t len (parts.map fun (i, x) => (i, σ x))) mk blk := by
  unfold opBuildSlice at h
  split at h
  · rename_i et hu
    split at h
    · rename_i es z hes hz
      simp only [cond_eq_ite, Bool.and_eq_true, Nat.beq_eq, Nat.ble_eq] at h
      split at h
      · rename_i hb
        obtain ⟨hb1, hb2⟩ := hb
        split at h
        · rename_i cs hcs
          obtain ⟨v, rfl, hv⟩ := run_zero ok hz
          have hsz : v.cells.size = es := by simpa using hb1
          refine ⟨fun i => .slc i 0 len (.ex len), .cells cs et es false, fun w => ?_, fun m W σ hσ => ?_⟩
          · have e1 : Nat.beq (v.cells.toList.map AV.s).length es = true := by rw [Nat.beq_eq]; exact hb1
            have e2 : Nat.ble (len * es) 16777216 = true := by rw [Nat.ble_eq]; exact hb2
            simp only [opBuildSlice, hu, hes, hz, e1, e2, hcs, newCells, Bool.and_self, cond_true]
          · obtain ⟨hp1, hp2⟩ := partsA_ok hσ parts
            subst hsz
            obtain ⟨r', h1, h2⟩ := fillA_ok (m := m) (place := fun i => some (i * v.cells.size, v.cells.size)) (fun i x e => by
              simp only [List.getElem?_map, Option.map_eq_some_iff] at e
              obtain ⟨j, hj, rfl⟩ := e
              have := (List.getElem?_eq_some_iff.1 hj).2
              simp at this; subst this; rfl) _ _ _ _ _ hp1 hp2 (zeros_VRL v len) hcs
            refine alloc_ok (cs := r') (et' := et) (v' := .slice (some ⟨W.heap.size, 0, none⟩) len len) ?_ h2 (fun m' i _ hi => ⟨_, hi, 0, len, rfl, rfl, Nat.le_refl _, .inr rfl⟩)
            simp only [Instr.buildSlice, Sem.run_bind, run_und ok hu, Result.andThen_ok, run_sz ok hes]
            rw [if_neg (by omega)]
            by_cases h0 : len * v.cells.size = 0
            · rw [if_pos h0]
              simp only [pure_bind]
              have e0 : (Array.range (len * v.cells.size)).map (v.cells[· % v.cells.size]!) = #[] := by rw [h0]; simp
              rw [e0] at h1
              have e1 : (Array.range (len * v.cells.size)).map ((#[] : Array Value)[· % (#[] : Array Value).size]!) = #[] := by rw [h0]; simp
              rw [e1, h1]
              simp [newRow]
            · rw [if_neg h0]
              rw [Sem.run_bind, hv]
              simp only [Result.andThen_ok, pure_bind]
              rw [h1]
              simp [newRow]
        · cases h
      · cases h
    · cases h
  · cases h
end Go.Eng
