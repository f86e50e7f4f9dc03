import Derived.Test.YtheclllbnkolaaaGreatDoorEngSeq
import Derived.OrdersIn
namespace Go.Eng
open Go
variable {E : Env}

/-! ### Masks -/
theorem testBit_two_pow_or (a b j : Nat) : (a ||| b).testBit j = (a.testBit j || b.testBit j) := Nat.testBit_or ..

theorem maskOf_ok {ms : T Nat} {i : Nat} : ∀ (es : List Edge) (s m : Nat), maskOf ms i es s = some m →
    (∀ e ∈ es, Region.binds .any e = true → e.on < i) ∧
    ∀ j, m.testBit j = true → s.testBit j = true ∨ ∃ e ∈ es, Region.binds .any e = true ∧ (j = e.on ∨ (mkAt ms e.on).testBit j = true)
  | [], s, m, h => by cases h; exact ⟨by simp, fun j hj => .inl hj⟩
  | e :: r, s, m, h => by
    simp only [maskOf, cond_eq_ite, Nat.blt_eq] at h
    split at h
    · rename_i hb
      split at h
      · rename_i hlt
        obtain ⟨h1, h2⟩ := maskOf_ok r _ m h
        refine ⟨fun x hx hxb => ?_, fun j hj => ?_⟩
        · simp only [List.mem_cons] at hx
          rcases hx with rfl | hx
          · exact hlt
          · exact h1 x hx hxb
        · rcases h2 j hj with h3 | ⟨x, hx, hxb, h4⟩
          · rw [Nat.testBit_or, Nat.testBit_or, Bool.or_eq_true, Bool.or_eq_true] at h3
            rcases h3 with h3 | h3 | h3
            · exact .inl h3
            · rw [Nat.testBit_two_pow] at h3
              exact .inr ⟨e, by simp, hb, .inl (by simpa using Eq.symm (by simpa using h3))⟩
            · exact .inr ⟨e, by simp, hb, .inr h3⟩
          · exact .inr ⟨x, by simp [hx], hxb, h4⟩
      · cases h
    · rename_i hb
      obtain ⟨h1, h2⟩ := maskOf_ok r _ m h
      refine ⟨fun x hx hxb => ?_, fun j hj => ?_⟩
      · simp only [List.mem_cons] at hx
        rcases hx with rfl | hx
        · exact absurd hxb hb
        · exact h1 x hx hxb
      · rcases h2 j hj with h3 | ⟨x, hx, hxb, h4⟩
        · exact .inl h3
        · exact .inr ⟨x, by simp [hx], hxb, h4⟩

theorem maskT_ok : ∀ (os : List Oper) (i : Nat) (ms ms' : T Nat), maskT os i ms = some ms' →
    (∀ k, k < i → ms'.get k = ms.get k) ∧
    ∀ k o, os[k]? = some o → (∀ e ∈ o.after.toList, Region.binds .any e = true → e.on < i + k) ∧
      ∀ j, (mkAt ms' (i + k)).testBit j = true → ∃ e ∈ o.after.toList, Region.binds .any e = true ∧ (j = e.on ∨ (mkAt ms' e.on).testBit j = true)
  | [], i, ms, ms', h => by cases h; exact ⟨fun _ _ => rfl, by simp⟩
  | o :: os, i, ms, ms', h => by
    simp only [maskT] at h
    split at h
    · rename_i m hm
      obtain ⟨h1, h2⟩ := maskOf_ok _ _ _ hm
      obtain ⟨h3, h4⟩ := maskT_ok os (i + 1) _ ms' h
      have hlow : ∀ k, k < i → ms'.get k = ms.get k := fun k hk => by rw [h3 k (by omega), T.get_set, if_neg (by omega)]
      refine ⟨hlow, fun k o' ho => ?_⟩
      cases k with
      | zero =>
        simp only [List.getElem?_cons_zero, Option.some.injEq] at ho
        subst ho
        refine ⟨fun e he hb => by simpa using h1 e he hb, fun j hj => ?_⟩
        have hmi : mkAt ms' (i + 0) = m := by
          simp only [mkAt, Nat.add_zero]
          rw [h3 i (by omega), T.get_set, if_pos rfl]; rfl
        rw [hmi] at hj
        rcases h2 j hj with h5 | ⟨e, he, hb, h6⟩
        · simp at h5
        · refine ⟨e, he, hb, h6.imp id (fun h7 => ?_)⟩
          have : mkAt ms' e.on = mkAt ms e.on := by simp only [mkAt]; rw [hlow _ (h1 e he hb)]
          rw [this]; exact h7
      | succ k =>
        simp only [List.getElem?_cons_succ] at ho
        have := h4 k o' ho
        rw [show i + (k + 1) = i + 1 + k by omega]
        exact this
    · cases h

theorem actors_mem : ∀ (os : List Oper) (i j : Nat), j ∈ actors os i ↔ ∃ k o, j = i + k ∧ os[k]? = some o ∧ isW o.op = true
  | [], i, j => by simp [actors]
  | o :: os, i, j => by
    simp only [actors, cond_eq_ite]
    have ih := actors_mem os (i + 1) j
    constructor
    · intro h
      by_cases hw : isW o.op = true
      · rw [if_pos hw] at h
        simp only [List.mem_cons] at h
        rcases h with rfl | h
        · exact ⟨0, o, rfl, rfl, hw⟩
        · obtain ⟨k, o', h1, h2, h3⟩ := ih.1 h
          exact ⟨k + 1, o', by omega, by simpa using h2, h3⟩
      · rw [if_neg hw] at h
        obtain ⟨k, o', h1, h2, h3⟩ := ih.1 h
        exact ⟨k + 1, o', by omega, by simpa using h2, h3⟩
    · rintro ⟨k, o', h1, h2, h3⟩
      cases k with
      | zero =>
        simp only [List.getElem?_cons_zero, Option.some.injEq] at h2
        subst h2
        rw [if_pos h3]
        simp [h1]
      | succ k =>
        have : j ∈ actors os (i + 1) := ih.2 ⟨k, o', by omega, by simpa using h2, h3⟩
        split
        · exact List.mem_cons_of_mem _ this
        · exact this

theorem actors_nodup : ∀ (os : List Oper) (i : Nat), (actors os i).Nodup
  | [], i => by simp [actors]
  | o :: os, i => by
    simp only [actors, cond_eq_ite]
    split
    · refine List.nodup_cons.2 ⟨fun h => ?_, actors_nodup os (i + 1)⟩
      obtain ⟨k, o', h1, _⟩ := (actors_mem os (i + 1) i).1 h
      omega
    · exact actors_nodup os (i + 1)

/-- What is known of a region. -/
structure Reg (ops : Array Oper) (ms : T Nat) : Prop where
  back : ∀ i o, ops[i]? = some o → ∀ e ∈ o.after.toList, Region.binds .any e = true → e.on < i
  mask : ∀ i o, ops[i]? = some o → ∀ j, (mkAt ms i).testBit j = true → ∃ e ∈ o.after.toList, Region.binds .any e = true ∧ (j = e.on ∨ (mkAt ms e.on).testBit j = true)
  chain : chainOk ms (actors ops.toList 0) = true
  one : ∀ (i j : Nat) (o p : Oper) (t : Tmp), ops[i]? = some o → ops[j]? = some p → o.dst = some t → p.dst = some t → i = j
  read : ∀ (i j : Nat) (o p : Oper) (t : Tmp), ops[i]? = some o → ops[j]? = some p → o.dst = some t → t ∈ p.looksAt ops → (mkAt ms j).testBit i = true ∨ (mkAt ms i).testBit j = true

theorem looksL_eq (ops : Array Oper) (o : Oper) : looksL ops.toList o = o.looksAt ops := by
  unfold looksL Oper.looksAt
  congr 1
  cases o.guard with
  | none => rfl
  | some x => obtain ⟨g, b⟩ := x; simp only [nthOp_get]; simp

theorem Reg.of {ops : Array Oper} {ms : T Nat} (h : okRegion ops.toList = true) (hm : maskT ops.toList 0 .nil = some ms) : Reg ops ms := by
  unfold okRegion at h
  rw [hm] at h
  simp only [Bool.and_eq_true] at h
  obtain ⟨h1, h2⟩ := h
  obtain ⟨_, hk⟩ := maskT_ok _ _ _ _ hm
  have hw : ∀ (i j : Nat) (o p : Oper) (t : Tmp), ops[i]? = some o → ops[j]? = some p → o.dst = some t → (i = j ∨ p.dst ≠ some t) ∧ (t ∈ p.looksAt ops → (mkAt ms j).testBit i = true ∨ (mkAt ms i).testBit j = true) := by
    intro i j o p t hi hj hd
    unfold writesOk at h2
    rw [List.all_eq_true] at h2
    have hmi : (o, i) ∈ ops.toList.zipIdx := by rw [List.mem_zipIdx_iff_getElem?]; simpa using hi
    have hmj : (p, j) ∈ ops.toList.zipIdx := by rw [List.mem_zipIdx_iff_getElem?]; simpa using hj
    have := h2 _ hmi
    simp only [hd, List.all_eq_true] at this
    have := this _ hmj
    simp only [Bool.and_eq_true, Bool.or_eq_true, Nat.beq_eq, Bool.not_eq_true', looksL_eq] at this
    obtain ⟨h3, h4⟩ := this
    refine ⟨h3.imp id (fun h => by simpa using h), fun ht => ?_⟩
    rcases h4 with (h4 | h4) | h4
    · rw [← Bool.not_eq_true, List.contains_iff_mem] at h4; exact absurd ht h4
    · exact .inl h4
    · exact .inr h4
  refine ⟨fun i o ho e he hb => ?_, fun i o ho j hj => ?_, h1, fun i j o p t hi hj hd hp => ?_, fun i j o p t hi hj hd ht => (hw i j o p t hi hj hd).2 ht⟩
  · have := (hk i o (by simpa using ho)).1 e he hb
    omega
  · have := (hk i o (by simpa using ho)).2 j (by rw [Nat.zero_add]; exact hj)
    exact this
  · rcases (hw i j o p t hi hj hd).1 with h | h
    · exact h
    · exact absurd hp h
end Go.Eng
