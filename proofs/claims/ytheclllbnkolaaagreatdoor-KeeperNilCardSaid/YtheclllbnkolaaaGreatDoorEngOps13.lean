import Derived.Test.YtheclllbnkolaaaGreatDoorEngOps12
namespace Go.Eng
open Go
variable {E : Env} {m : Mu} {w : Hp} {W : World}

theorem eraseAt_ok : ∀ (es : List ME) (es' : List MapEntry) (j : Nat), MERL m es es' → MERL m (eraseAt es j) (es'.eraseIdx j) := by
  intro es es' j hm
  induction hm generalizing j with
  | nil => simpa [eraseAt] using MERL.nil
  | @cons e e' l l' he ht ih =>
    cases j with
    | zero => simpa [eraseAt] using ht
    | succ j => simp only [eraseAt, List.eraseIdx_cons_succ]; exact .cons he (ih j)

theorem opDelete_ok (ok : E.Ok) {t t2 ty : TypeId} {a k : AV} {a' k' : Value} {r : OR} (g : Gam m w.h W) (f : Fresh m w.nx) (ha : VR m a a') (hk : VR m k k')
    (h : opDelete E w t a k = some r) : DoOk E m w W r (Builtin.delete_ #[t, t2] ty #[a', k']) := by
  unfold opDelete at h
  split at h
  · rename_i kt et i kv hu hkv
    obtain rfl : k' = kv := toV_VR _ _ _ hkv hk
    split at h
    · rename_i es clock hg
      obtain ⟨p, hp, rfl⟩ := ha
      obtain ⟨q, hq, hb⟩ := g.dom _ _ hg
      rw [hp] at hq; cases hq
      obtain ⟨es', he, hm⟩ := hb
      split at h
      · rename_i u j v hc hf
        obtain ⟨f', h1, h2⟩ := findA_ok ok hm hf
        obtain ⟨v', rfl, hv⟩ := h2
        cases h
        refine ⟨_, _, m, .tuple #[], { W with heap := W.heap.setIfInBounds p.blk (.map (es'.eraseIdxIfInBounds j) clock) }, rfl, ?_, rfl, ?_⟩
        · simp [Builtin.delete_, run_und ok hu, getObj_run he rfl, hm.isEmpty, quiet_run _ _ hc W, h1, setObj_run he rfl]
        · refine Step.setObj g f hg hp he (fun W' hW' => ⟨_, hW', ?_⟩)
          rw [Array.toList_eraseIdxIfInBounds]
          exact eraseAt_ok _ _ _ hm
      · rename_i u hc hf
        obtain ⟨f', h1, h2⟩ := findA_ok ok hm hf
        obtain rfl : f' = none := h2
        cases h
        refine ⟨_, _, m, .tuple #[], { W with heap := W.heap.setIfInBounds p.blk (.map es' clock) }, rfl, ?_, rfl, Step.setSame g f he⟩
        simp [Builtin.delete_, run_und ok hu, getObj_run he rfl, hm.isEmpty, quiet_run _ _ hc W, h1, setObj_run he rfl]
      · cases h
    · cases h
  · cases h

theorem opClear_ok (ok : E.Ok) {t ty : TypeId} {a : AV} {a' : Value} {r : OR} (g : Gam m w.h W) (f : Fresh m w.nx) (ha : VR m a a')
    (h : opClear E w t a = some r) : DoOk E m w W r (Builtin.clear_ #[t] ty #[a']) := by
  unfold opClear at h
  split at h
  · rename_i kt et i hu
    split at h
    · rename_i es clock hg
      obtain ⟨p, hp, rfl⟩ := ha
      obtain ⟨q, hq, hb⟩ := g.dom _ _ hg
      rw [hp] at hq; cases hq
      obtain ⟨es', he, hm⟩ := hb
      cases h
      refine ⟨_, _, m, .tuple #[], { W with heap := W.heap.setIfInBounds p.blk (.map #[] clock) }, rfl, ?_, rfl, ?_⟩
      · simp [Builtin.clear_, run_und ok hu, getObj_run he rfl, setObj_run he rfl]
      · exact Step.setObj g f hg hp he (fun W' hW' => ⟨_, hW', .nil⟩)
    · cases h
  · rename_i et i off len cap hu
    obtain ⟨p, hp, o', c', rfl, hc, hn, ho⟩ := ha
    simp only [cond_eq_ite, Nat.beq_eq] at h
    split at h
    · rename_i h0
      subst h0
      cases h
      refine ⟨_, w, m, .tuple #[], W, rfl, ?_, rfl, Step.refl g f⟩
      simp [Builtin.clear_, run_und ok hu]
    · rename_i h0
      split at h
      · rename_i z hz
        simp only [Option.map_eq_some_iff] at h
        obtain ⟨w', hw, rfl⟩ := h
        obtain ⟨zv, rfl, hzr⟩ := run_zero ok hz
        have ho' : o' = p.off + off := by rcases ho with e | e; omega; exact e
        subst ho'
        obtain ⟨h1, h2, h3⟩ := writeA_ok (E := E) g f hp (zeros_VRL zv len) hw
        refine ⟨_, w', m, .tuple #[], _, rfl, ?_, rfl, h3⟩
        have hl0 : len ≠ 0 := h0
        obtain ⟨k, rfl⟩ := Nat.exists_eq_succ_of_ne_zero hl0
        simp only [Builtin.clear_, Sem.run_bind, List.getElem?_toArray, List.getElem?_cons_zero, run_und ok hu, Result.andThen_ok]
        simp only [Array.toList_map, Array.toList_range] at h1
        simp [hzr, Builtin.zeroCells, h1]
      · cases h
  · rename_i et a b hu
    obtain rfl : a' = _ := ha
    cases h
    refine ⟨_, w, m, .tuple #[], W, rfl, ?_, rfl, Step.refl g f⟩
    simp [Builtin.clear_, run_und ok hu]
  · cases h

theorem beq_nat (a b : Nat) : (a == b) = Nat.beq a b := by
  rw [Bool.eq_iff_iff]; simp [Nat.beq_eq]

theorem MERL.filter {es : List ME} {es' : List MapEntry} (h : MERL m es es') {p : ME → Bool} {q : MapEntry → Bool} (hpq : ∀ e e', MER m e e' → q e' = p e) : MERL m (es.filter p) (es'.filter q) := by
  induction h with
  | nil => exact .nil
  | @cons e e' l l' he _ ih =>
    simp only [List.filter_cons, hpq e e' he]
    split
    · exact .cons he ih
    · exact ih

theorem MERL.all {es : List ME} {es' : List MapEntry} (h : MERL m es es') {p : ME → Bool} {q : MapEntry → Bool} (hpq : ∀ e e', MER m e e' → q e' = p e) : es'.all q = es.all p := by
  induction h with
  | nil => rfl
  | @cons e e' l l' he _ ih => simp only [List.all_cons, hpq e e' he, ih]

theorem MERL.find {es : List ME} {es' : List MapEntry} (h : MERL m es es') {p : ME → Bool} {q : MapEntry → Bool} (hpq : ∀ e e', MER m e e' → q e' = p e) {e : ME} (he : es.find? p = some e) :
    ∃ e', es'.find? q = some e' ∧ MER m e e' := by
  induction h with
  | nil => simp at he
  | @cons a a' l l' ha _ ih =>
    simp only [List.find?_cons, hpq a a' ha] at he ⊢
    split at he
    · cases he; exact ⟨a', by simp, ha⟩
    · obtain ⟨e', h1, h2⟩ := ih he; exact ⟨e', h1, h2⟩

theorem opEntry_ok {x : AV} {x' : Value} {r : OR} (g : Gam m w.h W) (hx : VR m x x') (h : opEntry w x = some r) : ValOk E m w W r (Instr.entry x') := by
  unfold opEntry at h
  split at h
  · rename_i r0
    obtain ⟨p, hp, rfl⟩ := hx
    split at h
    · rename_i i since seen stepped hg
      obtain ⟨q, hq, hb⟩ := g.dom _ _ hg
      rw [hp] at hq; cases hq
      obtain ⟨mo', hit, hmo, hoff⟩ := hb
      obtain ⟨pm, hpm, rfl⟩ := hmo
      split at h
      · rename_i es clock stamp hgm hst
        obtain ⟨q, hq, hb⟩ := g.dom _ _ hgm
        rw [hpm] at hq; cases hq
        obtain ⟨es', he, hm⟩ := hb
        simp only [cond_eq_ite, Nat.beq_eq] at h
        split at h
        · rename_i hcl
          subst hcl
          split at h
          · rename_i e hfe
            cases h
            obtain ⟨e', h1, h2⟩ := hm.find (q := fun e => e.born == stamp) (fun e e' h => by rw [h.2.1]; exact beq_nat _ _) hfe
            have hback : seen.toArray.back? = some stamp := by rw [List.back?_toArray]; exact hst
            have hfind : es'.find? (fun e => e.born == stamp) = some e' := by rw [← h1, Array.find?_toList]
            refine ⟨_, .tuple #[e'.key, e'.val], rfl, ?_, ⟨[e'.key, e'.val], ⟨_, _, rfl, by rw [h2.1]; rfl, _, [], rfl, h2.2.2, by simp [VRL]⟩, rfl⟩⟩
            simp [Instr.entry, hoff, getObj_run hit rfl, getObj_run he rfl, hback, hfind]
          · cases h
        · cases h
      · cases h
    · cases h
  · cases h
def PickOk (E : Env) (m : Mu) (w : Hp) (W : World) (l : List (AV × Hp)) (s : Sem Value) : Prop :=
  ∃ x ∈ l, ∃ m' v' W', s.run E.P W = .ok v' W' ∧ VR m' x.1 v' ∧ Step m w.h w.nx W m' x.2.h x.2.nx W'

theorem MERL.mem {es : List ME} {es' : List MapEntry} (h : MERL m es es') : ∀ e' ∈ es', ∃ e ∈ es, MER m e e' := by
  induction h with
  | nil => simp
  | @cons e e' l l' he _ ih =>
    intro x hx
    simp only [List.mem_cons] at hx
    rcases hx with rfl | hx
    · exact ⟨e, by simp, he⟩
    · obtain ⟨y, a, b⟩ := ih x hx; exact ⟨y, by simp [a], b⟩

theorem opNext_ok {x : AV} {x' : Value} {ty : TypeId} {r : OR} (g : Gam m w.h W) (f : Fresh m w.nx) (hx : VR m x x') (h : opNext w x = some r) :
    DoOk E m w W r (Instr.next x' false ty) ∨ ∃ l, r = .pick l ∧ PickOk E m w W l (Instr.next x' false ty) := by
  unfold opNext at h
  split at h
  · rename_i r0
    obtain ⟨p, hp, rfl⟩ := hx
    split at h
    · rename_i a b c hg
      obtain ⟨q, hq, hb⟩ := g.dom _ _ hg
      rw [hp] at hq; cases hq
      obtain ⟨mo', hit, hmo, hoff⟩ := hb
      obtain rfl : mo' = none := hmo
      cases h
      refine .inl ⟨_, w, m, .tuple #[.bool false], W, rfl, ?_, rfl, Step.refl g f⟩
      simp [Instr.next, hoff, getObj_run hit rfl]
    · rename_i i since seen last hg
      obtain ⟨q, hq, hb⟩ := g.dom _ _ hg
      rw [hp] at hq; cases hq
      obtain ⟨mo', hit, hmo, hoff⟩ := hb
      obtain ⟨pm, hpm, rfl⟩ := hmo
      split at h
      · rename_i es clock hgm
        obtain ⟨q, hq, hb⟩ := g.dom _ _ hgm
        rw [hpm] at hq; cases hq
        obtain ⟨es', he, hm⟩ := hb
        simp only [cond_eq_ite] at h
        split at h
        · cases h
        · rename_i hgone
          cases h
          refine .inr ⟨_, rfl, ?_⟩
          have hgone' : (!seen.toArray.isEmpty && !es'.isEmpty && es'.all (·.born ≥ last)) = false := by
            have h1 : seen.toArray.isEmpty = seen.isEmpty := by simp
            have h2 : es'.all (·.born ≥ last) = es.all (fun e => Nat.ble last e.born) := by
              rw [← Array.all_toList]
              exact hm.all (fun e e' h => by rw [h.2.1, Bool.eq_iff_iff]; simp [Nat.ble_eq])
            rw [h1, hm.isEmpty, h2]
            simpa using hgone
          have hleft : MERL m (es.filter fun e => !seen.contains e.born) (es'.filter fun e => !seen.toArray.contains e.born).toList := by
            rw [Array.toList_filter]
            exact hm.filter (fun e e' h => by rw [h.2.1]; simp)
          have hold : MERL m ((es.filter fun e => !seen.contains e.born).filter fun e => Nat.blt e.born since) ((es'.filter fun e => !seen.toArray.contains e.born).filter (·.born < since)).toList := by
            rw [Array.toList_filter]
            exact hleft.filter (fun e e' h => by rw [h.2.1, Bool.eq_iff_iff]; simp [Nat.blt_eq])
          have hnew : MERL m ((es.filter fun e => !seen.contains e.born).filter fun e => Nat.ble since e.born) ((es'.filter fun e => !seen.toArray.contains e.born).filter (·.born ≥ since)).toList := by
            rw [Array.toList_filter]
            exact hleft.filter (fun e e' h => by rw [h.2.1, Bool.eq_iff_iff]; simp [Nat.ble_eq])
          generalize hO : (es.filter fun e => !seen.contains e.born).filter (fun e => Nat.blt e.born since) = old at hold ⊢
          generalize hN : (es.filter fun e => !seen.contains e.born).filter (fun e => Nat.ble since e.born) = new at hnew ⊢
          generalize hO' : (es'.filter fun e => !seen.toArray.contains e.born).filter (·.born < since) = old' at hold
          generalize hN' : (es'.filter fun e => !seen.toArray.contains e.born).filter (·.born ≥ since) = new' at hnew
          have hall : MERL m (old ++ new) (old' ++ new').toList := by rw [Array.toList_append]; exact hold.append hnew
          have hoe : old'.isEmpty = old.isEmpty := hold.isEmpty
          generalize hc : ((if old'.isEmpty then #[none] else #[]) ++ (old' ++ new').map some : Array (Option MapEntry)) = cands
          have hpos : 0 < cands.size := by
            rw [← hc]
            by_cases h0 : old'.isEmpty = true
            · rw [if_pos h0]; simp; omega
            · rw [if_neg h0]
              have : 0 < old'.size := by
                rcases Nat.eq_zero_or_pos old'.size with h1 | h1
                · exact absurd (by simpa [Array.isEmpty] using h1) h0
                · exact h1
              simp; omega
          have hmem : ∀ c ∈ cands, (c = none ∧ old.isEmpty = true) ∨ ∃ e' e, c = some e' ∧ e ∈ old ++ new ∧ MER m e e' := by
            intro c hcm
            rw [← hc, Array.mem_append] at hcm
            rcases hcm with hcm | hcm
            · by_cases h0 : old'.isEmpty = true
              · rw [if_pos h0] at hcm
                simp at hcm
                exact .inl ⟨hcm, by rw [← hoe]; exact h0⟩
              · rw [if_neg h0] at hcm; simp at hcm
            · rw [Array.mem_map] at hcm
              obtain ⟨e', he', rfl⟩ := hcm
              obtain ⟨e, h1, h2⟩ := hall.mem e' (by simpa using he')
              exact .inr ⟨e', e, rfl, h1, h2⟩
          have hcand : ∃ k d, k < cands.size ∧ (choose (.mapNext cands.size)).run E.P W = .ok k { W with drawn := d } := by
            rw [run_choose]
            by_cases hf : (Question.mapNext cands.size).forced = true
            · rw [if_pos hf]; exact ⟨0, W.drawn, hpos, rfl⟩
            · rw [if_neg hf]; exact ⟨_, W.drawn + 1, Nat.mod_lt _ hpos, rfl⟩
          obtain ⟨k, d, hk, hch⟩ := hcand
          have hrun : (Instr.next (.pointer (some ⟨p.blk, p.off + 0, none⟩)) false ty).run E.P W =
              (match cands[k]? with
                | some (some e) => (do setObj p.blk (.mapIter (some pm.blk) since (seen.toArray.push e.born) clock); pure (.tuple #[.bool true, e.key, e.val]) : Sem Value)
                | some none => pure (.tuple #[.bool false])
                | none => stuck "Next: no such candidate").run E.P { W with drawn := d } := by
            simp only [Instr.next, hoff, Nat.add_zero, Sem.run_bind, getObj_run hit rfl, Result.andThen_ok, getObj_run he rfl]
            rw [hgone', hO', hN', hc]
            simp only [Bool.false_eq_true, if_false, Sem.run_bind, hch, Result.andThen_ok]
            rfl
          obtain ⟨c, hck⟩ : ∃ c, cands[k]? = some c := ⟨_, Array.getElem?_eq_getElem hk⟩
          rcases hmem c (Array.mem_of_getElem? hck) with ⟨rfl, h0⟩ | ⟨e', e, rfl, hme, hmr⟩
          · refine ⟨(.s (.tuple #[.bool false]), w), List.mem_append_left _ (by rw [h0]; simp), m, .tuple #[.bool false], { W with drawn := d }, ?_, rfl, Step.drawn g f d⟩
            rw [hrun, hck]; rfl
          · refine ⟨_, List.mem_append_right _ (List.mem_map.2 ⟨e, hme, rfl⟩), m, .tuple #[.bool true, e'.key, e'.val], { W with drawn := d, heap := W.heap.setIfInBounds p.blk (.mapIter (some pm.blk) since (seen.toArray.push e'.born) clock) }, ?_, ?_, ?_⟩
            · rw [hrun, hck]
              have hit' : ({ W with drawn := d } : World).heap[p.blk]? = some (.mapIter (some pm.blk) since seen.toArray last) := hit
              simp only [Sem.run_bind, setObj_run hit' rfl, Result.andThen_ok, Sem.run_pure]
            · exact ⟨[_, _, _], ⟨_, _, rfl, rfl, _, _, rfl, hmr.1, _, [], rfl, hmr.2.2, by simp [VRL]⟩, rfl⟩
            · have h2 := Step.setObj (W := { W with drawn := d }) (o' := .mapIter (some pm.blk) since (seen.toArray.push e'.born) clock) (ab' := .iter (some i) since (seen ++ [e.born]) clock) (g.drawn d) f hg hp hit (fun W' hW' => ⟨_, by rw [hW', hmr.2.1]; simp, ⟨pm, hpm, rfl⟩, hoff⟩)
              exact (Step.drawn g f d).trans h2
      · cases h
    · cases h
  · cases h
end Go.Eng
