import Derived.Test.YtheclllbnkolaaaGreatDoorEngOps11
namespace Go.Eng
open Go
variable {E : Env} {m : Mu} {w : Hp} {W : World}

/-- In place, where there is surely room. -/
theorem appendIn_ok (ok : E.Ok) {t1 t2 ty et : TypeId} {es n i off len : Nat} {cap : Cap} {d2 : TypeDesc} {x' : Value} {new : List AV} {new' : List Value} {o' c' : Nat} {p : Pl} {r : OR}
    (g : Gam m w.h W) (f : Fresh m w.nx) (hp : m i = some p) (hcap : CapR p cap c') (ho : o' = p.off + off)
    (hu1 : E.und t1 = some (.slice et)) (hu2 : E.und t2 = some d2) (hni : ∀ k, d2 ≠ .int k) (hes : szOf E et = some es)
    (hlen : (Builtin.lenOf x').run E.P W = .ok n W) (hn : VRL m new new') (hnew : (Builtin.firstCells es n x').run E.P W = .ok new'.toArray W) (hroom : len + n ≤ c')
    (h : appendIn w i off es len (len + n) cap new = some r) :
    DoOk E m w W r (Builtin.append_ #[t1, t2] ty #[.slice (some ⟨p.blk, o', none⟩) len c', x']) := by
  simp only [appendIn, Option.map_eq_some_iff] at h
  obtain ⟨w', hw, rfl⟩ := h
  obtain ⟨h1, h2, h3⟩ := writeA_ok (E := E) g f hp hn hw
  subst ho
  refine ⟨_, w', m, _, _, rfl, append_plain ok (a := ⟨p.blk, p.off + off, none⟩) hu1 hu2 hni hes hlen hroom hnew (by rw [addAt, Nat.add_assoc]; exact h1), ?_, h3⟩
  exact ⟨p, hp, _, _, rfl, hcap, hroom, .inr rfl⟩

theorem appendA_ok (ok : E.Ok) {t1 t2 ty : TypeId} {s x : AV} {s' x' : Value} {r : OR} (g : Gam m w.h W) (f : Fresh m w.nx) (hs : VR m s s') (hx : VR m x x') (h : appendA E w t1 t2 s x = some r) :
    DoOk E m w W r (Builtin.append_ #[t1, t2] ty #[s', x']) := by
  unfold appendA at h
  split at h
  · cases h
  · rename_i et d2 hne hu1 hu2
    have hni : ∀ k, d2 ≠ .int k := by rintro k rfl; exact hne k rfl
    split at h
    · rename_i es n inf z hes hln hinf hz
      have hlen := lenA_ok (E := E) (W := W) hx hln
      split at h
      · rename_i new hnew
        obtain rfl : s' = _ := hs
        obtain ⟨ys, hy1, hy2⟩ := elemsOf_all (E := E) g hx hnew
        simp only [cond_eq_ite, Nat.beq_eq, Bool.and_eq_true, Nat.ble_eq] at h
        split at h
        · rename_i h0
          subst h0
          cases h
          exact ⟨_, w, m, _, W, rfl, append_none ok hu1 hu2 hni hes hlen (hy2 W rfl), rfl, Step.refl g f⟩
        · rename_i h0
          split at h
          · rename_i hb
            obtain ⟨⟨⟨hb1, hb2⟩, hb3⟩, hb4⟩ := hb
            cases h
            obtain ⟨m', v', W', h1, h2, h3⟩ := append_grow ok (ty := ty) (sLen := 0) (sCap := 0) (base := none) (x' := x') (old := []) (old' := []) (new := new) g f hu1 hu2 hni hes hinf hz hb4 hlen (by simpa using hb1) (by simpa using hb2) (by omega) (by simp [VRL]) hy1 (by simp) hb3 (fun W' _ => by simp [Builtin.firstCells]) hy2
            refine ⟨_, _, m', v', W', rfl, h1, ?_, h3⟩
            simpa [newCells] using h2
          · cases h
      · rename_i i off len cap new hnew
        obtain ⟨p, hp, o', c', rfl, hcap, hle, ho⟩ := hs
        obtain ⟨ys, hy1, hy2⟩ := elemsOf_all (E := E) g hx hnew
        simp only [cond_eq_ite, Nat.beq_eq, Bool.and_eq_true, Nat.ble_eq] at h
        split at h
        · rename_i h0
          subst h0
          cases h
          have hnil := elemsOf_zero hnew
          subst hnil
          simp only [VRL] at hy1
          subst hy1
          exact ⟨_, w, m, _, W, rfl, append_plain ok hu1 hu2 hni hes hlen hle (hy2 W rfl) (by simp [storeCells]), ⟨p, hp, o', c', rfl, hcap, hle, ho⟩, Step.refl g f⟩
        · rename_i h0
          split at h
          · rename_i hb
            obtain ⟨⟨⟨hb1, hb2⟩, hb3⟩, hb4⟩ := hb
            split at h
            · rename_i old hold
              obtain ⟨zs, hz1, hz2⟩ := elemsOf_all (E := E) (x := .slc i off len cap) (x' := .slice (some ⟨p.blk, o', none⟩) len c') g ⟨p, hp, o', c', rfl, hcap, hle, ho⟩ hold
              obtain ⟨hol, vs, bt, bs, op, hgi, hspl⟩ := elemsOf_len hold
              have grow : c' < len + n → ∀ (h0 : H), (∀ j ab, h0.get j = some ab → w.h.get j = some ab) → 
                  DoOk E m w W (.val (.slc w.nx 0 (len + n) (.en 0)) ⟨h0.set w.nx (.cells (old ++ new) et es true), w.nx + 1⟩) (Builtin.append_ #[t1, t2] ty #[.slice (some ⟨p.blk, o', none⟩) len c', x']) := by
                intro hlt h0 hsub
                obtain ⟨m', v', W', h1, h2, h3⟩ := append_grow ok (ty := ty) (base := some ⟨p.blk, o', none⟩) (x' := x') (g.sub hsub) f hu1 hu2 hni hes hinf hz hb4 hlen hb1 hb2 hlt hz1 hy1 hol hb3 hz2 hy2
                exact ⟨_, _, m', v', W', rfl, h1, h2, h3.sub hsub⟩
              unfold appendSlc at h
              split at h
              · rename_i c
                obtain rfl : c' = c := hcap
                simp only [cond_eq_ite, Nat.ble_eq] at h
                split at h
                · rename_i hroom
                  exact appendIn_ok ok g f hp (show CapR p (.ex c') c' from rfl) (by rcases ho with e | e; omega; exact e) hu1 hu2 hni hes hlen hy1 (hy2 W rfl) hroom h
                · rename_i hno
                  cases h
                  exact grow (by omega) w.h (fun _ _ e => e)
              · rename_i d
                simp only [cond_eq_ite] at h
                split at h
                · rename_i hroom
                  have hr := enOk_ok g hp hroom
                  have hc2 : c' = p.cap - d := hcap
                  exact appendIn_ok ok g f hp hcap (by rcases ho with e | e; omega; exact e) hu1 hu2 hni hes hlen hy1 (hy2 W rfl) (by omega) h
                · split at h
                  · rename_i vs2 bt2 bsx hg2
                    rw [hgi] at hg2
                    cases hg2
                    split at h
                    · rename_i hb
                      simp only [Bool.and_eq_true, Nat.beq_eq, Nat.ble_eq] at hb
                      obtain ⟨⟨hone, hbs⟩, hoff⟩ := hb
                      subst hbs
                      cases h
                      by_cases hroom : len + n ≤ c'
                      · have hc2 : c' = p.cap - d := hcap
                        have ho2 : o' = p.off + off := by rcases ho with e | e; omega; exact e
                        subst ho2
                        obtain ⟨q, hq, hbr⟩ := g.dom _ _ hgi
                        rw [hp] at hq; cases hq
                        have hin : ∀ k, k < c' * bs → off + k < p.cap * bs := fun k hk => by
                          have e1 : p.cap = d + c' := by omega
                          rw [e1, Nat.add_mul]; omega
                        have hsp := hbr.2.2.1
                        simp only [span, if_true] at hsp
                        have hnl := hy1.length
                        have hzl := hz1.length
                        have hbnd : (len + n) * bs ≤ c' * bs := Nat.mul_le_mul_right _ hroom
                        rw [Nat.add_mul] at hbnd
                        have hst := cells_store (E := E) (W := W) (p := p) (o := off + len * bs) hone hy1 (fun k hk => by
                          have := hsp (off + (len * bs + k)) (hin _ (by rw [hnl, hb3] at hk; omega))
                          rw [show off + len * bs + k = off + (len * bs + k) by omega]; exact this)
                        have hrun := append_plain ok (ty := ty) (a := ⟨p.blk, p.off + off, none⟩) hu1 hu2 hni hes hlen hroom (hy2 W rfl) (W' := W.setCells p.blk (p.off + (off + len * bs)) ys) (by rw [addAt, Nat.add_assoc]; exact hst)
                        have hext := upd_ext (i := w.nx) (p := ⟨p.blk, p.off + off, c'⟩) (f _ (Nat.le_refl _))
                        refine ⟨_, _, upd m w.nx ⟨p.blk, p.off + off, c'⟩, _, _, rfl, hrun, ⟨_, upd_same _ _ _, _, _, rfl, by simp [CapR], hroom, .inr rfl⟩, ?_⟩
                        have hcs : ∀ k, k < ys.length → (W.cell? ⟨p.blk, p.off + (off + len * bs) + k, none⟩).isSome = true := fun k hk => by
                          have := (hsp (off + (len * bs + k)) (hin _ (by rw [hnl, hb3] at hk; omega))).1
                          rwa [show p.off + (off + len * bs) + k = p.off + (off + (len * bs + k)) by omega]
                        have out : ∀ k, ¬ (len * bs ≤ k ∧ k < len * bs + ys.length) → (W.setCells p.blk (p.off + (off + len * bs)) ys).cell? ⟨p.blk, p.off + off + k, none⟩ = W.cell? ⟨p.blk, p.off + off + k, none⟩ := fun k hk =>
                          World.cell?_setCells_out _ _ _ _ _ (fun _ _ => by show p.off + off + k < p.off + (off + len * bs) ∨ p.off + (off + len * bs) + ys.length ≤ p.off + off + k; omega)
                        have inn : ∀ k v, ys[k]? = some v → (W.setCells p.blk (p.off + (off + len * bs)) ys).cell? ⟨p.blk, p.off + off + (len * bs + k), none⟩ = some v := fun k v e => by
                          have := cells_in hcs k v e
                          rwa [show p.off + (off + len * bs) + k = p.off + off + (len * bs + k) by omega] at this
                        refine Step.moved (p' := ⟨p.blk, p.off + off, c'⟩) g f hgi hp rfl (fun b hb => setCells_heap_ne _ _ _ _ hb) (setCells_os ..) (setCells_tape ..) (setCells_output ..) (by rw [setCells_size]; exact Nat.le_refl _) ⟨fun k x e => ?_, ?_, fun k hk => ⟨?_, ?_⟩, ?_, fun e => by cases e⟩
                        · by_cases hk : k < old.length
                          · rw [List.getElem?_append_left hk] at e
                            rw [hspl] at e
                            obtain ⟨e', _⟩ := spl_get _ _ _ _ _ e
                            obtain ⟨y, hy, hv⟩ := hbr.1 _ _ e'
                            refine ⟨y, ?_, hv.mono hext _ _⟩
                            rw [out k (by omega), Nat.add_assoc]; exact hy
                          · rw [List.getElem?_append_right (by omega)] at e
                            obtain ⟨v, hv1, hv2⟩ := hy1.get _ _ e
                            refine ⟨v, ?_, hv2.mono hext _ _⟩
                            have := inn _ v hv1
                            rwa [show p.off + off + (len * bs + (k - old.length)) = p.off + off + k by omega] at this
                        · simp only [span, if_true, List.length_append, hol, hb3]; omega
                        · simp only [span, if_true] at hk
                          by_cases hk2 : len * bs ≤ k ∧ k < len * bs + ys.length
                          · have hlt : k - len * bs < ys.length := by omega
                            have := inn (k - len * bs) _ (List.getElem?_eq_getElem hlt)
                            rw [show p.off + off + (len * bs + (k - len * bs)) = p.off + off + k by omega] at this
                            show ((W.setCells _ _ _).cell? ⟨p.blk, p.off + off + k, none⟩).isSome = true
                            rw [this]; rfl
                          · show ((W.setCells _ _ _).cell? ⟨p.blk, p.off + off + k, none⟩).isSome = true
                            rw [out k hk2, Nat.add_assoc]; exact (hsp _ (hin k hk)).1
                        · simp only [span, if_true] at hk
                          rw [World.frozen?_setCells]
                          show W.frozen? ⟨p.blk, p.off + off + k, none⟩ = false
                          rw [Nat.add_assoc]; exact (hsp _ (hin k hk)).2
                        · rw [setCells_size]; exact hbr.2.2.2.1
                      · exact grow (by omega) _ (get_del_sub _ _)
                    · cases h
                  · cases h
            · cases h
          · cases h
      · cases h
    · cases h
  · cases h
end Go.Eng
