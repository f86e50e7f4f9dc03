import Derived.Test.YtheclllbnkolaaaGreatDoorEngOps9
import Derived.Laws.Append
namespace Go.Eng
open Go
variable {E : Env} {m : Mu} {w : Hp} {W : World}

/-! ### Writing -/
theorem setCell_heap_ne (W : World) (a : Addr) (v : Value) {c : Nat} (h : c ≠ a.block) : (W.setCell a v).heap[c]? = W.heap[c]? := by
  show (W.heap.modify _ _)[c]? = _
  rw [Array.getElem?_modify, if_neg (by omega)]
theorem setCell_size (W : World) (a : Addr) (v : Value) : (W.setCell a v).heap.size = W.heap.size := by
  show (W.heap.modify _ _).size = _
  simp
theorem setCell_shape (W : World) (b o : Nat) (v : Value) : (W.setCell ⟨b, o, none⟩ v).shape? b = W.shape? b := by
  show World.shape? { W with heap := W.heap.modify _ _ } b = _
  simp only [World.shape?, Array.getElem?_modify, if_true]
  cases h : W.heap[b]? with
  | none => rfl
  | some o => cases o <;> simp

theorem setCells_heap_ne (b : Nat) : ∀ (vs : List Value) (o : Nat) (W : World) {c : Nat}, c ≠ b → (W.setCells b o vs).heap[c]? = W.heap[c]?
  | [], _, _, _, _ => rfl
  | v :: r, o, W, c, h => by rw [World.setCells, setCells_heap_ne b r (o + 1) _ h, setCell_heap_ne _ _ _ h]
theorem setCells_size (b : Nat) : ∀ (vs : List Value) (o : Nat) (W : World), (W.setCells b o vs).heap.size = W.heap.size
  | [], _, _ => rfl
  | v :: r, o, W => by rw [World.setCells, setCells_size b r (o + 1), setCell_size]
theorem setCells_shape (b : Nat) : ∀ (vs : List Value) (o : Nat) (W : World), (W.setCells b o vs).shape? b = W.shape? b
  | [], _, _ => rfl
  | v :: r, o, W => by rw [World.setCells, setCells_shape b r (o + 1), setCell_shape]
theorem setCells_os (b : Nat) : ∀ (vs : List Value) (o : Nat) (W : World), (W.setCells b o vs).os = W.os
  | [], _, _ => rfl
  | v :: r, o, W => by rw [World.setCells, setCells_os b r (o + 1)]; rfl
theorem setCells_tape (b : Nat) : ∀ (vs : List Value) (o : Nat) (W : World), (W.setCells b o vs).tape = W.tape
  | [], _, _ => rfl
  | v :: r, o, W => by rw [World.setCells, setCells_tape b r (o + 1)]; rfl
theorem setCells_output (b : Nat) : ∀ (vs : List Value) (o : Nat) (W : World), (W.setCells b o vs).output = W.output
  | [], _, _ => rfl
  | v :: r, o, W => by rw [World.setCells, setCells_output b r (o + 1)]; rfl

theorem oneA_ok {x : AV} {v : Value} (h : oneA x = true) (hv : VR m x v) : v.oneCell' = true := by
  cases x with
  | s u => obtain rfl : v = u := hv; cases v <;> simp_all [oneA, Value.oneCell']
  | ptr i o => obtain ⟨p, _, rfl⟩ := hv; rfl
  | slc i o n c => obtain ⟨p, _, o', c', rfl, _⟩ := hv; rfl
  | mp i => obtain ⟨p, _, rfl⟩ := hv; rfl
  | fn f a b => obtain ⟨as, bs, _, _, rfl⟩ := hv; rfl
  | yld l => obtain ⟨p, _, rfl⟩ := hv; rfl
  | ifc t x => obtain ⟨y, _, rfl⟩ := hv; rfl
  | agg cs => simp [oneA] at h
  | tup cs => simp [oneA] at h

theorem oneA_all : ∀ {cs : List AV} {vs : List Value}, cs.all oneA = true → VRL m cs vs → ∀ v ∈ vs, v.oneCell' = true
  | [], vs, _, h => by simp [VRL] at h; simp [h]
  | x :: xs, vs, h, hv => by
    obtain ⟨y, ys, rfl, hx, hxs⟩ := hv
    simp only [List.all_cons, Bool.and_eq_true] at h
    intro v hvm
    simp only [List.mem_cons] at hvm
    rcases hvm with rfl | hvm
    · exact oneA_ok h.1 hx
    · exact oneA_all h.2 hxs v hvm

/-- Cells that lie in a block may be written. -/
theorem cells_store {p : Pl} {o : Nat} {cs : List AV} {vs : List Value} (h1 : cs.all oneA = true) (hv : VRL m cs vs)
    (hc : ∀ k, k < vs.length → (W.cell? ⟨p.blk, p.off + (o + k), none⟩).isSome = true ∧ W.frozen? ⟨p.blk, p.off + (o + k), none⟩ = false) :
    (storeCells ⟨p.blk, p.off + o, none⟩ vs).run E.P W = .ok () (W.setCells p.blk (p.off + o) vs) := by
  have := run_storeCells_cells (P := E.P) p.blk (p.off + o) vs 0 W (fun j hj => by have := (hc j hj).1; rwa [show p.off + o + 0 + j = p.off + (o + j) by omega])
    (fun j hj => by have := (hc j hj).2; rwa [show p.off + o + 0 + j = p.off + (o + j) by omega]) (oneA_all h1 hv)
  simpa using this

theorem cells_in {W : World} {b o : Nat} {vs : List Value} (hc : ∀ k, k < vs.length → (W.cell? ⟨b, o + k, none⟩).isSome = true) (k : Nat) (v : Value) (h : vs[k]? = some v) :
    (W.setCells b o vs).cell? ⟨b, o + k, none⟩ = some v := by
  obtain ⟨hk, e⟩ := List.getElem?_eq_some_iff.1 h
  rw [World.cell?_setCells_in b vs o W hc k hk, e]

theorem writeA_ok {i off : Nat} {cs : List AV} {vs : List Value} {w' : Hp} {p : Pl} (g : Gam m w.h W) (f : Fresh m w.nx) (hp : m i = some p) (hv : VRL m cs vs) (h : writeA w i off cs = some w') :
    (storeCells ⟨p.blk, p.off + off, none⟩ vs).run E.P W = .ok () (W.setCells p.blk (p.off + off) vs) ∧ w'.nx = w.nx ∧ Step m w.h w.nx W m w'.h w'.nx (W.setCells p.blk (p.off + off) vs) := by
  unfold writeA at h
  split at h
  · rename_i old et es op hg
    simp only [cond_eq_ite] at h
    split at h
    · rename_i new hput
      split at hput
      · rename_i h1
        cases h
        obtain ⟨q, hq, hb⟩ := g.dom _ _ hg
        rw [hp] at hq; cases hq
        obtain ⟨g1, g2, g3⟩ := putL_get _ _ _ _ hput
        have hl := hv.length
        have hin : ∀ k, k < vs.length → off + k < old.length := fun k hk => by
          rcases g2 with e | e
          · subst e; rw [List.length_nil] at hl; omega
          · omega
        have hc : ∀ k, k < vs.length → (W.cell? ⟨p.blk, p.off + (off + k), none⟩).isSome = true ∧ W.frozen? ⟨p.blk, p.off + (off + k), none⟩ = false := fun k hk => by
          exact hb.2.2.1 (off + k) (Nat.lt_of_lt_of_le (hin k hk) hb.2.1)
        refine ⟨cells_store h1 hv hc, rfl, ?_⟩
        have hcs : ∀ k, k < vs.length → (W.cell? ⟨p.blk, p.off + off + k, none⟩).isSome = true := fun k hk => by rw [Nat.add_assoc]; exact (hc k hk).1
        have out : ∀ k, ¬ (off ≤ k ∧ k < off + vs.length) → (W.setCells p.blk (p.off + off) vs).cell? ⟨p.blk, p.off + k, none⟩ = W.cell? ⟨p.blk, p.off + k, none⟩ := fun k hk =>
          World.cell?_setCells_out _ _ _ _ _ (fun _ _ => by show p.off + k < p.off + off ∨ p.off + off + vs.length ≤ p.off + k; omega)
        have inn : ∀ k v, off ≤ k → vs[k - off]? = some v → (W.setCells p.blk (p.off + off) vs).cell? ⟨p.blk, p.off + k, none⟩ = some v := fun k v hk e => by
          have := cells_in hcs (k - off) v e
          rwa [show p.off + off + (k - off) = p.off + k by omega] at this
        have hsp : span p new.length es op = span p old.length es op := by rw [g1]
        refine Step.put g f hg hp (fun b hb => setCells_heap_ne _ _ _ _ hb) (setCells_os ..) (setCells_tape ..) (setCells_output ..) (by rw [setCells_size]; exact Nat.le_refl _) ⟨fun k x e => ?_, ?_, fun k hk => ⟨?_, ?_⟩, ?_, fun e => ?_⟩
        · rw [g3] at e
          split at e
          · rename_i hk
            obtain ⟨v, hv1, hv2⟩ := hv.get _ _ e
            exact ⟨v, inn k v hk.1 hv1, hv2⟩
          · rename_i hk
            rw [out k (by rw [hl]; exact hk)]
            exact hb.1 k x e
        · rw [hsp, g1]; exact hb.2.1
        · rw [hsp] at hk
          by_cases hk2 : off ≤ k ∧ k < off + vs.length
          · have hlt : k - off < vs.length := by omega
            rw [inn k vs[k - off] hk2.1 (List.getElem?_eq_getElem hlt)]; rfl
          · rw [out k hk2]; exact (hb.2.2.1 k hk).1
        · rw [hsp] at hk
          rw [World.frozen?_setCells]; exact (hb.2.2.1 k hk).2
        · rw [setCells_size]; exact hb.2.2.2.1
        · obtain ⟨⟨x, hx⟩, hf⟩ := hb.2.2.2.2 e
          exact ⟨⟨x, by rw [setCells_shape]; exact hx⟩, fun o => by rw [World.frozen?_setCells]; exact hf o⟩
      · cases hput
    · cases h
  · cases h

theorem opStore_ok (ok : E.Ok) {t : TypeId} {a x : AV} {a' x' : Value} {r : OR} (g : Gam m w.h W) (f : Fresh m w.nx) (ha : VR m a a') (hx : VR m x x') (h : opStore E w t a x = some r) :
    UnitOk E m w W r (Instr.storeAt t a' x') := by
  unfold opStore at h
  split at h
  · rename_i i off n hsz
    simp only [cond_eq_ite, Nat.beq_eq] at h
    split at h
    · rename_i hl
      simp only [Option.map_eq_some_iff] at h
      obtain ⟨w', hw, rfl⟩ := h
      obtain ⟨p, hp, rfl⟩ := ha
      have hc := cellsA_VR hx
      obtain ⟨h1, h2, h3⟩ := writeA_ok (E := E) g f hp hc hw
      have hsz' : x'.cells.size = n := by have := hc.length; simp at this; omega
      refine ⟨_, m, _, rfl, ?_, h3⟩
      simp only [Instr.storeAt, Instr.sureAddr, Sem.run_bind, Sem.run_pure, Result.andThen_ok, storeVar, run_sz ok hsz, hsz', ne_eq, not_true_eq_false, if_false, h1]
    · cases h
  · cases h

theorem lenA_ok {x : AV} {x' : Value} {n : Nat} (hx : VR m x x') (h : lenA x = some n) : (Builtin.lenOf x').run E.P W = .ok n W := by
  unfold lenA at h
  split at h
  · cases h; obtain rfl : x' = _ := hx; simp [Builtin.lenOf]
  · cases h; obtain rfl : x' = _ := hx; simp [Builtin.lenOf]
  · cases h; obtain ⟨p, hp, o', c', rfl, _⟩ := hx; simp [Builtin.lenOf]
  · cases h

theorem elemsOf_zero {es : Nat} {x : AV} {l : List AV} (h : elemsOf w es 0 x = some l) : l = [] := by
  unfold elemsOf at h
  split at h
  · cases h; rfl
  · cases h; rfl
  · split at h
    · simp only [cond_eq_ite] at h
      split at h
      · rename_i hb
        cases h
        simp only [Bool.and_eq_true, Nat.beq_eq, Nat.zero_mul] at hb
        refine List.length_eq_zero_iff.1 ?_
        rw [Nat.zero_mul]; exact hb.1
      · cases h
    · cases h
  · cases h

theorem elemsOf_len {es n : Nat} {i off len : Nat} {c : Cap} {l : List AV} (h : elemsOf w es n (.slc i off len c) = some l) :
    l.length = n * es ∧ ∃ vs et bs op, w.h.get i = some (.cells vs et bs op) ∧ l = spl off (n * es) vs := by
  simp only [elemsOf] at h
  split at h
  · rename_i vs et bs op hg
    simp only [cond_eq_ite] at h
    split at h
    · rename_i hb
      cases h
      simp only [Bool.and_eq_true, Nat.beq_eq] at hb
      exact ⟨hb.1, vs, et, bs, op, hg, rfl⟩
    · cases h
  · cases h

theorem opCopy_ok (ok : E.Ok) {t t2 ty : TypeId} {d x : AV} {d' x' : Value} {r : OR} (g : Gam m w.h W) (f : Fresh m w.nx) (hd : VR m d d') (hx : VR m x x') (h : opCopy E w t d x = some r) :
    DoOk E m w W r (Builtin.copy_ #[t, t2] ty #[d', x']) := by
  unfold opCopy at h
  split at h
  · rename_i et dn xn hu hdn hxn
    split at h
    · rename_i es hes
      have hlen := lenA_ok (E := E) (W := W) hx hxn
      simp only at h
      split at h
      · rename_i cs i off dl cap hcs
        obtain ⟨ys, hy1, hy2⟩ := elemsOf_ok (E := E) g hx hcs
        obtain ⟨p, hp, o', c', rfl, hc, hn, ho⟩ := hd
        simp only [lenA, Option.some.injEq] at hdn
        subst hdn
        simp only [cond_eq_ite, Nat.beq_eq] at h
        split at h
        · rename_i h0
          cases h
          rw [h0] at hcs
          have := elemsOf_zero hcs
          subst this
          simp only [VRL] at hy1
          subst hy1
          refine ⟨_, w, m, goInt 0, W, rfl, ?_, rfl, Step.refl g f⟩
          rw [h0] at hy2
          simp [Builtin.copy_, run_und ok hu, hlen, run_sz ok hes, hy2, h0, storeCells]
        · rename_i h0
          simp only [Option.map_eq_some_iff] at h
          obtain ⟨w', hw, rfl⟩ := h
          have hpos : c' ≠ 0 := by
            rintro rfl
            have : dl = 0 := by omega
            rw [this] at h0
            simp at h0
          have ho' : o' = p.off + off := by rcases ho with e | e; exact absurd e hpos; exact e
          subst ho'
          obtain ⟨h1, h2, h3⟩ := writeA_ok (E := E) g f hp hy1 hw
          refine ⟨_, _, m, goInt (Nat.min xn dl : Nat), _, rfl, ?_, rfl, h3⟩
          simp [Builtin.copy_, run_und ok hu, hlen, run_sz ok hes, hy2, h1]
      · rename_i cs a b hcs
        cases h
        obtain ⟨ys, hy1, hy2⟩ := elemsOf_ok (E := E) g hx hcs
        obtain rfl : d' = _ := hd
        simp only [lenA, Option.some.injEq] at hdn
        subst hdn
        refine ⟨_, w, m, _, W, rfl, ?_, rfl, Step.refl g f⟩
        simp [Builtin.copy_, run_und ok hu, hlen, run_sz ok hes, hy2]
      · cases h
    · cases h
  · cases h
end Go.Eng
