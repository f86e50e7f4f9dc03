import Derived.Test.YtheclllbnkolaaaGreatDoorEngOps10
namespace Go.Eng
open Go
variable {E : Env} {m : Mu} {w : Hp} {W : World}

/-- From a smaller state. -/
theorem Step.sub {h h1 : H} {nx : Nat} {m' : Mu} {h' : H} {nx' : Nat} {W' : World} (s : ∀ i ab, h1.get i = some ab → h.get i = some ab) (k : Step m h1 nx W m' h' nx' W') : Step m h nx W m' h' nx' W' :=
  { k with
    frame := fun b hb hl => k.frame b hb (fun ⟨i, ab, p, e, hp, e2⟩ => hl ⟨i, ab, p, s _ _ e, hp, e2⟩)
    back := fun b hl => (k.back b hl).elim .inl fun ⟨i, ab, p, e, hp, e2⟩ => .inr ⟨i, ab, p, s _ _ e, hp, e2⟩ }

theorem get_del_sub (h : H) (i : Nat) : ∀ j ab, (h.del i).get j = some ab → h.get j = some ab := by
  intro j ab e
  rw [T.get_del] at e
  split at e
  · cases e
  · exact e

/-- One of its blocks goes by a new number. -/
theorem Step.moved {h : H} {nx : Nat} {W' : World} {i : Nat} {p p' : Pl} {ab ab' : AB} (g : Gam m h W) (f : Fresh m nx) (e : h.get i = some ab) (hp : m i = some p) (hpp : p'.blk = p.blk)
    (hs : ∀ b, b ≠ p.blk → W'.heap[b]? = W.heap[b]?) (hos : W'.os = W.os) (htape : W'.tape = W.tape) (hout : W'.output = W.output) (hsz : W.heap.size ≤ W'.heap.size)
    (hb : BR (upd m nx p') W' p' ab') : Step m h nx W (upd m nx p') ((h.del i).set nx ab') (nx + 1) W' where
  gam := by
    have hold : ∀ (j : Nat) (ab1 : AB), j ≠ nx → ((h.del i).set nx ab').get j = some ab1 → j ≠ i ∧ h.get j = some ab1 := fun j ab1 hj e1 => by
      rw [T.get_set, if_neg hj, T.get_del] at e1
      split at e1
      · cases e1
      · exact ⟨by assumption, e1⟩
    have hext : Ext m (upd m nx p') := upd_ext (f nx (Nat.le_refl _))
    refine ⟨fun j ab1 e1 => ?_, fun j k ab1 ab2 q r e1 e2 hne f1 f2 => ?_⟩
    · by_cases hj : j = nx
      · subst hj
        rw [T.get_set, if_pos rfl] at e1
        cases e1
        exact ⟨p', upd_same _ _ _, hb⟩
      · obtain ⟨hji, e3⟩ := hold j ab1 hj e1
        obtain ⟨q, hq, hbr⟩ := g.dom j ab1 e3
        exact ⟨q, hext _ _ hq, (hbr.same (hs _ (g.inj j i ab1 ab q p e3 e hji hq hp))).mono hext⟩
    · by_cases hj : j = nx
      · subst hj
        have hk : k ≠ j := fun e => hne e.symm
        obtain ⟨hki, e2⟩ := hold k ab2 hk e2
        rw [upd_same] at f1; cases f1
        rw [upd_ne _ _ _ hk] at f2
        rw [hpp]
        exact fun e3 => g.inj k i ab2 ab r p e2 e hki f2 hp e3.symm
      · obtain ⟨hji, e3⟩ := hold j ab1 hj e1
        rw [upd_ne _ _ _ hj] at f1
        by_cases hk : k = nx
        · subst hk
          rw [upd_same] at f2; cases f2
          rw [hpp]
          exact g.inj j i ab1 ab q p e3 e hji f1 hp
        · obtain ⟨hki, e4⟩ := hold k ab2 hk e2
          rw [upd_ne _ _ _ hk] at f2
          exact g.inj j k ab1 ab2 q r e3 e4 hne f1 f2
  fresh j hj := by rw [upd_ne _ _ _ (by omega)]; exact f j (by omega)
  le := Nat.le_succ _
  same j hj := upd_ne _ _ _ (by omega)
  os := hos
  tape := htape
  output := hout
  size := hsz
  frame b _ hl := hs b fun eb => hl ⟨i, ab, p, e, hp, eb.symm⟩
  back b hl := by
    obtain ⟨j, ab1, q, e1, hq, rfl⟩ := hl
    by_cases hj : j = nx
    · subst hj
      rw [upd_same] at hq; cases hq
      exact .inr ⟨i, ab, p, e, hp, hpp.symm⟩
    · rw [T.get_set, if_neg hj] at e1
      rw [upd_ne _ _ _ hj] at hq
      exact .inr ⟨j, ab1, q, get_del_sub _ _ _ _ e1, hq, rfl⟩

/-- What a grown row holds. -/
def grown (old new : List Value) (z : Array Value) (k : Nat) : Array Value := old.toArray ++ new.toArray ++ Builtin.zeroCells z k

theorem appendNew_ok {et : TypeId} {es len n cap : Nat} {old new : List AV} {old' new' : List Value} {zv : Value} {h : H} {nx : Nat} {s : Sem Value} (g : Gam m h W) (f : Fresh m nx)
    (ho : VRL m old old') (hn : VRL m new new') (hol : old.length = len * es) (hnl : new.length = n * es) (hz : zv.cells.size = es) (hcap : len + n ≤ cap)
    (hrun : s.run E.P W = .ok (.slice (some ⟨W.heap.size, 0, none⟩) (len + n) cap) ({ W with drawn := W.drawn + 1 }.alloc (.cells (grown old' new' zv.cells (cap - (len + n))) et))) :
    ∃ m' v', s.run E.P W = .ok v' ({ W with drawn := W.drawn + 1 }.alloc (.cells (grown old' new' zv.cells (cap - (len + n))) et)) ∧ VR m' (.slc nx 0 (len + n) (.en 0)) v' ∧
      Step m h nx W m' (h.set nx (.cells (old ++ new) et es true)) (nx + 1) ({ W with drawn := W.drawn + 1 }.alloc (.cells (grown old' new' zv.cells (cap - (len + n))) et)) := by
  have he := upd_ext (i := nx) (p := ⟨W.heap.size, 0, cap⟩) (f _ (Nat.le_refl _))
  have hol' := ho.length
  have hnl' := hn.length
  have hsz : (grown old' new' zv.cells (cap - (len + n))).size = cap * es := by
    simp only [grown, Array.size_append, List.size_toArray, Builtin.zeroCells, Array.size_map, Array.size_range, hz]
    rw [hol', hnl', hol, hnl, ← Nat.add_mul, ← Nat.add_mul]
    congr 1; omega
  refine ⟨upd m nx ⟨W.heap.size, 0, cap⟩, _, hrun, ⟨_, upd_same _ _ _, 0, cap, rfl, by simp [CapR], hcap, .inr rfl⟩, ?_⟩
  refine Step.new g f (fun b hb => Go.RowKit.Below.heap_alloc _ _ _ hb) rfl rfl rfl (by simp [World.alloc]) (Nat.le_refl _) ?_
  refine BR_alloc (W := { W with drawn := W.drawn + 1 }) rfl rfl (fun k x e => ?_) ?_ ?_
  · obtain ⟨y, hy, hv⟩ := ((ho.mono he _ _).append (hn.mono he _ _)).get k x e
    refine ⟨y, ?_, hv⟩
    have hk := (List.getElem?_eq_some_iff.1 hy).1
    simp only [grown]
    rw [Array.getElem?_append_left (by simpa using hk)]
    simpa using hy
  · simp only [span, if_true, List.length_append, hol, hnl, ← Nat.add_mul]
    exact Nat.mul_le_mul_right _ hcap
  · simp only [span, if_true]
    rw [hsz]; exact Nat.le_refl _

set_option maxHeartbeats 4000000
/-- Where there is no room. -/
theorem append_grow (ok : E.Ok) {t1 t2 ty et : TypeId} {es n sLen sCap : Nat} {d2 : TypeDesc} {inf : TypeInfo} {z : List AV} {base : Option Addr} {x' : Value} {old new : List AV} {old' new' : List Value} {h : H} {nx : Nat}
    (g : Gam m h W) (f : Fresh m nx) (hu1 : E.und t1 = some (.slice et)) (hu2 : E.und t2 = some d2) (hni : ∀ k, d2 ≠ .int k) (hes : szOf E et = some es) (hinf : E.inf et = some inf) (hz : zeroA E et = some z) (hzl : z.length = es)
    (hlen : (Builtin.lenOf x').run E.P W = .ok n W) (hb1 : (sLen + n) * inf.bytes ≤ 1048576) (hb2 : sLen + n ≤ 1048576) (hno : sCap < sLen + n)
    (ho : VRL m old old') (hn : VRL m new new') (hol : old.length = sLen * es) (hnl : new.length = n * es)
    (hro : ∀ W' : World, W'.heap = W.heap → (Builtin.firstCells es sLen (.slice base sLen sCap)).run E.P W' = .ok old'.toArray W')
    (hrn : ∀ W' : World, W'.heap = W.heap → (Builtin.firstCells es n x').run E.P W' = .ok new'.toArray W') :
    ∃ m' v' W', (Builtin.append_ #[t1, t2] ty #[.slice base sLen sCap, x']).run E.P W = .ok v' W' ∧ VR m' (.slc nx 0 (sLen + n) (.en 0)) v' ∧
      Step m h nx W m' (h.set nx (.cells (old ++ new) et es true)) (nx + 1) W' := by
  obtain ⟨zv, rfl, hzr⟩ := run_zero ok hz
  simp only [List.length_map, Array.length_toList] at hzl
  let q : Question := .appendCap (sLen + n) sCap et
  generalize hc : q.cut (W.tape W.drawn q) = cap
  have hcap : sLen + n ≤ cap := by rw [← hc]; simp [q, Question.cut]
  have hrun : (Builtin.append_ #[t1, t2] ty #[.slice base sLen sCap, x']).run E.P W = .ok (.slice (some ⟨W.heap.size, 0, none⟩) (sLen + n) cap) ({ W with drawn := W.drawn + 1 }.alloc (.cells (grown old' new' zv.cells (cap - (sLen + n))) et)) := by
    have h63 : ¬ ((((sLen + n : Nat) : Int) > IntKind.i64.max ∧ (false = true ∨ inf.bytes = 0))) := by
      have : IntKind.i64.max = 9223372036854775807 := rfl
      rw [this]; omega
    have h48 : ¬ (Builtin.nextslicecap (sLen + n) sCap * inf.bytes > 2 ^ 48) := by
      have h1 := nextslicecap_le hno
      have h2 : Builtin.nextslicecap (sLen + n) sCap * inf.bytes ≤ 2 * ((sLen + n) * inf.bytes) := by
        rw [← Nat.mul_assoc]; exact Nat.mul_le_mul_right _ h1
      omega
    have hno' : ¬ (sLen + n ≤ sCap) := by omega
    have h63' : ¬ (9223372036854775807 < ((sLen : Int) + (n : Int))) := by omega
    have h48' : ¬ (281474976710656 < Builtin.nextslicecap (sLen + n) sCap * inf.bytes) := by omega
    have hro' := hro W.drew rfl
    have hrn' := hrn W.drew rfl
    have hc' : (Question.appendCap (sLen + n) sCap et).cut (W.tape W.drawn (.appendCap (sLen + n) sCap et)) = cap := hc
    have hg : old'.toArray ++ (new'.toArray ++ Builtin.zeroCells zv.cells (cap - (sLen + n))) = grown old' new' zv.cells (cap - (sLen + n)) := by unfold grown; rw [Array.append_assoc]
    cases d2 <;> first
      | exact absurd rfl (hni _)
      | (simp [Builtin.append_, run_und ok hu1, run_und ok hu2, run_sz ok hes, run_inf ok hinf, hlen, hno', h63', h48', Question.forced, hro', hrn', newRow, hzr, hc', hg]; done)
  obtain ⟨m', v', h1, h2, h3⟩ := appendNew_ok (s := Builtin.append_ #[t1, t2] ty #[.slice base sLen sCap, x']) (cap := cap) g f ho hn hol hnl hzl hcap hrun
  exact ⟨m', v', _, h1, h2, h3⟩
theorem append_plain (ok : E.Ok) {t1 t2 ty et : TypeId} {es n sLen sCap : Nat} {d2 : TypeDesc} {a : Addr} {x' : Value} {new' : Array Value} {W' : World}
    (hu1 : E.und t1 = some (.slice et)) (hu2 : E.und t2 = some d2) (hni : ∀ k, d2 ≠ .int k) (hes : szOf E et = some es)
    (hlen : (Builtin.lenOf x').run E.P W = .ok n W) (hyes : sLen + n ≤ sCap) (hnew : (Builtin.firstCells es n x').run E.P W = .ok new' W)
    (hst : (storeCells (a.add (sLen * es)) new'.toList).run E.P W = .ok () W') :
    (Builtin.append_ #[t1, t2] ty #[.slice (some a) sLen sCap, x']).run E.P W = .ok (.slice (some a) (sLen + n) sCap) W' := by
  cases d2 <;> first
    | exact absurd rfl (hni _)
    | (simp [Builtin.append_, run_und ok hu1, run_und ok hu2, run_sz ok hes, hlen, hyes, hnew, hst]; done)

theorem append_none (ok : E.Ok) {t1 t2 ty et : TypeId} {es : Nat} {d2 : TypeDesc} {x' : Value} {new' : Array Value}
    (hu1 : E.und t1 = some (.slice et)) (hu2 : E.und t2 = some d2) (hni : ∀ k, d2 ≠ .int k) (hes : szOf E et = some es)
    (hlen : (Builtin.lenOf x').run E.P W = .ok 0 W) (hnew : (Builtin.firstCells es 0 x').run E.P W = .ok new' W) :
    (Builtin.append_ #[t1, t2] ty #[.slice none 0 0, x']).run E.P W = .ok (.slice none 0 0) W := by
  cases d2 <;> first
    | exact absurd rfl (hni _)
    | (simp [Builtin.append_, run_und ok hu1, run_und ok hu2, run_sz ok hes, hlen, hnew]; done)
end Go.Eng
