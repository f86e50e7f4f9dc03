import Derived.Test.YtheclllbnkolaaaGreatDoorEngRel
import Derived.Laws.IdiomCopy
import Derived.Below
import Derived.RangeFuncRecord
namespace Go.Eng
open Go

/-! ### Blocks -/
def plainB (w : World) (b : Nat) : Prop := (∃ x, w.shape? b = some x) ∧ ∀ o, w.frozen? ⟨b, o, none⟩ = false

def span (p : Pl) (n es : Nat) (op : Bool) : Nat := if op then p.cap * es else n

def MER (m : Mu) (e : ME) (e' : MapEntry) : Prop := e'.key = e.key ∧ e'.born = e.born ∧ VR m e.val e'.val

inductive MERL (m : Mu) : List ME → List MapEntry → Prop
  | nil : MERL m [] []
  | cons {e e' l l'} (h : MER m e e') (t : MERL m l l') : MERL m (e :: l) (e' :: l')

structure TmR (m : Mu) (n : Nat) (tm : Tm) (tmps : Array Value) : Prop where
  size : tmps.size = n
  val : ∀ t, t < n → VR m ((tm.get t).getD (.s undef)) (tmps.getD t undef)
  out : ∀ t, n ≤ t → tm.get t = none

def OPl (m : Mu) : Option Nat → Option Nat → Prop
  | none, x => x = none
  | some i, x => ∃ q, m i = some q ∧ x = some q.blk

def BR (m : Mu) (w : World) (p : Pl) : AB → Prop
  | .cells vs _ es op =>
    (∀ k x, vs[k]? = some x → ∃ y, w.cell? ⟨p.blk, p.off + k, none⟩ = some y ∧ VR m x y) ∧
    vs.length ≤ span p vs.length es op ∧
    (∀ k, k < span p vs.length es op → (w.cell? ⟨p.blk, p.off + k, none⟩).isSome = true ∧ w.frozen? ⟨p.blk, p.off + k, none⟩ = false) ∧
    p.blk < w.heap.size ∧ (op = false → plainB w p.blk)
  | .map es clock => ∃ es', w.heap[p.blk]? = some (.map es' clock) ∧ MERL m es es'.toList
  | .iter mo since seen stepped => ∃ mo', w.heap[p.blk]? = some (.mapIter mo' since seen.toArray stepped) ∧ OPl m mo mo' ∧ p.off = 0
  | .loop st pend _ n tm ps a b d => ∃ tmps q fn', w.heap[p.blk]? = some (.loop { state := st, pending := pend, fn := fn', tmps := tmps, params := ps.toArray, assign := a, body := b, defers := q }) ∧ TmR m n tm tmps ∧ OPl m (some d) (some q) ∧ goodC a = true ∧ goodC b = true
  | .dfr taken => w.heap[p.blk]? = some (.deferred (if taken then none else some []))

theorem BR.lt {m : Mu} {w : World} {p : Pl} {ab : AB} (h : BR m w p ab) : p.blk < w.heap.size := by
  cases ab with
  | cells vs et es op => exact h.2.2.2.1
  | map es c => obtain ⟨es', e, _⟩ := h; exact (Array.getElem?_eq_some_iff.1 e).1
  | iter mo a b c => obtain ⟨mo', e, _⟩ := h; exact (Array.getElem?_eq_some_iff.1 e).1
  | loop st pend fn n tm ps a b d => obtain ⟨tmps, q, fn', e, _⟩ := h; exact (Array.getElem?_eq_some_iff.1 e).1
  | dfr t => exact (Array.getElem?_eq_some_iff.1 h).1

theorem TmR.mono {m m' : Mu} {n : Nat} {tm : Tm} {tmps : Array Value} (h : Ext m m') (k : TmR m n tm tmps) : TmR m' n tm tmps :=
  ⟨k.size, fun t ht => VR.mono h _ _ (k.val t ht), k.out⟩
theorem OPl.mono {m m' : Mu} {a b : Option Nat} (h : Ext m m') (k : OPl m a b) : OPl m' a b := by
  cases a with
  | none => exact k
  | some i => obtain ⟨q, e, f⟩ := k; exact ⟨q, h _ _ e, f⟩
theorem MERL.mono {m m' : Mu} (h : Ext m m') {l : List ME} {l' : List MapEntry} (k : MERL m l l') : MERL m' l l' := by
  induction k with
  | nil => exact .nil
  | cons a _ ih => exact .cons ⟨a.1, a.2.1, VR.mono h _ _ a.2.2⟩ ih
theorem BR.mono {m m' : Mu} {w : World} {p : Pl} {ab : AB} (h : Ext m m') (k : BR m w p ab) : BR m' w p ab := by
  cases ab with
  | cells vs et es op => exact ⟨fun k' x e => let ⟨y, a, b⟩ := k.1 k' x e; ⟨y, a, VR.mono h _ _ b⟩, k.2⟩
  | map es c => obtain ⟨es', e, f⟩ := k; exact ⟨es', e, f.mono h⟩
  | iter mo a b c => obtain ⟨mo', e, f⟩ := k; exact ⟨mo', e, f.1.mono h, f.2⟩
  | loop st pend fn n tm ps a b d => obtain ⟨tmps, q, fn', e, f, g⟩ := k; exact ⟨tmps, q, fn', e, f.mono h, g.1.mono h, g.2⟩
  | dfr t => exact k

theorem cell?_same {w w' : World} {b : Nat} (h : w'.heap[b]? = w.heap[b]?) (o : Nat) : w'.cell? ⟨b, o, none⟩ = w.cell? ⟨b, o, none⟩ := by
  simp only [World.cell?, h]
theorem frozen?_same {w w' : World} {b : Nat} (h : w'.heap[b]? = w.heap[b]?) (o : Nat) : w'.frozen? ⟨b, o, none⟩ = w.frozen? ⟨b, o, none⟩ := by
  simp only [World.frozen?, h]
theorem shape?_same {w w' : World} {b : Nat} (h : w'.heap[b]? = w.heap[b]?) : w'.shape? b = w.shape? b := by
  simp only [World.shape?, h]
theorem plainB.same {w w' : World} {b : Nat} (h : w'.heap[b]? = w.heap[b]?) (k : plainB w b) : plainB w' b := by
  obtain ⟨⟨x, h1⟩, h2⟩ := k
  exact ⟨⟨x, by rw [shape?_same h, h1]⟩, fun o => by rw [frozen?_same h, h2]⟩
theorem BR.same {m : Mu} {w w' : World} {p : Pl} {ab : AB} (h : w'.heap[p.blk]? = w.heap[p.blk]?) (k : BR m w p ab) : BR m w' p ab := by
  have hlt := k.lt
  have hlt' : p.blk < w'.heap.size := by
    rcases Nat.lt_or_ge p.blk w'.heap.size with x | x
    · exact x
    · rw [Array.getElem?_eq_none x, Array.getElem?_eq_getElem hlt] at h; cases h
  cases ab with
  | cells vs et es op =>
    refine ⟨fun k' x e => ?_, k.2.1, fun k' hk => ?_, hlt', fun e => (k.2.2.2.2 e).same h⟩
    · rw [cell?_same h]; exact k.1 k' x e
    · rw [cell?_same h, frozen?_same h]; exact k.2.2.1 k' hk
  | map es c => obtain ⟨es', e, f⟩ := k; exact ⟨es', h.trans e, f⟩
  | iter mo a b c => obtain ⟨mo', e, f⟩ := k; exact ⟨mo', h.trans e, f⟩
  | loop st pend fn n tm ps a b d => obtain ⟨tmps, q, fn', e, f, g⟩ := k; exact ⟨tmps, q, fn', h.trans e, f, g⟩
  | dfr t => exact h.trans k

/-! ### The state -/
structure Gam (m : Mu) (h : H) (w : World) : Prop where
  dom : ∀ i ab, h.get i = some ab → ∃ p, m i = some p ∧ BR m w p ab
  inj : ∀ i j ab ab' p q, h.get i = some ab → h.get j = some ab' → i ≠ j → m i = some p → m j = some q → p.blk ≠ q.blk

def Fresh (m : Mu) (nx : Nat) : Prop := ∀ i, nx ≤ i → m i = none

/-- Is block b one that the state speaks of? -/
def Live (m : Mu) (h : H) (b : Nat) : Prop := ∃ i ab p, h.get i = some ab ∧ m i = some p ∧ p.blk = b

structure Step (m : Mu) (h : H) (nx : Nat) (w : World) (m' : Mu) (h' : H) (nx' : Nat) (w' : World) : Prop where
  gam : Gam m' h' w'
  fresh : Fresh m' nx'
  le : nx ≤ nx'
  same : ∀ i, i < nx → m' i = m i
  os : w'.os = w.os
  tape : w'.tape = w.tape
  output : w'.output = w.output
  size : w.heap.size ≤ w'.heap.size
  frame : ∀ b, b < w.heap.size → ¬ Live m h b → w'.heap[b]? = w.heap[b]?
  back : ∀ b, Live m' h' b → w.heap.size ≤ b ∨ Live m h b

theorem Step.refl {m : Mu} {h : H} {nx : Nat} {w : World} (g : Gam m h w) (f : Fresh m nx) : Step m h nx w m h nx w :=
  ⟨g, f, Nat.le_refl _, fun _ _ => rfl, rfl, rfl, rfl, Nat.le_refl _, fun _ _ _ => rfl, fun _ h => .inr h⟩
theorem Step.trans {m m1 m2 : Mu} {h h1 h2 : H} {nx n1 n2 : Nat} {w w1 w2 : World} (a : Step m h nx w m1 h1 n1 w1) (b : Step m1 h1 n1 w1 m2 h2 n2 w2) : Step m h nx w m2 h2 n2 w2 where
  gam := b.gam
  fresh := b.fresh
  le := Nat.le_trans a.le b.le
  same i hi := (b.same i (Nat.lt_of_lt_of_le hi a.le)).trans (a.same i hi)
  os := b.os.trans a.os
  tape := b.tape.trans a.tape
  output := b.output.trans a.output
  size := Nat.le_trans a.size b.size
  frame k hk hl := by
    rw [b.frame k (Nat.lt_of_lt_of_le hk a.size) (fun hl' => (a.back k hl').elim (fun x => by omega) hl)]
    exact a.frame k hk hl
  back k hk := by
    rcases b.back k hk with x | x
    · exact .inl (Nat.le_trans a.size x)
    · exact a.back k x
theorem Step.ext {m m1 : Mu} {h h1 : H} {nx n1 : Nat} {w w1 : World} (a : Step m h nx w m1 h1 n1 w1) (f : Fresh m nx) : Ext m m1 := fun i p e => by
  have hi : i < nx := by
    rcases Nat.lt_or_ge i nx with x | x
    · exact x
    · rw [f i x] at e; cases e
  rw [a.same i hi]; exact e

/-- A smaller state. -/
theorem Gam.sub {m : Mu} {h h' : H} {w : World} (g : Gam m h w) (s : ∀ i ab, h'.get i = some ab → h.get i = some ab) : Gam m h' w :=
  ⟨fun i ab e => g.dom i ab (s i ab e), fun i j ab ab' p q e f => g.inj i j ab ab' p q (s _ _ e) (s _ _ f)⟩

theorem Gam.same {m : Mu} {h : H} {w w' : World} (g : Gam m h w) (s : ∀ b, b < w.heap.size → w'.heap[b]? = w.heap[b]?) : Gam m h w' :=
  ⟨fun i ab e => let ⟨p, hp, hb⟩ := g.dom i ab e; ⟨p, hp, hb.same (s _ hb.lt)⟩, g.inj⟩

/-- Only the count of draws has changed. -/
theorem Gam.drawn {m : Mu} {h : H} {w : World} (g : Gam m h w) (d : Nat) : Gam m h { w with drawn := d } := g.same fun _ _ => rfl

def upd (m : Mu) (i : Nat) (p : Pl) : Mu := fun j => if j = i then some p else m j
theorem upd_same (m : Mu) (i : Nat) (p : Pl) : upd m i p i = some p := by simp [upd]
theorem upd_ne (m : Mu) (i : Nat) (p : Pl) {j : Nat} (h : j ≠ i) : upd m i p j = m j := by simp [upd, h]
theorem upd_ext {m : Mu} {i : Nat} {p : Pl} (h : m i = none) : Ext m (upd m i p) := fun j q e => by
  by_cases hj : j = i
  · subst hj; rw [h] at e; cases e
  · rw [upd_ne _ _ _ hj]; exact e

/-- A new block, under a number that was free. -/
theorem Gam.new {m : Mu} {h : H} {w w' : World} {i : Nat} {p : Pl} {ab : AB} (g : Gam m h w) (hi : m i = none)
    (hs : ∀ b, b < w.heap.size → w'.heap[b]? = w.heap[b]?) (hp : w.heap.size ≤ p.blk) (hb : BR (upd m i p) w' p ab) : Gam (upd m i p) (h.set i ab) w' := by
  have hni : h.get i = none := by
    cases e : h.get i with
    | none => rfl
    | some ab => obtain ⟨q, hq, _⟩ := g.dom i ab e; rw [hi] at hq; cases hq
  refine ⟨fun j ab' e => ?_, fun j k ab1 ab2 q r e1 e2 hne f1 f2 => ?_⟩
  · rw [T.get_set] at e
    by_cases hj : j = i
    · subst hj; simp at e; subst e; exact ⟨p, upd_same _ _ _, hb⟩
    · rw [if_neg hj] at e
      obtain ⟨q, hq, hbr⟩ := g.dom j ab' e
      exact ⟨q, by rw [upd_ne _ _ _ hj]; exact hq, (hbr.same (hs _ hbr.lt)).mono (upd_ext hi)⟩
  · rw [T.get_set] at e1 e2
    have old : ∀ (j : Nat) (ab : AB) (q : Pl), j ≠ i → h.get j = some ab → upd m i p j = some q → q.blk < w.heap.size := fun j ab q hj e f => by
      obtain ⟨q', hq, hbr⟩ := g.dom j ab e
      rw [upd_ne _ _ _ hj, hq] at f
      cases f
      exact hbr.lt
    by_cases hj : j = i
    · subst hj
      have hk : k ≠ j := fun e => hne e.symm
      rw [upd_same] at f1
      rw [if_neg hk] at e2
      cases f1
      have := old k ab2 r hk e2 f2
      omega
    · rw [if_neg hj] at e1
      by_cases hk : k = i
      · subst hk
        rw [upd_same] at f2
        cases f2
        have := old j ab1 q hj e1 f1
        omega
      · rw [if_neg hk] at e2
        rw [upd_ne _ _ _ hj] at f1
        rw [upd_ne _ _ _ hk] at f2
        exact g.inj j k ab1 ab2 q r e1 e2 hne f1 f2

theorem Step.new {m : Mu} {h : H} {nx : Nat} {w w' : World} {p : Pl} {ab : AB} (g : Gam m h w) (f : Fresh m nx)
    (hs : ∀ b, b < w.heap.size → w'.heap[b]? = w.heap[b]?) (hos : w'.os = w.os) (htape : w'.tape = w.tape) (hout : w'.output = w.output) (hsz : w.heap.size ≤ w'.heap.size)
    (hp : w.heap.size ≤ p.blk) (hb : BR (upd m nx p) w' p ab) : Step m h nx w (upd m nx p) (h.set nx ab) (nx + 1) w' where
  gam := g.new (f nx (Nat.le_refl _)) hs hp hb
  fresh i hi := by rw [upd_ne _ _ _ (by omega)]; exact f i (by omega)
  le := Nat.le_succ _
  same i hi := upd_ne _ _ _ (by omega)
  os := hos
  tape := htape
  output := hout
  size := hsz
  frame b hb _ := hs b hb
  back b hl := by
    obtain ⟨i, ab', q, e, hq, rfl⟩ := hl
    rw [T.get_set] at e
    by_cases hi : i = nx
    · subst hi; rw [upd_same] at hq; cases hq; exact .inl hp
    · rw [if_neg hi] at e; rw [upd_ne _ _ _ hi] at hq; exact .inr ⟨i, ab', q, e, hq, rfl⟩

/-- One of its blocks has changed. -/
theorem Step.put {m : Mu} {h : H} {nx : Nat} {w w' : World} {i : Nat} {p : Pl} {ab ab' : AB} (g : Gam m h w) (f : Fresh m nx) (e : h.get i = some ab) (hp : m i = some p)
    (hs : ∀ b, b ≠ p.blk → w'.heap[b]? = w.heap[b]?) (hos : w'.os = w.os) (htape : w'.tape = w.tape) (hout : w'.output = w.output) (hsz : w.heap.size ≤ w'.heap.size)
    (hb : BR m w' p ab') : Step m h nx w m (h.set i ab') nx w' where
  gam := by
    refine ⟨fun j ab1 e1 => ?_, fun j k ab1 ab2 q r e1 e2 hne f1 f2 => ?_⟩
    · rw [T.get_set] at e1
      by_cases hj : j = i
      · subst hj; simp at e1; subst e1; exact ⟨p, hp, hb⟩
      · rw [if_neg hj] at e1
        obtain ⟨q, hq, hbr⟩ := g.dom j ab1 e1
        exact ⟨q, hq, hbr.same (hs _ (g.inj j i ab1 ab q p e1 e hj hq hp))⟩
    · rw [T.get_set] at e1 e2
      by_cases hj : j = i
      · subst hj
        have hk : k ≠ j := fun e => hne e.symm
        rw [if_neg hk] at e2
        exact g.inj j k ab ab2 q r e e2 hne f1 f2
      · rw [if_neg hj] at e1
        by_cases hk : k = i
        · subst hk; exact g.inj j k ab1 ab q r e1 e hne f1 f2
        · rw [if_neg hk] at e2; exact g.inj j k ab1 ab2 q r e1 e2 hne f1 f2
  fresh := f
  le := Nat.le_refl _
  same _ _ := rfl
  os := hos
  tape := htape
  output := hout
  size := hsz
  frame b _ hl := hs b fun eb => hl ⟨i, ab, p, e, hp, eb.symm⟩
  back b hl := by
    obtain ⟨j, ab1, q, e1, hq, rfl⟩ := hl
    rw [T.get_set] at e1
    by_cases hj : j = i
    · subst hj; exact .inr ⟨j, ab, q, e, hq, rfl⟩
    · rw [if_neg hj] at e1; exact .inr ⟨j, ab1, q, e1, hq, rfl⟩

theorem Step.drawn {m : Mu} {h : H} {nx : Nat} {w : World} (g : Gam m h w) (f : Fresh m nx) (d : Nat) : Step m h nx w m h nx { w with drawn := d } :=
  ⟨g.drawn d, f, Nat.le_refl _, fun _ _ => rfl, rfl, rfl, rfl, Nat.le_refl _, fun _ _ _ => rfl, fun _ h => .inr h⟩
end Go.Eng
