import Derived.Test.YtheclllbnkolaaaGreatDoorEngDraw8
namespace Go.Eng
open Go
variable {E : Env}

def exOf : Ex → Exit
  | .norm => .normal
  | .exit id => .exit id
  | .ret => .ret

def PostC (r : Option Nat) (m : Mu) (w : Hp) (W : World) (outs : List (Ex × Fr × Hp)) (Q : Exit → Act → World → Prop) : Prop :=
  ∀ x ∈ outs, ∀ m' a' W', FrR r m' x.2.1 a' → Step m w.h w.nx W m' x.2.2.h x.2.2.nx W' → Q (exOf x.1) a' W'

def CodeOk (E : Env) (rd : Option Nat) (rec : CodeF) : Prop := ∀ (c : Code) (f : Fr) (w : Hp) (outs : List (Ex × Fr × Hp)), rec c f w = some outs → goodC c = true →
  ∀ (r : Option Nat) (n : Nat) (m : Mu) (a : Act) (W : World) (Q : Exit → Act → World → Prop), OPl m rd r → FrR r m f a → Gam m w.h W → Fresh m w.nx → PostC r m w W outs Q → c.wpIn (FW r) n E.P Q a W

theorem PostC.trans {r : Option Nat} {m m1 : Mu} {w w1 : Hp} {W W1 : World} {outs rs : List (Ex × Fr × Hp)} {Q : Exit → Act → World → Prop} (h : PostC r m w W outs Q)
    (st : Step m w.h w.nx W m1 w1.h w1.nx W1) (hs : ∀ y ∈ rs, y ∈ outs) : PostC r m1 w1 W1 rs Q :=
  fun x hx m' a' W' hf st' => h x (hs x hx) m' a' W' hf (st.trans st')

theorem PostC.one {r : Option Nat} {m : Mu} {w : Hp} {W : World} {e : Ex} {f : Fr} {a : Act} {Q : Exit → Act → World → Prop} (h : PostC r m w W [(e, f, w)] Q) (fr : FrR r m f a) (g : Gam m w.h W) (fs : Fresh m w.nx) :
    Q (exOf e) a W := h _ (List.mem_singleton.2 rfl) m a W fr (Step.refl g fs)

theorem bindC_some {l : CR} {k : Ex × Fr × Hp → CR} {outs : List (Ex × Fr × Hp)} (h : bindC l k = some outs) : ∃ ls, l = some ls ∧ ∀ x ∈ ls, ∃ rs, k x = some rs ∧ ∀ y ∈ rs, y ∈ outs := by
  unfold bindC at h
  split at h
  · exact ⟨_, rfl, bindL_mem h⟩
  · cases h

theorem DFR.append {m : Mu} : ∀ {a b : List AD} {x y : List Deferred}, DFR m a x → DFR m b y → DFR m (a ++ b) (x ++ y)
  | [], _, _, _, h, k => by obtain rfl := h; exact k
  | _ :: _, _, _, _, ⟨y, ys, e, h1, h2⟩, k => by subst e; exact ⟨y, _, rfl, h1, h2.append k⟩

theorem then_post {r : Option Nat} {rec : CodeF} {b : Code} {ls outs : List (Ex × Fr × Hp)} {m : Mu} {w : Hp} {W : World} {K : Act → World → Prop} {Q : Exit → Act → World → Prop} 
    (hl : ∀ x ∈ ls, ∃ rs, thenC rec b x = some rs ∧ ∀ y ∈ rs, y ∈ outs) (hp : PostC r m w W outs Q)
    (hk : ∀ f1 w1 rs m' a' W', rec b f1 w1 = some rs → FrR r m' f1 a' → Step m w.h w.nx W m' w1.h w1.nx W' → PostC r m' w1 W' rs Q → K a' W') :
    PostC r m w W ls (Exit.then K Q) := by
  intro x hx m' a' W' hf st
  obtain ⟨rs, h1, h2⟩ := hl x hx
  obtain ⟨e, f1, w1⟩ := x
  cases e with
  | norm => exact hk f1 w1 rs m' a' W' h1 hf st (hp.trans st h2)
  | exit id =>
    simp only [thenC, Option.some.injEq] at h1
    subst h1
    exact hp _ (h2 _ (List.mem_singleton.2 rfl)) m' a' W' hf st
  | ret =>
    simp only [thenC, Option.some.injEq] at h1
    subst h1
    exact hp _ (h2 _ (List.mem_singleton.2 rfl)) m' a' W' hf st

theorem OPl.step {m m' : Mu} {rd r : Option Nat} (h : OPl m rd r) (e : Ext m m') : OPl m' rd r := h.mono e

/-- The loop's record, and the block of the deferred calls. -/
theorem enter_ok {rd r : Option Nat} {m : Mu} {w w1 : Hp} {W : World} {d : Nat} {mk : List AD} {f : Fr} {a : Act} {ps : Array Tmp} {assign body : Code} {fid : FuncId} (fn : FuncId) (hga : goodC assign = true) (hgb : goodC body = true) (fr : FrR r m f a) (g : Gam m w.h W) (fs : Fresh m w.nx) (ho : OPl m rd r)
    (h : rangeBlock rd w = some (d, mk, w1)) :
    ∃ l mark W1 m1 p, (Instr.enterLoop fn a.tmps ps assign body r).run E.P W = .ok (l, mark) W1 ∧ m1 w1.nx = some p ∧ p.blk = l ∧ DFR m1 mk mark ∧
      Step m w.h w.nx W m1 (w1.h.set w1.nx (.loop .ready none fid f.n f.tm ps.toList assign body d)) (w1.nx + 1) W1 := by
  have lay : ∀ (m1 : Mu) (w1 : Hp) (W1 : World) (q : Pl), FrR r m1 f a → Gam m1 w1.h W1 → Fresh m1 w1.nx → m1 d = some q →
      ∃ W2, W2 = W1.alloc (.loop { state := .ready, pending := none, fn := fn, tmps := a.tmps, params := ps, assign := assign, body := body, defers := q.blk }) ∧
      Step m1 w1.h w1.nx W1 (upd m1 w1.nx ⟨W1.heap.size, 0, 0⟩) (w1.h.set w1.nx (.loop .ready none fid f.n f.tm ps.toList assign body d)) (w1.nx + 1) W2 := by
    intro m1 w1 W1 q fr g fs hq
    refine ⟨_, rfl, ?_⟩
    have he := upd_ext (i := w1.nx) (p := ⟨W1.heap.size, 0, 0⟩) (fs _ (Nat.le_refl _))
    refine Step.new g fs (fun b hb => Go.RowKit.Below.heap_alloc _ _ _ hb) rfl rfl rfl (by simp) (Nat.le_refl _) ⟨a.tmps, q.blk, fn, ?_, fr.tm.mono he, ⟨q, he _ _ hq, rfl⟩, hga, hgb⟩
    show (W1.heap.push _)[W1.heap.size]? = _
    simp
  cases rd with
  | none =>
    obtain rfl : r = none := ho
    simp only [rangeBlock, Option.some.injEq, Prod.mk.injEq] at h
    obtain ⟨rfl, rfl, rfl⟩ := h
    have he := upd_ext (i := w.nx) (p := ⟨W.heap.size, 0, 0⟩) (fs _ (Nat.le_refl _))
    have st1 : Step m w.h w.nx W (upd m w.nx ⟨W.heap.size, 0, 0⟩) (w.h.set w.nx (.dfr false)) (w.nx + 1) (W.alloc (.deferred (some []))) := by
      refine Step.new g fs (fun b hb => Go.RowKit.Below.heap_alloc _ _ _ hb) rfl rfl rfl (by simp) (Nat.le_refl _) ?_
      show (W.heap.push _)[W.heap.size]? = _
      simp
    obtain ⟨W2, hW2, st2⟩ := lay _ ⟨w.h.set w.nx (.dfr false), w.nx + 1⟩ _ ⟨W.heap.size, 0, 0⟩ (fr.mono he) st1.gam st1.fresh (upd_same _ _ _)
    refine ⟨(W.alloc (.deferred (some []))).heap.size, [{ target := .collected W.heap.size, args := #[] }], W2, _, _, ?_, upd_same _ _ _, rfl, ?_, st1.trans st2⟩
    · subst hW2
      simp [Instr.enterLoop]
    · have he2 := upd_ext (i := w.nx + 1) (p := ⟨(W.alloc (.deferred (some []))).heap.size, 0, 0⟩) (st1.fresh _ (Nat.le_refl _))
      exact ⟨_, [], rfl, ⟨_, he2 _ _ (upd_same _ _ _), rfl⟩, rfl⟩
  | some l0 =>
    obtain ⟨q0, hq0, rfl⟩ := ho
    simp only [rangeBlock] at h
    split at h
    · rename_i hl
      simp only [Option.some.injEq, Prod.mk.injEq] at h
      obtain ⟨rfl, rfl, rfl⟩ := h
      obtain ⟨q1, hq1, hbr⟩ := g.dom _ _ hl
      rw [hq0] at hq1; cases hq1
      obtain ⟨tmps, dq, fn', hheap, htm, ⟨qd, hqd, hdq⟩, _⟩ := hbr
      cases hdq
      obtain ⟨W2, hW2, st2⟩ := lay m w W qd fr g fs hqd
      refine ⟨W.heap.size, [], W2, _, _, ?_, upd_same _ _ _, rfl, rfl, st2⟩
      subst hW2
      simp [Instr.enterLoop, Instr.getLoop, getObj_run hheap rfl]
    · cases h

theorem stepC_ok (ok : E.Ok) {call : CallF} (sc : Sound E call) {rd : Option Nat} {fid : FuncId} {k : Nat} (A : CodeOk E rd (codeA E call rd fid k))
    (L : ∀ b f w outs, codeA E call rd fid (k + 1) (.loop b) f w = some outs → goodC b = true → ∀ r n m a W Q, OPl m rd r → FrR r m f a → Gam m w.h W → Fresh m w.nx → PostC r m w W outs Q → Code.roundsIn (FW r) n E.P b Q (k + 1) a W) :
    CodeOk E rd (codeA E call rd fid (k + 1)) := by
  intro c f w outs h hgood r n m a W Q ho fr g fs hp
  have hL := fun b => L b f w outs
  unfold codeA stepC at h
  split at h
  · cases h; exact wpIn_skip (hp.one fr g fs)
  · cases h; exact wpIn_label (hp.one fr g fs)
  · rename_i id ops draw
    unfold norm1 at h
    split at h
    · rename_i l hl
      cases h
      have hn : Nexts r m w W l (Q .normal) := fun x hx m' a' W' hf st => hp (.norm, x.1, x.2) (List.mem_map.2 ⟨x, hx, rfl⟩) m' a' W' hf st
      cases draw with
      | false => exact region_seq_ok ok sc fr g fs hl hn
      | true => exact draw_ok ok sc hgood fr g fs hl hn
    · cases h
  · rename_i x y
    obtain ⟨ls, h1, h2⟩ := bindC_some h
    simp only [goodC, Bool.and_eq_true] at hgood
    refine wpIn_seq (A x f w ls h1 hgood.1 r n m a W _ ho fr g fs (then_post h2 hp (fun f1 w1 rs m' a' W' h3 hf st hq => ?_)))
    exact A y f1 w1 rs h3 hgood.2 r n m' a' W' Q (ho.step (st.ext fs)) hf st.gam st.fresh hq
  · rename_i c x y
    unfold condC at h
    simp only [goodC, Bool.and_eq_true] at hgood
    have hc := fr.eval c
    split at h
    · rename_i e; rw [e] at hc; exact wpIn_cond_true hc (A x f w outs h hgood.1 r n m a W Q ho fr g fs hp)
    · rename_i e; rw [e] at hc; exact wpIn_cond_false hc (A y f w outs h hgood.2 r n m a W Q ho fr g fs hp)
    · cases h
  · rename_i id b
    obtain ⟨ls, h1, h2⟩ := bindC_some h
    refine wpIn_block (A b f w ls h1 hgood r n m a W _ ho fr g fs (fun x hx m' a' W' hf st => ?_))
    obtain ⟨rs, h3, h4⟩ := h2 x hx
    simp only [Option.some.injEq] at h3
    subst h3
    have := hp _ (h4 _ (List.mem_singleton.2 rfl)) m' a' W'
    obtain ⟨e, f1, w1⟩ := x
    cases e with
    | norm => exact this hf st
    | ret => exact this hf st
    | exit j =>
      simp only [unblock, cond_eq_ite, Nat.beq_eq] at this
      simp only [exOf, Exit.inBlock]
      split
      · rename_i hj; rw [if_pos hj] at this; exact this hf st
      · rename_i hj; rw [if_neg hj] at this; exact this hf st
  · rename_i b
    exact wpIn_loop_rounds (k + 1) (hL b (by unfold codeA stepC; exact h) hgood r n m a W Q ho fr g fs hp)
  · cases h; exact wpIn_exit (hp.one fr g fs)
  · cases h; exact wpIn_ret (hp.one fr g fs)
  · rename_i gf ps assign body
    unfold rangeC at h
    split at h
    · rename_i d mk w1 fn first cap hb hfn
      split at h
      · rename_i rs hcall
        simp only [goodC, Bool.and_eq_true] at hgood
        refine wpIn_rangeFunc (fun fnid _ => ?_)
        obtain ⟨l, mark, W1, m1, p, hent, hp1, rfl, hmk, st1⟩ := enter_ok (E := E) (fid := fid) (ps := ps) (assign := assign) (body := body) fnid hgood.1 hgood.2 fr g fs ho hb
        have hext := st1.ext fs
        have fr1 := fr.mono hext
        obtain ⟨a', b', he, ha, hb'⟩ := asFn_inr (fr1.eval gf) hfn
        obtain ⟨⟨fnr, hf1, hf2⟩, hsound⟩ := sc.fn _ _ _ _ hcall
        let args' : List Value := a' ++ [.func (.yield p.blk) #[] #[]] ++ b'
        have hargs : VRL m1 (first ++ [.yld w1.nx] ++ cap) args' := (ha.append (show VRL m1 [.yld w1.nx] [.func (.yield p.blk) #[] #[]] from ⟨_, [], rfl, ⟨p, hp1, rfl⟩, rfl⟩)).append hb'
        refine ⟨p.blk, mark, W1, { target := .fn (.func fn) b'.toArray, args := a'.toArray ++ #[.func (.yield p.blk) #[] #[]] }, W1, fn, args'.toArray, W1, hent, ?_, fun _ _ => trivial, ?_, fun hh => (by cases hh), ?_⟩
        · have hcst : a.eval (.const (.func (.yield p.blk) #[] #[])) = .func (.yield p.blk) #[] #[] := rfl
          simp [resolve, he, Deferred.ofValue, hcst]
        · have := callFunc_ok (W := W1) ok (a'.toArray ++ #[.func (.yield p.blk) #[] #[]] ++ b'.toArray) hf1 hf2
          simp only [invoke]
          rw [this]
          congr 2
          apply Array.ext'; simp [args']
        · refine CallsIn.mono (hsound (n - 1) m1 W1 args' st1.gam st1.fresh hargs) (fun e W' hR => ?_)
          obtain ⟨x, hx, v, m2, rfl, hv, st2⟩ := hR
          obtain ⟨os, h3, h4⟩ := bindL_mem h x hx
          unfold behindRange at h3
          split at h3
          · rename_i st0 pend fn0 n0 tm0 ps0 a0 b0 d0 hl
            obtain ⟨q, hq, hbr⟩ := st2.gam.dom _ _ hl
            have : q = p := by
              have := st2.ext st1.fresh _ _ hp1
              rw [hq] at this; exact Option.some.inj this
            subst this
            obtain ⟨tmps, dq, fn', hheap, htm, hod⟩ := hbr
            split at h3
            · cases h3
            · rename_i hbusy
              have hend : (Instr.endLoop q.blk).run E.P W' = .ok pend { W' with heap := W'.heap.setIfInBounds q.blk (.loop { state := .exhausted, pending := pend, fn := fn', tmps := tmps, params := ps0.toArray, assign := a0, body := b0, defers := dq }) } := by
                have hb0 : (st0 == LoopState.busy) = false := by cases st0 <;> first | rfl | exact absurd rfl hbusy
                have hb1 : st0 ≠ LoopState.busy := fun e => hbusy e
                simp only [Instr.endLoop, Instr.getLoop, Sem.run_bind, getObj_run hheap rfl, Result.andThen_ok, Sem.run_pure, hb0, Bool.false_eq_true, if_false, setObj_run hheap rfl]
              have st3 := Step.setObj (o' := .loop { state := .exhausted, pending := pend, fn := fn', tmps := tmps, params := ps0.toArray, assign := a0, body := b0, defers := dq }) (ab' := .loop .exhausted pend fn0 n0 tm0 ps0 a0 b0 d0) st2.gam st2.fresh hl hq hheap (fun W'' hW => ⟨tmps, dq, fn', hW, htm, hod⟩)
              have st := (st1.trans st2).trans st3
              have hext2 := st.ext fs
              have hmk2 : DFR m2 (mk ++ f.df) (mark ++ a.defers) := by
                have h1 := hmk.mono (st2.ext st1.fresh)
                have h2 := fr.df.mono hext2
                exact h1.append h2
              have frN : FrR r m2 { f with df := mk ++ f.df } { a with defers := mark ++ a.defers } := ⟨fr.rnd, fr.tm.mono hext2, hmk2⟩
              refine ⟨pend, _, hend, ?_⟩
              split at h3
              · cases h3
                exact hp (.norm, _, _) (h4 _ (List.mem_singleton.2 rfl)) m2 _ _ frN st
              · cases h3
                exact wpIn_ret (hp (.ret, _, _) (h4 _ (List.mem_singleton.2 rfl)) m2 _ _ frN st)
              · cases h3
                exact wpIn_exit (hp (.exit _, _, _) (h4 _ (List.mem_singleton.2 rfl)) m2 _ _ frN st)
              · cases h3
          · cases h3
      · cases h
    · cases h
  · cases h

theorem codeA_ok (ok : E.Ok) {call : CallF} (sc : Sound E call) {rd : Option Nat} {fid : FuncId} : ∀ k, CodeOk E rd (codeA E call rd fid k) ∧
    ∀ b f w outs, codeA E call rd fid k (.loop b) f w = some outs → goodC b = true → ∀ r n m a W Q, OPl m rd r → FrR r m f a → Gam m w.h W → Fresh m w.nx → PostC r m w W outs Q → Code.roundsIn (FW r) n E.P b Q k a W := by
  intro k
  induction k with
  | zero => exact ⟨fun c f w outs h => by simp [codeA] at h, fun b f w outs h => by simp [codeA] at h⟩
  | succ k ih =>
    obtain ⟨A, L⟩ := ih
    have L' : ∀ b f w outs, codeA E call rd fid (k + 1) (.loop b) f w = some outs → goodC b = true → ∀ r n m a W Q, OPl m rd r → FrR r m f a → Gam m w.h W → Fresh m w.nx → PostC r m w W outs Q → Code.roundsIn (FW r) n E.P b Q (k + 1) a W := by
      intro b f w outs h hgood r n m a W Q ho fr g fs hp
      unfold codeA stepC at h
      obtain ⟨ls, h1, h2⟩ := bindC_some h
      rw [roundsIn_succ]
      refine A b f w ls h1 hgood r n m a W _ ho fr g fs (then_post h2 hp (fun f1 w1 rs m' a' W' h3 hf st hq => ?_))
      exact L b f1 w1 rs h3 hgood r n m' a' W' Q (ho.step (st.ext fs)) hf st.gam st.fresh hq
    exact ⟨stepC_ok ok sc A L', L'⟩
end Go.Eng
