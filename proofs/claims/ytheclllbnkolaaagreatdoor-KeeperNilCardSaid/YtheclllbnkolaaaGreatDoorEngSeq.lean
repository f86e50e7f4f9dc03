import Derived.Test.YtheclllbnkolaaaGreatDoorEngOp
namespace Go.Eng
open Go
variable {E : Env} {m : Mu} {w : Hp} {W : World}

/-! ### Frames -/
def DFR (m : Mu) : List AD → List Deferred → Prop
  | [], ds => ds = []
  | d :: ds, xs => ∃ y ys, xs = y :: ys ∧ DR m d y ∧ DFR m ds ys

theorem DR.mono {m m' : Mu} (h : Ext m m') {d : AD} {x : Deferred} (k : DR m d x) : DR m' d x := by
  cases d with
  | call g all => obtain ⟨a, c, e, hv⟩ := k; exact ⟨a, c, e, hv.mono h _ _⟩
  | mark r => obtain ⟨p, e, f⟩ := k; exact ⟨p, h _ _ e, f⟩
theorem DFR.mono {m m' : Mu} (h : Ext m m') : ∀ {ds : List AD} {xs : List Deferred}, DFR m ds xs → DFR m' ds xs
  | [], _, k => k
  | _ :: _, _, ⟨y, ys, e, a, b⟩ => ⟨y, ys, e, a.mono h, b.mono h⟩

structure FrR (r : Option Nat) (m : Mu) (f : Fr) (a : Act) : Prop where
  rnd : f.rnd = r.isSome
  tm : TmR m f.n f.tm a.tmps
  df : DFR m f.df a.defers

theorem FrR.mono {r : Option Nat} {m m' : Mu} (h : Ext m m') {f : Fr} {a : Act} (k : FrR r m f a) : FrR r m' f a := ⟨k.rnd, k.tm.mono h, k.df.mono h⟩

theorem TmR.get {n : Nat} {tm : Tm} {tmps : Array Value} (h : TmR m n tm tmps) (t : Nat) : VR m ((tm.get t).getD (.s undef)) (tmps.getD t undef) := by
  by_cases ht : t < n
  · exact h.val t ht
  · rw [h.out t (by omega)]
    have : tmps.getD t undef = undef := by
      simp only [Array.getD]; rw [dif_neg]; rw [h.size]; exact ht
    rw [this]; rfl

theorem FrR.eval {r : Option Nat} {f : Fr} {a : Act} (h : FrR r m f a) : ∀ x, VR m (f.ρ x) (a.eval x) := by
  intro x
  cases x with
  | tmp t => exact h.tm.get t
  | const v => rfl
  | global g => rfl
  | func f => rfl

theorem TmR.set {n : Nat} {tm : Tm} {tmps : Array Value} (h : TmR m n tm tmps) {t : Nat} {v : AV} {v' : Value} (ht : t < n) (hv : VR m v v') : TmR m n (tm.set t v) (tmps.setIfInBounds t v') := by
  refine ⟨by rw [Array.size_setIfInBounds, h.size], fun k hk => ?_, fun k hk => ?_⟩
  · rw [T.get_set]
    have e : ∀ (A : Array Value), A.getD k undef = (A[k]?).getD undef := fun A => by simp [Array.getD_eq_getD_getElem?]
    rw [e]
    by_cases hkt : k = t
    · subst hkt
      rw [if_pos rfl, Array.getElem?_setIfInBounds_self_of_lt (by rw [h.size]; exact ht)]
      exact hv
    · rw [if_neg hkt, Array.getElem?_setIfInBounds_ne (by omega), ← e]
      exact h.val k hk
  · rw [T.get_set, if_neg (by omega)]; exact h.out k hk

theorem FrR.put {r : Option Nat} {f f' : Fr} {a : Act} {d : Option Tmp} {v : AV} {v' : Value} (h : FrR r m f a) (hv : VR m v v') (hp : f.put d v = some f') : FrR r m f' (a.put d v') := by
  unfold Fr.put at hp
  cases d with
  | none => cases hp; exact h
  | some t =>
    simp only [cond_eq_ite, Nat.blt_eq] at hp
    split at hp
    · rename_i ht
      cases hp
      exact ⟨h.rnd, h.tm.set ht hv, h.df⟩
    · cases hp

theorem nthOp_get : ∀ (l : List Oper) (i : Nat), nthOp l i = l[i]?
  | [], i => by simp [nthOp]
  | _ :: _, 0 => by simp [nthOp]
  | _ :: os, i + 1 => by simp [nthOp, nthOp_get os i]

theorem wantedA_ok {r : Option Nat} {ops : Array Oper} {f : Fr} {a : Act} {o : Oper} {b : Bool} (h : FrR r m f a) (hw : wantedA ops.toList f o = some b) : Region.wanted o (yielded ops a.tmps) = b := by
  unfold wantedA at hw
  unfold Region.wanted
  split at hw
  · rename_i hg
    simp only [hg]
    cases hw; rfl
  · rename_i j want hg
    simp only [hg]
    rw [nthOp_get] at hw
    split at hw
    · cases hw
    · rename_i d hd
      have hd' : (ops[j]?).bind (·.dst) = some d := by rw [← hd]; simp
      have hv := h.tm.get d
      have e : a.tmps.getD d undef = (a.tmps[d]?).getD undef := by simp [Array.getD_eq_getD_getElem?]
      rw [e] at hv
      simp only [yielded, hd', Option.bind_some]
      split at hw
      · rename_i c hc
        rw [hc] at hv
        have hv : (a.tmps[d]?).getD undef = .bool c := hv
        cases hx : a.tmps[d]? with
        | none => rw [hx] at hv; cases hv
        | some x =>
          rw [hx] at hv
          simp only [Option.getD_some] at hv
          subst hv
          simp only [Option.some.injEq] at hw
          rw [← hw, Bool.eq_iff_iff]
          simp
      · rename_i c hc
        rw [hc] at hv
        have hv : (a.tmps[d]?).getD undef = .tuple c := hv
        cases hw
        cases hx : a.tmps[d]? with
        | none => simp
        | some x =>
          rw [hx] at hv
          simp only [Option.getD_some] at hv
          subst hv
          simp
      · cases hw

/-! ### The fence and calls -/
def FW (r : Option Nat) : Fence := { Fence.wide with round := r }

def RetR (m : Mu) (w : Hp) (W : World) (outs : List (AV × Hp)) (e : Ending) (W' : World) : Prop :=
  ∃ x ∈ outs, ∃ v m', e = .returned v ∧ VR m' x.1 v ∧ Step m w.h w.nx W m' x.2.h x.2.nx W'

def SoundF (E : Env) (call : CallF) : Prop := ∀ f args w outs, call (.func f args) w = some outs →
  (∃ fn, E.fn.get f = some fn ∧ fn.body.isSome = true) ∧
  ∀ n m W args', Gam m w.h W → Fresh m w.nx → VRL m args args' → CallsIn (FW none) n E.P f args'.toArray W (RetR m w W outs)

def SoundR (E : Env) (call : CallF) : Prop := ∀ l args w outs, call (.round l args) w = some outs →
  ∃ st pd fid nt tm ps asg body d, w.h.get l = some (.loop st pd fid nt tm ps asg body d) ∧ args.length = ps.length ∧
  ∀ n m W args' p (lp : Loop), Gam m w.h W → Fresh m w.nx → VRL m args args' → m l = some p → W.heap[p.blk]? = some (.loop lp) →
    RoundIn (FW none) n E.P p.blk lp.fn ((lp.params.zip args'.toArray).foldl (fun tmps (t, a) => tmps.setIfInBounds t a) lp.tmps) lp.assign lp.body W (RetR m w W outs)

structure Sound (E : Env) (call : CallF) : Prop where
  fn : SoundF E call
  round : SoundR E call

theorem putAll_mem {f : Fr} {d : Option Tmp} : ∀ {l : List (AV × Hp)} {r : List (Fr × Hp)}, putAll f d l = some r → ∀ x ∈ l, ∃ g, f.put d x.1 = some g ∧ (g, x.2) ∈ r
  | [], _, _, x, hx => by simp at hx
  | y :: ys, r, h, x, hx => by
    simp only [putAll] at h
    split at h
    · rename_i g r' hg hr
      cases h
      simp only [List.mem_cons] at hx
      rcases hx with rfl | hx
      · exact ⟨g, hg, by simp⟩
      · obtain ⟨g', h1, h2⟩ := putAll_mem hr x hx
        exact ⟨g', h1, by simp [h2]⟩
    · cases h

theorem about_any (r : Option Nat) (f : FuncId) : (FW r).fn f := trivial

/-- What has to hold behind an operation. -/
def Nexts (r : Option Nat) (m : Mu) (w : Hp) (W : World) (l : List (Fr × Hp)) (next : Act → World → Prop) : Prop :=
  ∀ x ∈ l, ∀ m' a' W', FrR r m' x.1 a' → Step m w.h w.nx W m' x.2.h x.2.nx W' → next a' W'

theorem stepA_ok (ok : E.Ok) {call : CallF} (sc : Sound E call) {r : Option Nat} {n : Nat} {ops : Array Oper} {o : Oper} {f : Fr} {a : Act} {l : List (Fr × Hp)} (fr : FrR r m f a) (g : Gam m w.h W) (fs : Fresh m w.nx)
    {next : Act → World → Prop} {Q : Exit → Act → World → Prop} (h : stepA E call ops.toList o f w = some l) (hn : Nexts r m w W l next) :
    if Region.wanted o (yielded ops a.tmps) then o.wpIn (FW r) n E.P a W next Q else (∀ f, o.about E.P W a.eval = some f → (FW r).fn f) ∧ next (a.put o.dst undef) W := by
  unfold stepA at h
  split at h
  · cases h
  · rename_i hw
    rw [wantedA_ok fr hw]
    refine ⟨fun _ _ => trivial, ?_⟩
    unfold put1 at h
    split at h
    · rename_i f' hp
      cases h
      exact hn _ (List.mem_singleton.2 rfl) m _ W (fr.put (v := .s undef) (v' := undef) rfl hp) (Step.refl g fs)
    · cases h
  · rename_i hw
    rw [wantedA_ok fr hw]
    refine ⟨fun _ _ => trivial, ?_⟩
    split at h
    · rename_i rr hr
      have hop := opA_ok ok g fs fr.eval hr
      have sem : ∀ {x : Result Next}, (∀ d W', x ≠ .ok (.defer d) W') → (execOp a.eval o).run E.P W = x → (o.semAt (FW r).round a.eval).run E.P W = x := by
        intro x hx e
        by_cases hd : ∃ c, o.op = .defer c
        · obtain ⟨c, hc⟩ := hd
          exfalso
          unfold execOp at e
          rw [hc] at e
          simp only [Sem.run_bind] at e
          cases hres : (resolve a.eval c o.type).run E.P W with
          | ok d W' => rw [hres] at e; simp at e; exact hx _ _ e.symm
          | halt hh W' =>
            unfold opA at hr
            rw [hc] at hr
            simp only at hr
            obtain ⟨d, _, d', h1, _⟩ := opDefer_ok (E := E) (W := W) (ty := o.type) fr.eval hr
            simp only [Sem.run_bind, hres] at h1
            cases h1
        · rw [Oper.semAt_eq _ _ _ (fun c hc => hd ⟨c, hc⟩)]; exact e
      cases rr with
      | val v w' =>
        obtain ⟨m', v', W', hs, hv, st⟩ := hop
        rw [sem (by simp) hs]
        simp only [outA, put1] at h
        split at h
        · rename_i f' hp
          cases h
          exact hn _ (List.mem_singleton.2 rfl) m' _ W' ((fr.mono (st.ext fs)).put hv hp) st
        · cases h
      | skip w' =>
        obtain ⟨m', W', hs, st⟩ := hop
        rw [sem (by simp) hs]
        simp only [outA, put1] at h
        split at h
        · rename_i f' hp
          cases h
          exact hn _ (List.mem_singleton.2 rfl) m' _ W' ((fr.mono (st.ext fs)).put (v := .s undef) (v' := undef) rfl hp) st
        · cases h
      | dfr d w' =>
        obtain ⟨rfl, d', hs, hd⟩ := hop
        simp only [outA, cond_eq_ite] at h
        split at h
        · cases h
        · rename_i hrnd
          have hr0 : r = none := by
            have := fr.rnd
            cases r with
            | none => rfl
            | some x => simp at this; exact absurd this hrnd
          subst hr0
          split at h
          · rename_i f' hp
            cases h
            have hs' : (o.semAt (FW none).round a.eval).run E.P W = .ok (.defer d') W := hs
            rw [hs']
            have hf := fr.put (v := .s undef) (v' := undef) rfl hp
            refine hn _ (List.mem_singleton.2 rfl) m _ W ⟨hf.rnd, ?_, ?_⟩ (Step.refl g fs)
            · have := hf.tm
              unfold Act.put at this ⊢
              cases hdst : o.dst <;> simp only [hdst] at this ⊢ <;> exact this
            · have := hf.df
              have e1 : ({ a with defers := d' :: a.defers }.put o.dst undef).defers = d' :: a.defers := by unfold Act.put; cases o.dst <;> rfl
              have e2 : (a.put o.dst undef).defers = a.defers := by unfold Act.put; cases o.dst <;> rfl
              rw [e1]
              rw [e2] at this
              exact ⟨_, _, rfl, hd, this⟩
          · cases h
      | call c w' =>
        obtain ⟨rfl, hc⟩ := hop
        simp only [outA] at h
        split at h
        · rename_i rs hcall
          cases c with
          | func fid args =>
            obtain ⟨⟨fn, hf, hb⟩, hsound⟩ := sc.fn _ _ _ _ hcall
            obtain ⟨args', hv, hrun⟩ := hc
            rw [sem (by simp) (hrun fn hf hb)]
            rw [Oper.uponIn_enter]
            refine ⟨fun hh => (by cases hh), CallsIn.mono (hsound (n - 1) m W args' g fs hv) (fun e W' hR => ?_)⟩
            obtain ⟨x, hx, v, m', rfl, hvr, st⟩ := hR
            obtain ⟨f', hp, hmem⟩ := putAll_mem h x hx
            exact hn _ hmem m' _ W' ((fr.mono (st.ext fs)).put hvr hp) st
          | round l0 args =>
            obtain ⟨st0, pd, fid, nt, tm, ps, asg, body, d, hl, hlen, hsound⟩ := sc.round _ _ _ _ hcall
            obtain ⟨p, args', hp0, hv, hrun⟩ := hc
            obtain ⟨q, hq, hbr⟩ := g.dom _ _ hl
            rw [hp0] at hq; cases hq
            obtain ⟨tmps, dq, fn', hheap, htm, hd⟩ := hbr
            have hrun' := hrun _ hheap (by rw [hv.length, hlen]; simp)
            rw [sem (by simp) hrun']
            rw [Oper.uponIn_round]
            refine ⟨fun hh => (by cases hh), RoundIn.mono (hsound (n - 1) m W args' p _ g fs hv hp0 hheap) (fun e W' hR => ?_)⟩
            obtain ⟨x, hx, v, m', rfl, hvr, st⟩ := hR
            obtain ⟨f', hp, hmem⟩ := putAll_mem h x hx
            exact hn _ hmem m' _ W' ((fr.mono (st.ext fs)).put hvr hp) st
        · cases h
      | pick lp =>
        obtain ⟨x, hx, m', v', W', hs, hv, st⟩ := hop
        rw [sem (by simp) hs]
        simp only [outA] at h
        obtain ⟨f', hp, hmem⟩ := putAll_mem h x hx
        exact hn _ hmem m' _ W' ((fr.mono (st.ext fs)).put hv hp) st
    · cases h

theorem bindL_mem {α β : Type} {k : α → Option (List β)} : ∀ {l : List α} {r : List β}, bindL k l = some r → ∀ x ∈ l, ∃ rs, k x = some rs ∧ ∀ y ∈ rs, y ∈ r
  | [], _, _, x, hx => by simp at hx
  | z :: zs, r, h, x, hx => by
    simp only [bindL] at h
    split at h
    · rename_i a b ha hb
      cases h
      simp only [List.mem_cons] at hx
      rcases hx with rfl | hx
      · exact ⟨a, ha, fun y hy => List.mem_append_left _ hy⟩
      · obtain ⟨rs, h1, h2⟩ := bindL_mem hb x hx
        exact ⟨rs, h1, fun y hy => List.mem_append_right _ (h2 y hy)⟩
    · cases h

theorem Nexts.trans {r : Option Nat} {m m1 : Mu} {w w1 : Hp} {W W1 : World} {l : List (Fr × Hp)} {next : Act → World → Prop} (st : Step m w.h w.nx W m1 w1.h w1.nx W1) (h : Nexts r m w W l next) : Nexts r m1 w1 W1 l next :=
  fun x hx m' a' W' hf hs => h x hx m' a' W' hf (st.trans hs)

theorem seqA_ok (ok : E.Ok) {call : CallF} (sc : Sound E call) {r : Option Nat} {n : Nat} {ops : Array Oper} {Q : Exit → Act → World → Prop} :
    ∀ (os : List Oper) (i : Nat), ops.toList.drop i = os → ∀ (f : Fr) (w : Hp) (m : Mu) (a : Act) (W : World) (l : List (Fr × Hp)), FrR r m f a → Gam m w.h W → Fresh m w.nx →
      seqA E call ops.toList os f w = some l → Nexts r m w W l (Q .normal) → wpOpsIn (FW r) n E.P ops Q (List.range' i os.length) a W := by
  intro os
  induction os with
  | nil =>
    intro i hi f w m a W l fr g fs h hn
    cases h
    exact hn _ (List.mem_singleton.2 rfl) m a W fr (Step.refl g fs)
  | cons o os ih =>
    intro i hi f w m a W l fr g fs h hn
    have hio : ops[i]? = some o := by
      have : (ops.toList.drop i)[0]? = some o := by rw [hi]; rfl
      simpa using this
    have hdrop : ops.toList.drop (i + 1) = os := by
      rw [← List.drop_drop, hi]; rfl
    simp only [seqA] at h
    split at h
    · rename_i l1 h1
      simp only [List.length_cons, List.range'_succ, wpOpsIn, hio]
      refine stepA_ok (n := n) (Q := Q) ok sc fr g fs h1 ?_
      intro x hx m' a' W' hf st
      obtain ⟨rs, h2, h3⟩ := bindL_mem h x hx
      exact ih (i + 1) hdrop x.1 x.2 m' a' W' rs hf st.gam st.fresh h2 (fun y hy => (hn.trans st) y (h3 y hy))
    · cases h

theorem region_seq_ok (ok : E.Ok) {call : CallF} (sc : Sound E call) {r : Option Nat} {n id : Nat} {ops : Array Oper} {f : Fr} {a : Act} {l : List (Fr × Hp)} (fr : FrR r m f a) (g : Gam m w.h W) (fs : Fresh m w.nx)
    {Q : Exit → Act → World → Prop} (h : seqA E call ops.toList ops.toList f w = some l) (hn : Nexts r m w W l (Q .normal)) : (Code.region id ops false).wpIn (FW r) n E.P Q a W := by
  refine wpIn_region ?_
  have := seqA_ok (n := n) (Q := Q) ok sc ops.toList 0 (by simp) f w m a W l fr g fs h hn
  rw [List.range_eq_range']
  simpa using this
end Go.Eng
