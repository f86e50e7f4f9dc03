import Derived.Test.YtheclllbnkolaaaGreatDoorEngCode
namespace Go.Eng
open Go
variable {E : Env}

/-! ### Parameters and results -/
theorem bindP_get : ∀ (vs : List AV) (i : Nat) (t : Tm) (k : Nat), (bindP vs i t).get k = if i ≤ k ∧ k < i + vs.length then vs[k - i]? else t.get k
  | [], i, t, k => by simp only [bindP, List.length_nil]; rw [if_neg (by omega)]
  | v :: vs, i, t, k => by
    simp only [bindP, List.length_cons]
    rw [bindP_get vs (i + 1) _ k, T.get_set]
    by_cases h1 : i + 1 ≤ k ∧ k < i + 1 + vs.length
    · rw [if_pos h1, if_pos (by omega)]
      have : k - i = (k - (i + 1)) + 1 := by omega
      rw [this]; simp
    · rw [if_neg h1]
      by_cases h2 : k = i
      · subst h2; rw [if_pos rfl, if_pos (by omega)]; simp
      · rw [if_neg h2, if_neg (by omega)]

theorem bindP_ok {m : Mu} {args : List AV} {args' : List Value} {n : Nat} (h : VRL m args args') (hl : args.length ≤ n) :
    TmR m n (bindP args 0 .nil) (args'.toArray ++ Array.replicate (n - args'.toArray.size) undef) := by
  have hlen := h.length
  refine ⟨by simp [hlen]; omega, fun t ht => ?_, fun t ht => ?_⟩
  · rw [bindP_get]
    have e : ∀ (A : Array Value), A.getD t undef = (A[t]?).getD undef := fun A => by simp [Array.getD_eq_getD_getElem?]
    rw [e]
    by_cases hk : t < args.length
    · rw [if_pos (by omega), Nat.sub_zero, Array.getElem?_append_left (by simpa [hlen] using hk)]
      obtain ⟨v, hv, hvr⟩ := h.get t _ (List.getElem?_eq_getElem hk)
      have hv' : args'.toArray[t]? = some v := by simpa using hv
      rw [hv', List.getElem?_eq_getElem hk]
      exact hvr
    · rw [if_neg (by omega), Array.getElem?_append_right (by simpa [hlen] using hk)]
      have : (Array.replicate (n - args'.toArray.size) undef)[t - args'.toArray.size]? = some undef := by
        rw [Array.getElem?_replicate, if_pos]
        simp [hlen]; omega
      rw [this]
      rfl
  · rw [bindP_get, if_neg (by omega)]; rfl

theorem putPs_ok {m : Mu} {n : Nat} : ∀ (ps : List Tmp) (vs : List AV) (vs' : List Value) (tm tm' : Tm) (tmps : Array Value), putPs n ps vs tm = some tm' → TmR m n tm tmps → VRL m vs vs' →
    vs.length = ps.length ∧ TmR m n tm' ((ps.zip vs').foldl (fun tmps (x : Tmp × Value) => tmps.setIfInBounds x.1 x.2) tmps)
  | [], [], vs', tm, tm', tmps, h, ht, hv => by
    cases h; obtain rfl := hv; exact ⟨rfl, ht⟩
  | [], _ :: _, _, _, _, _, h, _, _ => by simp [putPs] at h
  | _ :: _, [], _, _, _, _, h, _, _ => by simp [putPs] at h
  | p :: ps, v :: vs, vs', tm, tm', tmps, h, ht, hv => by
    obtain ⟨u, us, rfl, hu, hus⟩ := hv
    simp only [putPs, cond_eq_ite, Nat.blt_eq] at h
    split at h
    · rename_i hp
      obtain ⟨h1, h2⟩ := putPs_ok ps vs us _ tm' _ h (ht.set hp hu) hus
      exact ⟨by simp [h1], by simpa using h2⟩
    · cases h

theorem putPs_len {n : Nat} : ∀ (ps : List Tmp) (vs : List AV) (tm tm' : Tm), putPs n ps vs tm = some tm' → vs.length = ps.length
  | [], [], _, _, _ => rfl
  | [], _ :: _, _, _, h => by simp [putPs] at h
  | _ :: _, [], _, _, h => by simp [putPs] at h
  | p :: ps, v :: vs, tm, tm', h => by
    simp only [putPs, cond_eq_ite] at h
    split at h
    · simp [putPs_len ps vs _ _ h]
    · cases h

structure ReadsV (tmps : Array Value) (F : ResultVar → Sem Value) : Prop where
  tmp : ∀ t, F (.tmp t) = pure (tmps.getD t undef)
  cell : ∀ a t, F (.cell a t) = (do loadVar t (← asAddr (tmps.getD a undef)))

theorem resultA_ok (ok : E.Ok) {m : Mu} {w : Hp} {W : World} {f : Fr} {tmps : Array Value} {F : ResultVar → Sem Value} (hF : ReadsV tmps F) {rv : ResultVar} {v : AV} (g : Gam m w.h W) (ht : TmR m f.n f.tm tmps) (h : resultA E f w rv = some v) :
    ∃ v', (F rv).run E.P W = .ok v' W ∧ VR m v v' := by
  unfold resultA at h
  split at h
  · rename_i t
    cases h
    exact ⟨_, by rw [hF.tmp]; rfl, ht.get t⟩
  · rename_i a t
    have ha := ht.get a
    split at h
    · rename_i i off hi
      rw [hi] at ha
      obtain ⟨p, hp, e⟩ := ha
      obtain ⟨q, v', hq, hrun, hv⟩ := readA_ok ok g h
      rw [hp] at hq; cases hq
      exact ⟨v', by rw [hF.cell]; simp only [e, asAddr, Sem.run_bind, Sem.run_pure, Result.andThen_ok, hrun], hv⟩
    · cases h

theorem resultsA_ok (ok : E.Ok) {m : Mu} {w : Hp} {W : World} {f : Fr} {tmps : Array Value} {F : ResultVar → Sem Value} (hF : ReadsV tmps F) (g : Gam m w.h W) (ht : TmR m f.n f.tm tmps) : ∀ (rs : List ResultVar) (vs : List AV), resultsA E f w rs = some vs →
    ∃ vs', (rs.mapM F).run E.P W = .ok vs' W ∧ VRL m vs vs'
  | [], vs, h => by cases h; exact ⟨[], rfl, rfl⟩
  | rv :: rs, vs, h => by
    simp only [resultsA] at h
    split at h
    · rename_i v us h1 h2
      cases h
      obtain ⟨v', r1, hv⟩ := resultA_ok ok hF g ht h1
      obtain ⟨us', r2, hus⟩ := resultsA_ok ok hF g ht rs us h2
      refine ⟨v' :: us', ?_, VRL.cons hv hus⟩
      simp only [List.mapM_cons, Sem.run_bind, r1, Result.andThen_ok, r2, Sem.run_pure]
    · cases h

theorem results_ok (ok : E.Ok) {m : Mu} {w : Hp} {W : World} {f : Fr} {tmps : Array Value} {fn : Func} {vs : List AV} (g : Gam m w.h W) (ht : TmR m f.n f.tm tmps) (h : resultsA E f w fn.results.toList = some vs) :
    ∃ v, (results fn tmps).run E.P W = .ok v W ∧ VR m (resA vs) v := by
  obtain ⟨F, hF, hres⟩ : ∃ F, ReadsV tmps F ∧ results fn tmps = (do let vs ← fn.results.mapM F; pure (if h : vs.size = 1 then vs[0] else .tuple vs)) := ⟨_, ⟨fun _ => rfl, fun _ _ => rfl⟩, rfl⟩
  obtain ⟨vs', hr, hv⟩ := resultsA_ok ok hF g ht _ _ h
  refine ⟨if h : vs'.toArray.size = 1 then vs'.toArray[0] else .tuple vs'.toArray, ?_, ?_⟩
  · simp only [hres, Array.mapM_eq_mapM_toList, Sem.run_bind, Sem.run_map, hr, Result.andThen_ok, Sem.run_pure]
  · match vs, hv with
    | [], hv => obtain rfl := hv; exact ⟨[], rfl, rfl⟩
    | [x], ⟨y, ys, e, hx, hn⟩ => obtain rfl := hn; subst e; exact hx
    | x :: x2 :: xs, ⟨y, ys, e, hx, y2, ys2, e2, hx2, hxs⟩ =>
      subst e; subst e2
      rw [dif_neg (by simp)]
      exact ⟨_, ⟨_, _, rfl, hx, _, _, rfl, hx2, hxs⟩, rfl⟩

/-! ### Deferred calls -/
def PostS (m : Mu) (w : Hp) (W : World) (outs : List (Ex × Fr × Hp)) (cs : List Frame) (Q : Exit → Act → List Frame → World → Prop) : Prop :=
  PostC none m w W outs (fun e a' W' => Q e a' cs W')

theorem recoverD_none {c₀ : Frame} {cs : List Frame} (h : c₀.mode = .returning) : recoverD (c₀ :: cs) = none := by
  simp [recoverD, h]

theorem stepD_ok (ok : E.Ok) {_n : Nat} {ops : Array Oper} {o : Oper} {f : Fr} {a : Act} {l : List (Fr × Hp)} {m : Mu} {w : Hp} {W : World} (fr : FrR none m f a) (g : Gam m w.h W) (fs : Fresh m w.nx)
    (h : stepD E ops.toList o f w = some l) :
    (Region.wanted o (yielded ops a.tmps) = false ∧ ∃ x ∈ l, FrR none m x.1 (a.put o.dst undef) ∧ x.2 = w) ∨
    (Region.wanted o (yielded ops a.tmps) = true ∧
      (((execOp a.eval o).run E.P W = .ok .recover W ∧ ∃ x ∈ l, FrR none m x.1 (a.put o.dst .nilIface) ∧ x.2 = w) ∨
       (∃ v W' m', (execOp a.eval o).run E.P W = .ok (.value v) W' ∧ ∃ x ∈ l, FrR none m' x.1 (a.put o.dst v) ∧ Step m w.h w.nx W m' x.2.h x.2.nx W') ∨
       (∃ W' m', (execOp a.eval o).run E.P W = .ok .skip W' ∧ ∃ x ∈ l, FrR none m' x.1 (a.put o.dst undef) ∧ Step m w.h w.nx W m' x.2.h x.2.nx W'))) := by
  have one : ∀ {m' : Mu} {v : AV} {v' : Value} {w' : Hp} {l : List (Fr × Hp)}, FrR none m' f a → VR m' v v' → put1 f o.dst v w' = some l → ∃ x ∈ l, FrR none m' x.1 (a.put o.dst v') ∧ x.2 = w' := by
    intro m' v v' w' l fr hv hp
    unfold put1 at hp
    split at hp
    · rename_i f' hf
      cases hp
      exact ⟨_, List.mem_singleton.2 rfl, fr.put hv hf, rfl⟩
    · cases hp
  unfold stepD at h
  split at h
  · cases h
  · rename_i hw
    exact .inl ⟨wantedA_ok fr hw, one fr (v := .s undef) (v' := undef) rfl h⟩
  · rename_i hw
    refine .inr ⟨wantedA_ok fr hw, ?_⟩
    split at h
    · rename_i args ats hop
      refine .inl ⟨?_, one fr (v := .s .nilIface) (v' := .nilIface) rfl h⟩
      obtain ⟨dst, op, ty, pos, after, guard⟩ := o
      simp only at hop
      subst hop
      simp [execOp, resolve, invoke, builtin]
    · split at h
      · rename_i v w' hr
        obtain ⟨m', v', W', hs, hv, st⟩ := opA_ok ok g fs fr.eval hr
        obtain ⟨x, hx, h1, h2⟩ := one (fr.mono (st.ext fs)) hv h
        exact .inr (.inl ⟨v', W', m', hs, x, hx, h1, by rw [h2]; exact st⟩)
      · rename_i w' hr
        obtain ⟨m', W', hs, st⟩ := opA_ok ok g fs fr.eval hr
        obtain ⟨x, hx, h1, h2⟩ := one (fr.mono (st.ext fs)) (v := .s undef) (v' := undef) rfl h
        exact .inr (.inr ⟨W', m', hs, x, hx, h1, by rw [h2]; exact st⟩)
      · cases h

theorem seqD_ok (ok : E.Ok) {n : Nat} {ops : Array Oper} {Q : Exit → Act → List Frame → World → Prop} {c₀ : Frame} {cs : List Frame} (hc : c₀.mode = .returning) :
    ∀ (os : List Oper) (i : Nat), ops.toList.drop i = os → ∀ (f : Fr) (w : Hp) (m : Mu) (a : Act) (W : World) (l : List (Fr × Hp)), FrR none m f a → Gam m w.h W → Fresh m w.nx →
      seqD E ops.toList os f w = some l → Nexts none m w W l (fun a' W' => Q .normal a' (c₀ :: cs) W') → wpOpsSIn (FW none) n E.P ops Q (List.range' i os.length) a (c₀ :: cs) W := by
  intro os
  induction os with
  | nil =>
    intro i hi f w m a W l fr g fs h hn
    cases h
    exact hn _ (List.mem_singleton.2 rfl) m a W fr (Step.refl g fs)
  | cons o os ih =>
    intro i hi f w m a W l fr g fs h hn
    have hio : ops[i]? = some o := by
      have : (ops.toList.drop i)[0]? = some o := by rw [hi]; rfl
      simpa using this
    have hdrop : ops.toList.drop (i + 1) = os := by
      rw [← List.drop_drop, hi]; rfl
    simp only [seqD] at h
    split at h
    · rename_i l1 h1
      simp only [List.length_cons, List.range'_succ, wpOpsSIn, hio]
      refine ⟨fun _ _ => trivial, ?_⟩
      have go : ∀ x ∈ l1, ∀ m' a' W', FrR none m' x.1 a' → Step m w.h w.nx W m' x.2.h x.2.nx W' → wpOpsSIn (FW none) n E.P ops Q (List.range' (i + 1) os.length) a' (c₀ :: cs) W' := by
        intro x hx m' a' W' hf st
        obtain ⟨rs, h2, h3⟩ := bindL_mem h x hx
        exact ih (i + 1) hdrop x.1 x.2 m' a' W' rs hf st.gam st.fresh h2 (fun y hy => (hn.trans st) y (h3 y hy))
      rcases stepD_ok (_n := n) ok fr g fs h1 with ⟨hw, x, hx, hf, hxw⟩ | ⟨hw, ⟨hs, x, hx, hf, hxw⟩ | ⟨v, W', m', hs, x, hx, hf, st⟩ | ⟨W', m', hs, x, hx, hf, st⟩⟩
      · rw [hw]
        exact go x hx m _ W hf (by rw [hxw]; exact Step.refl g fs)
      · rw [hw, hs]
        simp only [if_true, recoverD_none hc]
        exact go x hx m _ W hf (by rw [hxw]; exact Step.refl g fs)
      · rw [hw, hs]
        exact go x hx m' _ W' hf st
      · rw [hw, hs]
        exact go x hx m' _ W' hf st
    · cases h

theorem codeD_ok (ok : E.Ok) {call : CallF} (sc : Sound E call) {fid : FuncId} {k n : Nat} {c₀ : Frame} {cs : List Frame} (hc : c₀.mode = .returning) :
    ∀ (c : Code) (f : Fr) (w : Hp) (outs : List (Ex × Fr × Hp)) (m : Mu) (a : Act) (W : World) (Q : Exit → Act → List Frame → World → Prop), codeD E call fid k c f w = some outs → goodC c = true → FrR none m f a → Gam m w.h W → Fresh m w.nx →
      PostS m w W outs (c₀ :: cs) Q → c.wpSIn (FW none) n E.P Q a (c₀ :: cs) W := by
  have base : ∀ (c : Code) (f : Fr) (w : Hp) (outs : List (Ex × Fr × Hp)) (m : Mu) (a : Act) (W : World) (Q : Exit → Act → List Frame → World → Prop), codeA E call none fid k c f w = some outs → goodC c = true → FrR none m f a → Gam m w.h W → Fresh m w.nx →
      PostS m w W outs (c₀ :: cs) Q → c.wpSIn (FW none) n E.P Q a (c₀ :: cs) W := by
    intro c f w outs m a W Q h hgood fr g fs hp
    exact wpSIn_of_wpIn rfl ((codeA_ok ok sc k).1 c f w outs h hgood none n m a W _ rfl fr g fs hp)
  intro c
  induction c with
  | region id ops draw =>
    intro f w outs m a W Q h hgood fr g fs hp
    cases draw with
    | true => exact base _ f w outs m a W Q (by simpa only [codeD] using h) hgood fr g fs hp
    | false =>
      simp only [codeD] at h
      unfold norm1 at h
      split at h
      · rename_i l hl
        cases h
        refine wpSIn_region ?_
        have := seqD_ok (n := n) (Q := Q) (cs := cs) ok hc ops.toList 0 (by simp) f w m a W l fr g fs hl (fun x hx m' a' W' hf st => hp (.norm, x.1, x.2) (List.mem_map.2 ⟨x, hx, rfl⟩) m' a' W' hf st)
        rw [List.range_eq_range']
        simpa using this
      · cases h
  | seq x y ihx ihy =>
    intro f w outs m a W Q h hgood fr g fs hp
    simp only [codeD] at h
    obtain ⟨ls, h1, h2⟩ := bindC_some h
    simp only [goodC, Bool.and_eq_true] at hgood
    refine wpSIn_seq (ihx f w ls m a W _ h1 hgood.1 fr g fs (fun x hx m' a' W' hf st => ?_))
    obtain ⟨rs, h3, h4⟩ := h2 x hx
    obtain ⟨e, f1, w1⟩ := x
    cases e with
    | norm => exact ihy f1 w1 rs m' a' W' Q h3 hgood.2 hf st.gam st.fresh (hp.trans st h4)
    | exit id =>
      simp only [Option.some.injEq] at h3
      subst h3
      exact hp _ (h4 _ (List.mem_singleton.2 rfl)) m' a' W' hf st
    | ret =>
      simp only [Option.some.injEq] at h3
      subst h3
      exact hp _ (h4 _ (List.mem_singleton.2 rfl)) m' a' W' hf st
  | cond co x y ihx ihy =>
    intro f w outs m a W Q h hgood fr g fs hp
    simp only [codeD] at h
    have hco := fr.eval co
    simp only [goodC, Bool.and_eq_true] at hgood
    split at h
    · rename_i e; rw [e] at hco; exact wpSIn_cond (t := true) hco (ihx f w outs m a W Q h hgood.1 fr g fs hp)
    · rename_i e; rw [e] at hco; exact wpSIn_cond (t := false) hco (ihy f w outs m a W Q h hgood.2 fr g fs hp)
    · cases h
  | _ => intro f w outs m a W Q h hgood fr g fs hp; exact base _ f w outs m a W Q (by simpa only [codeD] using h) hgood fr g fs hp

theorem deferA_ok (ok : E.Ok) {call : CallF} (sc : Sound E call) {K n : Nat} {gid : FuncId} {args : List AV} {args' : List Value} {w : Hp} {l : List Hp} {m : Mu} {W : World} (g : Gam m w.h W) (fs : Fresh m w.nx) (hv : VRL m args args')
    (h : deferA E call K gid args w = some l) : (∃ fn, E.fn.get gid = some fn ∧ fn.body.isSome = true) ∧
    CallsDIn (FW none) n E.P gid args'.toArray .returning W (fun e u' W' => ∃ x ∈ l, ∃ v m', e = .returned v ∧ u' = .returning ∧ Step m w.h w.nx W m' x.h x.nx W') := by
  unfold deferA at h
  split at h
  · rename_i fn hfn
    split at h
    · rename_i c hb
      simp only [cond_eq_ite, Nat.ble_eq] at h
      split at h
      · rename_i hlen
        refine ⟨⟨fn, hfn, by rw [hb]; rfl⟩, ?_⟩
        refine callsDIn_of_wpSIn (ok.fn _ _ hfn) hb trivial (fun c₀ cs hc => ?_)
        have fr : FrR none m ⟨fn.ntmps, bindP args 0 .nil, [], false⟩ { tmps := args'.toArray ++ Array.replicate (fn.ntmps - args'.toArray.size) undef, defers := [] } := ⟨rfl, bindP_ok hv hlen, rfl⟩
        split at h
        · rename_i ls hls
          have post : PostS m w W ls (c₀ :: cs) (bodyPostS E.P fn c₀ cs (fun e u' W' => ∃ x ∈ l, ∃ v m', e = .returned v ∧ u' = .returning ∧ Step m w.h w.nx W m' x.h x.nx W')) := by
            intro x hx m' a' W' hf st
            obtain ⟨rs, h1, h2⟩ := bindL_mem h x hx
            obtain ⟨e, f1, w1⟩ := x
            have fin : ∀ vs, resultsA E f1 w1 fn.results.toList = some vs → f1.df = [] → w1 ∈ l →
                a'.defers = [] ∧ ∃ u', c₀ :: cs = { c₀ with mode := u' } :: cs ∧ ∃ v, (results fn a'.tmps).run E.P W' = .ok v W' ∧ ∃ x ∈ l, ∃ v1 m', Ending.returned v = .returned v1 ∧ u' = .returning ∧ Step m w.h w.nx W m' x.h x.nx W' := by
              intro vs hvs hdf hmem
              obtain ⟨v, hr, _⟩ := results_ok ok st.gam hf.tm hvs
              have hdd := hf.df
              simp only at hdd
              rw [hdf] at hdd
              exact ⟨hdd, .returning, by rw [← hc], v, hr, _, hmem, v, m', rfl, rfl, st⟩
            obtain ⟨nn, tm1, df1, rnd1⟩ := f1
            cases df1 with
            | cons y ys => cases e <;> simp at h1
            | nil =>
              cases e with
              | exit id => simp at h1
              | norm =>
                simp only at h1
                split at h1
                · rename_i vs hvs
                  cases h1
                  exact fin vs hvs rfl (h2 _ (List.mem_singleton.2 rfl))
                · cases h1
              | ret =>
                simp only at h1
                split at h1
                · rename_i vs hvs
                  cases h1
                  exact fin vs hvs rfl (h2 _ (List.mem_singleton.2 rfl))
                · cases h1
          split at hls
          · rename_i ls' hA
            cases hls
            exact wpSIn_of_wpIn rfl ((codeA_ok ok sc K).1 c _ w ls hA (ok.good _ _ _ hfn hb) none n m _ W _ rfl fr g fs post)
          · exact codeD_ok ok sc hc c _ w ls m _ W _ hls (ok.good _ _ _ hfn hb) fr g fs post
        · cases h
      · cases h
    · cases h
  · cases h
theorem leaveA_ok (ok : E.Ok) {call : CallF} (sc : Sound E call) {K n : Nat} {fn : Func} {f : Fr} {tmps : Array Value} {R : Ending → World → Prop} :
    ∀ (ds : List AD) (xs : List Deferred) (w : Hp) (outs : List (AV × Hp)) (m : Mu) (W : World), leaveA E call K f fn.results.toList ds w = some outs → DFR m ds xs → TmR m f.n f.tm tmps → Gam m w.h W → Fresh m w.nx →
      (∀ x ∈ outs, ∀ v m' W', VR m' x.1 v → Step m w.h w.nx W m' x.2.h x.2.nx W' → R (.returned v) W') → LeavesInM (FW none) n E.P fn tmps R xs .returning W
  | [], xs, w, outs, m, W, h, hd', ht, g, fs, hR => by
    obtain rfl := hd'
    simp only [leaveA] at h
    split at h
    · rename_i vs hvs
      cases h
      obtain ⟨v, hr, hv⟩ := results_ok ok g ht hvs
      exact ⟨v, hr, hR _ (List.mem_singleton.2 rfl) v m W hv (Step.refl g fs)⟩
    · cases h
  | .mark r :: ds, xs, w, outs, m, W, h, hd', ht, g, fs, hR => by
    obtain ⟨y, ys, rfl, ⟨p, hp, rfl⟩, hds⟩ := hd'
    simp only [leaveA] at h
    split at h
    · rename_i hg
      obtain ⟨q, hq, hb⟩ := g.dom _ _ hg
      rw [hp] at hq; cases hq
      have hb : W.heap[p.blk]? = some (.deferred (some [])) := hb
      have st := Step.setObj (o' := .deferred none) (ab' := .dfr true) g fs hg hp hb (fun W' hW => hW)
      refine ⟨by simp, .inl ⟨p.blk, { W with heap := W.heap.setIfInBounds p.blk (.deferred none) }, rfl, ?_, ?_⟩⟩
      · simp only [Instr.takeDeferred, Sem.run_bind, getObj_run hb rfl, Result.andThen_ok, setObj_run hb rfl, Sem.run_pure]
      · exact leaveA_ok ok sc ds ys ⟨w.h.set r (.dfr true), w.nx⟩ outs m _ h hds ht st.gam st.fresh (fun x hx v m' W' hv st' => hR x hx v m' W' hv (st.trans st'))
    · cases h
  | .call gid args :: ds, xs, w, outs, m, W, h, hd', ht, g, fs, hR => by
    obtain ⟨y, ys, rfl, ⟨a, c, rfl, hv⟩, hds⟩ := hd'
    simp only [leaveA] at h
    split at h
    · rename_i l hl
      obtain ⟨⟨fnr, hf1, hf2⟩, hcalls⟩ := deferA_ok (n := n - 1) ok sc g fs hv hl
      have hinv := callFunc_ok (W := W) ok (a.toArray ++ c.toArray) hf1 hf2
      refine ⟨by simp, .inr ⟨fun hh => (by cases hh), .func gid, c.toArray, gid, (a ++ c).toArray, rfl, ?_, fun _ _ => trivial, ?_⟩⟩
      · simp only [invoke]
        rw [hinv]
        congr 2
        apply Array.ext'; simp
      · refine CallsDIn.mono hcalls (fun e u' W' hr => ?_)
        obtain ⟨x, hx, v, m', rfl, rfl, st⟩ := hr
        obtain ⟨rs, h1, h2⟩ := bindL_mem h x hx
        exact leaveA_ok ok sc ds ys x rs m' W' h1 (hds.mono (st.ext fs)) (ht.mono (st.ext fs)) st.gam st.fresh (fun z hz v m'' W'' hv st' => hR z (h2 z hz) v m'' W'' hv (st.trans st'))
    · cases h

theorem funcA_ok (ok : E.Ok) {call : CallF} (sc : Sound E call) {K : Nat} {gid : FuncId} {args : List AV} {w : Hp} {outs : List (AV × Hp)} (h : funcA E call K gid args w = some outs) :
    (∃ fn, E.fn.get gid = some fn ∧ fn.body.isSome = true) ∧
    ∀ n m W args', Gam m w.h W → Fresh m w.nx → VRL m args args' → CallsIn (FW none) n E.P gid args'.toArray W (RetR m w W outs) := by
  unfold funcA at h
  split at h
  · rename_i fn hfn
    split at h
    · rename_i c hb
      simp only [cond_eq_ite, Nat.ble_eq] at h
      split at h
      · rename_i hlen
        refine ⟨⟨fn, hfn, by rw [hb]; rfl⟩, fun n m W args' g fs hv => ?_⟩
        have fr : FrR none m ⟨fn.ntmps, bindP args 0 .nil, [], false⟩ { tmps := args'.toArray ++ Array.replicate (fn.ntmps - args'.toArray.size) undef, defers := [] } := ⟨rfl, bindP_ok hv hlen, rfl⟩
        split at h
        · rename_i ls hls
          refine callsIn_of_wp_marks (ok.fn _ _ hfn) hb trivial ?_
          refine (codeA_ok ok sc K).1 c _ w ls hls (ok.good _ _ _ hfn hb) none n m _ W _ rfl fr g fs (fun x hx m' a' W' hf st => ?_)
          obtain ⟨rs, h1, h2⟩ := bindL_mem h x hx
          obtain ⟨e, f1, w1⟩ := x
          have fin : leaveA E call K f1 fn.results.toList f1.df w1 = some rs → LeavesInM (FW none) n E.P fn a'.tmps (RetR m w W outs) a'.defers .returning W' := fun h3 =>
            leaveA_ok ok sc f1.df a'.defers w1 rs m' W' h3 hf.df hf.tm st.gam st.fresh (fun z hz v m'' W'' hv st' => ⟨z, h2 z hz, v, m'', rfl, hv, st.trans st'⟩)
          cases e with
          | exit id => simp [leaveX] at h1
          | norm => exact fin h1
          | ret => exact fin h1
        · cases h
      · cases h
    · cases h
  · cases h

/-- A round's end. -/
theorem endRound_ok {m m' : Mu} {w : Hp} {W W' : World} {l : Nat} {p : Pl} {ex : Ex} {f1 : Fr} {w1 : Hp} {rs outs : List (AV × Hp)} (h : endRound l (ex, f1, w1) = some rs) (hs : ∀ y ∈ rs, y ∈ outs) (hp : m' l = some p) (st : Step m w.h w.nx W m' w1.h w1.nx W') (a' : Act) :
    roundPost E.P p.blk (RetR m w W outs) (exOf ex) a' W' := by
  unfold endRound at h
  simp only at h
  split at h
  · rename_i st0 pend fid nt tm ps asg body d hl
    obtain ⟨q, hq, hb⟩ := st.gam.dom _ _ hl
    rw [hp] at hq; cases hq
    obtain ⟨tmps, dq, fn', hheap, htm, hod⟩ := hb
    have one : ∀ (s1 : LoopState) (jump : Option Code) (b : Bool), s1 = (if jump.isNone then .ready else .done) → b = jump.isNone → (boolA b, ⟨w1.h.set l (.loop s1 jump fid nt tm ps asg body d), w1.nx⟩) ∈ outs →
        ∃ v w', (Instr.endRound p.blk jump).run E.P W' = .ok v w' ∧ RetR m w W outs (.returned v) w' := by
      intro s1 jump b h1 h2 hmem
      subst h1; subst h2
      have st2 := Step.setObj (o' := .loop { state := if jump.isNone then .ready else .done, pending := jump, fn := fn', tmps := tmps, params := ps.toArray, assign := asg, body := body, defers := dq }) (ab' := .loop (if jump.isNone then .ready else .done) jump fid nt tm ps asg body d) st.gam st.fresh hl hp hheap (fun W'' hW => ⟨tmps, dq, fn', hW, htm, hod⟩)
      refine ⟨.bool jump.isNone, _, ?_, _, hmem, .bool jump.isNone, m', rfl, rfl, st.trans st2⟩
      simp only [Instr.endRound, Instr.getLoop, Sem.run_bind, getObj_run hheap rfl, Result.andThen_ok, Sem.run_pure, setObj_run hheap rfl]
    cases ex with
    | norm => simp only [Option.some.injEq] at h; subst h; exact one .ready none true rfl rfl (hs _ (List.mem_singleton.2 rfl))
    | ret => simp only [Option.some.injEq] at h; subst h; exact one .done (some .ret) false rfl rfl (hs _ (List.mem_singleton.2 rfl))
    | exit id => simp only [Option.some.injEq] at h; subst h; exact one .done (some (.exit id)) false rfl rfl (hs _ (List.mem_singleton.2 rfl))
  · cases h

theorem roundA_ok (ok : E.Ok) {call : CallF} (sc : Sound E call) {K : Nat} {l : Nat} {args : List AV} {w : Hp} {outs : List (AV × Hp)} (h : roundA E call K l args w = some outs) :
    ∃ st pd fid nt tm ps asg body d, w.h.get l = some (.loop st pd fid nt tm ps asg body d) ∧ args.length = ps.length ∧
    ∀ n m W args' p (lp : Loop), Gam m w.h W → Fresh m w.nx → VRL m args args' → m l = some p → W.heap[p.blk]? = some (.loop lp) →
      RoundIn (FW none) n E.P p.blk lp.fn ((lp.params.zip args'.toArray).foldl (fun tmps (t, a) => tmps.setIfInBounds t a) lp.tmps) lp.assign lp.body W (RetR m w W outs) := by
  unfold roundA at h
  split at h
  · rename_i st0 pd fid nt tm ps asg body d hl
    split at h
    · rename_i tm' hput
      split at h
      · rename_i ls hls
        have hlen : args.length = ps.length := putPs_len ps args tm tm' hput
        refine ⟨st0, pd, fid, nt, tm, ps, asg, body, d, hl, hlen, fun n m W args' p lp g fs hv hp hlp => ?_⟩
        obtain ⟨q, hq, hb⟩ := g.dom _ _ hl
        rw [hp] at hq; cases hq
        obtain ⟨tmps, dq, fn', hheap, htm, hod⟩ := hb
        rw [hlp] at hheap
        cases hheap
        obtain ⟨_, htm'⟩ := putPs_ok ps args args' tm tm' tmps hput htm hv
        have hz : ((ps.toArray.zip args'.toArray).foldl (fun tmps (x : Tmp × Value) => tmps.setIfInBounds x.1 x.2) tmps) = ((ps.zip args').foldl (fun tmps (x : Tmp × Value) => tmps.setIfInBounds x.1 x.2) tmps) := by
          rw [← Array.foldl_toList]; simp
        refine roundIn_of_wpIn trivial ?_
        have fr : FrR (some p.blk) m ⟨nt, tm', [], true⟩ { tmps := (ps.toArray.zip args'.toArray).foldl (fun tmps (x : Tmp × Value) => tmps.setIfInBounds x.1 x.2) tmps, defers := [] } := ⟨rfl, by rw [hz]; exact htm', rfl⟩
        refine (codeA_ok ok sc K).1 asg _ w ls hls hod.2.1 (some p.blk) n m _ W _ ⟨p, hp, rfl⟩ fr g fs (fun x hx m1 a1 W1 hf1 st1 => ?_)
        obtain ⟨rs, h1, h2⟩ := bindL_mem h x hx
        obtain ⟨e, f1, w1⟩ := x
        unfold beginRound at h1
        split at h1
        · rename_i pend fid' nt' tm1 ps' asg' body' d' he hl1
          simp only at he hl1
          subst he
          have hp1 := st1.ext fs _ _ hp
          obtain ⟨q, hq, hb1⟩ := st1.gam.dom _ _ hl1
          rw [hp1] at hq; cases hq
          obtain ⟨tmps1, dq1, fn1, hheap1, htm1, hod1⟩ := hb1
          split at h1
          · rename_i bs hbs
            have st2 := Step.setObj (o' := .loop { state := .busy, pending := pend, fn := fn1, tmps := tmps1, params := ps'.toArray, assign := asg', body := body', defers := dq1 }) (ab' := .loop .busy pend fid' nt' tm1 ps' asg' body' d') st1.gam st1.fresh hl1 hp1 hheap1 (fun W'' hW => ⟨tmps1, dq1, fn1, hW, htm1, hod1⟩)
            refine ⟨_, ?_, (codeA_ok ok sc K).1 body f1 ⟨w1.h.set l (.loop .busy pend fid' nt' tm1 ps' asg' body' d'), w1.nx⟩ bs hbs hod.2.2 (some p.blk) n m1 a1 _ _ ⟨p, hp1, rfl⟩ hf1 st2.gam st2.fresh (fun y hy m3 a3 W3 hf3 st3 => ?_)⟩
            · simp only [Instr.beginRound, Instr.getLoop, Sem.run_bind, getObj_run hheap1 rfl, Result.andThen_ok, Sem.run_pure, setObj_run hheap1 rfl]
            · obtain ⟨rs3, h4, h5⟩ := bindL_mem h1 y hy
              obtain ⟨e3, f3, w3⟩ := y
              exact endRound_ok (E := E) h4 (fun z hz => h2 z (h5 z hz)) (st3.ext st2.fresh _ _ hp1) ((st1.trans st2).trans st3) a3
          · cases h1
        · cases h1
      · cases h
    · cases h
  · cases h

theorem callS_ok (ok : E.Ok) {call : CallF} (sc : Sound E call) (K : Nat) : Sound E (callS E K call) :=
  ⟨fun _ _ _ _ h => funcA_ok ok sc h, fun _ _ _ _ h => roundA_ok ok sc h⟩

theorem callA_ok (ok : E.Ok) (K : Nat) : ∀ n, Sound E (callA E K n)
  | 0 => ⟨fun _ _ _ _ h => by simp [callA] at h, fun _ _ _ _ h => by simp [callA] at h⟩
  | n + 1 => callS_ok ok (callA_ok ok K n) K
end Go.Eng
