import Derived.Test.YtheclllbnkolaaaGreatDoorEngDraw2
namespace Go.Eng
open Go
variable {E : Env} {m : Mu} {w : Hp} {W : World}

/-- What an operation reads, related. -/
def ReadsOk (m : Mu) (ops : Array Oper) (o : Oper) (tm : Tm) (a : Act) : Prop := ∀ t ∈ o.looksAt ops, VR m ((tm.get t).getD (.s undef)) (a.tmps.getD t undef)

theorem ReadsOk.mono {m' : Mu} (e : Ext m m') {ops : Array Oper} {o : Oper} {tm : Tm} {a : Act} (h : ReadsOk m ops o tm a) : ReadsOk m' ops o tm a := fun t ht => VR.mono e _ _ (h t ht)

theorem looksAt_operand {ops : Array Oper} {o : Oper} {t : Tmp} (h : Operand.tmp t ∈ o.op.operands) : t ∈ o.looksAt ops :=
  List.mem_append_left _ (List.mem_filterMap.2 ⟨.tmp t, by simpa using h, rfl⟩)

theorem looksAt_guard {ops : Array Oper} {o : Oper} {g : Nat} {b : Bool} {d : Tmp} (h : o.guard = some (g, b)) (hd : (ops[g]?).bind (·.dst) = some d) : d ∈ o.looksAt ops := by
  refine List.mem_append_right _ ?_
  rw [h]; simp only [hd]; simp

open Classical in
/-- What is read, made whole. -/
noncomputable def rhoW (o : Oper) (ρ : Operand → AV) (σ : Operand → Value) : Operand → AV := fun x => if x ∈ o.op.operands then ρ x else .s (σ x)

theorem rhoT_eq (f : Fr) : f.ρ = rhoT f.tm := by
  funext x; cases x <;> rfl

theorem rhoW_ok {ops : Array Oper} {o : Oper} {tm : Tm} {a : Act} (h : ReadsOk m ops o tm a) : ∀ x, VR m (rhoW o (rhoT tm) a.eval x) (a.eval x) := by
  intro x
  unfold rhoW
  split
  · rename_i hx
    cases x with
    | tmp t => exact h t (looksAt_operand hx)
    | const v => rfl
    | global g => rfl
    | func f => rfl
  · rfl

theorem opA_rhoW {o : Oper} {ρ : Operand → AV} {σ : Operand → Value} : opA E ρ w o = opA E (rhoW o ρ σ) w o :=
  opA_congr fun x hx => by simp [rhoW, hx]

theorem wantedA_reads {ops : Array Oper} {f : Fr} {a : Act} {o : Oper} {b : Bool} (h : ReadsOk m ops o f.tm a) (hw : wantedA ops.toList f o = some b) : Region.wanted o (yielded ops a.tmps) = b := by
  unfold wantedA at hw
  unfold Region.wanted
  split at hw
  · rename_i hg
    simp only [hg]
    cases hw; rfl
  · rename_i j want hg
    simp only [hg]
    rw [nthOp_get] at hw
    split at hw
    · cases hw
    · rename_i d hd
      have hd' : (ops[j]?).bind (·.dst) = some d := by rw [← hd]; simp
      have hv := h d (looksAt_guard hg hd')
      have e : a.tmps.getD d undef = (a.tmps[d]?).getD undef := by simp [Array.getD_eq_getD_getElem?]
      rw [e] at hv
      simp only [yielded, hd', Option.bind_some]
      split at hw
      · rename_i c hc
        rw [hc] at hv
        have hv : (a.tmps[d]?).getD undef = .bool c := hv
        cases hx : a.tmps[d]? with
        | none => rw [hx] at hv; cases hv
        | some x =>
          rw [hx] at hv
          simp only [Option.getD_some] at hv
          subst hv
          simp only [Option.some.injEq] at hw
          rw [← hw, Bool.eq_iff_iff]
          simp
      · rename_i c hc
        rw [hc] at hv
        have hv : (a.tmps[d]?).getD undef = .tuple c := hv
        cases hw
        cases hx : a.tmps[d]? with
        | none => simp
        | some x =>
          rw [hx] at hv
          simp only [Option.getD_some] at hv
          subst hv
          simp
      · cases hw

theorem not_defer {ρ : Operand → AV} {o : Oper} {r : OR} (h : opA E ρ w o = some r) (hr : ∀ d w', r ≠ .dfr d w') : ∀ c, o.op ≠ .defer c := by
  intro c hc
  unfold opA at h
  rw [hc] at h
  simp only at h
  unfold opDefer at h
  split at h
  · split at h
    · cases h; exact hr _ _ rfl
    · cases h
  · cases h

/-- One that acts. -/
theorem actE_ok (ok : E.Ok) {call : CallF} (sc : Sound E call) {r : Option Nat} {n : Nat} {ops : Array Oper} {i : Nat} {o : Oper} {f : Fr} {a : Act} {l : List (AV × Hp)} (hi : ops[i]? = some o) (hr : ReadsOk m ops o f.tm a) (g : Gam m w.h W) (fs : Fresh m w.nx)
    {next : Act → World → Prop} {Q : Exit → Act → World → Prop} (h : actE E call ops.toList o f w = some l)
    (hn : ∀ x ∈ l, ∀ m' v' W', VR m' x.1 v' → Step m w.h w.nx W m' x.2.h x.2.nx W' → next (a.put o.dst v') W') :
    wpOpIn (FW r) n E.P ops Q i next a W := by
  unfold wpOpIn
  simp only [hi]
  unfold actE at h
  split at h
  · cases h
  · rename_i hw
    rw [wantedA_reads hr hw]
    refine ⟨fun _ _ => trivial, ?_⟩
    cases h
    exact hn _ (List.mem_singleton.2 rfl) m undef W rfl (Step.refl g fs)
  · rename_i hw
    rw [wantedA_reads hr hw]
    refine ⟨fun _ _ => trivial, ?_⟩
    rw [rhoT_eq, opA_rhoW (σ := a.eval)] at h
    have heval := rhoW_ok (o := o) hr
    split at h <;> rename_i hop0 <;> try (cases h; done)
    all_goals have hop := opA_ok ok g fs heval hop0
    all_goals rw [Oper.semAt_eq _ _ _ (not_defer hop0 (by simp))]
    · obtain ⟨m', v', W', hs, hv, st⟩ := hop
      rw [hs]
      cases h
      exact hn _ (List.mem_singleton.2 rfl) m' v' W' hv st
    · obtain ⟨m', W', hs, st⟩ := hop
      rw [hs]
      cases h
      exact hn _ (List.mem_singleton.2 rfl) m' undef W' rfl st
    · rename_i c w'
      obtain ⟨rfl, hc⟩ := hop
      cases c with
      | func fid args =>
        obtain ⟨⟨fn, hf, hb⟩, hsound⟩ := sc.fn _ _ _ _ h
        obtain ⟨args', hv, hrun⟩ := hc
        rw [hrun fn hf hb, Oper.uponIn_enter]
        refine ⟨fun hh => (by cases hh), CallsIn.mono (hsound (n - 1) m W args' g fs hv) (fun e W' hR => ?_)⟩
        obtain ⟨x, hx, v, m', rfl, hvr, st⟩ := hR
        exact hn x hx m' v W' hvr st
      | round l0 args =>
        obtain ⟨st0, pd, fid, nt, tm, ps, asg, body, d, hl, hlen, hsound⟩ := sc.round _ _ _ _ h
        obtain ⟨p, args', hp0, hv, hrun⟩ := hc
        obtain ⟨q, hq, hbr⟩ := g.dom _ _ hl
        rw [hp0] at hq; cases hq
        obtain ⟨tmps, dq, fn', hheap, htm, hd⟩ := hbr
        have hrun' := hrun _ hheap (by rw [hv.length, hlen]; simp)
        rw [hrun', Oper.uponIn_round]
        refine ⟨fun hh => (by cases hh), RoundIn.mono (hsound (n - 1) m W args' p _ g fs hv hp0 hheap) (fun e W' hR => ?_)⟩
        obtain ⟨x, hx, v, m', rfl, hvr, st⟩ := hR
        exact hn x hx m' v W' hvr st
    · obtain ⟨x, hx, m', v', W', hs, hv, st⟩ := hop
      rw [hs]
      cases h
      exact hn x hx m' v' W' hv st

/-! ### Light operations -/
def LightV (E : Env) (m : Mu) (w : Hp) (W : World) (r : OR) (s : Sem Next) : Prop := ∃ v v', r = .val v w ∧ s.run E.P W = .ok (.value v') W ∧ VR m v v'

theorem ValOk.lv {r : OR} {s : Sem Value} (h : ValOk E m w W r s) : LightV E m w W r (do pure (Next.value (← s))) := by
  obtain ⟨v, v', rfl, hs, hv⟩ := h
  exact ⟨v, v', rfl, vrun hs, hv⟩

theorem builtin_light (ok : E.Ok) {ρ : Operand → AV} {σ : Operand → Value} (g : Gam m w.h W) (hσ : ∀ x, VR m (ρ x) (σ x)) {b : Builtin} {args : Array Operand} {ats : Array TypeId} {ty : TypeId} {r : OR}
    (hb : b = .len ∨ b = .cap ∨ b = .min ∨ b = .max)
    (h : opBuiltin E w b ats.toList (args.toList.map ρ) = some r) : LightV E m w W r (do let d ← resolve σ { callee := .builtin b, args := args, argTypes := ats } ty; invoke d.target d.args) := by
  have red : ∀ {s : Sem Value}, (∀ (c : Array Bool), (builtin b ats ty c (args.map σ)).run E.P W = (do pure (Next.value (← s)) : Sem Next).run E.P W) →
      ValOk E m w W r s → LightV E m w W r (do let d ← resolve σ { callee := .builtin b, args := args, argTypes := ats } ty; invoke d.target d.args) := by
    intro s hr h
    obtain ⟨v, v', rfl, hs, hv⟩ := h
    refine ⟨v, v', rfl, ?_, hv⟩
    simp only [resolve, Sem.run_bind, Sem.run_pure, Result.andThen_ok, invoke]
    rw [hr]
    exact vrun hs
  have hargs := VRL.of_map hσ args.toList
  have harr : args.map σ = (args.toList.map σ).toArray := by apply Array.ext'; simp only [Array.toList_map]
  have hats : ats = ats.toList.toArray := by simp
  unfold opBuiltin at h
  generalize args.toList.map ρ = la at h hargs
  generalize args.toList.map σ = lv at hargs harr
  generalize ats.toList = lt at h hats
  rcases hb with rfl | rfl | rfl | rfl <;> simp only at h
  · split at h
    · obtain ⟨x', _, rfl, hx, hn⟩ := hargs
      simp only [VRL] at hn; subst hn
      refine red (fun c => ?_) (opLen_ok (ty := ty) ok g hx h)
      rw [harr, hats]; rfl
    · cases h
  · split at h
    · obtain ⟨x', _, rfl, hx, hn⟩ := hargs
      simp only [VRL] at hn; subst hn
      refine red (fun c => ?_) (opCap_ok (ty := ty) ok hx h)
      rw [harr, hats]; rfl
    · cases h
  · refine red (s := Builtin.min_ ats ty lv.toArray) (fun c => ?_) ?_
    · rw [harr]; rfl
    · exact opMin_ok (E := E) (W := W) (mx := false) (ts := ats) (ty := ty) hargs h
  · refine red (s := Builtin.max_ ats ty lv.toArray) (fun c => ?_) ?_
    · rw [harr]; rfl
    · exact opMin_ok (E := E) (W := W) (mx := true) (ts := ats) (ty := ty) hargs h

theorem opA_light (ok : E.Ok) {ρ : Operand → AV} {σ : Operand → Value} (g : Gam m w.h W) (hσ : ∀ x, VR m (ρ x) (σ x)) {o : Oper} {r : OR} (hW : isW o.op = false) (hA : isA E o.op = false) (h : opA E ρ w o = some r) :
    LightV E m w W r (execOp σ o) := by
  obtain ⟨dst, op, ty, pos, after, guard⟩ := o
  unfold opA at h
  cases op <;> simp only at h hW hA <;> (try (cases h; done)) <;> (try (simp [isW] at hW; done)) <;> (try (simp [isA] at hA; done))
  case move x => cases h; exact ⟨_, σ x, rfl, rfl, hσ x⟩
  case assign x => cases h; exact ⟨_, σ x, rfl, rfl, hσ x⟩
  case pick c a b =>
    have := (opPick_ok (E := E) (W := W) (hσ c) (hσ a) (hσ b) h).lv
    obtain ⟨v, v', hr, hs, hv⟩ := this
    exact ⟨v, v', hr, by rw [← hs]; simp [execOp], hv⟩
  case build t parts => exact (opBuild_ok ok hσ h).lv
  case load t a => exact (opLoad_ok ok g (hσ a) h).lv
  case nilCheck x =>
    obtain ⟨v, v', hr, hs, hv⟩ := opNil_ok (W := W) ok (o := ⟨dst, .nilCheck x, ty, pos, after, guard⟩) rfl (hσ x) h
    exact ⟨v, v', hr, hs, hv⟩
  case binOp op t x y t2 => exact (opBin_ok ok g (hσ x) (hσ y) h).lv
  case unOp op t x => exact (opUn_ok (hσ x) h).lv
  case convert src dst x => exact (opConvert_ok ok g (hσ x) (by simpa [isA] using hA) h).lv
  case makeInterface t x => exact (opMakeIface_ok ok (hσ x) h).lv
  case makeFunc fn first cap =>
    have := (opMakeFunc_ok (E := E) (W := W) (VRL.map_arr hσ first) (VRL.map_arr hσ cap) h).lv
    have e1 : (first.toList.map σ).toArray = first.map σ := by apply Array.ext'; simp only [Array.toList_map]
    have e2 : (cap.toList.map σ).toArray = cap.map σ := by apply Array.ext'; simp only [Array.toList_map]
    rw [e1, e2] at this
    exact this
  case slice t x lo hi mx => exact (opSlice_ok ok g (hσ x) (VRo.map hσ lo) (VRo.map hσ hi) (VRo.map hσ mx) h).lv
  case fieldAddr t x fd => exact (opFieldAddr_ok ok (hσ x) h).lv
  case field t x fd => exact (opField_ok ok (hσ x) h).lv
  case indexAddr t x ix => exact (opIndexAddr_ok ok (hσ x) (hσ ix) h).lv
  case index t x ix => exact (opIndex_ok ok (hσ x) (hσ ix) h).lv
  case lookup t x ix cm => exact (opLookup_ok ok g (hσ x) (hσ ix) h).lv
  case entry x => exact (opEntry_ok g (hσ x) h).lv
  case typeAssert x t a cm => exact (opAssert_ok ok (hσ x) h).lv
  case extract x ix => exact (opExtract_ok (hσ x) h).lv
  case call c =>
    obtain ⟨callee, args, ats⟩ := c
    cases callee with
    | value fo => simp [isW] at hW
    | invoke ro name => simp [isW] at hW
    | builtin b =>
      refine builtin_light ok g hσ ?_ h
      cases b <;> simp [isW] at hW ⊢

def AllocN (E : Env) (m : Mu) (W : World) (s : Sem Next) (mk : Nat → AV) (blk : AB) : Prop :=
  ∃ v' W' p, s.run E.P W = .ok (.value v') W' ∧ p.blk = W.heap.size ∧ (∀ b, b < W.heap.size → W'.heap[b]? = W.heap[b]?) ∧ W'.os = W.os ∧ W'.tape = W.tape ∧ W'.output = W.output ∧
    W.heap.size ≤ W'.heap.size ∧ ∀ m' i, Ext m m' → m' i = some p → VR m' (mk i) v' ∧ BR m' W' p blk

theorem AllocOk.n {s : Sem Value} {mk : Nat → AV} {blk : AB} (h : AllocOk E m W s mk blk) : AllocN E m W (do pure (Next.value (← s))) mk blk := by
  obtain ⟨v', W', p, hs, h⟩ := h
  exact ⟨v', W', p, vrun hs, h⟩

/-- One that makes a block, or (a conversion) hands back a value. -/
theorem opA_makes (ok : E.Ok) {ρ : Operand → AV} {o : Oper} {r : OR} (hA : isA E o.op = true) (h : opA E ρ w o = some r) :
    (∃ mk blk, (∀ w : Hp, opA E ρ w o = some (.val (mk w.nx) ⟨w.h.set w.nx blk, w.nx + 1⟩)) ∧ ∀ (m : Mu) (W : World) (σ : Operand → Value), (∀ x, VR m (ρ x) (σ x)) → AllocN E m W (execOp σ o) mk blk) ∨
    ∃ v, ∀ w : Hp, opA E ρ w o = some (.val v w) := by
  obtain ⟨dst, op, ty, pos, after, guard⟩ := o
  cases op <;> simp only [isA] at hA <;> (try (cases hA; done))
  case alloc et =>
    obtain ⟨mk, blk, h1, h2⟩ := opAlloc_ok ok (w := w) (r := r) h
    exact .inl ⟨mk, blk, h1, fun m W σ hσ => (h2 m W).n⟩
  case box et x =>
    obtain ⟨mk, blk, h1, h2⟩ := opBox_ok (E := E) (w := w) (r := r) h
    exact .inl ⟨mk, blk, h1, fun m W σ hσ => (h2 m W _ (hσ x)).n⟩
  case buildSlice t len parts =>
    obtain ⟨mk, blk, h1, h2⟩ := opBuildSlice_ok ok (w := w) (r := r) (ρ := ρ) (parts := parts) h
    exact .inl ⟨mk, blk, h1, fun m W σ hσ => (h2 m W σ hσ).n⟩
  case makeMap t rr =>
    obtain ⟨mk, blk, h1, h2⟩ := opMakeMap_ok ok (w := w) (r := r) h
    exact .inl ⟨mk, blk, h1, fun m W σ hσ => (h2 m W _ (map_none hσ rr)).n⟩
  case makeSlice t l c =>
    obtain ⟨mk, blk, h1, h2⟩ := opMakeSlice_ok ok (w := w) (r := r) h
    exact .inl ⟨mk, blk, h1, fun m W σ hσ => (h2 m W _ _ (hσ l) (hσ c)).n⟩
  case convert src dst x =>
    split at hA
    · rename_i e he
      rcases opConvertA_ok ok he (w := w) (r := r) h with ⟨mk, blk, h1, h2⟩ | ⟨v, h1, _⟩
      · exact .inl ⟨mk, blk, h1, fun m W σ hσ => (h2 m W _ ⟨_, hσ x, rfl⟩).n⟩
      · exact .inr ⟨v, h1⟩
    · cases hA
end Go.Eng
