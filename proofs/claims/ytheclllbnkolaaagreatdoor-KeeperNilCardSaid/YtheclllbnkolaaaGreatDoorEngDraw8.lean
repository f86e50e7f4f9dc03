import Derived.Test.YtheclllbnkolaaaGreatDoorEngDraw7
namespace Go.Eng
open Go
variable {E : Env}

/-- How the evaluator goes on. -/
def Cont (E : Env) (call : CallF) (C : Ctx) (outs : List (Fr × Hp)) : List Nat → DS → Hp → Prop
  | [], s, w => ∃ rs, endE C.ops.toList C.base s w = some rs ∧ ∀ z ∈ rs, z ∈ outs
  | i :: rest, s, w => ∃ l2, turnE E call C.ops.toList C.ms C.base i s w = some l2 ∧ ∀ y ∈ l2, ∃ rs, drawE E call C.ops.toList C.ms C.base rest y.1 y.2 = some rs ∧ ∀ z ∈ rs, z ∈ outs

theorem drawE_cont (ok : E.Ok) {call : CallF} {C : Ctx} {acts : List Nat} {s : DS} {w : Hp} {L : Array Bool} {m : Mu} {a : Act} {W : World} {outs rs : List (Fr × Hp)} (I : Inv E C acts s w L m a W) (R : Reg C.ops C.ms)
    (h : drawE E call C.ops.toList C.ms C.base acts s w = some rs) (hs : ∀ z ∈ rs, z ∈ outs) : ∃ s', Inv E C acts s' w L m a W ∧ Cont E call C outs acts s' w := by
  cases acts with
  | nil =>
    simp only [drawE] at h
    split at h
    · rename_i s' hs'
      exact ⟨s', lightsE_inv ok R C.ops.toList 0 (by simp) s s' I hs', rs, h, hs⟩
    · cases h
  | cons i rest =>
    simp only [drawE] at h
    split at h
    · rename_i s' hs'
      split at h
      · rename_i l2 hl2
        refine ⟨s', lightsE_inv ok R C.ops.toList 0 (by simp) s s' I hs', l2, hl2, fun y hy => ?_⟩
        obtain ⟨rs', h1, h2⟩ := bindL_mem h y hy
        exact ⟨rs', h1, fun z hz => hs z (h2 z hz)⟩
      · cases h
    · cases h

theorem ready_mem {ops : Array Oper} {L : Array Bool} {i : Nat} : i ∈ Region.ready .any ops L ↔ i < ops.size ∧ L.getD i true = false ∧ ∃ o, ops[i]? = some o ∧ ∀ e ∈ o.after.toList, Region.binds .any e = true → inS L e.on := by
  unfold Region.ready
  rw [List.mem_filter, List.mem_range]
  constructor
  · rintro ⟨h1, h2⟩
    simp only [Bool.and_eq_true, Bool.not_eq_true'] at h2
    refine ⟨h1, h2.1, ops[i], Array.getElem?_eq_getElem h1, fun e he hb => ?_⟩
    have h3 := h2.2
    rw [Array.getElem?_eq_getElem h1] at h3
    simp only [Option.map_some, Option.getD_some, Array.all_eq_true_iff_forall_mem] at h3
    have := h3 e (by simpa using he)
    rw [hb] at this
    simpa [inS] using this
  · rintro ⟨h1, h2, o, ho, h3⟩
    refine ⟨h1, ?_⟩
    simp only [Bool.and_eq_true, Bool.not_eq_true']
    refine ⟨h2, ?_⟩
    rw [ho]
    simp only [Option.map_some, Option.getD_some, Array.all_eq_true_iff_forall_mem]
    intro e he
    by_cases hb : Region.binds .any e = true
    · have : inS L e.on := h3 e (by simpa using he) hb
      simp only [inS] at this
      rw [hb, this]; rfl
    · rw [Bool.not_eq_true] at hb
      rw [hb]; rfl

theorem notS {C : Ctx} {L : Array Bool} (hs : L.size = C.ops.size) {i : Nat} (hi : i < C.ops.size) : L.getD i true = false ↔ ¬ inS L i := by
  unfold inS
  simp [Array.getD, hs, hi]

theorem draw_any (ok : E.Ok) {call : CallF} (sc : Sound E call) {C : Ctx} (R : Reg C.ops C.ms) {outs : List (Fr × Hp)} {n : Nat} {Q : Exit → Act → World → Prop} (fr : FrR C.r C.m0 C.f0 C.a0) (hfs : Fresh C.m0 C.nx0)
    (hn : ∀ x ∈ outs, ∀ m' a' W', FrR C.r m' x.1 a' → Step C.m0 C.h0 C.nx0 C.W0 m' x.2.h x.2.nx W' → Q .normal a' W') :
    ∀ (fuel : Nat) (L : Array Bool) (acts : List Nat) (s : DS) (w : Hp) (m : Mu) (a : Act) (W : World), Inv E C acts s w L m a W → Cont E call C outs acts s w →
      (List.range C.ops.size).countP (fun i => !L.getD i true) ≤ fuel → wpAnyIn (FW C.r) n E.P .any C.ops Q fuel L a W := by
  -- at the end
  have fin : ∀ (L : Array Bool) (acts : List Nat) (s : DS) (w : Hp) (m : Mu) (a : Act) (W : World), Inv E C acts s w L m a W → Cont E call C outs acts s w → (∀ i, i < C.ops.size → inS L i) → Q .normal a W := by
    intro L acts s w m a W I hc hall
    cases acts with
    | cons i rest =>
      obtain ⟨h1, o, ho, _⟩ := I.acts2 i (by simp)
      have := I.sub i (hall i (Array.getElem?_eq_some_iff.1 ho).1)
      rw [h1] at this; cases this
    | nil =>
      obtain ⟨rs, h1, h2⟩ := hc
      unfold endE at h1
      simp only [cond_eq_ite, Nat.beq_eq] at h1
      split at h1
      · cases h1
        have g1 := insP_step I.st (base := C.base) (msk := 2 ^ C.ops.toList.length - 1) (l := s.pd) (fun x hx _ => I.pdS x hx (hall _ (I.dn _ (I.pds x hx)))) (fun x hx y hy p q hne _ _ => I.pdne x hx y hy p q hne (hall _ (I.dn _ (I.pds x hx))) (hall _ (I.dn _ (I.pds y hy))))
        have hext := I.st.ext hfs
        refine hn _ (h2 _ (List.mem_singleton.2 rfl)) m a W ⟨I.frnd.trans fr.rnd, ⟨by rw [I.asz, I.fn], fun t ht => ?_, fun t ht => I.fout t (by rw [← I.fn]; exact ht)⟩, ?_⟩ g1
        · by_cases hw : ∃ (j : Nat) (p : Oper), C.ops[j]? = some p ∧ p.dst = some t
          · obtain ⟨j, p, hj, hd⟩ := hw
            exact I.ti1 t j p hj hd (hall j (Array.getElem?_eq_some_iff.1 hj).1)
          · have h3 := I.ei t (fun j p hj hd _ => hw ⟨j, p, hj, hd⟩)
            rw [h3]
            exact I.ti0 t (fun j p hj hd _ => hw ⟨j, p, hj, hd⟩)
        · show DFR m s.f.df a.defers
          rw [I.fdf, I.adf]
          exact fr.df.mono hext
      · cases h1
  have allS : ∀ (L : Array Bool), L.size = C.ops.size → Region.ready .any C.ops L = [] → ∀ i, i < C.ops.size → inS L i := by
    intro L hs hr i
    induction i using Nat.strongRecOn with
    | ind i ih =>
      intro hi
      refine Classical.byContradiction fun hns => ?_
      have hm : i ∈ Region.ready .any C.ops L := by
        rw [ready_mem]
        refine ⟨hi, (notS hs hi).2 hns, C.ops[i], Array.getElem?_eq_getElem hi, fun e he hb => ?_⟩
        have := R.back i _ (Array.getElem?_eq_getElem hi) e he hb
        exact ih e.on this (by omega)
      rw [hr] at hm
      simp at hm
  intro fuel
  induction fuel with
  | zero =>
    intro L acts s w m a W I hc hcnt
    have hall : ∀ i, i < C.ops.size → inS L i := by
      intro i hi
      have h0 : (List.range C.ops.size).countP (fun i => !L.getD i true) = 0 := by omega
      rw [List.countP_eq_zero] at h0
      have := h0 i (List.mem_range.2 hi)
      refine Classical.byContradiction fun hns => ?_
      rw [(notS I.size hi).2 hns] at this
      simp at this
    refine ⟨?_, fin L acts s w m a W I hc hall⟩
    cases hr : Region.ready .any C.ops L with
    | nil => rfl
    | cons i r =>
      have hm : i ∈ Region.ready .any C.ops L := by rw [hr]; simp
      rw [ready_mem] at hm
      exact absurd (hall i hm.1) ((notS I.size hm.1).1 hm.2.1)
  | succ fuel ih =>
    intro L acts s w m a W I hc hcnt
    refine ⟨fun hr => fin L acts s w m a W I hc (allS L I.size hr), fun i hi => ?_⟩
    rw [ready_mem] at hi
    obtain ⟨hlt, hl, o, ho, hpre⟩ := hi
    have hnS := (notS I.size hlt).1 hl
    have hm : ∀ j, (mkAt C.ms i).testBit j = true → inS L j := by
      intro j hj
      obtain ⟨e, he, hb, h1⟩ := R.mask i o ho j hj
      rcases h1 with rfl | h1
      · exact hpre e he hb
      · exact I.closed e.on (hpre e he hb) j h1
    have hcnt' : (List.range C.ops.size).countP (fun k => !(L.setIfInBounds i true).getD k true) ≤ fuel := by
      have e : ∀ (A : Array Bool) (k : Nat), A.getD k true = (A[k]?).getD true := fun A k => by simp [Array.getD_eq_getD_getElem?]
      have := countP_drop (p := fun k => !L.getD k true) (q := fun k => !(L.setIfInBounds i true).getD k true) (i := i) (List.range C.ops.size) (List.mem_range.2 hlt) (by simp only [hl]; rfl)
        (by simp only [e]; rw [Array.getElem?_setIfInBounds_self_of_lt (by rw [I.size]; exact hlt)]; rfl) (fun k hk => by
          by_cases hki : k = i
          · subst hki; simp only [hl]; rfl
          · simp only [e] at hk ⊢
            rw [Array.getElem?_setIfInBounds_ne (by omega)] at hk
            exact hk)
      omega
    by_cases hW : isW o.op = true
    · -- one that acts
      rcases I.acts1 i o ho hW with ⟨_, h2⟩ | ⟨hnd, hin⟩
      · exact absurd h2 hnS
      · cases acts with
        | nil => simp at hin
        | cons i' rest =>
          have hii : i = i' := by
            simp only [List.mem_cons] at hin
            rcases hin with h | h
            · exact h
            · have hch := I.chain
              simp only [chainOk, Bool.and_eq_true, List.all_eq_true] at hch
              have h3 := I.sub i' (hm i' (hch.1 i h))
              obtain ⟨h4, _⟩ := I.acts2 i' (by simp)
              rw [h4] at h3; cases h3
          subst hii
          obtain ⟨l2, ht, hrest⟩ := hc
          refine turn_step ok sc I R ho hm ht (fun y hy m' a' W' I' => ?_)
          obtain ⟨rs, h5, h6⟩ := hrest y hy
          obtain ⟨s'', I'', hc''⟩ := drawE_cont ok I' R h5 h6
          exact ih _ rest s'' y.2 m' a' W' I'' hc'' hcnt'
    · have hW : isW o.op = false := by simpa using hW
      have hd : s.done.testBit i = true := by
        cases acts with
        | nil =>
          obtain ⟨rs, h1, _⟩ := hc
          unfold endE at h1
          simp only [cond_eq_ite, Nat.beq_eq] at h1
          split at h1
          · rename_i hdone
            rw [hdone, Nat.testBit_two_pow_sub_one]
            simpa using hlt
          · cases h1
        | cons i' rest =>
          obtain ⟨l2, ht, _⟩ := hc
          have hst : stable C.ms s.done C.ops.toList 0 = true := by
            unfold turnE at ht
            split at ht
            · simp only [cond_eq_ite] at ht
              split at ht
              · rename_i hb; rw [Bool.and_eq_true] at hb; exact hb.2
              · cases ht
            · cases ht
          have hny : notYet C.ms o i s.done = true := by
            have gen : ∀ (os : List Oper) (k j : Nat) (p : Oper), stable C.ms s.done os k = true → os[j]? = some p → notYet C.ms p (k + j) s.done = true := by
              intro os
              induction os with
              | nil => intro k j p _ h; simp at h
              | cons x xs ihx =>
                intro k j p h hj
                simp only [stable, Bool.and_eq_true] at h
                cases j with
                | zero => simp at hj; subst hj; exact h.1
                | succ j =>
                  have := ihx (k + 1) j p h.2 (by simpa using hj)
                  rw [show k + (j + 1) = k + 1 + j by omega]
                  exact this
            have := gen _ 0 i o hst (by simpa using ho)
            rw [Nat.zero_add] at this
            exact this
          unfold notYet at hny
          rw [hW] at hny
          have hsub : subM (mkAt C.ms i) s.done = true := subM_ok.2 (fun j hj => I.sub j (hm j hj))
          rw [hsub] at hny
          simpa using hny
      exact light_step ok I R ho hW hd hnS hm (fun m' a' W' I' => ih _ acts s w m' a' W' I' hc hcnt')

theorem draw_ok (ok : E.Ok) {call : CallF} (sc : Sound E call) {r : Option Nat} {n id : Nat} {ops : Array Oper} {f : Fr} {a : Act} {w : Hp} {W : World} {m : Mu} {l : List (Fr × Hp)} {Q : Exit → Act → World → Prop} (hgood : okRegion ops.toList = true)
    (fr : FrR r m f a) (g : Gam m w.h W) (fs : Fresh m w.nx) (h : regionA E call ops true f w = some l) (hn : Nexts r m w W l (Q .normal)) : (Code.region id ops true).wpIn (FW r) n E.P Q a W := by
  unfold regionA at h
  simp only [cond_true] at h
  split at h
  · rename_i ms hms
    have R := Reg.of hgood hms
    refine wpIn_region_any ok.mixed ?_
    let C : Ctx := ⟨ops, ms, r, w.nx, m, w.h, w.nx, W, f, a⟩
    have hnone : ∀ i, ¬ inS (Array.replicate ops.size false) i := by
      intro i hi
      unfold inS at hi
      simp [Array.getD] at hi
    have hz : ∀ i, ¬ (0 : Nat).testBit i = true := fun i => by simp
    have I : Inv E C (actors ops.toList 0) ⟨0, f, [], []⟩ ⟨w.h, w.nx + ops.toList.length⟩ (Array.replicate ops.size false) m a { W with drawn := W.drawn + 1 } := by
      have st : Step m w.h w.nx W m w.h (w.nx + ops.toList.length) { W with drawn := W.drawn + 1 } := by
        have st0 := Step.drawn (w := W) g fs (W.drawn + 1)
        exact { st0 with fresh := fun i hi => fs i (by omega), le := by omega }
      exact {
        st := st
        base := rfl
        nx := by show w.nx + ops.size ≤ _; simp
        size := by simp [C]
        sub := fun i hi => absurd hi (hnone i)
        dn := fun i hi => absurd hi (hz i)
        closed := fun i hi => absurd hi (hnone i)
        dclosed := fun i hi => absurd hi (hz i)
        acts1 := fun i o hi hw => .inr ⟨by simp, (actors_mem _ _ _).2 ⟨i, o, by omega, by simpa using hi, hw⟩⟩
        acts2 := fun i hi => by
          obtain ⟨k, o, h1, h2, h3⟩ := (actors_mem _ _ _).1 hi
          refine ⟨by simp, o, ?_, h3⟩
          rw [Nat.zero_add] at h1
          subst h1
          simpa using h2
        chain := R.chain
        nodup := actors_nodup _ _
        fn := rfl
        frnd := rfl
        fdf := rfl
        adf := rfl
        asz := fr.tm.size
        fout := fr.tm.out
        ti1 := fun t j p _ _ hS => absurd hS (hnone j)
        ti0 := fun t _ => fr.tm.get t
        ei := fun _ _ => rfl
        pend := fun i o _ hd => absurd hd (hz i)
        pds := by simp
        pdl := by simp
        pdu := by simp
        pdS := by simp
        pdne := by simp
        free := fun i _ _ _ => fs _ (by show w.nx ≤ w.nx + i; omega) }
    obtain ⟨s', I', hc⟩ := drawE_cont ok I R h (fun z hz => hz)
    exact draw_any (C := C) (outs := l) ok sc R fr fs hn _ _ _ _ _ _ _ _ I' hc (by
      have := List.countP_le_length (p := fun i => !(Array.replicate ops.size false).getD i true) (l := List.range ops.size)
      simpa using this)
  · cases h
end Go.Eng
