import Derived.Test.YtheclllbnkolaaaGreatDoorEngOps4
import Derived.IntWalk
namespace Go.Eng
open Go
variable {E : Env} {m : Mu} {w : Hp} {W : World}

theorem elemsOf_all {es n : Nat} {x : AV} {x' : Value} {l : List AV} (g : Gam m w.h W) (hx : VR m x x') (h : elemsOf w es n x = some l) :
    ∃ ys : List Value, VRL m l ys ∧ ∀ W' : World, W'.heap = W.heap → (Builtin.firstCells es n x').run E.P W' = .ok ys.toArray W' := by
  unfold elemsOf at h
  split at h
  · cases h; obtain rfl : x' = _ := hx; exact ⟨[], by simp [VRL], fun _ _ => rfl⟩
  · rename_i s
    cases h; obtain rfl : x' = _ := hx
    refine ⟨(s.data.toList.take n).map fun b => .int .u8 b.toNat, ?_, ?_⟩
    · have := VRL.map_s (m := m) ((s.data.toList.take n).map fun b => Value.int .u8 b.toNat)
      simpa [List.map_map, Function.comp_def] using this
    · intro W' _
      simp only [Builtin.firstCells, Sem.run_pure]
      congr 1
      apply Array.ext'
      simp [ByteArray.extract, ByteArray.copySlice]
  · rename_i i off len cap
    split at h
    · rename_i vs et es' op hg
      simp only [cond_eq_ite, Bool.and_eq_true, Nat.beq_eq, Nat.ble_eq] at h
      split at h
      · rename_i hb
        obtain ⟨hb1, hb2⟩ := hb
        cases h
        obtain ⟨p, hp, o', c', rfl, hc, hn, hor⟩ := hx
        obtain ⟨q, hq, hbr⟩ := g.dom _ _ hg
        rw [hp] at hq; cases hq
        by_cases h0 : n * es = 0
        · refine ⟨[], ?_, ?_⟩
          · have : spl off (n * es) vs = [] := by rw [h0]; simp [spl]
            rw [this]; simp [VRL]
          · intro W' _; simp [Builtin.firstCells, h0, loadCells, loadCellsFrom]
        · have ho : o' = p.off + off := by
            rcases hor with e | e
            · exfalso
              have : n = 0 := by omega
              rw [this] at h0; simp at h0
            · exact e
          subst ho
          obtain ⟨ys, h1, h2⟩ := list_of (m := m) (f := fun k y => W.cell? ((⟨p.blk, p.off + off, none⟩ : Addr).add k) = some y) (spl off (n * es) vs) (fun k x e => by
            obtain ⟨e', _⟩ := spl_get _ _ _ _ _ e
            obtain ⟨y, hy, hv⟩ := hbr.1 _ _ e'
            exact ⟨y, by rw [addAt]; rw [← hy, Nat.add_assoc], hv⟩)
          have hlen : ys.length = n * es := by rw [h1.length]; exact hb1
          refine ⟨ys, h1, fun W' hW' => ?_⟩
          have := run_loadCells_list (P := E.P) W' ⟨p.blk, p.off + off, none⟩ ys (fun k y e => by rw [← h2 k y e]; simp only [World.cell?, hW'])
          rw [hlen] at this
          simp [Builtin.firstCells, this]
      · cases h
    · cases h
  · cases h

theorem elemsOf_ok {es n : Nat} {x : AV} {x' : Value} {l : List AV} (g : Gam m w.h W) (hx : VR m x x') (h : elemsOf w es n x = some l) :
    ∃ ys : List Value, VRL m l ys ∧ (Builtin.firstCells es n x').run E.P W = .ok ys.toArray W := by
  obtain ⟨ys, h1, h2⟩ := elemsOf_all (E := E) g hx h
  exact ⟨ys, h1, h2 W rfl⟩

theorem bytesOfA_ok : ∀ (l : List AV) (bs : List UInt8) (ys : List Value), bytesOfA l = some bs → VRL m l ys →
    ∃ ns : List Int, ys = ns.map (Value.int .u8) ∧ bs = ns.map fun n => UInt8.ofNat n.toNat
  | [], bs, ys, h, hy => by simp only [bytesOfA, Option.some.injEq] at h; simp [VRL] at hy; exact ⟨[], by simp [hy], by simp [← h]⟩
  | x :: r, bs, ys, h, hy => by
    unfold bytesOfA at h
    split at h
    · rename_i hh; cases hh
    · rename_i n r' hh
      cases hh
      simp only [Option.map_eq_some_iff] at h
      obtain ⟨bs', hb, rfl⟩ := h
      obtain ⟨y, ys', rfl, hx, hr⟩ := hy
      obtain ⟨ns, rfl, rfl⟩ := bytesOfA_ok r bs' ys' hb hr
      obtain rfl : y = _ := hx
      exact ⟨n :: ns, rfl, rfl⟩
    · cases h

theorem foldl_push (ns : List Int) : ∀ a : ByteArray, (ns.foldl (fun r n => r.push (UInt8.ofNat n.toNat)) a) = ⟨(a.data.toList ++ ns.map fun n => UInt8.ofNat n.toNat).toArray⟩ := by
  induction ns with
  | nil => intro a; simp
  | cons n ns ih =>
    intro a
    simp only [List.foldl_cons, ih]
    congr 1
    simp [ByteArray.push]

theorem wrap_small {n : Nat} (h : n ≤ 1048576) : IntKind.i64.wrap (n : Int) = n := IntWalk.i64_in _ (by omega)

/-- Either it makes a block or it does not. -/
def LightOk (E : Env) (f : Hp → Option OR) (s : Mu → World → Sem Value → Prop) : Prop :=
  (∃ mk blk, ShapeA f mk blk ∧ ∀ m W q, s m W q → AllocOk E m W q mk blk) ∨ (∃ v, (∀ w, f w = some (.val v w)) ∧ ∀ m W q, s m W q → ∃ v', q.run E.P W = .ok v' W ∧ VR m v v')

theorem opConvert_ok (ok : E.Ok) {src dst : TypeId} {x : AV} {x' : Value} {r : OR} (g : Gam m w.h W) (hx : VR m x x') (hn : isA E (.convert src dst (.tmp 0)) = false) (h : opConvert E w src dst x = some r) :
    ValOk E m w W r (convert src dst x') := by
  have hn' : ∀ e, E.und dst ≠ some (.slice e) := by
    intro e he
    simp [isA, he] at hn
  unfold opConvert at h
  split at h
  · rename_i i off len cap
    split at h
    · rename_i e hs hd
      split at h
      · rename_i l he hl
        simp only [Option.map_eq_some_iff] at h
        obtain ⟨bs, hbs, rfl⟩ := h
        obtain ⟨ys, h1, h2⟩ := elemsOf_ok (E := E) g hx hl
        obtain ⟨ns, rfl, rfl⟩ := bytesOfA_ok _ _ _ hbs h1
        obtain ⟨p, hp, o', c', rfl, _⟩ := hx
        have h3 : (loadCells ⟨p.blk, o', none⟩ len).run E.P W = .ok (ns.map (Value.int .u8)).toArray W := by
          simpa [Builtin.firstCells] using h2
        refine ⟨_, _, rfl, ?_, rfl⟩
        rw [run_convert_bytes_string W src dst e _ _ _ (ok.und hs) (ok.und he) (ok.und hd), run_bytesToString W _ _ _ ns h3, foldl_push]
        simp
      · cases h
    · cases h
  · rename_i s
    obtain rfl : x' = _ := hx
    split at h
    · rename_i e hs hd
      exact absurd hd (hn' e)
    · rename_i hs hd
      cases h
      exact ⟨_, _, rfl, by simp [convert, run_und ok hs, run_und ok hd], rfl⟩
    · cases h
  · rename_i k n
    obtain rfl : x' = _ := hx
    split at h
    · rename_i d hs hd
      cases h
      exact ⟨_, _, rfl, by simp [convert, run_und ok hs, run_und ok hd, Conv.intToInt], rfl⟩
    · simp only [Option.map_eq_some_iff] at h
      obtain ⟨z, hz, rfl⟩ := h
      exact ⟨_, z, rfl, quiet_run _ _ hz W, rfl⟩
  · rename_i v _ _
    obtain rfl : x' = _ := hx
    simp only [Option.map_eq_some_iff] at h
    obtain ⟨z, hz, rfl⟩ := h
    exact ⟨_, z, rfl, quiet_run _ _ hz W, rfl⟩
  · cases h

theorem stringToBytes_ok (e : TypeId) (s : ByteArray) (m : Mu) (W : World) :
    AllocOk E m W (Conv.stringToBytes e s) (fun i => .slc i 0 s.size (.en 0)) (.cells (s.data.toList.map fun b => .s (.int .u8 b.toNat)) e 1 true) := by
  have hcap : ∀ t, s.size ≤ (Question.appendCap s.size 0 e).cut t := fun t => by simp [Question.cut]
  generalize hc : (Question.appendCap s.size 0 e).cut (W.tape W.drawn (.appendCap s.size 0 e)) = cap
  have hle : s.size ≤ cap := hc ▸ hcap _
  let cells : Array Value := s.data.map (fun b => Value.int .u8 b.toNat) ++ Array.replicate (cap - s.size) (.int .u8 0)
  have hsz : cells.size = cap := by simp only [cells, Array.size_append, Array.size_map, Array.size_replicate]; have : s.data.size = s.size := rfl; omega
  let W1 : World := { W with drawn := W.drawn + 1 }
  let W2 : World := (W1.alloc (.cells cells e)).freeze { block := W.heap.size, off := cells.size } 1
  have hrun : (Conv.stringToBytes e s).run E.P W = .ok (.slice (some ⟨W.heap.size, 0, none⟩) s.size cap) W2 := by
    have h1 : (choose (.appendCap s.size 0 e)).run E.P W = .ok cap W1 := by
      rw [run_choose]
      simp only [Question.forced, Bool.false_eq_true, if_false, hc]
      rfl
    simp only [Conv.stringToBytes, Sem.run_bind, h1, Result.andThen_ok, newRow, run_newObj]
    have hshape : (W1.alloc (.cells cells e)).shape? W.heap.size = some (e, cells.size) := by
      show World.shape? { W1 with heap := W1.heap.push _ } _ = _
      simp only [World.shape?]
      have : W1.heap.size = W.heap.size := rfl
      simp [← this]
    have hW : W1.heap.size = W.heap.size := rfl
    simp only [markStringish, World.alloc_eq, hW, Sem.run_bind, Sem.run_pure, Result.andThen_ok, run_shape]
    have hshape' := hshape
    simp only [cells] at hshape'
    rw [hshape']
    simp only [Result.andThen_ok, run_freeze]
    rfl
  have hheap : W2.heap[W.heap.size]? = some (.cells cells e (cells.size, cells.size + 1)) := by
    show ((W1.alloc (.cells cells e)).freeze { block := W.heap.size, off := cells.size } 1).heap[W.heap.size]? = _
    unfold World.freeze
    rw [if_neg (by omega)]
    show ((W1.heap.push _).modify _ _)[W.heap.size]? = _
    have hW : W1.heap.size = W.heap.size := rfl
    rw [Array.getElem?_modify, ← hW]
    simp
  have hold : ∀ b, b < W.heap.size → W2.heap[b]? = W.heap[b]? := by
    intro b hb
    show ((W1.alloc (.cells cells e)).freeze { block := W.heap.size, off := cells.size } 1).heap[b]? = _
    unfold World.freeze
    rw [if_neg (by omega)]
    show ((W1.heap.push _).modify _ _)[b]? = _
    rw [Array.getElem?_modify, if_neg (by show ¬ (W.heap.size = b); omega), Array.getElem?_push, if_neg (by show ¬ (b = W1.heap.size); have : W1.heap.size = W.heap.size := rfl; omega)]
  have hsize : W2.heap.size = W.heap.size + 1 := by
    show ((W1.alloc (.cells cells e)).freeze { block := W.heap.size, off := cells.size } 1).heap.size = _
    unfold World.freeze
    rw [if_neg (by omega)]
    show ((W1.heap.push _).modify _ _).size = _
    simp [W1]
  have hfr : W2.os = W.os ∧ W2.tape = W.tape ∧ W2.output = W.output := by
    refine ⟨?_, ?_, ?_⟩ <;> (show _ = _; simp only [W2, World.freeze]; rw [if_neg (by omega)]; rfl)
  refine ⟨_, W2, ⟨W.heap.size, 0, cap⟩, hrun, rfl, hold, hfr.1, hfr.2.1, hfr.2.2, by omega, fun m' i he hi => ⟨⟨_, hi, 0, cap, rfl, rfl, hle, .inr rfl⟩, ?_⟩⟩
  have hc : ∀ k, W2.cell? ⟨W.heap.size, k, none⟩ = cells[k]? := fun k => by simp only [World.cell?, hheap]; rfl
  have hcl : (s.data.toList.map fun b => AV.s (.int .u8 b.toNat)).length = s.size := by simp
  refine ⟨fun k x e => ?_, ?_, fun k hk => ⟨?_, ?_⟩, by show W.heap.size < _; omega, fun hh => by cases hh⟩
  · simp only [List.getElem?_map, Option.map_eq_some_iff] at e
    obtain ⟨b, hb, rfl⟩ := e
    have hk := (List.getElem?_eq_some_iff.1 hb).1
    refine ⟨.int .u8 b.toNat, ?_, rfl⟩
    simp only [Nat.zero_add, hc, cells]
    rw [Array.getElem?_append_left (by simpa using hk)]
    simp only [Array.getElem?_map, Option.map_eq_some_iff]
    exact ⟨b, by simpa using hb, rfl⟩
  · rw [hcl]; simp [span]; exact hle
  · simp only [span, if_true, Nat.mul_one] at hk
    simp only [Nat.zero_add, hc]
    rw [Array.getElem?_eq_getElem (by rw [hsz]; exact hk)]; rfl
  · simp only [span, if_true, Nat.mul_one] at hk
    simp only [World.frozen?, hheap, Nat.zero_add]
    rw [hsz]
    simp; omega

theorem opConvertA_ok (ok : E.Ok) {src dst e : TypeId} (hd : E.und dst = some (.slice e)) {x : AV} {r : OR} (h : opConvert E w src dst x = some r) :
    LightOk E (fun w => opConvert E w src dst x) (fun m _ q => ∃ x', VR m x x' ∧ q = convert src dst x') := by
  unfold opConvert at h
  split at h
  · split at h
    · rename_i e' hs hd'
      rw [hd] at hd'; cases hd'
    · cases h
  · rename_i s
    split at h
    · rename_i d e' hs hd'
      rw [hd] at hd'; cases hd'
      split at h
      · rename_i he
        refine .inl ⟨fun i => .slc i 0 s.size (.en 0), .cells (s.data.toList.map fun b => .s (.int .u8 b.toNat)) e 1 true, fun w => by simp only [opConvert, hs, hd, he, newCells], fun m W q hq => ?_⟩
        obtain ⟨x', hx, rfl⟩ := hq
        obtain rfl : x' = _ := hx
        have := stringToBytes_ok (E := E) e s m W
        have hr : (convert src dst (.string s)).run E.P W = (Conv.stringToBytes e s).run E.P W := by
          simp [convert, run_und ok hs, run_und ok hd, run_und ok he]
        unfold AllocOk at this ⊢
        rw [hr]
        exact this
      · cases h
    · rename_i hs hd'
      rw [hd] at hd'; cases hd'
    · cases h
  · rename_i k n
    split at h
    · rename_i d hs hd'
      rw [hd] at hd'; cases hd'
    · simp only [Option.map_eq_some_iff] at h
      obtain ⟨z, hz, rfl⟩ := h
      refine .inr ⟨.s z, fun w => ?_, fun m W q hq => ?_⟩
      · simp only [opConvert, hd, hz, Option.map_some]
        cases E.und src <;> rfl
      · obtain ⟨x', hx, rfl⟩ := hq
        obtain rfl : x' = _ := hx
        exact ⟨z, quiet_run _ _ hz W, rfl⟩
  · rename_i v h1 h2
    simp only [Option.map_eq_some_iff] at h
    obtain ⟨z, hz, rfl⟩ := h
    refine .inr ⟨.s z, fun w => ?_, fun m W q hq => ?_⟩
    · unfold opConvert
      split
      · rename_i hh; cases hh
      · rename_i s hh; cases hh; exact absurd rfl (h1 s)
      · rename_i k n hh; cases hh; exact absurd rfl (h2 k n)
      · rename_i v' _ _ hh; cases hh; simp [hz]
      · rename_i hh; exact absurd rfl (hh v)
    · obtain ⟨x', hx, rfl⟩ := hq
      obtain rfl : x' = _ := hx
      exact ⟨z, quiet_run _ _ hz W, rfl⟩
  · cases h
end Go.Eng
