import Derived.Test.YtheclllbnkolaaaGreatDoorEngTree
import Derived.ReadAgain
import Derived.ChangeShapes
import Derived.ChangeOld
import Derived.RowKit
namespace Go.Eng
open Go Go.RowKit
variable {H : Type} {enc : TypeId × Value → H} {P : Program}

theorem trodAll_carry {W W' : World} {base : Nat} {sp : Nat → Bool} {held : Bool} : ∀ {ts : List TypeId} {vs : List Value} {ds : List (DataW H)} {ps : List MemPlace},
    DataW.TrodAll enc P W base sp held ts vs ds ps → (∀ p ∈ ps, W.sameAt W' p) → DataW.TrodAll enc P W' base sp held ts vs ds ps
  | [], [], [], _, h, _ => h
  | _ :: _, _ :: _, _ :: _, _, ⟨p, q, ⟨n, h1⟩, h2, e⟩, hs => ⟨p, q, ⟨n, DataW.trod_carry n _ _ _ h1 (fun x hx => hs x (by rw [e]; exact List.mem_append_left _ hx))⟩, trodAll_carry h2 (fun x hx => hs x (by rw [e]; exact List.mem_append_right _ hx)), e⟩
/-- A law that leaves all that was there as it was. -/
theorem closed_post {T : TypeId → Prop} (K : Kids P T) (hz : ∀ t e, T t → P.underlying t = some (.slice e) → 0 < P.cellsOf e) {f : Func} {s : ChangeSpec} {apart fresh handsOn : Bool} {W W' : World} {args : Array Value} {ds gs : List (DataW H)} {before : List MemPlace} {tb : TypeId}
    (hW : DataW.Whole enc P f.params.toList s.vars apart W args.toList ds gs before) (hv : s.vars = []) (hT : ∀ t ∈ f.params.toList, T t) (hrt : f.resultTypes = #[tb]) (hb : P.underlying tb = some .bool)
    (hfn : (s.fn H (ds ++ gs)) = { results := [.lit (.bool true)], args := ds }) (hB : Below W.heap.size W W') : s.post enc P f apart fresh handsOn false W args (.bool true) W' := by
  have hW' := hW
  obtain ⟨p, q, hA, hV, rfl, hfz, hnd⟩ := hW
  rw [hv] at hV
  obtain ⟨rfl, rfl⟩ : gs = [] ∧ q = [] := by
    cases gs with
    | nil => exact ⟨rfl, hV⟩
    | cons g r => exact absurd hV (by intro h; cases h)
  have hlt := DataW.TrodAll.lt hA
  have h1 := trodAll_carry hA (fun x hx => hB.same (hlt x hx))
  have h2 := DataW.TrodAll.respare (spare' := fun b => decide (b < W.heap.size)) K hz hT h1 (fun x hx => by simpa using hlt x hx)
  have hres : ∀ (b : Nat) (sp : Nat → Bool) (hd : Bool), DataW.TrodAll enc P W' b sp hd f.resultTypes.toList ((Value.bool true).resultList f.resultTypes.size) [.lit (.bool true)] [] := by
    intro b sp hd
    rw [hrt]
    exact ⟨[], [], shut_bool hb true, rfl, rfl⟩
  refine ⟨_, _, _, [], p, [], hW', ?_, ?_, ?_, hB.frame _, fun h => by cases h⟩
  · rw [hfn]; exact hres _ _ _
  · rw [hfn]; exact h2
  · rw [hfn, hv]; rfl
end Go.Eng
