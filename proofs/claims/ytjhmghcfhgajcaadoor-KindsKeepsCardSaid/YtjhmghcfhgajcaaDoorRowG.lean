/- What a law's row wants, over any program: readings of slices as heads of lists; the arguments read behind the call as before it; the post of a law. -/
import Derived.Test.YtjhmghcfhgajcaaDoorHead
import Derived.Handed
import Derived.ReadAgain
import Derived.ChangeSame
import Derived.ChangeVars
import Derived.ChangeSlices
import Derived.Deep.Matrix
import Derived.OpenShut
import Derived.JoinedOf
import Derived.RowKit
import Derived.RowKitTokens
import Derived.LaidLaws
import Derived.LaidHandle
import Derived.Stop.Joined
namespace Go.Sel
open Go Go.RowKit Go.ChangeShapes Go.WideShapes
section
variable {H : Type} {enc : TypeId × Value → H} {P : Program} {w w' : World}
theorem wf_I64 {x : Int} (h : (Lit.int .i64 x).wf = true) : I64 x := by
  simp only [Lit.wf, Bool.and_eq_true, decide_eq_true_eq] at h
  have e1 : IntKind.i64.min = -9223372036854775808 := by decide
  have e2 : IntKind.i64.max = 9223372036854775807 := by decide
  rw [e1, e2] at h
  exact h
theorem cell_lt {p : Addr} {v : Value} (h : w.cell? p = some v) : p.block < w.heap.size := by
  rcases Nat.lt_or_ge p.block w.heap.size with h1 | h1
  · exact h1
  · unfold World.cell? at h
    rw [Array.getElem?_eq_none h1] at h
    cases h
theorem head_nil (n : Nat) (w : World) : HeadInts n w (.slice none 0 0) [] := ⟨none, 0, 0, rfl, Nat.le_refl _, Nat.zero_le _, by simp, fun _ => rfl, fun j x hx => by simp at hx⟩
theorem head_of_cells {a : Addr} {len cap : Nat} {zs : List Int} (hl : len ≤ cap) (hm : cap ≤ maxLen) (hz : zs.length = cap) (hc : ∀ i, i < zs.length → w.cell? (a.add i) = some (.int .i64 (zs.getD i 0))) (hw : ∀ n ∈ zs, (Lit.int .i64 n).wf = true) :
    HeadInts w.heap.size w (.slice (some a) len cap) (zs.take (min len 34)) := by
  refine ⟨some a, len, cap, rfl, hl, hm, by rw [List.length_take]; omega, (fun h => by cases h), fun j x hx => ?_⟩
  have hj : j < (zs.take (min len 34)).length := (List.getElem?_eq_some_iff.1 hx).1
  rw [List.length_take] at hj
  obtain ⟨b, o, rfl, hcell⟩ := ints_at hc (by omega)
  rw [List.getElem?_take_of_lt (by omega)] at hx
  have hxz : zs.getD j 0 = x := by rw [List.getD_eq_getElem?_getD, hx]; rfl
  have h1 := hcell j (by omega)
  rw [hxz] at h1
  exact ⟨b, o, rfl, cell_lt h1, h1, wf_I64 (hw x (List.mem_of_getElem? hx))⟩
theorem head_of_trod {t e : TypeId} {base fuel : Nat} {held : Bool} {v : Value} {x : DataW H × List MemPlace} (ht : P.underlying t = some (.slice e)) (he : P.underlying e = some (.int .i64)) (hc : P.cellsOf e = 1)
    (h : DataW.trod enc P w base (fun _ => true) held fuel t [v] = some x) : ∃ xs, HeadInts w.heap.size w v xs := by
  rcases open_ints ht he hc h with ⟨h1, _⟩ | ⟨a, len, cap, zs, h1, _, hl, hm, hz, _, hcell, hw⟩
  · simp only [List.cons.injEq, and_true] at h1
    subst h1
    exact ⟨[], head_nil _ _⟩
  · simp only [List.cons.injEq, and_true] at h1
    subst h1
    exact ⟨_, head_of_cells hl hm (by simpa using hz) hcell hw⟩
theorem heads_of_trod {t e q : TypeId} {base fuel : Nat} {held : Bool} {v : Value} {x : DataW H × List MemPlace} (ht : P.underlying t = some (.slice e)) (he : P.underlying e = some (.slice q)) (hq : P.underlying q = some (.int .i64)) (ce : P.cellsOf e = 1) (cq : P.cellsOf q = 1)
    (h : DataW.trod enc P w base (fun _ => true) held fuel t [v] = some x) : ∃ tt, HeadTabs w.heap.size w v tt := by
  rcases Go.Deep.open_int_rows ht he hq ce cq h with ⟨h1, _⟩ | ⟨a, len, cap, A, L, C, Z, h1, _, hl, hm, _, hrow⟩
  · simp only [List.cons.injEq, and_true] at h1
    subst h1
    exact ⟨[], none, 0, 0, rfl, Nat.le_refl _, Nat.zero_le _, by simp, fun j x hx => by simp at hx⟩
  · simp only [List.cons.injEq, and_true] at h1
    subst h1
    refine ⟨(List.range (min len 34)).map fun r => (Z r).take (min (L r) 34), some a, len, cap, rfl, hl, hm, by simp, fun j x hx => ?_⟩
    have hj : j < min len 34 := by have := (List.getElem?_eq_some_iff.1 hx).1; simpa using this
    obtain ⟨b, o, rfl⟩ : ∃ b o, a = ⟨b, o, none⟩ := by
      obtain ⟨b, o, spot⟩ := a
      have hs := World.cell?_spot (hrow 0 (by omega)).1
      have : spot = none := by simpa [Addr.add] using hs
      subst this
      exact ⟨b, o, rfl⟩
    obtain ⟨k1, k2, k3, k4, k5, k6, k7⟩ := hrow j (by omega)
    rw [Go.WideShapes.add_plain] at k1
    have hx' : x = (Z j).take (min (L j) 34) := by
      rw [List.getElem?_map, List.getElem?_range hj] at hx
      simpa using hx.symm
    subst hx'
    refine ⟨b, o, _, rfl, cell_lt k1, k1, ?_⟩
    cases hA : A j with
    | none =>
      have hC : C j = 0 := k6 hA
      have hL : L j = 0 := by omega
      rw [hL, hC]
      simpa using head_nil w.heap.size w
    | some a' => exact head_of_cells k2 k3 k4 (fun i hi => (k7 a' hA).2 i (by omega)) k5
theorem sameAt_below (hb : Below w.heap.size w w') {p : MemPlace} (hp : p.block < w.heap.size) : w.sameAt w' p := by
  have h := hb.block _ hp
  cases p with
  | cell b o => show w'.cell? ⟨b, o, none⟩ = w.cell? ⟨b, o, none⟩; exact World.cell?_of_block h
  | map b => show w'.heap[b]? = w.heap[b]?; exact h
theorem trodAll_carry {base : Nat} {spare : Nat → Bool} {held : Bool} : ∀ {ts : List TypeId} {vs : List Value} {ds : List (DataW H)} {ps : List MemPlace}, DataW.TrodAll enc P w base spare held ts vs ds ps → (∀ p ∈ ps, w.sameAt w' p) → DataW.TrodAll enc P w' base spare held ts vs ds ps
  | [], [], [], _, h, _ => h
  | _ :: _, _ :: _, _ :: _, _, ⟨p, q, ⟨n, h1⟩, h2, e⟩, hs => ⟨p, q, ⟨n, DataW.trod_carry n _ _ _ h1 (fun x hx => hs x (by rw [e]; exact List.mem_append_left _ hx))⟩, trodAll_carry h2 (fun x hx => hs x (by rw [e]; exact List.mem_append_right _ hx)), e⟩
  | [], _ :: _, _, _, h, _ => h.elim
  | [], [], _ :: _, _, h, _ => h.elim
  | _ :: _, [], _, _, h, _ => h.elim
  | _ :: _, _ :: _, [], _, h, _ => h.elim

/-- The post of a law: it says true, and all that was there is as it was. -/
theorem law_post {fn : Func} {s : ChangeSpec} {tb : TypeId} {args : Array Value} {ds gs : List (DataW H)} {before : List MemPlace} {apart fresh handsOn again : Bool}
    (hk : Kids P (· < P.types.size)) (hfull : ∀ t e, t < P.types.size → P.underlying t = some (.slice e) → 0 < P.cellsOf e) (hpt : ∀ t ∈ fn.params.toList, t < P.types.size)
    (htb : P.underlying tb = some .bool) (hrt : fn.resultTypes = #[tb]) (hsv : s.vars = []) (hsr : (s.fn H (ds ++ gs)).results = [.lit (.bool true)]) (hsa : (s.fn H (ds ++ gs)).args = ds) (hsg : (s.fn H (ds ++ gs)).vars = [])
    (hW : DataW.Whole enc P fn.params.toList s.vars apart w args.toList ds gs before) (hb : Below w.heap.size w w') : s.post enc P fn apart fresh handsOn again w args (.bool true) w' := by
  have hlt : ∀ p ∈ before, p.block < w.heap.size := fun p hp => hW.lt p hp
  have hW' := hW
  obtain ⟨p, q, hA, hV, he, hz, hn⟩ := hW
  rw [hsv] at hV
  obtain ⟨rfl, rfl⟩ := trodVars_none hV
  rw [List.append_nil] at he
  subst he
  have hA' : DataW.TrodAll enc P w' 0 (fun _ => true) true fn.params.toList args.toList ds before := trodAll_carry hA (fun x hx => sameAt_below hb (hlt x hx))
  have hres : ∀ (b : Nat) (sp : Nat → Bool) (hd : Bool), DataW.TrodAll enc P w' b sp hd fn.resultTypes.toList ((Value.bool true).resultList fn.resultTypes.size) (s.fn H (ds ++ [])).results [] := fun b sp hd => by
    rw [hsr, hrt]
    exact trodAll_mk1 (shut_bool htb true)
  have hargs : ∀ sp : Nat → Bool, (∀ p ∈ before, sp p.block = true) → DataW.TrodAll enc P w' 0 sp true fn.params.toList args.toList (s.fn H (ds ++ [])).args before := fun sp hsp => by
    rw [hsa]
    exact DataW.TrodAll.respare hk hfull hpt hA' hsp
  have hvars : ∀ sp : Nat → Bool, DataW.TrodVars enc P w' sp s.vars (s.fn H (ds ++ [])).vars [] := fun sp => by rw [hsg, hsv]; rfl
  refine ⟨ds, [], before, [], before, [], hW', hres _ _ _, hargs _ (fun p hp => by simpa using hlt p hp), hvars _, World.keptBut_mono (fun p hp => ⟨hp, Or.inr (by simpa using hp)⟩) (hb.frame (· ∈ before)), fun _ => ?_⟩
  refine ⟨?_, _, _, ([] ++ before) ++ [], ⟨[] ++ before, [], trodAll_append (hargs _ (fun _ _ => rfl)) (hres _ _ _), hvars _, rfl, ?_, ?_⟩, ?_⟩
  · intro j t r h1 h2
    rw [hrt] at h1 h2
    cases j with
    | zero =>
      simp at h1
      subst h1
      simp [Value.resultList] at h2
      subst h2
      exact okWide_bool_mk htb true
    | succ j => simp at h1
  · intro b off hp
    have hin : MemPlace.cell b off ∈ before := by simpa using hp
    rw [hb.frozen (hlt _ hin)]
    exact hz b off hin
  · intro ha
    have := hn ha
    simpa using this
  · intro p hp _
    simpa using hp
end
end Go.Sel
