/- A pool that the call builds. -/
import Derived.Test.YtihmgiifphheeaaGreatDoorViews
import Derived.Test.YtihmgiifphheeaaGreatDoorDraw2
namespace Go.Sel
open Go Go.RowKit
variable {P : Program}
theorem wpList_append_new {w : World} {ops : Array Oper} {rest : List Oper} {o : Oper} {a : Act} {Q : Exit → Act → World → Prop} (hgd : o.guard = none)
    (s x : Operand) (t : TypeId) (hop : o.op = Op.call { callee := Callee.builtin Builtin.append, args := #[s, x], argTypes := #[t, t] })
    (base : Nat) (e : TypeId) (i : TypeInfo) (z : Value) (size bytes : Nat) (h1 : P.underlying t = some (.slice e)) (h2 : P.info? e = some i) (h3 : i.zero = some z) (h4 : i.size = size) (h5 : i.bytes = bytes) (h6 : z.cells.size = size) (h7 : 0 < size)
    (v : Value) (k : Nat) (xs : List Value) (hs : a.eval s = v) (hown : w.ownsRow base e size v k xs) (ad : Addr) (m c : Nat) (news : List Value) (hx : a.eval x = .slice (some ad) m c) (hn : news.length = m * size)
    (hc : ∀ j u, news[j]? = some u → w.cell? (ad.add j) = some u) (h1c : ∀ u ∈ news, u.oneCell' = true) (b1 : k + m ≤ maxLen) (b2 : (k + m) * bytes ≤ 140737488355328) (b3 : base ≤ w.heap.size)
    (h : ∀ v' w', w'.ownsRow base e size v' (k + m) (xs ++ news) → w.grownBy w' v.ownBlock → Fresh w v v' → wpList P ops Q rest (a.put o.dst v') w') : wpList P ops Q (o :: rest) a w :=
  wpList_plain hgd fun _ hK => wp_append_new w s x t hop base e i z size bytes h1 h2 h3 h4 h5 h6 h7 v k xs hs hown ad m c news hx hn hc h1c b1 b2 b3 fun v' w' r1 r2 r3 => hK _ _ (h v' w' r1 r2 r3)
theorem fresh_ne {w : World} {v v' : Value} (h : Fresh w v v') {b : Nat} (hb : b < w.heap.size) (hn : v.ownBlock ≠ some b) : v'.ownBlock ≠ some b := fun e => by
  rcases h with h | ⟨g, h1, h2⟩
  · rw [h] at e; exact hn e
  · rw [h1] at e; cases e; omega
end Go.Sel
namespace Go.Proofs.YtihmgiifphheeaaGreatDoor
open Go.RowKit Go.Sel

/-- A pool in block g, whose rows lie behind it. -/
structure RefPool (g : Nat) (vs vt : Value) (tvs : List Value) (s : List Int) (t : List (List Int)) (W : World) : Prop where
  blk : W.heap[g]? = some (.cells #[vs, vt] 25 (0, 0))
  sts : W.ownsRow (g + 1) 3 1 vs s.length (s.map (Value.int .i64))
  tab : W.ownsRow (g + 1) 22 1 vt t.length tvs
  row : ∀ (i : Nat) (tv : Value) (x : List Int), tvs[i]? = some tv → t[i]? = some x → W.ownsRow (g + 1) 3 1 tv x.length (x.map (Value.int .i64)) ∧ ∀ b, tv.ownBlock = some b → vt.ownBlock ≠ some b ∧ vs.ownBlock ≠ some b
  apart : ∀ b, vs.ownBlock = some b → vt.ownBlock ≠ some b

theorem RefPool.empty {g : Nat} {W : World} (h : W.heap[g]? = some (.cells #[.slice none 0 0, .slice none 0 0] 25 (0, 0))) : RefPool g (.slice none 0 0) (.slice none 0 0) [] [] [] W :=
  ⟨h, World.ownsRow_nil _ _ _ _, World.ownsRow_nil _ _ _ _, fun i tv x h => by simp at h, fun b h => by cases h⟩
theorem RefPool.kept {g : Nat} {vs vt : Value} {tvs : List Value} {s : List Int} {t : List (List Int)} {W W' : World} (h : RefPool g vs vt tvs s t W) (hb : Below W.heap.size W W') : RefPool g vs vt tvs s t W' :=
  ⟨mark_any h.blk hb, owns_kept h.sts hb, owns_kept h.tab hb, fun i tv x h1 h2 => ⟨owns_kept (h.row i tv x h1 h2).1 hb, (h.row i tv x h1 h2).2⟩, h.apart⟩
theorem RefPool.lt {g : Nat} {vs vt : Value} {tvs : List Value} {s : List Int} {t : List (List Int)} {W : World} (h : RefPool g vs vt tvs s t W) : g < W.heap.size := (Array.getElem?_eq_some_iff.1 h.blk).1

/-- States more. -/
theorem RefPool.pushS {g : Nat} {vs vt v' : Value} {tvs : List Value} {s xs : List Int} {t : List (List Int)} {W W1 w' : World} {m : Nat} (h : RefPool g vs vt tvs s t W) (hb : Below W.heap.size W W1)
    (hm : m = (s ++ xs).length) (hown : w'.ownsRow (g + 1) 3 1 v' m ((s ++ xs).map (Value.int .i64))) (hgrow : W1.grownBy w' vs.ownBlock) (hf : Fresh W1 vs v') :
    w'.heap[g]? = some (.cells #[vs, vt] 25 (0, 0)) ∧ RefPool g v' vt tvs (s ++ xs) t (w'.setCell ⟨g, 0, none⟩ v') ∧ Only (fun b => vs.ownBlock = some b ∨ b = g) W (w'.setCell ⟨g, 0, none⟩ v') := by
  subst hm
  have hlt := h.lt
  have hvs : ∀ b, vs.ownBlock = some b → g < b ∧ b < W.heap.size := fun b hb => by have := h.sts.lt b hb; omega
  have hO : Only (fun b => vs.ownBlock = some b) W w' := ((Only.refl _ W).kept hb).grown hgrow (fun k hk => .inl hk)
  have hO2 : Only (fun b => vs.ownBlock = some b ∨ b = g) W (w'.setCell ⟨g, 0, none⟩ v') := Only.setCell (S := fun b => vs.ownBlock = some b ∨ b = g) (hO.mono (fun _ _ h => Or.inl h)) (p := ⟨g, 0, none⟩) (Or.inl (Or.inr rfl)) v'
  have hg' : w'.heap[g]? = some (.cells #[vs, vt] 25 (0, 0)) := (hO.block g hlt (fun e => by have := hvs g e; omega)).trans h.blk
  have hs1 := hb.size
  refine ⟨hg', ⟨pair_set0 hg', owns_only hown ((Only.refl (fun b => b = g) w').setCell (.inl rfl) _) (fun k hk e => by subst hk; have := (hown.lt _ e).1; omega), owns_only h.tab hO2 (fun k hk e => ?_), fun i tv x h1 h2 => ?_, fun b hb1 => ?_⟩, hO2⟩
  · rcases hk with hk | hk
    · exact h.apart k hk e
    · have := (h.tab.lt k e).1; omega
  · obtain ⟨r1, r2⟩ := h.row i tv x h1 h2
    refine ⟨owns_only r1 hO2 (fun k hk e => ?_), fun b hb1 => ⟨(r2 b hb1).1, fresh_ne hf (by have := (r1.lt b hb1).2; omega) (r2 b hb1).2⟩⟩
    rcases hk with hk | hk
    · exact (r2 k e).2 hk
    · have := (r1.lt k e).1; omega
  · intro e
    have := (h.tab.lt b e).2
    exact fresh_ne hf (show b < W1.heap.size by omega) (fun e2 => h.apart b e2 e) hb1

/-- A table more. -/
theorem RefPool.pushT {g : Nat} {vs vt v' tv' : Value} {tvs : List Value} {s x : List Int} {t : List (List Int)} {W W1 w' : World} {m : Nat} {tmp : Obj} (h : RefPool g vs vt tvs s t W) (hb : Below W.heap.size W W1)
    (hT : W1.ownsRow W.heap.size 3 1 tv' x.length (x.map (Value.int .i64))) (hm : m = t.length + 1)
    (hown : w'.ownsRow (g + 1) 22 1 v' m (tvs ++ [tv'])) (hgrow : (W1.alloc tmp).grownBy w' vt.ownBlock) (hf : Fresh (W1.alloc tmp) vt v') :
    w'.heap[g]? = some (.cells #[vs, vt] 25 (0, 0)) ∧ RefPool g vs v' (tvs ++ [tv']) s (t ++ [x]) (w'.setCell ⟨g, 1, none⟩ v') ∧ Only (fun b => vt.ownBlock = some b ∨ b = g) W (w'.setCell ⟨g, 1, none⟩ v') := by
  subst hm
  have hlt := h.lt
  have hvt : ∀ b, vt.ownBlock = some b → g < b ∧ b < W.heap.size := fun b hb => by have := h.tab.lt b hb; omega
  have hO : Only (fun b => vt.ownBlock = some b) W w' := (((Only.refl _ W).kept hb).alloc _).grown hgrow (fun k hk => .inl hk)
  have hO2 : Only (fun b => vt.ownBlock = some b ∨ b = g) W (w'.setCell ⟨g, 1, none⟩ v') := Only.setCell (S := fun b => vt.ownBlock = some b ∨ b = g) (hO.mono (fun _ _ h => Or.inl h)) (p := ⟨g, 1, none⟩) (Or.inl (Or.inr rfl)) v'
  have hO1 : Only (fun b => vt.ownBlock = some b ∨ b = g) W1 (w'.setCell ⟨g, 1, none⟩ v') := (((Only.refl (fun b => vt.ownBlock = some b ∨ b = g) W1).alloc _).grown hgrow (fun k hk => .inl (.inl hk))).setCell (.inl (.inr rfl)) _
  have hg' : w'.heap[g]? = some (.cells #[vs, vt] 25 (0, 0)) := (hO.block g hlt (fun e => by have := hvt g e; omega)).trans h.blk
  have hs1 := hb.size
  have hl2 : tvs.length = t.length := by have := h.tab.1; simpa using this
  have key : ∀ k, k < W1.heap.size → vt.ownBlock ≠ some k → v'.ownBlock ≠ some k := fun k hk hne => fresh_ne hf (by simp; omega) hne
  refine ⟨hg', ⟨pair_set1 hg', owns_only h.sts hO2 (fun k hk e => ?_), ?_, fun i tv y hi hy => ?_, fun b hb1 => ?_⟩, hO2⟩
  · rcases hk with hk | hk
    · exact h.apart k e hk
    · have := (h.sts.lt k e).1; omega
  · rw [List.length_append]
    exact owns_only hown ((Only.refl (fun b => b = g) w').setCell (.inl rfl) _) (fun k hk e => by subst hk; have := (hown.lt _ e).1; omega)
  · by_cases hlt2 : i < t.length
    · rw [List.getElem?_append_left (by omega)] at hi
      rw [List.getElem?_append_left hlt2] at hy
      obtain ⟨r1, r2⟩ := h.row i tv y hi hy
      refine ⟨owns_only r1 hO2 (fun k hk e => ?_), fun b hb1 => ⟨key b (by have := (r1.lt b hb1).2; omega) (r2 b hb1).1, (r2 b hb1).2⟩⟩
      rcases hk with hk | hk
      · exact (r2 k e).1 hk
      · have := (r1.lt k e).1; omega
    · have hi' : i = t.length := by
        have := (List.getElem?_eq_some_iff.1 hy).1
        simp at this; omega
      subst hi'
      rw [← hl2, List.getElem?_concat_length] at hi
      rw [List.getElem?_concat_length] at hy
      cases hi
      cases hy
      refine ⟨owns_base (owns_only hT hO1 (fun k hk e => ?_)) (by omega), fun b hb1 => ⟨key b (hT.lt b hb1).2 (fun e => ?_), fun e => ?_⟩⟩
      · have h1 := (hT.lt k e).1
        rcases hk with hk | hk
        · have := hvt k hk; omega
        · omega
      · have h1 := (hT.lt b hb1).1
        have := hvt b e
        omega
      · have h1 := (hT.lt b hb1).1
        have := (h.sts.lt b e).2
        omega
  · exact key b (by have := (h.sts.lt b hb1).2; omega) (h.apart b hb1)

theorem RefPool.isPool {g : Nat} {vs vt : Value} {tvs : List Value} {s : List Int} {t : List (List Int)} {W : World} (h : RefPool g vs vt tvs s t W) (ho : PoolOk s t) : IsPool W.heap.size W (.agg #[vs, vt]) s t :=
  ⟨vs, vt, rfl, IsInts.of_owns h.sts ho.ls ho.ns, IsTabs.of_owns h.tab ho.lt (fun i tv x h1 h2 => IsInts.of_owns (h.row i tv x h1 h2).1 (ho.nt x (List.mem_of_getElem? h2)).1 (ho.nt x (List.mem_of_getElem? h2)).2)⟩

end Go.Proofs.YtihmgiifphheeaaGreatDoor
