/- append on a slice of the call's own: where the result lies (in the old block, or in a new one). -/
import Derived.Test.YtjhmghcfhgajcaaDoorRange
import Derived.OwnWalkIn
namespace Go.Sel
open Go Go.RowKit

/-- v' lies where v lies, or in a block that is new behind w. -/
def Fresh (w : World) (v v' : Value) : Prop := v'.ownBlock = v.ownBlock ∨ ∃ g, v'.ownBlock = some g ∧ w.heap.size ≤ g

theorem owns_only {S : Nat → Prop} {w w' : World} {base : Nat} {e : TypeId} {size : Nat} {v : Value} {k : Nat} {xs : List Value} (h : w.ownsRow base e size v k xs) (hO : Only S w w') (hS : ∀ g, S g → v.ownBlock ≠ some g) : w'.ownsRow base e size v k xs := by
  obtain ⟨h1, h2⟩ := h
  refine ⟨h1, ?_⟩
  rcases h2 with h2 | ⟨g, cap, cur, rfl, hg, hh, r⟩
  · exact .inl h2
  · exact .inr ⟨g, cap, cur, rfl, hg, (hO.block g (Array.getElem?_eq_some_iff.1 hh).1 (fun hs => hS g hs rfl)).trans hh, r⟩
theorem owns_kept {w w' : World} {base : Nat} {e : TypeId} {size : Nat} {v : Value} {k : Nat} {xs : List Value} (h : w.ownsRow base e size v k xs) (hb : Below w.heap.size w w') : w'.ownsRow base e size v k xs :=
  owns_only h (Only.of_below (S := fun _ => False) hb) (fun _ h => h.elim)

theorem below_setRow {n g : Nat} {a w : World} (h : Below n a w) (hg : n ≤ g) (cs : Array Value) : Below n a (w.setRow g cs) :=
  h.trans ⟨rfl, rfl, rfl, by simp [World.setRow], fun k hk => setRow_other w g k _ (by omega)⟩
theorem only_setRow {S : Nat → Prop} {g : Nat} {a w : World} (h : Only S a w) (hg : S g ∨ a.heap.size ≤ g) (cs : Array Value) : Only S a (w.setRow g cs) :=
  ⟨h.os, h.tape, h.output, by simpa [World.setRow] using h.size, fun k hk hn => (setRow_other w g k _ (fun e => by subst e; rcases hg with hg | hg; exact hn hg; omega)).trans (h.block k hk hn)⟩

variable {P : Program}

theorem run_append_where (w : World) (base : Nat) (t ty e : TypeId) (i : TypeInfo) (z : Value) (size bytes : Nat) (ht : P.underlying t = some (.slice e)) (hi : P.info? e = some i) (hz : i.zero = some z)
    (hsize : i.size = size) (hby : i.bytes = bytes)
    (v : Value) (n : Nat) (xs : List Value) (hown : w.ownsRow base e size v n xs)
    (a : Addr) (m c : Nat) (news : List Value) (hl : news.length = m * size) (hnews : ∀ j u, news[j]? = some u → w.cell? (a.add j) = some u) (h1 : ∀ u ∈ news, u.oneCell' = true)
    (h63 : n + m ≤ maxLen) (hbytes : (n + m) * bytes ≤ 140737488355328) (v' : Value) (w' : World) (hr : (Builtin.append_ #[t, t] ty #[v, .slice (some a) m c]).run P w = .ok v' w') : Fresh w v v' := by
  subst hsize
  subst hby
  have hsmall : n + m ≤ 9223372036854775807 := by simp only [maxLen] at h63; omega
  rcases hown.2 with ⟨rfl, rfl⟩ | ⟨g, cap, cur, rfl, hbg, hg, hnc, hcm, hcs, htake⟩
  · by_cases hm : m = 0
    · subst hm
      have e0 : (Builtin.append_ #[t, t] ty #[.slice none 0 0, .slice (some a) 0 c]).run P w = .ok (.slice none 0 0) w := by
        simp [Builtin.append_, run_underlying ht, sizeOf, typeInfo, hi, Builtin.lenOf, Builtin.firstCells, loadCells, loadCellsFrom]
      rw [e0] at hr
      cases hr
      exact .inl rfl
    · rw [run_append_nil (P := P) w t ty e i z ht hi hz a m c news hl hnews (by omega) (by omega) (by simp only [Nat.zero_add] at hbytes; omega)] at hr
      cases hr
      exact .inr ⟨_, rfl, Nat.le_refl _⟩
  · by_cases hroom : n + m ≤ cap
    · have hfit : n * i.size + news.length ≤ cur.size := by rw [hl, hcs, ← Nat.add_mul]; exact Nat.mul_le_mul_right _ hroom
      rw [run_append_room (P := P) w t ty e i ht hi g n cap cur hg a m c news hl hnews h1 hroom hfit] at hr
      cases hr
      exact .inl rfl
    · rw [run_append_grow (P := P) w t ty e i z ht hi hz ⟨g, 0, none⟩ n cap xs hown.1 (hown.cells (g := g) rfl) a m c news hl hnews (by omega) (by omega) (growslice_fits (by omega) hbytes)] at hr
      cases hr
      exact .inr ⟨_, rfl, Nat.le_refl _⟩

theorem wpListIn_append_new {F : Fence} {n : Nat} (w : World) {ops : Array Oper} {rest : List Oper} {o : Oper} {a : Act} {Q : Exit → Act → World → Prop}
    (hg : o.guard = none) (s x : Operand) (t : TypeId) (hop : o.op = Op.call { callee := Callee.builtin Builtin.append, args := #[s, x], argTypes := #[t, t] })
    (base : Nat) (e : TypeId) (i : TypeInfo) (z : Value) (size bytes : Nat) (h1 : P.underlying t = some (.slice e)) (h2 : P.info? e = some i) (h3 : i.zero = some z) (h4 : i.size = size) (h5 : i.bytes = bytes) (h6 : z.cells.size = size) (h7 : 0 < size)
    (v : Value) (k : Nat) (xs : List Value) (hs : a.eval s = v) (hown : w.ownsRow base e size v k xs) (ad : Addr) (m c : Nat) (news : List Value) (hx : a.eval x = .slice (some ad) m c) (hn : news.length = m * size)
    (hc : ∀ j u, news[j]? = some u → w.cell? (ad.add j) = some u) (h1c : ∀ u ∈ news, u.oneCell' = true) (b1 : k + m ≤ maxLen) (b2 : (k + m) * bytes ≤ 140737488355328) (b3 : base ≤ w.heap.size)
    (hK : ∀ v' w', w'.ownsRow base e size v' (k + m) (xs ++ news) → w.grownBy w' v.ownBlock → Fresh w v v' → wpListIn F n P ops Q rest (a.put o.dst v') w') :
    wpListIn F n P ops Q (o :: rest) a w := by
  refine wpListIn_plain hg fun K hK' => ?_
  obtain ⟨v', w', hrun, r1, r2, _⟩ := run_append_own (P := P) w base t o.type e i z size bytes h1 h2 h3 h4 h5 h6 h7 v k xs hown ad m c news hn hc h1c b1 b2 b3
  have hf := run_append_where w base t o.type e i z size bytes h1 h2 h3 h4 h5 v k xs hown ad m c news hn hc h1c b1 b2 v' w' hrun
  unfold Oper.wpIn
  refine ⟨?_, ?_⟩
  · simp [Oper.about, hop, resolve, Target.leads, Sem.run_pure]
  · rw [Oper.semAt_plain F _ _ (by rw [hop]; intro c hc'; cases hc')]
    simp [execOp, hop, resolve, invoke, builtin, hs, hx, hrun, Result.andThen]
    exact hK' _ _ (hK v' w' r1 r2 hf)

theorem wpListIn_store_row {F : Fence} {n : Nat} {ops : Array Oper} {rest : List Oper} {o : Oper} {a : Act} {w : World} {Q : Exit → Act → World → Prop} (hgd : o.guard = none) (ty : TypeId) (x y : Operand) (ho : o.op = .store ty x y)
    (g : Nat) (cells : Array Value) (hx : a.eval x = .pointer (some ⟨g, 0, none⟩)) (hy : a.eval y = .agg cells)
    (t : TypeId) (old : Array Value) (hg : w.heap[g]? = some (.cells old t (0, 0))) (hi : (P.info? ty).map (·.size) = some cells.size)
    (hold : old.size = cells.size) (h1 : cells.all (·.oneCell') = true)
    (h : wpListIn F n P ops Q rest (a.put o.dst undef) (w.setRow g cells)) : wpListIn F n P ops Q (o :: rest) a w := by
  refine wpListIn_plain hgd fun K hK => ?_
  unfold Oper.wpIn
  refine ⟨?_, ?_⟩
  · simp [Oper.about, ho]
  · rw [Oper.semAt_plain F _ _ (by rw [ho]; intro c hc'; cases hc')]
    unfold execOp
    simp only [ho, hx, hy, Instr.storeAt, Instr.sureAddr, Sem.run_bind, Sem.run_pure, Result.andThen_ok, run_storeVar_row w g t ty old cells hg hi hold h1]
    exact hK _ _ h
theorem wpListIn_load_row {F : Fence} {n : Nat} {ops : Array Oper} {rest : List Oper} {o : Oper} {a : Act} {w : World} {Q : Exit → Act → World → Prop} (hgd : o.guard = none) (ty : TypeId) (x : Operand) (ho : o.op = .load ty x)
    (g : Nat) (hx : a.eval x = .pointer (some ⟨g, 0, none⟩)) (t : TypeId) (cs : Array Value) (fr : Nat × Nat) (d : TypeDesc) (hg : w.heap[g]? = some (.cells cs t fr))
    (hu : P.underlying ty = some d) (hd : (match d with | .struct _ | .array _ _ => true | _ => false) = true) (hi : (P.info? ty).map (·.size) = some cs.size)
    (h : wpListIn F n P ops Q rest (a.put o.dst (.agg cs)) w) : wpListIn F n P ops Q (o :: rest) a w := by
  refine wpListIn_plain hgd fun K hK => ?_
  unfold Oper.wpIn
  refine ⟨?_, ?_⟩
  · simp [Oper.about, ho]
  · rw [Oper.semAt_plain F _ _ (by rw [ho]; intro c hc'; cases hc')]
    unfold execOp
    simp only [ho, hx, Instr.loadAt, Instr.sureAddr, Sem.run_bind, Sem.run_pure, Result.andThen_ok, run_loadVar_row w g t ty cs fr d hg hu hd hi]
    exact hK _ _ h

/-- What stands in a box, behind 'out = append(out, x)' in a round: the box B (of slice type t) and the row may be written; T: what the round may write. -/
structure Appended (W W' : World) (base B : Nat) (t e : TypeId) (size : Nat) (v' : Value) (k : Nat) (xs : List Value) (T T2 : Nat → Prop) : Prop where
  box : Boxed W' B t v'
  row : W'.ownsRow base e size v' k xs
  only : Only T W W'
  mem : ∀ g, v'.ownBlock = some g → T2 g
  sub : ∀ b, T2 b → T b ∨ (W.heap.size ≤ b ∧ b < W'.heap.size)
  old : ∀ b, T b → T2 b

theorem appended {W w1 : World} {base B : Nat} {t e : TypeId} {size : Nat} {v v' : Value} {k m : Nat} {xs ys : List Value} {tmp : Obj} {T : Nat → Prop}
    (hv : Boxed W B t v) (hte : t ≠ e) (hrow : W.ownsRow base e size v k xs) (hTB : T B) (hTv : ∀ g, v.ownBlock = some g → T g)
    (hown' : w1.ownsRow base e size v' m ys) (hgrow : (W.alloc tmp).grownBy w1 v.ownBlock) (hf : Fresh (W.alloc tmp) v v') :
    Boxed w1 B t v ∧ Appended W (w1.setCell ⟨B, 0, none⟩ v') base B t e size v' m ys T (fun b => T b ∨ (W.heap.size ≤ b ∧ b < (w1.setCell ⟨B, 0, none⟩ v').heap.size)) := by
  have hv1 : Boxed w1 B t v := (hv.alloc tmp).kept hgrow (hv.not_row hte hrow)
  have hs : (w1.setCell ⟨B, 0, none⟩ v').heap.size = w1.heap.size := by simp [World.setCell]
  refine ⟨hv1, hv1.set v', hown'.kept (grownBy_setCell' w1 B v') (.inr (hv1.not_row hte hown').symm), ?_, fun g hg => ?_, fun b hb => hb, fun b hb => .inl hb⟩
  · refine Only.setCell ?_ (.inl hTB) _
    exact ((Only.refl T W).alloc tmp).grown hgrow (fun g hg => .inl (hTv g hg))
  · rcases hf with hf | ⟨g', h1, h2⟩
    · exact .inl (hTv g (hf ▸ hg))
    · rw [h1] at hg
      cases hg
      have := hown'.lt g h1
      refine .inr ⟨by simp at h2; omega, by rw [hs]; exact this.2⟩

/-- What a loop keeps that collects values into a box: j elements (size cells each) have come; base: the heap's size at the call. -/
def CollectI (w : World) (Bo t e size : Nat) (vals : List Value) (j : Nat) (T1 : Nat → Prop) (W : World) : Prop :=
  ∃ v, Boxed W Bo t v ∧ W.ownsRow w.heap.size e size v j (vals.take (j * size)) ∧ T1 Bo ∧ (∀ g, v.ownBlock = some g → T1 g) ∧ (∀ b, T1 b → w.heap.size ≤ b) ∧ Below w.heap.size w W
theorem CollectI.quiet {w : World} {Bo t e size : Nat} {vals : List Value} {j : Nat} {T1 : Nat → Prop} {A B : World} {b : Nat} (h : CollectI w Bo t e size vals j T1 A) (hq : Quiet b T1 A B) (hb : w.heap.size ≤ b) : CollectI w Bo t e size vals j T1 B := by
  obtain ⟨v, h1, h2, h3, h4, h5, h6⟩ := h
  exact ⟨v, hq.boxed h1 (.inr h3), hq.ownsRow h2 (fun g hg => .inr (h4 g hg)), h3, h4, h5, hq.below h6 hb (Nat.le_refl _)⟩
theorem CollectI.step {w W w1 : World} {Bo t e size : Nat} {vals news : List Value} {j : Nat} {v v' : Value} {T1 : Nat → Prop} {tmp : Obj}
    (hv : Boxed W Bo t v) (hrow : W.ownsRow w.heap.size e size v j (vals.take (j * size))) (hTB : T1 Bo) (hTv : ∀ g, v.ownBlock = some g → T1 g) (hTw : ∀ b, T1 b → w.heap.size ≤ b) (hb : Below w.heap.size w W) (hte : t ≠ e)
    (hown' : w1.ownsRow w.heap.size e size v' (j + 1) (vals.take (j * size) ++ news)) (hgrow : (W.alloc tmp).grownBy w1 v.ownBlock) (hf : Fresh (W.alloc tmp) v v') (hnews : vals.take ((j + 1) * size) = vals.take (j * size) ++ news) :
    Boxed w1 Bo t v ∧ ∃ T2 : Nat → Prop, (∀ b, T2 b → T1 b ∨ (W.heap.size ≤ b ∧ b < (w1.setCell ⟨Bo, 0, none⟩ v').heap.size)) ∧ Only T1 W (w1.setCell ⟨Bo, 0, none⟩ v') ∧ CollectI w Bo t e size vals (j + 1) T2 (w1.setCell ⟨Bo, 0, none⟩ v') := by
  obtain ⟨h1, h2⟩ := appended hv hte hrow hTB hTv hown' hgrow hf
  refine ⟨h1, _, h2.sub, h2.only, v', h2.box, by rw [hnews]; exact h2.row, h2.old _ hTB, h2.mem, fun b hb' => ?_, hb.trans (h2.only.below hb.size (fun k hk hT => by have := hTw k hT; omega))⟩
  rcases h2.sub b hb' with h | h
  · exact hTw b h
  · exact Nat.le_trans hb.size h.1

end Go.Sel
