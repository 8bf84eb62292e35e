/- Contract of slices.Clone of integers (over the names of layer 4). -/
import Derived.Test.YtjhmghcfhgajcaaDoorKinds2
import Derived.Lib.Walk
import Derived.Lib.SliceRun
namespace Go.Proofs.YtjhmghcfhgajcaaDoor
open Go.RowKit Go.Sel
theorem run_clone_nil (w : World) (a : Option Addr) (n c n' c' : Nat) : (binOp .eql 22 (.slice a n c) (.slice none n' c')).run Tryd.prog w = .ok (.bool a.isNone) w :=
  Lib.run_eql_slice_nil w _ _ a n c n' c' Tryd.underlying22

set_option maxHeartbeats 1000000 in
theorem clone_any {n : Nat} {v : Value} {xs : List Int} {w : World} (h1 : IsInts n w v xs) :
    Calls Tryd.prog 62 #[v] w (OwnI w.heap.size xs w) := by
  obtain ⟨a1, c1, rfl, hc1⟩ := h1.open
  have hl1 := h1.len
  unfold big at hl1
  have hq := run_clone_nil
  cases a1 with
  | none =>
    have hx : xs = [] := by
      cases xs with
      | nil => rfl
      | cons x xs => obtain ⟨_, _, _, _, h, _⟩ := h1.at (k := 0) (by simp); cases h
    subst hx
    clear h1
    go_enter Tryd.func62, Tryd.ntmps62
    go_wp2
    go_ret
    exact ⟨_, rfl, World.ownsRow_nil _ _ _ _, Below.refl _ _⟩
  | some a =>
    obtain ⟨i0, hi, hz0, hz1, hz2⟩ := info_parts infoInt
    have HC : Hid (∀ j x, xs[j]? = some x → w.cell? (a.add j) = some (.int .i64 x)) := fun j x hx => by
      obtain ⟨y, b, o, hy, e, _, hcell, _⟩ := h1.at (List.getElem?_eq_some_iff.1 hx).1
      rw [hx] at hy
      cases hy
      cases e
      rw [Addr.add_lit]
      exact hcell
    clear h1
    go_enter Tryd.func62, Tryd.ntmps62
    go_wp2_with (at_builtin; refine wpList_append_own _ rfl _ _ 22 rfl w.heap.size 3 i0 (.int .i64 0) 1 8 Tryd.underlying22 hi hz0 hz1 hz2 rfl (by decide) _ _ _ rfl (World.ownsRow_made w #[] 0 (Nat.le_refl _) (Nat.zero_le _) rfl) a xs.length c1 (xs.map (Value.int .i64)) rfl ?qc1 ?qc2 ?qc3 ?qc4 ?qc5 ?qc6 ?_)
    case qc1 => simp
    case qc2 =>
      intro j u hj
      rw [List.getElem?_map] at hj
      cases hx : xs[j]? with
      | none => rw [hx] at hj; cases hj
      | some x => rw [hx] at hj; cases hj; exact Lib.cell?_alloc_some _ (HC.out j x hx)
    case qc3 => intro u hu; obtain ⟨x, _, rfl⟩ := List.mem_map.1 hu; rfl
    case qc4 => unfold maxLen; omega
    case qc5 => omega
    case qc6 => simp
    intro v' w1 hown hgrow hnil
    go_wp2
    go_ret
    refine ⟨v', rfl, by simpa using hown, ?_⟩
    exact ((Below.refl _ w).alloc (Nat.le_refl _) _).grown hgrow (by simp) (by intro k hk; simp [Value.ownBlock] at hk; omega)

end Go.Proofs.YtjhmghcfhgajcaaDoor
