/- Contract of addr.Round. -/
import Derived.Test.YtjhmghcfhgajcaaDoorErr
import Derived.Stop.IfaceNil
import Derived.Test.YtjhmghcfhgajcaaDoorDesc1
namespace Go.Proofs.YtjhmghcfhgajcaaDoor
open Go.RowKit Go.Sel

/-- The errors of package addr. -/
def AddrErrs (a0 a1 a2 : Addr) (n : Nat) (w : World) : Prop := Senti 1 a0 n w ∧ Senti 0 a1 n w ∧ Senti 2 a2 n w ∧ a0 ≠ a1 ∧ a0 ≠ a2 ∧ a1 ≠ a2
theorem AddrErrs.below {a0 a1 a2 : Addr} {n : Nat} {w w' : World} (h : AddrErrs a0 a1 a2 n w) (hb : Below n w w') : AddrErrs a0 a1 a2 n w' := ⟨h.1.below hb, h.2.1.below hb, h.2.2.1.below hb, h.2.2.2⟩

theorem addrTold_size {a0 a1 a2 : Addr} {n g : Nat} {t : TypeId} {w : World} (hE : AddrErrs a0 a1 a2 n w) (hg : w.heap[g]? = some (.cells #[.iface 187 (.pointer (some a1))] t (0, 0))) :
    Calls Tryd.prog 36 #[.slice (some ⟨g, 0, none⟩) 1 1] w fun e w' => e = .returned (.int .i64 11) ∧ w' = w := by
  obtain ⟨⟨h0, _, _, c0, t0, b0⟩, ⟨h1, _, _, c1, t1, b1⟩, _, hne, _⟩ := hE
  have k0 := is_other a1 a0 c1 c0 t1 t0 w (Ne.symm hne) b1 b0
  have k1 := is_same a1 w
  have z : w.cell? ⟨g, 0, none⟩ = some (.iface 187 (.pointer (some a1))) := by simp [World.cell?, hg]
  clear hg b0 b1 hne
  go_enter Tryd.func36, Tryd.ntmps36
  go_wp2
  refine wp_loop_rounds 1 ?_
  rw [rounds_succ]
  go_wp2_with fail
  refine k0.mono ?_
  rintro e w' ⟨rfl, rfl⟩
  go_wp2_with fail
  refine k1.mono ?_
  rintro e w' ⟨rfl, rfl⟩
  go_wp2
  go_ret
  exact ⟨rfl, rfl⟩

def roundOk (n : Int) : Prop := 1 ≤ n ∧ n ≤ 131072
theorem round_yes {a0 a1 a2 : Addr} {n : Int} (h : roundOk n) {w : World} (hE : AddrErrs a0 a1 a2 w.heap.size w) : Calls Tryd.prog 14 #[.int .i64 n] w fun e w' => e = .returned (.tuple #[.int .i64 (roundI n), .int .i64 0]) ∧ Below w.heap.size w w' := by
  obtain ⟨h1, h2⟩ := h
  have z := hE.2.1.1
  have w1 : IntKind.i64.wrap (n + 8) = n + 8 := IntWalk.i64_in _ (by omega)
  have w2 : IntKind.i64.wrap (n + 8 - 1) = n + 7 := by rw [IntWalk.i64_in _ (by omega)]; omega
  have e1 : (n + 7).tdiv 8 = (n + 7) / 8 := Int.tdiv_eq_ediv_of_nonneg (by omega)
  have w3 : IntKind.i64.wrap ((n + 7) / 8) = (n + 7) / 8 := IntWalk.i64_in _ (by omega)
  have w4 : IntKind.i64.wrap ((n + 7) / 8 * 8) = (n + 7) / 8 * 8 := IntWalk.i64_in _ (by omega)
  clear hE
  go_enter Tryd.func14, Tryd.ntmps14
  go_wp2
  refine bodyPost_ret (v := .tuple #[.int .i64 (roundI n), .int .i64 0]) ?_ rfl ⟨rfl, Below.refl _ _⟩
  simp [results, Tryd.results14, go_sem, roundI]
theorem round_no {a0 a1 a2 : Addr} {n : Int} (_hn : I64 n) (h : ¬ roundOk n) {w : World} (hE : AddrErrs a0 a1 a2 w.heap.size w) : Calls Tryd.prog 14 #[.int .i64 n] w fun e w' => e = .returned (.tuple #[.int .i64 0, .int .i64 11]) ∧ Below w.heap.size w w' := by
  unfold I64 at _hn
  unfold roundOk at h
  have z := hE.2.1.1
  obtain ⟨w1, hw1⟩ : ∃ y, y = w.alloc (.cells #[.iface 187 (.pointer (some a1))] 60) := ⟨_, rfl⟩
  have hb1 : Below w.heap.size w w1 := by rw [hw1]; exact kept_alloc (Below.refl _ _) _
  have hx1 : w1.heap[w.heap.size]? = some (.cells #[.iface 187 (.pointer (some a1))] 60 (0, 0)) := by rw [hw1]; exact World.alloc_heap_new w _
  have hT := addrTold_size (hE.below hb1) hx1
  clear hE hx1
  by_cases h1 : 1 ≤ n
  · have h2 : ¬ n ≤ 131072 := fun q => h ⟨h1, q⟩
    clear h
    go_enter Tryd.func14, Tryd.ntmps14
    go_wp2_with (first | (go_at_call 36; rw [← hw1]; refine hT.mono ?_; rintro e w' ⟨rfl, rfl⟩) | go_in)
    refine bodyPost_ret (v := .tuple #[.int .i64 0, .int .i64 11]) ?_ rfl ⟨rfl, by rw [← hw1]; exact hb1⟩
    simp [results, Tryd.results14, go_sem]
  · clear h
    go_enter Tryd.func14, Tryd.ntmps14
    go_wp2_with (first | (go_at_call 36; rw [← hw1]; refine hT.mono ?_; rintro e w' ⟨rfl, rfl⟩) | go_in)
    refine bodyPost_ret (v := .tuple #[.int .i64 0, .int .i64 11]) ?_ rfl ⟨rfl, by rw [← hw1]; exact hb1⟩
    simp [results, Tryd.results14, go_sem]
end Go.Proofs.YtjhmghcfhgajcaaDoor
