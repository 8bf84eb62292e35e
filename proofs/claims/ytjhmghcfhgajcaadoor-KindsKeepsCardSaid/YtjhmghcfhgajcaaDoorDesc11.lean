/- Contract of desc.Print. -/
import Derived.Test.YtjhmghcfhgajcaaDoorDesc10
namespace Go.Proofs.YtjhmghcfhgajcaaDoor
open Go.RowKit Go.Sel

def prS (d : DescL) : List UInt8 := if rightD d = true then printD d else []
def prE (d : DescL) : Int := if rightD d = true then 0 else 40

set_option maxRecDepth 100000 in
set_option maxHeartbeats 4000000 in
theorem print_any {v : Value} {d : DescL} {w : World} (h : IsDesc w.heap.size w v d) (hT : TextOk w) :
    Calls Tryd.prog 16 #[v] w fun e w' => e = .returned (.tuple #[.string ⟨(prS d).toArray⟩, .int .i64 (prE d)]) ∧ Below w.heap.size w w' := by
  have hd0 := h
  obtain ⟨v1, v2, rfl, i1, i2, h1, h2⟩ := h
  obtain ⟨q1, c1, rfl, hc1⟩ := h1.open
  obtain ⟨q2, c2, rfl, hc2⟩ := h2.open
  clear i1 i2 hc1 hc2
  obtain ⟨w1, hw1⟩ : ∃ y, y = w.alloc (Obj.cells #[.int .i64 d.size, .slice q1 d.ptrs.length c1, .int .i64 d.elem, .slice q2 d.eptrs.length c2] 24) := ⟨_, rfl⟩
  have hb1 : Below w.heap.size w w1 := by rw [hw1]; exact kept_alloc (Below.refl _ _) _
  have hx1 : w1.heap[w.heap.size]? = some (.cells #[.int .i64 d.size, .slice q1 d.ptrs.length c1, .int .i64 d.elem, .slice q2 d.eptrs.length c2] 24 (0, 0)) := by rw [hw1]; exact World.alloc_heap_new w _
  have hR := right_any (hd0.up hb1) (Nat.le_refl _)
  obtain ⟨z0, z1, z2, z3⟩ := four_cells hx1
  rw [hw1] at z0 z1 z2 z3
  clear hd0
  go_enter Tryd.func16, Tryd.ntmps16
  go_wp2_with fail
  rw [← hw1]
  clear hw1 z0 z1 z2 z3
  refine hR.mono ?_
  clear hR
  rintro e w2 ⟨rfl, hb⟩
  have hb2 := kept_trans hb1 hb
  cases hr : rightD d with
  | false =>
    have HN := Lib.hid (show prS d = [] by unfold prS; rw [if_neg (by rw [hr]; decide)])
    have HX := Lib.hid (show prE d = 40 by unfold prE; rw [if_neg (by rw [hr]; decide)])
    clear hr h1 h2 hx1 hT
    go_wp2
    refine bodyPost_ret (v := .tuple #[.string ⟨#[]⟩, .int .i64 40]) ?_ rfl ⟨by rw [HN.out, HX.out], hb2⟩
    simp [results, Tryd.results16, go_sem]
  | true =>
    have HN := Lib.hid (show prS d = printD d by unfold prS; rw [if_pos hr])
    have HX := Lib.hid (show prE d = 0 by unfold prE; rw [if_pos hr])
    obtain ⟨⟨s1, s2, -⟩, ⟨e1, e2, -⟩, r1, r2⟩ := rightD_parts hr
    have hl1 : d.ptrs.length ≤ 2000 := by
      unfold rightD at hr; simp only [Bool.and_eq_true] at hr
      have := areFrom_len hr.1.2; omega
    have hl2 : d.eptrs.length ≤ 2000 := by
      unfold rightD at hr; simp only [Bool.and_eq_true] at hr
      have := areFrom_len hr.2; omega
    have p1 : (partL d.size d.ptrs).length ≤ 16008 := by
      have a := itoa_len s1 (by omega)
      have b := placesL_len (l := d.ptrs) (fun a ha => ⟨(r1 a ha).1, by have := r1 a ha; omega⟩)
      show (Lib.itoa d.size ++ 58 :: placesL d.ptrs).length ≤ _
      rw [List.length_append, List.length_cons]; omega
    have p2 : (partL d.elem d.eptrs).length ≤ 16008 := by
      have a := itoa_len e1 (by omega)
      have b := placesL_len (l := d.eptrs) (fun a ha => ⟨(r2 a ha).1, by have := r2 a ha; omega⟩)
      show (Lib.itoa d.elem ++ 58 :: placesL d.eptrs).length ≤ _
      rw [List.length_append, List.length_cons]; omega
    have R1 := Lib.hid (show ∀ a ∈ d.ptrs, 0 ≤ a ∧ a ≤ 1310720 from fun a ha => ⟨(r1 a ha).1, by have := r1 a ha; omega⟩)
    have R2 := Lib.hid (show ∀ a ∈ d.eptrs, 0 ≤ a ∧ a ≤ 1310720 from fun a ha => ⟨(r2 a ha).1, by have := r2 a ha; omega⟩)
    have hx2 := blk_kept hx1 hb
    clear hr r1 r2 hx1
    go_wp2_with fail
    obtain ⟨wd, hwd⟩ : ∃ y, y = w2.drew := ⟨_, rfl⟩
    have hbd : Below w2.heap.size w2 wd := by rw [hwd]; exact (Below.refl _ _).drew
    have hb3 := kept_trans hb2 hbd
    have hC0 : HasBlk w.heap.size #[.int .i64 d.size, .slice q1 d.ptrs.length c1, .int .i64 d.elem, .slice q2 d.eptrs.length c2] 24 wd := blk_kept hx2 hbd
    have hP1 := part_any d.size s1 (by omega) (h1.below hb3) R1.out hl1 hb3.size (hT.up hb3)
    refine wp_region_class (fun W => HasBlk w.heap.size #[.int .i64 d.size, .slice q1 d.ptrs.length c1, .int .i64 d.elem, .slice q2 d.eptrs.length c2] 24 W) 13 (by kernel_rfl) ?_
    rw [← hwd]
    clear hwd hbd hx2 hb2
    refine wpAnyC_take 0 (.pointer (some ⟨w.heap.size, 0, none⟩)) rfl (by kernel_rfl) rfl (fun _ _ _ h => h) hC0 (fun W hW => by obtain ⟨g1, g2, g3, g4⟩ := four_cells hW.out; go_simp) ?_
    go_simp
    refine wpAnyC_take 1 (.int .i64 d.size) rfl (by kernel_rfl) rfl (fun _ _ _ h => h) hC0 (fun W hW => by obtain ⟨g1, g2, g3, g4⟩ := four_cells hW.out; go_simp) ?_
    go_simp
    refine wpAnyC_take 2 (.pointer (some ⟨w.heap.size, 1, none⟩)) rfl (by kernel_rfl) rfl (fun _ _ _ h => h) hC0 (fun W hW => by obtain ⟨g1, g2, g3, g4⟩ := four_cells hW.out; go_simp) ?_
    go_simp
    refine wpAnyC_take 3 (.slice q1 d.ptrs.length c1) rfl (by kernel_rfl) rfl (fun _ _ _ h => h) hC0 (fun W hW => by obtain ⟨g1, g2, g3, g4⟩ := four_cells hW.out; go_simp) ?_
    go_simp
    refine wpAnyC_take 6 (.pointer (some ⟨w.heap.size, 2, none⟩)) rfl (by kernel_rfl) rfl (fun _ _ _ h => h) hC0 (fun W hW => by obtain ⟨g1, g2, g3, g4⟩ := four_cells hW.out; go_simp) ?_
    go_simp
    refine wpAnyC_take 7 (.int .i64 d.elem) rfl (by kernel_rfl) rfl (fun _ _ _ h => h) hC0 (fun W hW => by obtain ⟨g1, g2, g3, g4⟩ := four_cells hW.out; go_simp) ?_
    go_simp
    refine wpAnyC_take 8 (.pointer (some ⟨w.heap.size, 3, none⟩)) rfl (by kernel_rfl) rfl (fun _ _ _ h => h) hC0 (fun W hW => by obtain ⟨g1, g2, g3, g4⟩ := four_cells hW.out; go_simp) ?_
    go_simp
    refine wpAnyC_take 9 (.slice q2 d.eptrs.length c2) rfl (by kernel_rfl) rfl (fun _ _ _ h => h) hC0 (fun W hW => by obtain ⟨g1, g2, g3, g4⟩ := four_cells hW.out; go_simp) ?_
    go_simp
    refine wpAnyC_act 4 rfl (by kernel_rfl) rfl ?_
    go_simp
    refine hP1.mono ?_
    clear hP1
    rintro e w4 ⟨rfl, hb⟩
    have hb4 := kept_trans hb3 hb
    have hC4 := hC0.below hb (Array.getElem?_eq_some_iff.1 hC0).1
    have hP2 := part_any d.elem e1 (by omega) (h2.below hb4) R2.out hl2 hb4.size (hT.up hb4)
    refine ⟨hC4, ?_⟩
    clear hC0 hb3 hb
    have q1 : ¬ (partL d.size d.ptrs).length + 2 > 9223372036854775807 := by omega
    refine wpAnyC_take 5 (.string (⟨(partL d.size d.ptrs).toArray⟩ ++ ⟨#[59, 32]⟩)) rfl (by kernel_rfl) rfl (fun _ _ _ h => h) hC4 (fun W hW => by go_simp) ?_
    go_simp
    refine wpAnyC_act 10 rfl (by kernel_rfl) rfl ?_
    go_simp
    refine hP2.mono ?_
    clear hP2
    rintro e w5 ⟨rfl, hb⟩
    have hb5 := kept_trans hb4 hb
    have hC5 := hC4.below hb (Array.getElem?_eq_some_iff.1 hC4).1
    refine ⟨hC5, ?_⟩
    have q2 : ¬ (partL d.size d.ptrs).length + 2 + (partL d.elem d.eptrs).length > 9223372036854775807 := by omega
    refine wpAnyC_act 11 rfl (by kernel_rfl) rfl ?_
    go_simp
    refine wpAnyC_act 12 rfl (by kernel_rfl) rfl ?_
    go_simp
    refine wpAnyC_act 13 rfl (by kernel_rfl) rfl ?_
    go_simp
    refine wpAnyC_done (by kernel_rfl) ?_
    have HE := Lib.hid (show ((⟨(partL d.size d.ptrs).toArray⟩ : ByteArray) ++ ⟨#[59, 32]⟩ ++ ⟨(partL d.elem d.eptrs).toArray⟩) = ⟨(printD d).toArray⟩ by
      rw [show (⟨#[59, 32]⟩ : ByteArray) = ⟨[(59 : UInt8), 32].toArray⟩ from rfl, ByteArray.mk_append_mk, ByteArray.mk_append_mk]
      congr 1
      unfold printD
      simp)
    go_wp2
    refine bodyPost_ret (v := .tuple #[.string ⟨(printD d).toArray⟩, .int .i64 0]) ?_ rfl ⟨by rw [HN.out, HX.out], hb5⟩
    simp [results, Tryd.results16, go_sem, HE.out]
end Go.Proofs.YtjhmghcfhgajcaaDoor
