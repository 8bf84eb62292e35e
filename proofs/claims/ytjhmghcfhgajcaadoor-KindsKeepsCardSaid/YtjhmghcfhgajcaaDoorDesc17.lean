/- Contract of selionlaw04.shown. -/
import Derived.Test.YtjhmghcfhgajcaaDoorRefInts
namespace Go.Proofs.YtjhmghcfhgajcaaDoor
open Go.RowKit Go.Sel
theorem errD_cases (d : DescL) (n : Int) : errD d n = 0 ∨ errD d n = 40 ∨ errD d n = 41 := by
  unfold errD
  cases h : shapeE d n with
  | none => exact .inl rfl
  | some x => rcases shapeE_some h with ⟨_, rfl⟩ | ⟨_, rfl⟩; exact .inr (.inl rfl); exact .inr (.inr rfl)
theorem errD_right {d : DescL} {n e : Int} (he : e = errD d n) (h : ¬ e = 0) : ∃ x, e = x ∧ ((x = 40 ∧ rightD d = false) ∨ (x = 41 ∧ rightD d = true)) := by
  cases hs : shapeE d n with
  | none => rw [errD_none hs] at he; exact absurd he h
  | some x =>
    rw [errD_some hs] at he
    rcases shapeE_some hs with ⟨h1, rfl⟩ | ⟨h1, rfl⟩
    · exact ⟨_, he, .inl ⟨rfl, h1⟩⟩
    · exact ⟨_, he, .inr ⟨rfl, h1⟩⟩
theorem numD_err {d : DescL} {n e : Int} (he : e = errD d n) (h : ¬ e = 0) (y : Int) : numD d n y = 0 := by
  cases hs : shapeE d n with
  | none => rw [errD_none hs] at he; exact absurd he h
  | some x => unfold numD; rw [hs]
theorem errD_zero {d : DescL} {n : Int} (h : errD d n = 0) : shapeE d n = none := by
  cases hs : shapeE d n with
  | none => rfl
  | some x =>
    rw [errD_some hs] at h
    rcases shapeE_some hs with ⟨_, rfl⟩ | ⟨_, rfl⟩ <;> cases h
def shownD : DescL := ⟨8, [4], 12, [0, 8]⟩
theorem shownD_text : parseL [56, 58, 32, 52, 59, 32, 49, 50, 58, 32, 48, 32, 56] = some shownD := by
  have h : (parseL [56, 58, 32, 52, 59, 32, 49, 50, 58, 32, 48, 32, 56]).map (fun d => (d.size, d.ptrs, d.elem, d.eptrs)) = some (8, [4], 12, [0, 8]) := by decide +kernel
  obtain ⟨⟨a, b, c, d⟩, hd, e⟩ := Option.map_eq_some_iff.1 h
  cases e
  exact hd
theorem shownD_none : parseL [56, 58, 32, 56, 59, 32, 48, 58] = none := by decide +kernel
theorem shownD_bytes : numD shownD 2 (bytesD shownD 2) = 40 ∧ errD shownD 2 = 0 := by decide +kernel
theorem shownD_slots : slotsD shownD 2 = [4, 8, 16, 20, 28] := by decide +kernel
theorem shownD_kind : numD shownD 2 (kindP shownD (2 : Int).toNat 12) = 1 := by decide +kernel
theorem zeroD_err : errD zeroDesc 1 = 41 := by decide +kernel
theorem bytes_ext {a b : ByteArray} (h : a.data.toList = b.data.toList) : a = b := ByteArray.ext (Array.ext' h)

set_option maxRecDepth 100000 in
set_option maxHeartbeats 4000000 in
theorem shown04_any {a0 a1 a2 : Addr} {w : World} (hE : AddrErrs a0 a1 a2 w.heap.size w) (hR : ErrT w.heap.size w) (hT : TextOk w) :
    Calls Tryd.prog 10 #[] w fun e w' => e = .returned (.bool true) ∧ Below w.heap.size w w' := by
  have hP1 := parse_any ⟨#[56, 58, 32, 52, 59, 32, 49, 50, 58, 32, 48, 32, 56]⟩ w (by decide) hT
  go_enter Tryd.func10, Tryd.ntmps10
  go_wp2_with fail
  refine hP1.mono ?_
  clear hP1
  rintro e w1 ⟨v, rfl, hd, hb1⟩
  have p1 : parseL (⟨#[56, 58, 32, 52, 59, 32, 49, 50, 58, 32, 48, 32, 56]⟩ : ByteArray).data.toList = some shownD := shownD_text
  have pe : parseE (⟨#[56, 58, 32, 52, 59, 32, 49, 50, 58, 32, 48, 32, 56]⟩ : ByteArray).data.toList = 0 := by unfold parseE; rw [p1]; rfl
  rw [p1] at hd
  rw [pe]
  clear p1 pe
  obtain ⟨v1, v2, rfl, i1, i2, h1, h2⟩ := hd
  obtain ⟨q1, c1, rfl, hc1⟩ := h1.open
  obtain ⟨q2, c2, rfl, hc2⟩ := h2.open
  obtain ⟨W1, hW1⟩ : ∃ y, y = w1.alloc (Obj.cells #[.int .i64 shownD.size, .slice q1 shownD.ptrs.length c1, .int .i64 shownD.elem, .slice q2 shownD.eptrs.length c2] 24) := ⟨_, rfl⟩
  have hbW : Below w1.heap.size w1 W1 := by rw [hW1]; exact kept_alloc (Below.refl _ _) _
  have hx : HasBlk w1.heap.size #[.int .i64 shownD.size, .slice q1 shownD.ptrs.length c1, .int .i64 shownD.elem, .slice q2 shownD.eptrs.length c2] 24 W1 := by rw [hW1]; exact HasBlk.new w1 _ _
  have hD1 : IsDesc W1.heap.size W1 (.agg #[.int .i64 shownD.size, .slice q1 shownD.ptrs.length c1, .int .i64 shownD.elem, .slice q2 shownD.eptrs.length c2]) shownD :=
    ⟨_, _, rfl, i1, i2, (h1.below hbW).wider hbW.size, (h2.below hbW).wider hbW.size⟩
  have hb1' := kept_trans hb1 hbW
  have hB := bytes_any 2 (by unfold I64; omega) hD1 (hE.up hb1') (hR.up hb1')
  obtain ⟨z0, z1, z2, z3⟩ := four_cells hx
  rw [hW1] at z0 z1 z2 z3
  clear i1 i2 h1 h2 hc1 hc2 hbW
  go_wp2_with fail
  rw [← hW1]
  clear hW1 z0 z1 z2 z3
  rw [shownD_bytes.1, shownD_bytes.2] at hB
  refine hB.mono ?_
  clear hB
  rintro e w2 ⟨rfl, hb2⟩
  have hD2 := hD1.up hb2
  have hx2 := hx.below hb2 (Array.getElem?_eq_some_iff.1 hx.out).1
  have hb2' := kept_trans hb1' hb2
  clear hD1 hx hb1 hb1' hb2
  have hS := slots_any 2 (by unfold I64; omega) hD2 (hE.up hb2') (hR.up hb2') (by rw [shownD_slots]; decide)
  obtain ⟨z0, z1, z2, z3⟩ := four_cells hx2
  go_wp2_with fail
  refine hS.mono ?_
  clear hS z0 z1 z2 z3
  rintro e w3 ⟨vl, rfl, hl, hb3⟩
  rw [shownD_slots] at hl
  rw [shownD_bytes.2]
  have hL := IsInts.of_owns (xs := [4, 8, 16, 20, 28]) hl (by decide) (by intro x hx; unfold I64; simp at hx; omega)
  have hD3 := hD2.up hb3
  have hx3 := hx2.below hb3 (Array.getElem?_eq_some_iff.1 hx2.out).1
  have hb3' := kept_trans hb2' hb3
  clear hD2 hx2 hb2' hb3 hl
  have hK := kind_any 2 12 (by unfold I64; omega) (by unfold I64; omega) hD3 (hE.up hb3') (hR.up hb3')
  obtain ⟨la, lc, rfl, hlc⟩ := hL.open
  obtain ⟨z0, z1, z2, z3⟩ := four_cells hx3
  go_wp2_with fail
  rw [shownD_kind, shownD_bytes.2] at hK
  refine hK.mono ?_
  clear hK z0 z1 z2 z3
  rintro e w4 ⟨rfl, hb4⟩
  have hL4 := (hL.below hb4).wider hb4.size
  have hb4' := kept_trans hb3' hb4
  clear hD3 hx3 hb3' hb4 hL
  have hP2 := parse_any ⟨#[56, 58, 32, 56, 59, 32, 48, 58]⟩ w4 (by decide) (hT.up hb4')
  go_wp2_with fail
  refine hP2.mono ?_
  clear hP2
  rintro e w5 ⟨v5, rfl, hd5, hb5⟩
  have p1 : parseL (⟨#[56, 58, 32, 56, 59, 32, 48, 58]⟩ : ByteArray).data.toList = none := shownD_none
  have pe : parseE (⟨#[56, 58, 32, 56, 59, 32, 48, 58]⟩ : ByteArray).data.toList = 40 := by unfold parseE; rw [p1]; rfl
  rw [pe]
  obtain ⟨dz, hdz⟩ : ∃ d, d = Option.getD (parseL (⟨#[56, 58, 32, 56, 59, 32, 48, 58]⟩ : ByteArray).data.toList) zeroDesc := ⟨_, rfl⟩
  rw [← hdz] at hd5
  obtain ⟨v1, v2, rfl, -, -, h1, h2⟩ := hd5
  obtain ⟨s1, t1, rfl, -⟩ := h1.open
  obtain ⟨s2, t2, rfl, -⟩ := h2.open
  clear p1 pe h1 h2 hdz
  obtain ⟨w6, hw6⟩ : ∃ y, y = w5.alloc (Obj.cells #[.int .i64 dz.size, .slice s1 dz.ptrs.length t1, .int .i64 dz.elem, .slice s2 dz.eptrs.length t2] 24) := ⟨_, rfl⟩
  have hbx : Below w5.heap.size w5 w6 := by rw [hw6]; exact kept_alloc (Below.refl _ _) _
  have hb6 := kept_trans (kept_trans hb4' hb5) hbx
  have hL6 := (hL4.below (kept_trans hb5 hbx)).wider (kept_trans hb5 hbx).size
  clear hL4 hb5 hbx hb4'
  have hB := bytes_any (d := zeroDesc) (v := .agg #[.int .i64 0, .slice none 0 0, .int .i64 0, .slice none 0 0]) 1 (by unfold I64; omega) ⟨_, _, rfl, i64_zero, i64_zero, IsSl.nil, IsSl.nil⟩ (hE.up hb6) (hR.up hb6)
  rw [zeroD_err] at hB
  go_wp2_with fail
  rw [← hw6]
  clear hw6
  refine hB.mono ?_
  clear hB
  rintro e w7 ⟨rfl, hb7⟩
  have hL7 := (hL6.below hb7).wider hb7.size
  have hb7' := kept_trans hb6 hb7
  clear hL6 hb6 hb7 hE hR hT
  have hM : IsInts (w7.alloc (Obj.cells #[.int .i64 4, .int .i64 8, .int .i64 16, .int .i64 20, .int .i64 28] 3)).heap.size (w7.alloc (Obj.cells #[.int .i64 4, .int .i64 8, .int .i64 16, .int .i64 20, .int .i64 28] 3)) (.slice (some ⟨w7.heap.size, 0, none⟩) 5 5) [4, 8, 16, 20, 28] :=
    IsInts.of_owns (base := w7.heap.size) (e := 3) ⟨rfl, .inr ⟨w7.heap.size, 5, _, rfl, Nat.le_refl _, World.alloc_heap_new _ _, Nat.le_refl _, by decide, rfl, rfl⟩⟩ (by decide) (by intro x hx; unfold I64; simp at hx; omega)
  have hI := refInts_any ((hL7.below (kept_alloc (Below.refl _ _) (Obj.cells #[.int .i64 4, .int .i64 8, .int .i64 16, .int .i64 20, .int .i64 28] 3))).wider (by simp)) hM
  rw [decide_eq_true (show [4, 8, 16, 20, 28] = [(4 : Int), 8, 16, 20, 28] from rfl)] at hI
  clear hL7 hM
  go_wp2_with fail
  refine hI.mono ?_
  clear hI
  rintro e w8 ⟨rfl, q, hw8⟩
  have hb8 : Below w.heap.size w w8 := by rw [hw8]; exact below_drewN (kept_alloc hb7' _) q
  clear hw8
  go_wp2
  go_ret
  exact ⟨rfl, hb8⟩

set_option maxHeartbeats 1000000 in
theorem cut04_any (s : ByteArray) (w : World) : Calls Tryd.prog 19 #[.string s] w fun e w' => e = .returned (.string (s.extract 0 (min s.size 200))) ∧ w = w' := by
  go_enter Tryd.func19, Tryd.ntmps19
  have h : (min (s.size : Int) 200).toNat = min s.size 200 := by omega
  have H := Lib.hid h
  clear h
  go_wp2
  go_ret
  exact ⟨by rw [← H.out]; rfl, rfl⟩
theorem prS_len (d : DescL) (h1 : d.ptrs.length ≤ 20) (h2 : d.eptrs.length ≤ 20) : (prS d).length ≤ 1000 := by
  unfold prS
  split
  · rename_i hr
    obtain ⟨p1, p2, p3, p4⟩ := rightD_parts hr
    have e1 := itoa_len p1.1 (by omega)
    have e2 := itoa_len p2.1 (by omega)
    have e3 := placesL_len (l := d.ptrs) (fun a ha => by have := p3 a ha; omega)
    have e4 := placesL_len (l := d.eptrs) (fun a ha => by have := p4 a ha; omega)
    unfold placesL at e3 e4
    unfold printD partL
    simp only [List.length_append, List.length_cons]
    omega
  · simp
end Go.Proofs.YtjhmghcfhgajcaaDoor
