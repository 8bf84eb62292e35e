/- Contract of kinds.Print. -/
import Derived.Test.YtjhmghcfhgajcaaDoorBuild
namespace Go.Sel
open Go Go.RowKit
theorem printD_len {d : DescL} (hr : rightD d = true) : (printD d).length ≤ 20000 := by
  obtain ⟨p1, p2, p3, p4⟩ := rightD_parts hr
  have hr' := hr
  unfold rightD at hr'
  simp only [Bool.and_eq_true] at hr'
  have l1 := areFrom_len hr'.1.2
  have l2 := areFrom_len hr'.2
  have e1 := itoa_len p1.1 (by omega)
  have e2 := itoa_len p2.1 (by omega)
  have e3 := placesL_len (l := d.ptrs) (fun a ha => by have := p3 a ha; omega)
  have e4 := placesL_len (l := d.eptrs) (fun a ha => by have := p4 a ha; omega)
  unfold placesL at e3 e4
  unfold printD partL
  simp only [List.length_append, List.length_cons]
  omega
theorem printK_len {l : List DescL} (h : ∀ d ∈ l, rightD d = true) : (printK l).length ≤ 20001 * l.length := by
  induction l with
  | nil => simp [printK]
  | cons d r ih =>
    have h1 := printD_len (h d (by simp))
    have h2 := ih (fun x hx => h x (by simp [hx]))
    unfold printK at h2 ⊢
    rw [List.flatMap_cons, List.length_append, List.length_append, List.length_cons, List.length_cons, List.length_nil]
    omega
theorem printK_snoc {l : List DescL} {k : Nat} {x : DescL} (h : l[k]? = some x) : printK (l.take (k + 1)) = printK (l.take k) ++ (printD x ++ [10]) := by
  rw [take_snoc h]
  unfold printK
  rw [List.flatMap_append]
  simp
theorem builder_kept {T e B b : Nat} {bs : List Value} {w w' : World} (h : Lib.IsBuilder T e B b bs w) (hb : Below w.heap.size w w') : Lib.IsBuilder T e B b bs w' := by
  have one : ∀ p, Lib.BuilderAt T e B b p bs w → Lib.BuilderAt T e B b p bs w' := fun p ⟨h1, v, h2, h3, h4⟩ => ⟨h1, v, blk_kept h2 hb, owns_kept h3 hb, h4⟩
  rcases h with h | h
  · exact .inl (one _ h)
  · exact .inr (one _ h)
end Go.Sel
namespace Go.Proofs.YtjhmghcfhgajcaaDoor
open Go.RowKit Go.Sel
def prKS (l : List DescL) : List UInt8 := if rightK l = true then printK l else []
def prKE (l : List DescL) : Int := if rightK l = true then 0 else 50
set_option maxRecDepth 100000 in
set_option maxHeartbeats 2000000 in
theorem printK_any {n : Nat} {ds : List DescL} {v : Value} {w : World} (h : IsDescs n w v ds) (hn : n ≤ w.heap.size) (hT : TextOk w) :
    Calls Tryd.prog 27 #[v] w fun e w' => e = .returned (.tuple #[.string ⟨(prKS ds).toArray⟩, .int .i64 (prKE ds)]) ∧ Below w.heap.size w w' := by
  obtain ⟨a, c, rfl, hc⟩ := h.open
  have hl := h.len
  unfold big at hl
  have hR := rightK_any h hn
  have HT := Lib.hid hT
  clear hT
  go_enter Tryd.func27, Tryd.ntmps27
  go_wp2_with fail
  refine hR.mono ?_
  clear hR
  rintro e w1 ⟨rfl, hb1⟩
  have h1 := h.below (hb1.mono hn)
  clear h
  cases hr : rightK ds with
  | false =>
    have HS := Lib.hid (show prKS ds = [] by unfold prKS; rw [if_neg (by rw [hr]; decide)])
    have HX := Lib.hid (show prKE ds = 50 by unfold prKE; rw [if_neg (by rw [hr]; decide)])
    clear hr h1
    go_wp2
    go_ret2
    exact ⟨by rw [HS.out, HX.out]; rfl, hb1⟩
  | true =>
    have HS := Lib.hid (show prKS ds = printK ds by unfold prKS; rw [if_pos hr])
    have HX := Lib.hid (show prKE ds = 0 by unfold prKE; rw [if_pos hr])
    obtain ⟨hra, -, hl60⟩ := rightK_iff.1 hr
    have HA := Lib.hid hra
    clear hr hra
    obtain ⟨w2, hw2⟩ : ∃ y, y = w1.alloc (Obj.cells #[.pointer none, .slice none 0 0] 83) := ⟨_, rfl⟩
    have hb2 : Below w1.heap.size w1 w2 := by rw [hw2]; exact kept_alloc (Below.refl _ _) _
    have hBd : Lib.IsBuilder 83 5 w1.heap.size w1.heap.size [] w2 := by rw [hw2]; exact Lib.fresh_isBuilder _ _ _
    have hnw := Nat.le_trans hn hb1.size
    have h2 := h1.below (hb2.mono hnw)
    have hbw := kept_trans hb1 hb2
    have hlt12 : w1.heap.size < w2.heap.size := by rw [hw2]; simp
    clear h1
    go_wp2_with fail
    rw [← hw2]
    clear hw2 hb2
    go_loopw [6, 7, 8, 14] (fun _ _ _ i wr => ∃ k : Nat, k ≤ ds.length ∧ i = .int .i64 k ∧ Lib.IsBuilder 83 5 w1.heap.size w1.heap.size (Lib.byteCells (printK (ds.take k))) wr ∧ Below w1.heap.size w2 wr ∧ w2.heap.size ≤ wr.heap.size) (fun _ _ _ i _ => ds.length - (intOf i).toNat)
    case atStart => exact ⟨0, Nat.zero_le _, rfl, hBd, Below.refl _ _, Nat.le_refl _⟩
    case round =>
      obtain ⟨k, hk, rfl, hbd, hb, hsr⟩ := hrel
      clear hBd
      have hbwr : Below w.heap.size w wr := hbw.trans (hb.mono hb1.size)
      by_cases hlt : k < ds.length
      · have h3 := h2.below ((hb.mono hb1.size).mono hn)
        obtain ⟨x, b, o, g1, k1, g2, k2, hx, rfl, hbn, z0, z1, z2, z3, hxd⟩ := h3.atS hlt
        have hnr : n ≤ wr.heap.size := Nat.le_trans hn hbwr.size
        obtain ⟨w3, hw3⟩ : ∃ q, q = wr.alloc (Obj.cells #[.int .i64 x.size, .slice g1 x.ptrs.length k1, .int .i64 x.elem, .slice g2 x.eptrs.length k2] 24) := ⟨_, rfl⟩
        have hb3 : Below wr.heap.size wr w3 := by rw [hw3]; exact kept_alloc (Below.refl _ _) _
        have hC0 : HasBlk wr.heap.size #[.int .i64 x.size, .slice g1 x.ptrs.length k1, .int .i64 x.elem, .slice g2 x.eptrs.length k2] 24 w3 := by rw [hw3]; exact HasBlk.new wr _ _
        have hrx := HA.out x (List.mem_of_getElem? hx)
        have hP := print_any ((hxd.below (hb3.mono hnr)).wider (Nat.le_trans hnr hb3.size)) (HT.out.up (kept_trans hbwr hb3))
        have e1 : prS x = printD x := by unfold prS; rw [if_pos hrx]
        rw [e1] at hP
        have hz := printD_len hrx
        have hkz := printK_len (l := ds.take k) (fun d hd => HA.out d (List.mem_of_mem_take hd))
        have HN := Lib.hid (printK_snoc hx)
        obtain ⟨ps, hps⟩ : ∃ q : ByteArray, q = ⟨(printD x).toArray⟩ := ⟨_, rfl⟩
        have hpz : ps.size ≤ 20000 := by rw [hps, ByteArray.size_mk', List.size_toArray]; exact hz
        rw [← hps] at hP
        have HPS := Lib.hid hps
        obtain ⟨pl, hpl⟩ : ∃ l, l = printK (ds.take k) := ⟨_, rfl⟩
        rw [← hpl] at hbd hkz
        have HPL := Lib.hid hpl
        have hkz2 : pl.length ≤ 1300000 := by rw [List.length_take] at hkz; omega
        obtain ⟨y0, y1, y2, y3⟩ := four_cells hC0.out
        rw [hw3] at y0 y1 y2 y3
        clear hx hxd h3 hrx e1 hz hps hpl hkz
        go_wp2_with fail
        rw [← hw3]
        clear hw3 y0 y1 y2 y3 z0 z1 z2 z3
        refine hP.mono ?_
        clear hP
        rintro e w4 ⟨rfl, hb4⟩
        have hbd4 := builder_kept (builder_kept hbd hb3) hb4
        have hs4 : w2.heap.size ≤ w4.heap.size := by have := hb3.size; have := hb4.size; omega
        have hW := writeString_any w1.heap.size w1.heap.size (Lib.byteCells pl) (ps ++ ⟨#[10]⟩) w4 hbd4 (by
          have e1 : (⟨#[10]⟩ : ByteArray).size = 1 := rfl
          have e2 : (Lib.byteCells pl).length = pl.length := by unfold Lib.byteCells; rw [List.length_map]
          rw [ByteArray.size_append', e1, e2]; omega) (by omega)
        have HC := Lib.hid (show Lib.byteCells pl ++ Lib.strCells (ps ++ ⟨#[10]⟩) = Lib.byteCells (printK (ds.take (k + 1))) by
          rw [HN.out, HPL.out, HPS.out, show (⟨#[10]⟩ : ByteArray) = ⟨[(10 : UInt8)].toArray⟩ from rfl, ByteArray.mk_append_mk]
          show _ ++ Lib.strCells ⟨_⟩ = _
          show Lib.byteCells _ ++ Lib.byteCells _ = _
          unfold Lib.byteCells
          rw [← List.map_append])
        have hbb := hb.trans ((kept_trans hb3 hb4).mono (by omega))
        have q1 : ¬ ps.size + 1 > 9223372036854775807 := by omega
        clear hbd hbd4 hb3 hb4 hC0
        go_wp2_with fail
        refine hW.mono ?_
        clear hW
        rintro e w5 ⟨rfl, hbd5, hb5⟩
        rw [HC.out] at hbd5
        have hbb5 := hbb.trans hb5
        have hs5 := hb5.size
        clear hbb hb5
        go_wp2
        go_roundw
        case rel => exact ⟨k + 1, by omega, by go_num, .inr hbd5, hbb5, by omega⟩
        case measure => simp [intOf]; omega
      · have hkk : k = ds.length := by omega
        have HK := Lib.hid (List.take_of_length_le (l := ds) (i := k) (by omega))
        rw [HK.out] at hbd
        have hSt := Tryd.Builder_String_any w1.heap.size w1.heap.size (printK ds) wr hbd (by omega)
        clear hbd h2 hkk
        go_wp2_with fail
        refine hSt.mono ?_
        clear hSt
        rintro e w3 ⟨rfl, hb3⟩
        go_wp2
        go_ret2
        exact ⟨by rw [HS.out, HX.out]; rfl, hbwr.trans (hb3.mono hb1.size)⟩
end Go.Proofs.YtjhmghcfhgajcaaDoor
