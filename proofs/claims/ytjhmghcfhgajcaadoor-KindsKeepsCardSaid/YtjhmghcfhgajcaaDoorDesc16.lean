/- Contract of desc.Parse. -/
import Derived.Test.YtjhmghcfhgajcaaDoorDesc15
namespace Go.Sel
open Go Go.RowKit
theorem i64_zero : I64 0 := by unfold I64; omega
theorem owns_tail {w : World} {base : Nat} {e : TypeId} {g c x : Nat} {h : Int} {t : List Int} (ho : w.ownsRow base e 1 (.slice (some ⟨g, 0, none⟩) x c) x ((h :: t).map (Value.int .i64))) (hx : x = t.length + 1) (hb : t.length ≤ 1000000) (hr : ∀ y ∈ h :: t, I64 y) :
    w.cell? ⟨g, 0, none⟩ = some (.int .i64 h) ∧ ∃ A C, A = (if c = 1 then (⟨g, 0, none⟩ : Addr) else ⟨g, 1, none⟩) ∧ C = c - 1 ∧ t.length ≤ C ∧ C ≤ maxLen ∧ IsInts w.heap.size w (.slice (some A) t.length C) t := by
  obtain ⟨g', c', e1, h1, h2, h3⟩ := owns_some ho (by omega)
  cases e1
  have hc := ho.cells (g := g) rfl
  refine ⟨by simpa [Addr.add] using hc 0 (.int .i64 h) rfl, _, _, rfl, rfl, by omega, by omega, _, _, rfl, by omega, by unfold big; omega, fun k y hk => ?_⟩
  have hne : c ≠ 1 := by have := (List.getElem?_eq_some_iff.1 hk).1; omega
  have := hc (k + 1) (.int .i64 y) (by rw [List.map_cons, List.getElem?_cons_succ, List.getElem?_map, hk]; rfl)
  refine ⟨g, 1, by rw [if_neg hne], h3, ?_, hr y (List.mem_cons_of_mem _ (List.mem_of_getElem? hk))⟩
  rw [Nat.mul_one, Nat.add_comm 1 k]
  simpa [Addr.add] using this
theorem numbersL_len (s : ByteArray) : (numbersL s.data.toList).1.length ≤ s.size + 1 := by
  rw [numbersL_parts]
  have h1 := cut_tail_len s.data.toList [58]
  simp only [List.length_map, partsB, List.length_cons]
  split
  · simp
  · have h2 := Lib.splitB_all ⟨#[32]⟩ (Nat.le_refl 1) 0 _ ⟨(Lib.cut s.data.toList [58]).2.1.toArray⟩ rfl
    have h3 := Lib.countB_le ⟨#[32]⟩ (Nat.le_refl 1) _ ⟨(Lib.cut s.data.toList [58]).2.1.toArray⟩ (Nat.le_refl _)
    rw [List.length_tail, h2]
    rw [ByteArray.size_mk', List.size_toArray] at h3
    have h4 : s.data.toList.length = s.size := rfl
    omega
end Go.Sel
namespace Go.Proofs.YtjhmghcfhgajcaaDoor
open Go.RowKit Go.Sel
def zeroDesc : DescL := ⟨0, [], 0, []⟩
def parseE (s : List UInt8) : Int := if (parseL s).isSome = true then 0 else 40
/-- Parse's answer. -/
def ParsePost (s : ByteArray) (w : World) (e : Ending) (w' : World) : Prop :=
  ∃ v, e = .returned (.tuple #[v, .int .i64 (parseE s.data.toList)]) ∧ IsDesc w'.heap.size w' v ((parseL s.data.toList).getD zeroDesc) ∧ Below w.heap.size w w'
/-- A slice in memory from block B on. -/
def FreshB (B : Nat) (v : Value) : Prop := ∀ b, v.ownBlock = some b → B ≤ b
theorem FreshB.nil (B : Nat) : FreshB B (.slice none 0 0) := fun b h => by cases h
/-- Parse's answer, in memory of the call's own. -/
def ParseOwn (s : ByteArray) (w : World) (e : Ending) (w' : World) : Prop :=
  ∃ v1 v2, e = .returned (.tuple #[.agg #[.int .i64 ((parseL s.data.toList).getD zeroDesc).size, v1, .int .i64 ((parseL s.data.toList).getD zeroDesc).elem, v2], .int .i64 (parseE s.data.toList)]) ∧ IsDesc w'.heap.size w' (.agg #[.int .i64 ((parseL s.data.toList).getD zeroDesc).size, v1, .int .i64 ((parseL s.data.toList).getD zeroDesc).elem, v2]) ((parseL s.data.toList).getD zeroDesc) ∧ FreshB w.heap.size v1 ∧ FreshB w.heap.size v2 ∧ (∀ b, (v1.ownBlock = some b ∨ v2.ownBlock = some b) → b < w'.heap.size) ∧ Below w.heap.size w w'
set_option maxRecDepth 100000 in
set_option maxHeartbeats 4000000 in
theorem parse_own (s : ByteArray) (w : World) (hs : s.size ≤ 100000) (hT : TextOk w) : Calls Tryd.prog 17 #[.string s] w (ParseOwn s w) := by
  obtain ⟨ok0, hok0⟩ : ∃ x, x = (Lib.cut s.data.toList [59, 32]).2.2 := ⟨_, rfl⟩
  obtain ⟨hd, hhd⟩ : ∃ x : ByteArray, x = ⟨(Lib.cut s.data.toList [59, 32]).1.toArray⟩ := ⟨_, rfl⟩
  obtain ⟨tl, htl⟩ : ∃ x : ByteArray, x = ⟨(Lib.cut s.data.toList [59, 32]).2.1.toArray⟩ := ⟨_, rfl⟩
  have hP : parseL s.data.toList = if (ok0 && (numbersL hd.data.toList).2 && (numbersL tl.data.toList).2) = true then
    (if (rightD (descOf (numbersL hd.data.toList).1 (numbersL tl.data.toList).1) && decide (printD (descOf (numbersL hd.data.toList).1 (numbersL tl.data.toList).1) = s.data.toList)) = true then
      some (descOf (numbersL hd.data.toList).1 (numbersL tl.data.toList).1) else none) else none := by rw [hok0, hhd, htl]; rfl
  have HP := Lib.hid hP
  have hz1 : hd.size ≤ s.size := by rw [hhd]; have := cut_head_len s.data.toList [59, 32]; rw [ByteArray.size_mk', List.size_toArray]; simpa using this
  have hz2 : tl.size ≤ s.size := by rw [htl]; have := cut_tail_len s.data.toList [59, 32]; rw [ByteArray.size_mk', List.size_toArray]; simpa using this
  obtain ⟨W0, hW0⟩ : ∃ y, y = (w.alloc (Obj.cells #[.int .i64 0, .slice none 0 0, .int .i64 0, .slice none 0 0] 24)).alloc (Obj.cells #[.int .i64 0, .slice none 0 0, .int .i64 0, .slice none 0 0] 24) := ⟨_, rfl⟩
  have hb0 : Below w.heap.size w W0 := by rw [hW0]; exact kept_alloc (kept_alloc (Below.refl _ _) _) _
  have hx1 : HasBlk w.heap.size #[.int .i64 0, .slice none 0 0, .int .i64 0, .slice none 0 0] 24 W0 := by
    rw [hW0]; exact (Below.heap_alloc _ _ _ (by simp)).trans (World.alloc_heap_new _ _)
  have hx2 : HasBlk (w.heap.size + 1) #[.int .i64 0, .slice none 0 0, .int .i64 0, .slice none 0 0] 24 W0 := by
    rw [hW0]; simpa using HasBlk.new (w.alloc (Obj.cells #[.int .i64 0, .slice none 0 0, .int .i64 0, .slice none 0 0] 24)) #[.int .i64 0, .slice none 0 0, .int .i64 0, .slice none 0 0] 24
  have hs0 : w.heap.size + 2 ≤ W0.heap.size := by rw [hW0]; simp
  have hT0 := hT.up hb0
  obtain ⟨_, m, hm⟩ := id hT0
  have hC := Tryd.strings_Cut s ⟨#[59, 32]⟩ m W0 (by omega) hm
  have e1 : (⟨#[59, 32]⟩ : ByteArray).data.toList = [59, 32] := rfl
  rw [e1, ← hok0, ← hhd, ← htl] at hC
  have HT := Lib.hid hT
  clear hP hhd htl hok0 e1 hm hT
  go_enter Tryd.func17, Tryd.ntmps17
  go_wp2_with fail
  rw [← hW0]
  clear hW0
  refine hC.mono ?_
  clear hC
  rintro e w1 ⟨rfl, nd, hw1⟩
  have hb1 : Below W0.heap.size W0 w1 := by rw [hw1]; exact below_drewN (Below.refl _ _) nd
  clear hw1
  have hN1 := numbers_any hd w1 (by omega) (hT0.up hb1)
  go_wp2_with fail
  refine hN1.mono ?_
  clear hN1
  rintro e w2 ⟨va, rfl, hra, hb2⟩
  obtain ⟨ba, hba⟩ : ∃ b, b = (numbersL hd.data.toList).2 := ⟨_, rfl⟩
  obtain ⟨xa, hxa⟩ : ∃ b, b = (numbersL hd.data.toList).1 := ⟨_, rfl⟩
  have hla0 : 0 < xa.length := by rw [hxa]; exact Nat.succ_pos _
  have hlam : xa.length ≤ s.size + 1 := by rw [hxa]; exact Nat.le_trans (numbersL_len hd) (by omega)
  have hna : ∀ x ∈ xa, 0 ≤ x ∧ x ≤ 1310729 := by rw [hxa]; exact numbersL_bd
  rw [← hxa] at hra
  rw [← hba, ← hxa] at HP
  rw [← hba]
  have hT2 := hT0.up (kept_trans hb1 hb2)
  have hb12 := kept_trans hb1 hb2
  have hN2 := numbers_any tl w2 (by omega) hT2
  clear hxa hba hT0
  have HNA := Lib.hid hna
  clear hna
  obtain ⟨ga, ca, rfl, ca1, ca2, ca3⟩ := owns_some hra (by omega)
  have HRA := Lib.hid hra
  obtain ⟨la, hla⟩ : ∃ l, l = xa.length := ⟨_, rfl⟩
  rw [← hla]
  go_wp2_with fail
  refine hN2.mono ?_
  clear hN2
  rintro e w3 ⟨vb, rfl, hrb, hb3⟩
  obtain ⟨bb, hbb⟩ : ∃ b, b = (numbersL tl.data.toList).2 := ⟨_, rfl⟩
  obtain ⟨xb, hxb⟩ : ∃ b, b = (numbersL tl.data.toList).1 := ⟨_, rfl⟩
  have hlb0 : 0 < xb.length := by rw [hxb]; exact Nat.succ_pos _
  have hlbm : xb.length ≤ s.size + 1 := by rw [hxb]; exact Nat.le_trans (numbersL_len tl) (by omega)
  have hnb : ∀ x ∈ xb, 0 ≤ x ∧ x ≤ 1310729 := by rw [hxb]; exact numbersL_bd
  rw [← hxb] at hrb
  rw [← hbb, ← hxb] at HP
  rw [← hbb]
  have hT3 := hT2.up hb3
  have hb13 := kept_trans hb12 hb3
  clear hxb hbb hT2
  have HNB := Lib.hid hnb
  clear hnb
  obtain ⟨gb, cb, rfl, cb1, cb2, cb3⟩ := owns_some hrb (by omega)
  have HRB := Lib.hid hrb
  obtain ⟨lb, hlb⟩ : ∃ l, l = xb.length := ⟨_, rfl⟩
  rw [← hlb]
  have hy1 := hx1.below hb13 (by omega)
  have hy2 := hx2.below hb13 (by omega)
  have hbw := kept_trans hb0 hb13
  have HRA3 := Lib.hid (owns_kept hra hb3)
  have hs13 := hb13.size
  have hsw1 : w.heap.size + 2 ≤ w1.heap.size := by have := hb1.size; omega
  have hsw2 : w.heap.size + 2 ≤ w2.heap.size := by have := hb2.size; omega
  rw [← hla] at hla0 hlam ca1
  rw [← hlb] at hlb0 hlbm cb1
  have HLA := Lib.hid hla
  have HLB := Lib.hid hlb
  clear HRA hra hrb hla hlb hx1 hx2 hb1 hb2 hb3 hb12 hb13 hb0
  by_cases hgood : (ok0 && ba && bb) = true
  · have hpa : ok0 = true ∧ ba = true ∧ bb = true := by
      revert hgood; cases ok0 <;> cases ba <;> cases bb <;> simp
    obtain ⟨rfl, rfl, rfl⟩ := hpa
    have hP2 := HP.out
    rw [if_pos hgood] at hP2
    obtain ⟨ha, ta, rfl⟩ : ∃ h t, xa = h :: t := List.exists_cons_of_length_pos (by rw [← HLA.out]; exact hla0)
    obtain ⟨hb, tb, rfl⟩ : ∃ h t, xb = h :: t := List.exists_cons_of_length_pos (by rw [← HLB.out]; exact hlb0)
    have HDN := Lib.hid (show w.heap.size + 2 ≤ w1.heap.size ∧ w.heap.size + 2 ≤ w2.heap.size from ⟨hsw1, hsw2⟩)
    have HG1 := Lib.hid (HRA3.out.lt ga rfl).2
    have HG2 := Lib.hid (HRB.out.lt gb rfl).2
    have hga : w.heap.size + 2 ≤ ga := by have := (HRA3.out.lt ga rfl).1; omega
    have hgb : w.heap.size + 2 ≤ gb := by have := (HRB.out.lt gb rfl).1; omega
    have na : ∀ x ∈ ha :: ta, I64 x := fun x hx => by have := HNA.out x hx; unfold I64; omega
    have nb : ∀ x ∈ hb :: tb, I64 x := fun x hx => by have := HNB.out x hx; unfold I64; omega
    have NA := Lib.hid na
    have NB := Lib.hid nb
    have qa : ta.length ≤ 1000000 := by have := HLA.out; rw [List.length_cons] at this; omega
    have qb : tb.length ≤ 1000000 := by have := HLB.out; rw [List.length_cons] at this; omega
    obtain ⟨za, A, C, hA, hC, hAl, hCm, hIA⟩ := owns_tail HRA3.out rfl qa na
    obtain ⟨zb, B, D, hB, hD, hBl, hDm, hIB⟩ := owns_tail HRB.out rfl qb nb
    have ia := na ha (by simp)
    have ib := nb hb (by simp)
    have ea : (ha :: ta).length = ta.length + 1 := rfl
    have eb : (hb :: tb).length = tb.length + 1 := rfl
    rw [ea] at HLA
    rw [eb] at HLB
    obtain ⟨n1, hn1⟩ : ∃ n, n = ta.length := ⟨_, rfl⟩
    obtain ⟨n2, hn2⟩ : ∃ n, n = tb.length := ⟨_, rfl⟩
    rw [show (ha :: ta).length = n1 + 1 by rw [List.length_cons, hn1]]
    obtain rfl : la = n1 + 1 := by rw [HLA.out, hn1]
    obtain rfl : lb = n2 + 1 := by rw [HLB.out, hn2]
    rw [← hn1] at hIA qa hAl
    rw [← hn2] at hIB qb hBl
    have Q1 := Lib.hid hn1
    have Q2 := Lib.hid hn2
    have Q3 := Lib.hid hP2
    have Q4 := Lib.hid hA
    have Q5 := Lib.hid hB
    have Q6 := Lib.hid hC
    have Q7 := Lib.hid hD
    clear hgood HP hP2 HNA HNB na nb ea eb hn1 hn2 HLA HLB hA hB hC hD hla0 hlb0 hlam hlbm ca3 cb3
    have c1 : ca = 1 ∨ 1 < ca := by omega
    have c2 : cb = 1 ∨ 1 < cb := by omega
    go_wp2_with fail
    have hC0 : HasBlk (w.heap.size + 1) #[.int .i64 0, .slice none 0 0, .int .i64 0, .slice none 0 0] 24 w3 ∧ w3.cell? ⟨ga, 0, none⟩ = some (.int .i64 ha) ∧ w3.cell? ⟨gb, 0, none⟩ = some (.int .i64 hb) := ⟨hy2, za, zb⟩
    refine wp_region_class (fun W => HasBlk (w.heap.size + 1) #[.int .i64 0, .slice none 0 0, .int .i64 0, .slice none 0 0] 24 W ∧ W.cell? ⟨ga, 0, none⟩ = some (.int .i64 ha) ∧ W.cell? ⟨gb, 0, none⟩ = some (.int .i64 hb)) 11 (by kernel_rfl) ?_
    obtain ⟨wd, hwd⟩ : ∃ y, y = w3.drew := ⟨_, rfl⟩
    have hbd : Below w3.heap.size w3 wd := by rw [hwd]; exact (Below.refl _ _).drew
    rw [← hwd]
    replace hC0 : HasBlk (w.heap.size + 1) #[.int .i64 0, .slice none 0 0, .int .i64 0, .slice none 0 0] 24 wd ∧ wd.cell? ⟨ga, 0, none⟩ = some (.int .i64 ha) ∧ wd.cell? ⟨gb, 0, none⟩ = some (.int .i64 hb) := by rw [hwd]; exact hC0
    clear hwd
    refine wpAnyC_take 0 (.slice (some ⟨ga, 0, none⟩) (n1 + 1 : Nat) ca) rfl (by kernel_rfl) rfl (fun _ _ _ h => h) hC0 (fun W hW => by go_simp) ?_
    go_simp
    refine wpAnyC_take 1 (.pointer (some ⟨ga, 0, none⟩)) rfl (by kernel_rfl) rfl (fun _ _ _ h => h) hC0 (fun W hW => by go_simp) ?_
    go_simp
    refine wpAnyC_take 2 (.int .i64 ha) rfl (by kernel_rfl) rfl (fun _ _ _ h => h) hC0 (fun W hW => by obtain ⟨_, g1, g2⟩ := hW; go_simp) ?_
    go_simp
    refine wpAnyC_take 3 (.slice (some ⟨ga, 0, none⟩) (n1 + 1 : Nat) ca) rfl (by kernel_rfl) rfl (fun _ _ _ h => h) hC0 (fun W hW => by go_simp) ?_
    go_simp
    refine wpAnyC_take 4 (.slice (some A) n1 C) rfl (by kernel_rfl) rfl (fun _ _ _ h => h) hC0 (fun W hW => by
      rw [Q4.out, Q6.out]
      rcases c1 with rfl | c1
      · obtain rfl : n1 = 0 := by omega
        go_simp
      · have hne : ¬ ca = 1 := by omega
        have hlt : ¬ (n1 : Int) + 1 < 1 := by omega
        rw [if_neg hne]
        go_simp) ?_
    go_simp
    refine wpAnyC_take 5 (.slice (some ⟨gb, 0, none⟩) (n2 + 1 : Nat) cb) rfl (by kernel_rfl) rfl (fun _ _ _ h => h) hC0 (fun W hW => by go_simp) ?_
    go_simp
    refine wpAnyC_take 6 (.pointer (some ⟨gb, 0, none⟩)) rfl (by kernel_rfl) rfl (fun _ _ _ h => h) hC0 (fun W hW => by go_simp) ?_
    go_simp
    refine wpAnyC_take 7 (.int .i64 hb) rfl (by kernel_rfl) rfl (fun _ _ _ h => h) hC0 (fun W hW => by obtain ⟨_, g1, g2⟩ := hW; go_simp) ?_
    go_simp
    refine wpAnyC_take 8 (.slice (some ⟨gb, 0, none⟩) (n2 + 1 : Nat) cb) rfl (by kernel_rfl) rfl (fun _ _ _ h => h) hC0 (fun W hW => by go_simp) ?_
    go_simp
    refine wpAnyC_take 9 (.slice (some B) n2 D) rfl (by kernel_rfl) rfl (fun _ _ _ h => h) hC0 (fun W hW => by
      rw [Q5.out, Q7.out]
      rcases c2 with rfl | c2
      · obtain rfl : n2 = 0 := by omega
        go_simp
      · have hne : ¬ cb = 1 := by omega
        have hlt : ¬ (n2 : Int) + 1 < 1 := by omega
        rw [if_neg hne]
        go_simp) ?_
    go_simp
    refine wpAnyC_take 10 (.agg #[.int .i64 ha, .slice (some A) n1 C, .int .i64 hb, .slice (some B) n2 D]) rfl (by kernel_rfl) rfl (fun _ _ _ h => h) hC0 (fun W hW => by go_simp) ?_
    go_simp
    obtain ⟨hy3, -, -⟩ := hC0
    obtain ⟨x0, x1, x2, x3⟩ := four_cells hy3.out
    have f0 := row_frozen4 hy3 0
    have f1 := row_frozen4 hy3 1
    have f2 := row_frozen4 hy3 2
    have f3 := row_frozen4 hy3 3
    refine wpAnyC_act 11 rfl (by kernel_rfl) rfl ?_
    go_simp
    refine wpAnyC_done (by kernel_rfl) ?_
    have HY := Lib.hid (write4 hy3.out (.int .i64 ha) (.slice (some A) n1 C) (.int .i64 hb) (.slice (some B) n2 D))
    obtain ⟨wE, hwE⟩ : ∃ y, y = ((((wd.setCell ⟨w.heap.size + 1, 0, none⟩ (.int .i64 ha)).setCell ⟨w.heap.size + 1, 1, none⟩ (.slice (some A) n1 C)).setCell ⟨w.heap.size + 1, 2, none⟩ (.int .i64 hb)).setCell ⟨w.heap.size + 1, 3, none⟩ (.slice (some B) n2 D)) := ⟨_, rfl⟩
    have hO3 : Only (fun b => b = w.heap.size ∨ b = w.heap.size + 1) w3 wE := by
      rw [hwE]
      exact ((((Only.of_below hbd).setCell (p := ⟨w.heap.size + 1, 0, none⟩) (.inl (.inr rfl)) _).setCell (p := ⟨w.heap.size + 1, 1, none⟩) (.inl (.inr rfl)) _).setCell (p := ⟨w.heap.size + 1, 2, none⟩) (.inl (.inr rfl)) _).setCell (p := ⟨w.heap.size + 1, 3, none⟩) (.inl (.inr rfl)) _
    have hy4 : HasBlk (w.heap.size + 1) #[.int .i64 ha, .slice (some A) n1 C, .int .i64 hb, .slice (some B) n2 D] 24 wE := by rw [hwE]; exact HY.out
    have hyr : HasBlk w.heap.size #[.int .i64 0, .slice none 0 0, .int .i64 0, .slice none 0 0] 24 wE := by
      rw [hwE]
      exact (Below.heap_setCell _ _ _ _ (by simp)).trans ((Below.heap_setCell _ _ _ _ (by simp)).trans ((Below.heap_setCell _ _ _ _ (by simp)).trans ((Below.heap_setCell _ _ _ _ (by simp)).trans (hy1.below hbd (by omega)))))
    have hbE : Below w.heap.size w wE := hbw.trans (hO3.below hbw.size (fun k hk hS => by omega))
    have hTE : TextOk wE := HT.out.up hbE
    rw [← hwE]
    have hIs : ∀ (W : World), Only (fun b => b = w.heap.size ∨ b = w.heap.size + 1) w3 W → IsDesc W.heap.size W (.agg #[.int .i64 ha, .slice (some A) n1 C, .int .i64 hb, .slice (some B) n2 D]) (descOf (ha :: ta) (hb :: tb)) := fun W hO => by
      obtain ⟨_, A', C', hA', hC', _, _, hI1⟩ := owns_tail (owns_only HRA3.out hO (fun b hb h => by cases h; have hb' : ga = w.heap.size ∨ ga = w.heap.size + 1 := hb; omega)) rfl (by rw [← Q1.out]; exact qa) NA.out
      obtain ⟨_, B', D', hB', hD', _, _, hI2⟩ := owns_tail (owns_only HRB.out hO (fun b hb h => by cases h; have hb' : gb = w.heap.size ∨ gb = w.heap.size + 1 := hb; omega)) rfl (by rw [← Q2.out]; exact qb) NB.out
      obtain rfl : A = A' := Q4.out.trans hA'.symm
      obtain rfl : B = B' := Q5.out.trans hB'.symm
      obtain rfl : C = C' := Q6.out.trans hC'.symm
      obtain rfl : D = D' := Q7.out.trans hD'.symm
      rw [← Q1.out] at hI1
      rw [← Q2.out] at hI2
      exact ⟨_, _, rfl, ia, ib, hI1, hI2⟩
    have hPr := print_any (hIs _ hO3) hTE
    have HIS := Lib.hid hIs
    obtain ⟨d, hd'⟩ : ∃ d, d = descOf (ha :: ta) (hb :: tb) := ⟨_, rfl⟩
    have HD' := Lib.hid hd'
    rw [← hd'] at hPr
    rw [← hd'] at Q3 HIS
    obtain ⟨ps, hps⟩ : ∃ x : ByteArray, x = ⟨(prS d).toArray⟩ := ⟨_, rfl⟩
    obtain ⟨pe, hpe⟩ : ∃ x : Int, x = prE d := ⟨_, rfl⟩
    rw [← hps, ← hpe] at hPr
    have HPS := Lib.hid hps
    have HPE := Lib.hid hpe
    obtain ⟨z0, z1, z2, z3⟩ := four_cells hy4.out
    clear hIs hwE HY hy1 hy2 hy3 x0 x1 x2 x3 f0 f1 f2 f3 hd' hps hpe za zb hIA hIB hbd hT3
    go_wp2_with fail
    refine hPr.mono ?_
    clear hPr
    rintro e w5 ⟨rfl, hb5⟩
    have hO5 := hO3.kept hb5
    replace hy4 := hy4.below hb5 (Array.getElem?_eq_some_iff.1 hy4.out).1
    replace hyr := hyr.below hb5 (Array.getElem?_eq_some_iff.1 hyr.out).1
    replace hbE := kept_trans hbE hb5
    clear z0 z1 z2 z3 hb5 hTE hO3 HRA3 HRB
    obtain ⟨z0, z1, z2, z3⟩ := four_cells hy4.out
    obtain ⟨x0, x1, x2, x3⟩ := four_cells hyr.out
    have f0 := row_frozen4 hyr.out 0
    have f1 := row_frozen4 hyr.out 1
    have f2 := row_frozen4 hyr.out 2
    have f3 := row_frozen4 hyr.out 3
    by_cases hr : rightD d = true
    · have he0 : pe = 0 := by rw [HPE.out]; unfold prE; rw [if_pos hr]
      subst he0
      have hsp : ps = ⟨(printD d).toArray⟩ := by rw [HPS.out]; unfold prS; rw [if_pos hr]
      by_cases hq : ps = s
      · have HE := Lib.hid (show parseL s.data.toList = some d by
          rw [Q3.out, hr, if_pos]
          rw [Bool.true_and, decide_eq_true_eq, ← hq, hsp])
        have hq1 : (ps.toList == s.toList) = true := by rw [hq]; exact beq_self_eq_true s.toList
        have HY := Lib.hid (write4 hyr.out (.int .i64 ha) (.slice (some A) n1 C) (.int .i64 hb) (.slice (some B) n2 D))
        clear hq hsp Q3 hr hy4 hyr
        go_wp2_with fail
        obtain ⟨r0, r1, r2, r3⟩ := four_cells HY.out
        refine bodyPost_ret (v := .tuple #[.agg #[.int .i64 ha, .slice (some A) n1 C, .int .i64 hb, .slice (some B) n2 D], .int .i64 0]) ?_ rfl ⟨.slice (some A) n1 C, .slice (some B) n2 D, by unfold parseE; rw [HE.out, HD'.out]; rfl, ?_, ?_, ?_, ?_, ?_⟩
        · clear x0 x1 x2 x3 z0 z1 z2 z3
          simp [results, Tryd.results17, go_sem, r0, r1, r2, r3]
        · rw [HE.out]
          have hI := HIS.out
          rw [HD'.out] at hI ⊢
          exact hI _ ((((hO5.setCell (p := ⟨w.heap.size, 0, none⟩) (.inl (.inl rfl)) _).setCell (p := ⟨w.heap.size, 1, none⟩) (.inl (.inl rfl)) _).setCell (p := ⟨w.heap.size, 2, none⟩) (.inl (.inl rfl)) _).setCell (p := ⟨w.heap.size, 3, none⟩) (.inl (.inl rfl)) _)
        · intro b hb'
          have e1 : A.block = ga := by rw [Q4.out]; split <;> rfl
          have e2 : some A.block = some b := hb'
          rw [e1] at e2
          cases e2
          omega
        · intro b hb'
          have e1 : B.block = gb := by rw [Q5.out]; split <;> rfl
          have e2 : some B.block = some b := hb'
          rw [e1] at e2
          cases e2
          omega
        · intro b hb'
          have e1 : A.block = ga := by rw [Q4.out]; split <;> rfl
          have e3 : B.block = gb := by rw [Q5.out]; split <;> rfl
          have hs5 : w3.heap.size ≤ (((((w5.setCell ⟨w.heap.size, 0, none⟩ (.int .i64 ha)).setCell ⟨w.heap.size, 1, none⟩ (.slice (some A) n1 C)).setCell ⟨w.heap.size, 2, none⟩ (.int .i64 hb)).setCell ⟨w.heap.size, 3, none⟩ (.slice (some B) n2 D))).heap.size := by
            simpa [World.setCell] using hO5.size
          rcases hb' with h | h
          · have e2 : some A.block = some b := h
            rw [e1] at e2
            cases e2
            exact Nat.lt_of_lt_of_le HG1.out hs5
          · have e2 : some B.block = some b := h
            rw [e3] at e2
            cases e2
            exact Nat.lt_of_lt_of_le HG2.out hs5
        · exact (((hbE.setCell (p := ⟨w.heap.size, 0, none⟩) (Nat.le_refl _) _).setCell (p := ⟨w.heap.size, 1, none⟩) (Nat.le_refl _) _).setCell (p := ⟨w.heap.size, 2, none⟩) (Nat.le_refl _) _).setCell (p := ⟨w.heap.size, 3, none⟩) (Nat.le_refl _) _
      · have HE := Lib.hid (show parseL s.data.toList = none by
          rw [Q3.out, hr, if_neg]
          rw [Bool.true_and, decide_eq_true_eq]
          intro h
          exact hq (by rw [hsp, h]))
        have hq1 : (ps.toList == s.toList) = false := beq_eq_false_iff_ne.2 (fun h => hq (ByteArray.ext (Array.ext' (by rw [← ByteArray.toList_eq, ← ByteArray.toList_eq]; exact h))))
        have HY := Lib.hid (write4 hyr.out (.int .i64 0) (.slice none 0 0) (.int .i64 0) (.slice none 0 0))
        clear hq hsp Q3 hr hy4 hyr
        go_wp2_with fail
        obtain ⟨r0, r1, r2, r3⟩ := four_cells HY.out
        refine bodyPost_ret (v := .tuple #[.agg #[.int .i64 0, .slice none 0 0, .int .i64 0, .slice none 0 0], .int .i64 40]) ?_ rfl ⟨.slice none 0 0, .slice none 0 0, by unfold parseE; rw [HE.out]; rfl, ?_, FreshB.nil _, FreshB.nil _, (fun b hb => by rcases hb with h | h <;> cases h), ?_⟩
        · clear x0 x1 x2 x3 z0 z1 z2 z3
          simp [results, Tryd.results17, go_sem, r0, r1, r2, r3]
        · rw [HE.out]; exact ⟨_, _, rfl, i64_zero, i64_zero, IsSl.nil, IsSl.nil⟩
        · exact (((hbE.setCell (p := ⟨w.heap.size, 0, none⟩) (Nat.le_refl _) _).setCell (p := ⟨w.heap.size, 1, none⟩) (Nat.le_refl _) _).setCell (p := ⟨w.heap.size, 2, none⟩) (Nat.le_refl _) _).setCell (p := ⟨w.heap.size, 3, none⟩) (Nat.le_refl _) _
    · have he0 : pe = 40 := by rw [HPE.out]; unfold prE; rw [if_neg hr]
      subst he0
      have HE := Lib.hid (show parseL s.data.toList = none by
        rw [Q3.out, if_neg]
        rw [Bool.and_eq_true]
        exact fun h => hr h.1)
      have HY := Lib.hid (write4 hyr.out (.int .i64 0) (.slice none 0 0) (.int .i64 0) (.slice none 0 0))
      clear Q3 hr hy4 hyr
      go_wp2_with fail
      obtain ⟨r0, r1, r2, r3⟩ := four_cells HY.out
      refine bodyPost_ret (v := .tuple #[.agg #[.int .i64 0, .slice none 0 0, .int .i64 0, .slice none 0 0], .int .i64 40]) ?_ rfl ⟨.slice none 0 0, .slice none 0 0, by unfold parseE; rw [HE.out]; rfl, ?_, FreshB.nil _, FreshB.nil _, (fun b hb => by rcases hb with h | h <;> cases h), ?_⟩
      · clear x0 x1 x2 x3 z0 z1 z2 z3
        simp [results, Tryd.results17, go_sem, r0, r1, r2, r3]
      · rw [HE.out]; exact ⟨_, _, rfl, i64_zero, i64_zero, IsSl.nil, IsSl.nil⟩
      · exact (((hbE.setCell (p := ⟨w.heap.size, 0, none⟩) (Nat.le_refl _) _).setCell (p := ⟨w.heap.size, 1, none⟩) (Nat.le_refl _) _).setCell (p := ⟨w.heap.size, 2, none⟩) (Nat.le_refl _) _).setCell (p := ⟨w.heap.size, 3, none⟩) (Nat.le_refl _) _
  · have HE := Lib.hid (show parseL s.data.toList = none by rw [HP.out, if_neg hgood])
    have hbad : ok0 = false ∨ (ok0 = true ∧ ba = false) ∨ (ok0 = true ∧ ba = true ∧ bb = false) := by
      revert hgood; cases ok0 <;> cases ba <;> cases bb <;> simp
    have f0 := row_frozen4 hy1 0
    have f1 := row_frozen4 hy1 1
    have f2 := row_frozen4 hy1 2
    have f3 := row_frozen4 hy1 3
    obtain ⟨y0, y1, y2, y3⟩ := four_cells hy2.out
    obtain ⟨x0, x1, x2, x3⟩ := four_cells hy1.out
    have HY := Lib.hid (write4 hy1.out (.int .i64 0) (.slice none 0 0) (.int .i64 0) (.slice none 0 0))
    clear HP hgood hy1 hy2
    rcases hbad with rfl | ⟨rfl, rfl⟩ | ⟨rfl, rfl, rfl⟩
    all_goals
      go_wp2_with fail
      obtain ⟨r0, r1, r2, r3⟩ := four_cells HY.out
      refine bodyPost_ret (v := .tuple #[.agg #[.int .i64 0, .slice none 0 0, .int .i64 0, .slice none 0 0], .int .i64 40]) ?_ rfl ⟨.slice none 0 0, .slice none 0 0, by unfold parseE; rw [HE.out]; rfl, ?_, FreshB.nil _, FreshB.nil _, (fun b hb => by rcases hb with h | h <;> cases h), ?_⟩
      · simp [results, Tryd.results17, go_sem, r0, r1, r2, r3]
      · rw [HE.out]; exact ⟨_, _, rfl, i64_zero, i64_zero, IsSl.nil, IsSl.nil⟩
      · exact (((hbw.setCell (p := ⟨w.heap.size, 0, none⟩) (Nat.le_refl _) _).setCell (p := ⟨w.heap.size, 1, none⟩) (Nat.le_refl _) _).setCell (p := ⟨w.heap.size, 2, none⟩) (Nat.le_refl _) _).setCell (p := ⟨w.heap.size, 3, none⟩) (Nat.le_refl _) _
theorem parse_any (s : ByteArray) (w : World) (hs : s.size ≤ 100000) (hT : TextOk w) : Calls Tryd.prog 17 #[.string s] w (ParsePost s w) :=
  (parse_own s w hs hT).mono fun _ _ ⟨_, _, h1, h2, _, _, _, h3⟩ => ⟨_, h1, h2, h3⟩
end Go.Proofs.YtjhmghcfhgajcaaDoor
