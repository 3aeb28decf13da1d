/- Layer 4, disk: plain laws for the end of the statement DiskKeeps. -/
import Derived.Test.YtcfjdldlcdomgaaDkI
namespace Go.Proofs.DkW
open Go Go.RowKit Go.Tk Go.Dk Go.Sp

theorem cut_row {W : World} {g : Nat} {l : List (List UInt8 × Nat)} (h : Bk W g 55 (enc l).toArray) (j : Nat) (hj : j < l.length) (s : List UInt8) (n : Nat) :
    Bk ((W.setCell ⟨g, j * 2, none⟩ (.string ⟨s.toArray⟩)).setCell ⟨g, j * 2 + 1, none⟩ (.int .i64 (n : Int))) g 55 (enc (l.set j (s, n))).toArray := by
  have h1 := h.set (j * 2) (str s)
  rw [List.setIfInBounds_toArray, enc_set_s _ _ hj] at h1
  have h2 := h1.set (j * 2 + 1) (.int .i64 (n : Int))
  rw [List.setIfInBounds_toArray, enc_set_n _ _ (by simpa using hj)] at h2
  simp only [List.getElem_set_self, List.set_set] at h2
  exact h2
theorem s_row {W : World} {g : Nat} {l : List (List UInt8 × Nat)} (h : Bk W g 55 (enc l).toArray) (j : Nat) (hj : j < l.length) (s : List UInt8) :
    Bk (W.setCell ⟨g, j * 2, none⟩ (.string ⟨s.toArray⟩)) g 55 (enc (l.set j (s, l[j].2))).toArray := by
  have h1 := h.set (j * 2) (str s)
  rw [List.setIfInBounds_toArray, enc_set_s _ _ hj] at h1
  exact h1
theorem n_row {W : World} {g : Nat} {l : List (List UInt8 × Nat)} (h : Bk W g 55 (enc l).toArray) (j : Nat) (hj : j < l.length) (n : Nat) :
    Bk (W.setCell ⟨g, j * 2 + 1, none⟩ (.int .i64 (n : Int))) g 55 (enc (l.set j (l[j].1, n))).toArray := by
  have h1 := h.set (j * 2 + 1) (.int .i64 (n : Int))
  rw [List.setIfInBounds_toArray, enc_set_n _ _ hj] at h1
  exact h1

def xy (j : Nat) : List UInt8 := (List.replicate j [120, 121]).flatten
theorem xy_succ (j : Nat) : xy (j + 1) = xy j ++ [120, 121] := by simp [xy, List.replicate_succ']
theorem xy_len (j : Nat) : (xy j).length = 2 * j := by
  induction j with
  | zero => rfl
  | succ j ih => rw [xy_succ, List.length_append, ih]; simp; omega
/-- The fuse is lit; so many appends have gone. -/
def lx (st : St) (n k j : Nat) : St := { st with files := st.files.set 0 ((st.file 0).1 ++ xy j, (st.file 0).2), fuse := some ((n : Int) - j, [(k : Int)]) }
section
variable {st : St} {m fl n k : Nat}
theorem lx_file (h : Q st m fl) (j : Nat) : (lx st n k j).file 0 = ((st.file 0).1 ++ xy j, (st.file 0).2) := by
  have := h.three
  simp [lx, St.file, show 0 < st.files.length by omega]
theorem lx_zero (h : Q st m fl) : st.light (n : Int) [(k : Int)] = (lx st n k 0, 0) := by
  have h3 := h.three
  have e : st.files.set 0 ((st.file 0).1, (st.file 0).2) = st.files := by
    rw [← St.file_eq (show 0 < st.files.length by omega)]; exact List.set_getElem_self (by omega)
  have hn : ¬ (n : Int) < 0 := by omega
  unfold St.light lx
  rw [h.off, if_neg (by decide), if_neg hn]
  simp [xy, e]
theorem lx_is (h : Q st m fl) (j : Nat) : (lx st n k j).is 0 = true := by
  have := h.three
  simp [lx, St.is]; omega
theorem lx_burnt (j : Nat) : (lx st n k j).burnt = decide ((n : Int) - j < 1) := rfl
theorem lx_succ (h : Q st m fl) (hm : m ≤ 100000) {j : Nat} (hj : j < n) (hn : n ≤ 5) : (lx st n k j).append 0 [120, 121] = (lx st n k (j + 1), 0) := by
  have h3 := h.three
  have hs := (h.small _ (h.mem (show 0 < 3 by decide))).2
  have hb : (lx st n k j).burnt = false := by rw [lx_burnt]; simp; omega
  have hl : ¬ 16777216 < ((lx st n k j).file 0).1.length + [(120 : UInt8), 121].length := by rw [lx_file h]; simp [xy_len]; omega
  have hoff : (lx st n k j).off = false := h.off
  unfold St.append
  rw [hoff, lx_is h, hb, Int.toNat_zero, lx_file h]
  rw [lx_file h] at hl
  rw [if_neg (by decide), if_neg (by decide), if_neg hl, if_neg (by decide)]
  refine Prod.ext ?_ rfl
  simp [lx, St.put, St.lit, xy_succ]
  omega
theorem lx_ok (h : Q st m fl) (hm : m ≤ 100000) {j : Nat} (hj : j ≤ n) (hn : n ≤ 5) : (lx st n k j).Ok fl := by
  have h3 := h.three
  have hs := h.small _ (h.mem (show 0 < 3 by decide))
  refine ⟨⟨by simp [lx]; omega, by simp [lx]; omega, fun x hx => ?_, by have := h.falls; simp [lx]; omega⟩, fun a b hab => ?_⟩
  · rcases List.mem_or_eq_of_mem_set hx with h1 | rfl
    · have := h.small x h1; omega
    · simp [xy_len]; omega
  · simp only [lx, Option.some.injEq, Prod.mk.injEq] at hab
    omega
theorem lx_files (j : Nat) : (lx st n k j).files.set 0 ((st.file 0).1 ++ xy (j + 1), (st.file 0).2) = (lx st n k (j + 1)).files := by simp [lx]
theorem lx_files0 (h : Q st m fl) : (lx st n k 0).files = st.files := by
  have h3 := h.three
  simp only [lx, xy, List.replicate_zero, List.flatten_nil, List.append_nil]
  rw [← St.file_eq (show 0 < st.files.length by omega)]; exact List.set_getElem_self (by omega)
theorem lx_len (h : Q st m fl) (j : Nat) : (lx st n k j).files.length = 3 := by simp [lx, h.three]
theorem lx_at (h : Q st m fl) (j : Nat) (hl : 0 < (lx st n k j).files.length) : (lx st n k j).files[0] = ((st.file 0).1 ++ xy j, (st.file 0).2) := by simp [lx]
/-- What the cut-off append leaves. -/
def zz (st : St) (n k : Nat) : St := ((lx st n k n).lit.put 0 ((st.file 0).1 ++ xy n ++ [122, 122, 122], (st.file 0).2)).fall [(k : Int)]
theorem zz_append (h : Q st m fl) (hm : m ≤ 100000) (hn : n ≤ 5) : (lx st n k n).append 0 [122, 122, 122] = (zz st n k, 40) := by
  have hs := (h.small _ (h.mem (show 0 < 3 by decide))).2
  have hb : (lx st n k n).burnt = true := by rw [lx_burnt]; simp
  have hl : ¬ 16777216 < ((lx st n k n).file 0).1.length + [(122 : UInt8), 122, 122].length := by rw [lx_file h]; simp [xy_len]; omega
  have hoff : (lx st n k n).off = false := h.off
  unfold St.append
  rw [hoff, lx_is h, hb, Int.toNat_zero, lx_file h]
  rw [lx_file h] at hl
  rw [if_neg (by decide), if_neg (by decide), if_neg hl, if_pos rfl]
  rfl
/-- All three files then, ahead of the fall. -/
def zf (st : St) (n : Nat) : List (List UInt8 × Nat) := st.files.set 0 ((st.file 0).1 ++ xy n ++ [122, 122, 122], (st.file 0).2)
theorem lx_zf : (lx st n k n).files.set 0 ((st.file 0).1 ++ xy n ++ [122, 122, 122], (st.file 0).2) = zf st n := by simp [lx, zf]
theorem zf_len (h : Q st m fl) : (zf st n).length = 3 := by simp [zf, h.three]
theorem zf_small (h : Q st m fl) (hn : n ≤ 5) : ∀ x ∈ zf st n, x.2 ≤ x.1.length ∧ x.1.length ≤ m + 20 := by
  intro x hx
  have hs := h.small _ (h.mem (show 0 < 3 by decide))
  rcases List.mem_or_eq_of_mem_set hx with h1 | rfl
  · have := h.small x h1; omega
  · simp [xy_len]; omega
theorem zz_files (h : Q st m fl) (hn : n ≤ 5) : (zz st n k).restart = { files := (zf st n).mapIdx (cut [k]), off := false, falls := fl + 1, fuse := none } := by
  have h3 := h.three
  have e : ((lx st n k n).lit.put 0 ((st.file 0).1 ++ xy n ++ [122, 122, 122], (st.file 0).2)).files = zf st n := by simp [lx, St.lit, St.put, zf]
  have ef : ((lx st n k n).lit.put 0 ((st.file 0).1 ++ xy n ++ [122, 122, 122], (st.file 0).2)).falls = fl := h.falls
  unfold zz St.restart St.fall
  rw [e, ef]
  congr 1
  apply List.ext_getElem
  · simp
  · intro i h1 h2
    simp only [List.getElem_mapIdx]
    exact cut_fall [k] _ _ (zf_small h hn _ (List.getElem_mem _)).1
theorem zz_q (h : Q st m fl) (hn : n ≤ 5) : Q (zz st n k).restart (m + 20) (fl + 1) := by
  rw [zz_files h hn]
  refine ⟨rfl, rfl, rfl, by simp [zf_len h], fun x hx => ?_⟩
  obtain ⟨i, hi, rfl⟩ := List.getElem_of_mem hx
  simp only [List.getElem_mapIdx] at *
  have hi' : i < (zf st n).length := by simpa using hi
  have := (zf_small h hn _ (List.getElem_mem hi')).2
  unfold cut
  refine ⟨by simp, ?_⟩
  simp only [List.length_take]; omega
theorem zz_off : (zz st n k).off = true := rfl
theorem zz_ok (h : Q st m fl) (hm : m ≤ 100000) (hn : n ≤ 5) : (zz st n k).Ok (fl + 1) := by
  have h1 := (zz_q (k := k) h hn).ok (m := fl + 1) (by omega) (Nat.le_refl _)
  exact ⟨⟨h1.some, h1.many, h1.file, h1.falls⟩, fun a b hab => by cases hab⟩
theorem zf_at (h : Q st m fl) (hl : 0 < (zf st n).length) : (zf st n)[0] = ((st.file 0).1 ++ xy n ++ [122, 122, 122], (st.file 0).2) := by simp [zf]
/-- The first so many are told as they lie. -/
def fin_ (k : Nat) (l : List (List UInt8 × Nat)) (j : Nat) : List (List UInt8 × Nat) := l.mapIdx fun i x => if i < j then cut [k] i x else if i = 0 then (x.1.take (min x.1.length (x.2 + k)), x.2) else x
theorem fin_len (l : List (List UInt8 × Nat)) (j : Nat) : (fin_ k l j).length = l.length := by simp [fin_]
theorem fin_zero (l : List (List UInt8 × Nat)) (h : 0 < l.length) : l.set 0 (l[0].1.take (min l[0].1.length (l[0].2 + k)), l[0].2) = fin_ k l 0 := by
  apply List.ext_getElem
  · simp [fin_]
  · intro i h1 h2
    by_cases e : i = 0
    · subst e; simp [fin_]
    · rw [List.getElem_set_ne (Ne.symm e)]; simp [fin_, e]
theorem fin_all (l : List (List UInt8 × Nat)) : fin_ k l l.length = l.mapIdx (cut [k]) := by
  apply List.ext_getElem
  · simp [fin_]
  · intro i h1 h2
    simp [fin_] at h1
    simp [fin_, h1]
theorem fin_first (l : List (List UInt8 × Nat)) (h : 0 < l.length) : (fin_ k l 0)[0]'(by simpa [fin_] using h) = (l[0].1.take (min l[0].1.length (l[0].2 + k)), l[0].2) := by simp [fin_]
theorem fin_next (l : List (List UInt8 × Nat)) (j : Nat) (h0 : 0 < j) (h : j < l.length) : (fin_ k l j)[j]'(by simpa [fin_] using h) = l[j] := by
  have : ¬ j = 0 := by omega
  simp [fin_, this]
theorem cut_next (j : Nat) (h0 : 0 < j) (x : List UInt8 × Nat) (hx : x.2 ≤ x.1.length) : cut [k] j x = (x.1.take x.2, x.2) := by
  have e : ([k] : List Nat).getD j 0 = 0 := by
    rw [List.getD_eq_getElem?_getD, List.getElem?_eq_none (by simp; omega)]; rfl
  unfold cut
  rw [e, Nat.add_zero, Nat.min_eq_right hx]
theorem fin_step (l : List (List UInt8 × Nat)) (j : Nat) (h : j < l.length) : (fin_ k l j).set j (cut [k] j l[j]) = fin_ k l (j + 1) := by
  apply List.ext_getElem
  · simp [fin_]
  · intro i h1 h2
    simp [fin_] at h1
    by_cases e : i = j
    · subst e; simp [fin_]
    · rw [List.getElem_set_ne (Ne.symm e)]
      simp only [fin_, List.getElem_mapIdx]
      by_cases h : i < j
      · rw [if_pos h, if_pos (by omega)]
      · rw [if_neg h, if_neg (show ¬ i < j + 1 by omega)]
end
end Go.Proofs.DkW
