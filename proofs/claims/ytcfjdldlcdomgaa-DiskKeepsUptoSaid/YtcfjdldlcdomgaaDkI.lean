/- Layer 4, disk: plain laws for the statement DiskKeeps; its walk's ghost. -/
import Derived.Test.YtcfjdldlcdomgaaDkH
namespace Go.Proofs.DkW
open Go Go.RowKit Go.Tk Go.Dk Go.Sp

/-- The deeds: three numbers each. -/
def dv (d : Int × Int × Int) : List Value := [.int .i64 d.1, .int .i64 d.2.1, .int .i64 d.2.2]
def I64 (c : Int) : Prop := -9223372036854775808 ≤ c ∧ c ≤ 9223372036854775807
def Ds (w : World) (v : Value) (ds : List (Int × Int × Int)) : Prop := Sl w 3 v ds.length (ds.flatMap dv) ∧ ∀ d ∈ ds, I64 d.1 ∧ I64 d.2.1 ∧ I64 d.2.2
theorem dv_get : ∀ (ds : List (Int × Int × Int)) (k : Nat) (h : k < ds.length), (ds.flatMap dv)[k * 3]? = some (.int .i64 ds[k].1) ∧ (ds.flatMap dv)[k * 3 + 1]? = some (.int .i64 ds[k].2.1) ∧ (ds.flatMap dv)[k * 3 + 2]? = some (.int .i64 ds[k].2.2)
  | d :: ds, 0, _ => ⟨rfl, rfl, rfl⟩
  | d :: ds, k + 1, h => by
    have := dv_get ds k (by simpa using h)
    rw [show (k + 1) * 3 = k * 3 + 1 + 1 + 1 by omega]
    simpa [dv, List.flatMap_cons] using this

/-- A disk whose power is on, with no fuse. -/
structure Q (st : St) (n fl : Nat) : Prop where
  off : st.off = false
  fuse : st.fuse = none
  falls : st.falls = fl
  three : st.files.length = 3
  small : ∀ x ∈ st.files, x.2 ≤ x.1.length ∧ x.1.length ≤ n
section
variable {st : St} {n fl m : Nat}
theorem Q.ok (h : Q st n fl) (hn : n ≤ 16777216) (hm : fl ≤ m) : st.Ok m :=
  ⟨⟨by have := h.three; omega, by have := h.three; omega, fun x hx => ⟨(h.small x hx).1, by have := (h.small x hx).2; omega⟩, by have := h.falls; omega⟩, fun n k hk => by rw [h.fuse] at hk; cases hk⟩
theorem Q.mono (h : Q st n fl) (hm : n ≤ m) : Q st m fl := ⟨h.off, h.fuse, h.falls, h.three, fun x hx => ⟨(h.small x hx).1, by have := (h.small x hx).2; omega⟩⟩
theorem Q.lit (h : Q st n fl) : st.lit = st := by
  obtain ⟨files, off, falls, fuse⟩ := st
  obtain rfl : fuse = none := h.fuse
  rfl
theorem Q.burnt (h : Q st n fl) : st.burnt = false := by unfold St.burnt; rw [h.fuse]
theorem Q.is (h : Q st n fl) {f : Nat} (hf : f < 3) : st.is (f : Int) = true := by simp [St.is, h.three]; omega
theorem Q.mem (h : Q st n fl) {f : Nat} (hf : f < 3) : st.file f ∈ st.files := by
  have := h.three
  rw [← St.file_eq (by omega)]; exact List.getElem_mem _
theorem Q.put (h : Q st n fl) {f : Nat} {x : List UInt8 × Nat} (hm : n ≤ m) (hx : x.2 ≤ x.1.length ∧ x.1.length ≤ m) : Q (st.put f x) m fl :=
  ⟨h.off, h.fuse, h.falls, by simpa [St.put] using h.three, fun y hy => by
    rcases List.mem_or_eq_of_mem_set hy with h1 | rfl
    · exact ⟨(h.small y h1).1, by have := (h.small y h1).2; omega⟩
    · exact hx⟩
theorem Q.append (h : Q st n fl) {f : Nat} (hf : f < 3) (s : List UInt8) (hs : n + s.length ≤ 16777216) : st.append (f : Int) s = (st.put f ((st.file f).1 ++ s, (st.file f).2), 0) := by
  have := (h.small _ (h.mem hf)).2
  have hl : ¬ 16777216 < (st.file f).1.length + s.length := by omega
  simp [St.append, h.off, h.is hf, h.burnt, h.lit, hl]
theorem Q.sync (h : Q st n fl) {f : Nat} (hf : f < 3) : st.sync (f : Int) = (st.put f ((st.file f).1, (st.file f).1.length), 0) := by
  simp [St.sync, h.off, h.is hf, h.burnt, h.lit]
theorem Q.truncate (h : Q st n fl) {f k : Nat} (hf : f < 3) (hk : k ≤ (st.file f).1.length) : st.truncate (f : Int) (k : Int) = (st.put f ((st.file f).1.take k, min (st.file f).2 k), 0) := by
  have hl : ¬ ((k : Int) < 0 ∨ ((st.file f).1.length : Int) < (k : Int)) := by omega
  simp only [St.truncate, h.off, h.is hf, h.burnt, h.lit, if_neg hl]; simp [hk]
/-- What a fall leaves, by hand. -/
def cut (keep : List Nat) (i : Nat) (x : List UInt8 × Nat) : List UInt8 × Nat := (x.1.take (min x.1.length (x.2 + keep.getD i 0)), min x.1.length (x.2 + keep.getD i 0))
theorem cut_fall (keep : List Nat) (i : Nat) (x : List UInt8 × Nat) (h : x.2 ≤ x.1.length) : fallFile (keep.map fun k => ((k : Nat) : Int)) i x = cut keep i x := by
  have e : x.2 + kept (keep.map fun k => ((k : Nat) : Int)) i x.1.length x.2 = min x.1.length (x.2 + keep.getD i 0) := by
    unfold kept
    have : (keep.map fun k => ((k : Nat) : Int)).getD i 0 = ((keep.getD i 0 : Nat) : Int) := by
      simp only [List.getD_eq_getElem?_getD, List.getElem?_map]
      cases keep[i]? <;> rfl
    rw [this]; omega
  unfold fallFile cut
  rw [e]
theorem Q.crash (h : Q st n fl) (keep : List Nat) : (st.crash (keep.map fun k => ((k : Nat) : Int))).restart = { files := st.files.mapIdx (cut keep), off := false, falls := fl + 1, fuse := none } := by
  simp only [St.crash, h.off, St.restart, St.fall, h.falls, Bool.false_eq_true, if_false, St.mk.injEq, and_true, true_and]
  apply List.ext_getElem
  · simp
  · intro i h1 h2
    simp only [List.getElem_mapIdx]
    exact cut_fall _ _ _ (h.small _ (List.getElem_mem _)).1
theorem Q.crashed (h : Q st n fl) (keep : List Nat) : Q ((st.crash (keep.map fun k => ((k : Nat) : Int))).restart) n (fl + 1) := by
  rw [h.crash keep]
  refine ⟨rfl, rfl, rfl, by simpa using h.three, fun x hx => ?_⟩
  obtain ⟨i, hi, rfl⟩ := List.getElem_of_mem hx
  simp only [List.getElem_mapIdx] at *
  have := (h.small _ (List.getElem_mem (by simpa using hi) : st.files[i]'(by simpa using hi) ∈ st.files)).2
  unfold cut
  refine ⟨by simp, ?_⟩
  simp only [List.length_take]; omega
/-- The first so many are cut. -/
def part' (keep : List Nat) (l : List (List UInt8 × Nat)) (j : Nat) : List (List UInt8 × Nat) := l.mapIdx fun i x => if i < j then cut keep i x else x
theorem part'_zero (keep : List Nat) (l : List (List UInt8 × Nat)) : part' keep l 0 = l := by simp [part', List.mapIdx_eq_zipIdx_map]
theorem part'_length (keep : List Nat) (l : List (List UInt8 × Nat)) (j : Nat) : (part' keep l j).length = l.length := by simp [part']
theorem part'_all (keep : List Nat) (l : List (List UInt8 × Nat)) : part' keep l l.length = l.mapIdx (cut keep) := by
  apply List.ext_getElem
  · simp [part']
  · intro i h1 h2
    simp [part'] at h1 ⊢
    intro h; omega
theorem part'_get (keep : List Nat) (l : List (List UInt8 × Nat)) (j : Nat) (h : j < l.length) : (part' keep l j)[j]'(by rw [part'_length]; exact h) = l[j] := by simp [part']
theorem part'_succ (keep : List Nat) (l : List (List UInt8 × Nat)) (j : Nat) (h : j < l.length) : (part' keep l j).set j (cut keep j l[j]) = part' keep l (j + 1) := by
  apply List.ext_getElem
  · simp [part']
  · intro i h1 h2
    simp [part'] at h1
    by_cases e : i = j
    · subst e; simp [part']
    · rw [List.getElem_set_ne (Ne.symm e)]
      simp only [part', List.getElem_mapIdx]
      by_cases h : i < j
      · rw [if_pos h, if_pos (by omega)]
      · rw [if_neg h, if_neg (by omega)]
end

/-- What stands behind so many deeds. -/
structure Kp (w : World) (g p : Nat) (k fl : Nat) (st : St) (W : World) : Prop where
  q : Q st (9 * k) fl
  fk : fl ≤ k
  dx : DX (fun k => w.heap.size ≤ k ∧ k ≠ g) W p st
  row : Bk W g 55 (enc st.files).toArray
  made : Mk w W
  g : w.heap.size ≤ g
section
variable {w W W' : World} {g p k fl : Nat} {st : St}
theorem Kp.on (h : Kp w g p k fl st W) (hm : Mk W W') : Kp w g p k fl st W' := ⟨h.q, h.fk, h.dx.made hm, h.row.mk hm, mk_trans h.made hm, h.g⟩
theorem Kp.cs (h : Kp w g p k fl st W) {f : Nat} (hf : f < 3) : W.cell? ⟨g, f * 2, none⟩ = some (.string ⟨(st.file f).1.toArray⟩) := by
  have h3 := h.q.three
  rw [h.row.cell, List.getElem?_toArray, enc_s _ f (by omega), St.file_eq (by omega)]; rfl
theorem Kp.cn (h : Kp w g p k fl st W) {f : Nat} (hf : f < 3) : W.cell? ⟨g, f * 2 + 1, none⟩ = some (.int .i64 ((st.file f).2 : Int)) := by
  have h3 := h.q.three
  rw [h.row.cell, List.getElem?_toArray, enc_n _ f (by omega), St.file_eq (by omega)]
end
theorem under9 : Try.prog.underlying 9 = some .string := by kernel_rfl
/-- A text as bytes of its own. -/
theorem bytes_new (w : World) (S : ByteArray) (hS : S.size ≤ maxLen) : Bs (Lib.bytesWorld w 5 S) (.slice (some ⟨w.heap.size, 0, none⟩) S.size (grownCap w S.size 0 5)) S.data.toList ∧ Mk w (Lib.bytesWorld w 5 S) := by
  have hl : S.data.toList.length = S.size := Array.length_toList
  refine ⟨⟨by simp [bv], _, _, by rw [hl], by rw [hl]; exact grownCap_ge _ _ _ _, grownCap_le_maxLen _ _ _ _ hS, (fun h => by cases h), fun hp => ⟨_, _, rfl, fun j u hu => ?_⟩⟩, ?_⟩
  · have hj : j < S.data.toList.length := by have := (List.getElem?_eq_some_iff.1 hu).1; rwa [bv_length] at this
    rw [Nat.zero_add, Lib.bytesWorld_cell _ _ _ _ (by omega), ← hu, bv_get _ _ hj, List.getD_eq_getElem?_getD, List.getElem?_eq_getElem hj]
    rfl
  · exact ⟨rfl, rfl, rfl, by rw [Lib.bytesWorld_size]; omega, fun k hk => Lib.bytesWorld_at_old _ _ _ _ hk⟩
section
variable {w W W' : World} {g p k fl : Nat} {st : St}
/-- One file is another, on the disk and by hand. -/
theorem Kp.put {W2 : World} (h : Kp w g p k fl st W) {f : Nat} {x : List UInt8 × Nat} (hx : x.2 ≤ x.1.length ∧ x.1.length ≤ 9 * (k + 1))
    (hd : DX (fun k => w.heap.size ≤ k ∧ k ≠ g) W2 p (st.put f x)) (hm : Mk w W2) (hr : Bk W2 g 55 (enc (st.put f x).files).toArray) : Kp w g p (k + 1) fl (st.put f x) W2 :=
  ⟨h.q.put (by omega) hx, by have := h.fk; omega, hd, hr, hm, h.g⟩
theorem Kp.Ak (h : Kp w g p k fl st W) (hm : W.heap.size ≤ W'.heap.size) : ∀ k, W'.heap.size ≤ k → w.heap.size ≤ k ∧ k ≠ g := by
  intro k hk
  have h1 := h.row.lt
  have h2 := h.made.size
  omega
end
theorem cat_str (xs : List UInt8) (S : ByteArray) : (⟨xs.toArray⟩ : ByteArray) ++ S = ⟨(xs ++ S.data.toList).toArray⟩ := by
  apply ByteArray.ext
  simp
theorem cut_str (xs : List UInt8) (n : Nat) (h : n ≤ xs.length) : (⟨xs.toArray⟩ : ByteArray).extract 0 n = ⟨(xs.take n).toArray⟩ := by
  apply ByteArray.ext
  simp
section
variable {w W W' : World} {g p k fl : Nat} {st : St}
theorem Kp.same (h : Kp w g p k fl st W) (hk : k ≤ 1000) : Calls Try.prog 39 #[.pointer (some ⟨p, 0, none⟩), .agg (enc st.files).toArray] W fun e w' => e = .returned (.bool true) ∧ Mk W w' := by
  obtain ⟨S, h1, _⟩ := h.dx
  exact same_any h1 (h.q.ok (by omega) (Nat.le_refl _)) h.q.off h.q.three
theorem Kp.falls (h : Kp w g p k fl st W) : Calls Try.prog 40 #[.pointer (some ⟨p, 0, none⟩)] W fun e w' => e = .returned (.int .i64 (fl : Int)) ∧ W = w' := falls_dx h.dx (mk_refl _) _ h.q.falls
theorem under55 : Try.prog.underlying 55 = some (.array 3 54) := by kernel_rfl
theorem info55 : (Try.prog.info? 55).map (·.size) = some 6 := by kernel_rfl
theorem Kp.rowsize (h : Kp w g p k fl st W) : (Try.prog.info? 55).map (·.size) = some (enc st.files).toArray.size := by
  rw [info55, List.size_toArray, enc_length, h.q.three]
theorem str_row {f : Nat} {W : World} (h : Bk W g 55 (enc st.files).toArray) (hf : f < st.files.length) (s : List UInt8) : Bk (W.setCell ⟨g, f * 2, none⟩ (.string ⟨s.toArray⟩)) g 55 (enc (st.put f (s, (st.file f).2)).files).toArray := by
  have := h.set (f * 2) (str s)
  rw [List.setIfInBounds_toArray, enc_set_s _ _ hf, St.file_eq hf] at this
  exact this
theorem num_row {f : Nat} {W : World} (h : Bk W g 55 (enc st.files).toArray) (hf : f < st.files.length) (n : Nat) : Bk (W.setCell ⟨g, f * 2 + 1, none⟩ (.int .i64 (n : Int))) g 55 (enc (st.put f ((st.file f).1, n)).files).toArray := by
  have := h.set (f * 2 + 1) (.int .i64 (n : Int))
  rw [List.setIfInBounds_toArray, enc_set_n _ _ hf, St.file_eq hf] at this
  exact this
theorem dx_set (h : DX (fun k => w.heap.size ≤ k ∧ k ≠ g) W p st) (o : Nat) (v : Value) : DX (fun k => w.heap.size ≤ k ∧ k ≠ g) (W.setCell ⟨g, o, none⟩ v) p st :=
  h.keep (Chg.set (fun k => k = g) W ⟨g, o, none⟩ v rfl) fun k _ hk e => hk.2 e
theorem mk_setg (hm : Mk w W) (hg : w.heap.size ≤ g) (o : Nat) (v : Value) : Mk w (W.setCell ⟨g, o, none⟩ v) := hm.setCell hg v
end
theorem deed_at {w : World} {a : Option Addr} {n c : Nat} {ds : List (Int × Int × Int)} (h : Ds w (.slice a n c) ds) (k : Nat) (hk : k < ds.length) :
    n = ds.length ∧ ∃ b off, a = some ⟨b, off, none⟩ ∧ b < w.heap.size ∧ ∀ w', Mk w w' → w'.cell? ⟨b, off + k * 3, none⟩ = some (.int .i64 ds[k].1) ∧ w'.cell? ⟨b, off + k * 3 + 1, none⟩ = some (.int .i64 ds[k].2.1) ∧ w'.cell? ⟨b, off + k * 3 + 2, none⟩ = some (.int .i64 ds[k].2.2) := by
  have hn : n = ds.length := by
    obtain ⟨_, a', c', he, _⟩ := h.1
    cases he; rfl
  subst hn
  obtain ⟨b, off, rfl, hc⟩ := h.1.cellAt (by omega)
  obtain ⟨h1, h2, h3⟩ := dv_get ds k hk
  have c1 := hc _ _ h1
  have hlt := World.block_lt_of_cell? w _ c1
  refine ⟨rfl, b, off, rfl, hlt, fun w' hm => ?_⟩
  have he : ∀ o, w'.cell? ⟨b, o, none⟩ = w.cell? ⟨b, o, none⟩ := fun o => hm.cell (p := ⟨b, o, none⟩) hlt
  rw [he, he, he]
  exact ⟨c1, by have := hc _ _ h2; rwa [← Nat.add_assoc] at this, by have := hc _ _ h3; rwa [← Nat.add_assoc] at this⟩
end Go.Proofs.DkW
