/- Layer 6, wal: plain laws: the program's log and the document's go side by side. Layer 6, wal: plain laws: one step of the statements' world, and what stands through it. -/
import Derived.Test.YtcfjdldlcdomgaaMWalPlays26
set_option linter.unusedVariables false
set_option linter.unusedSimpArgs false
namespace Go.Proofs.WlW
open Go Go.RowKit Go.Tk Go.Dk Go.Sp Go.Proofs.DkW

/-- What a call on a disk that is on may do: it succeeds, the falls as they were; or the power fails. -/
structure Oks (s t : St) (e : Int) : Prop where
  err : e = 0 ∨ e = 40
  ok : e = 0 → t.off = false ∧ t.falls = s.falls ∧ t.files.length = s.files.length
  bad : e = 40 → t.falls = s.falls + 1
theorem fall_falls (s : St) (k : List Int) : (s.fall k).falls = s.falls + 1 := rfl
theorem app_oks {s : St} {f : Int} {b : List UInt8} (h1 : s.off = false) (h2 : s.is f = true) (h3 : (s.file f.toNat).1.length + b.length ≤ 16777216) : Oks s (s.append f b).1 (s.append f b).2 ∧ ((s.append f b).2 = 0 → (s.append f b).1 = s.lit.put f.toNat ((s.file f.toNat).1 ++ b, (s.file f.toNat).2)) := by
  unfold St.append
  rw [if_neg (by rw [h1]; decide), if_neg (by rw [h2]; decide), if_neg (by omega)]
  split
  · exact ⟨⟨.inr rfl, fun e => (by cases e), fun _ => rfl⟩, fun e => (by cases e)⟩
  · exact ⟨⟨.inl rfl, fun _ => ⟨h1, rfl, by simp [St.put, St.lit]⟩, fun e => (by cases e)⟩, fun _ => rfl⟩
theorem sync_oks {s : St} {f : Int} (h1 : s.off = false) (h2 : s.is f = true) : Oks s (s.sync f).1 (s.sync f).2 ∧ ((s.sync f).2 = 0 → (s.sync f).1 = s.lit.put f.toNat ((s.file f.toNat).1, (s.file f.toNat).1.length)) := by
  unfold St.sync
  rw [if_neg (by rw [h1]; decide), if_neg (by rw [h2]; decide)]
  split
  · exact ⟨⟨.inr rfl, fun e => (by cases e), fun _ => rfl⟩, fun e => (by cases e)⟩
  · exact ⟨⟨.inl rfl, fun _ => ⟨h1, rfl, by simp [St.put, St.lit]⟩, fun e => (by cases e)⟩, fun _ => rfl⟩
theorem trunc_oks {s : St} {f n : Int} (h1 : s.off = false) (h2 : s.is f = true) (h3 : 0 ≤ n) (h4 : n ≤ ((s.file f.toNat).1.length : Int)) : Oks s (s.truncate f n).1 (s.truncate f n).2 ∧ ((s.truncate f n).2 = 0 → (s.truncate f n).1 = s.lit.put f.toNat ((s.file f.toNat).1.take n.toNat, min (s.file f.toNat).2 n.toNat)) := by
  unfold St.truncate
  rw [if_neg (by rw [h1]; decide), if_neg (by rw [h2]; decide), if_neg (by omega)]
  split
  · exact ⟨⟨.inr rfl, fun e => (by cases e), fun _ => rfl⟩, fun e => (by cases e)⟩
  · exact ⟨⟨.inl rfl, fun _ => ⟨h1, rfl, by simp [St.put, St.lit]⟩, fun e => (by cases e)⟩, fun _ => rfl⟩
theorem is_len {s t : St} (h : t.files.length = s.files.length) (f : Int) : t.is f = s.is f := by unfold St.is; rw [h]
theorem put_file (s : St) (f g : Nat) (x : List UInt8 × Nat) (hf : f < s.files.length) : (s.lit.put f x).file g = if f = g then x else s.file g := by
  unfold St.put St.lit St.file
  simp only [List.getD_eq_getElem?_getD, List.getElem?_set]
  by_cases h : f = g
  · subst h; simp [hf]
  · simp [h]
theorem is_lt {s : St} {f : Nat} (h : s.is (f : Int) = true) : f < s.files.length := by simp [St.is] at h; exact h
theorem is_of {s : St} {f : Nat} (h : f < s.files.length) : s.is (f : Int) = true := by simp [St.is, h]

theorem write_bad {s t1 : St} {f e1 : Int} {b : List UInt8} (h : s.append f b = (t1, e1)) (he : e1 ≠ 0) : St.write s f b = (t1, 40) := by unfold St.write; rw [h, if_neg he]
theorem write_good {s t1 t2 : St} {f e2 : Int} {b : List UInt8} (h : s.append f b = (t1, 0)) (h2 : t1.sync f = (t2, e2)) : St.write s f b = (t2, if e2 = 0 then 0 else 40) := by
  unfold St.write; rw [h, if_pos rfl, h2]
  split <;> rfl
structure LgInv (st : St) (L : Lg) (G : Nat) : Prop where
  gen : L.gen ≤ 9223372036854775808 + G
  live : L.live ≤ 1
  cap : L.cap ≤ 4194304
  slots : L.slots ≤ 65536
  size : L.size ≤ L.cap
  falls : L.falls ≤ st.falls
  on : st.falls = L.falls → st.off = false ∧ 2 ≤ st.files.length ∧ (st.file L.live).1.length = L.size
section
variable {st : St} {L : Lg} {G M : Nat}
theorem LgInv.ok (h : LgInv st L G) (hG : G ≤ 1000000) : LgOk L := ⟨by have := h.gen; omega, h.live, by have := h.size; have := h.cap; omega, h.cap, h.slots⟩
theorem dead_iff : deadB st L = false ↔ st.falls = L.falls := by unfold deadB; simp; omega
theorem LgInv.sizes (h : LgInv st L G) : (sizeL st L : Int) = rsizeL st L := by
  unfold sizeL rsizeL
  cases hd : deadB st L
  · obtain ⟨h1, h2, h3⟩ := h.on (dead_iff.1 hd)
    have : st.is (L.live : Int) = true := is_of (by have := h.live; omega)
    simp [St.size, this, h3]
  · rfl
/-- After a fall the log is dead. -/
theorem LgInv.fell {st' : St} (h : LgInv st L G) (hf : st'.falls = st.falls + 1) : LgInv st' L G :=
  ⟨h.gen, h.live, h.cap, h.slots, h.size, by have := h.falls; omega, fun e => by have := h.falls; omega⟩
/-- Nothing of the live file has turned. -/
theorem LgInv.same {st' : St} (h : LgInv st L G) (hf : st'.falls = st.falls) (ho : st.off = false → st'.off = false) (hl : st'.files.length = st.files.length) (hx : (st'.file L.live).1.length = (st.file L.live).1.length) : LgInv st' L G :=
  ⟨h.gen, h.live, h.cap, h.slots, h.size, by have := h.falls; omega, fun e => by obtain ⟨a, b, c⟩ := h.on (by omega); exact ⟨ho a, by omega, by omega⟩⟩
theorem fr2_len (xs : List UInt8) : (FrW.frm 2 xs).length = xs.length + 9 := FrW.frm_length _ _
theorem app_eq (h : LgInv st L G) (xs : List UInt8) : (lapp st L xs).1 = (appR st L xs).1 ∧ (lapp st L xs).2.2 = (appR st L xs).2 ∧ LgInv (lapp st L xs).1 (lapp st L xs).2.1 G := by
  unfold lapp appR
  cases hd : deadB st L
  rotate_left
  · exact ⟨rfl, rfl, h⟩
  · rw [fits_eq h.sizes]
    cases hf : fitsB st L xs.length
    · exact ⟨rfl, rfl, h⟩
    · simp only [Bool.false_eq_true, if_false, Bool.true_eq_false]
      obtain ⟨o1, o2, o3⟩ := h.on (dead_iff.1 hd)
      have hi : st.is (L.live : Int) = true := is_of (by have := h.live; omega)
      have hsz : sizeL st L = L.size := by unfold sizeL; rw [hd]; rfl
      have hfit : L.size + (xs.length + 9) ≤ L.cap := by
        unfold fitsB at hf
        rw [hsz] at hf
        simp only [Bool.and_eq_true, decide_eq_true_eq] at hf
        have : FrW.sizeF (xs.length : Int) = xs.length + 9 := by unfold FrW.sizeF; rw [if_neg (by omega), if_neg (by omega)]
        rw [this] at hf
        omega
      have hcap := h.cap
      obtain ⟨⟨a1, a2, a3⟩, a4⟩ := app_oks (b := FrW.frm 2 xs) o1 hi (by rw [fr2_len]; simp only [Int.toNat_natCast]; omega)
      obtain ⟨t1, e1, hr1⟩ : ∃ a b, st.append (L.live : Int) (FrW.frm 2 xs) = (a, b) := ⟨_, _, rfl⟩
      rw [hr1] at a1 a2 a3 a4
      dsimp only at a1 a2 a3 a4
      rcases a1 with rfl | rfl
      · obtain ⟨b1, b2, b3⟩ := a2 rfl
        have hi2 : t1.is (L.live : Int) = true := by rw [is_len b3]; exact hi
        obtain ⟨⟨c1, c2, c3⟩, c4⟩ := sync_oks b1 hi2
        rw [appS_b hr1]
        obtain ⟨t2, e2, hr2⟩ : ∃ a b, t1.sync (L.live : Int) = (a, b) := ⟨_, _, rfl⟩
        rw [write_good hr1 hr2, hr2]
        rw [hr2] at c1 c2 c3 c4
        dsimp only at c1 c2 c3 c4 ⊢
        have hlt : L.live < st.files.length := is_lt hi
        rcases c1 with rfl | rfl
        · obtain ⟨d1, d2, d3⟩ := c2 rfl
          have hlt2 : L.live < t1.files.length := is_lt hi2
          rw [if_pos rfl]
          refine ⟨rfl, rfl, h.gen, h.live, h.cap, h.slots, hfit, by have := h.falls; show L.falls ≤ t2.falls; omega, fun _ => ⟨d1, by omega, ?_⟩⟩
          show (t2.file L.live).1.length = L.size + (xs.length + 9)
          rw [c4 rfl, Int.toNat_natCast, put_file _ _ _ _ hlt2, if_pos rfl]
          dsimp only
          rw [a4 rfl, Int.toNat_natCast, put_file _ _ _ _ hlt, if_pos rfl]
          simp only [List.length_append, fr2_len, o3]
        · refine ⟨rfl, rfl, ?_⟩
          exact h.fell (by rw [c3 rfl]; omega)
      · rw [appS_a hr1 (by decide), write_bad hr1 (by decide)]
        refine ⟨rfl, rfl, ?_⟩
        exact h.fell (a3 rfl)
theorem fitW_iff (n : Nat) (c : Int) : fitW n c = false ↔ (weight n = 0 ∨ c < weight n) := by
  unfold fitW
  have : 0 ≤ weight n := by unfold weight; split <;> omega
  simp only [Bool.and_eq_false_iff, decide_eq_false_iff_not]
  omega
theorem weight_fit {n : Nat} {c : Int} (h : fitW n c = true) : (n : Int) + 33 ≤ c ∧ n ≤ 4194280 := by
  unfold fitW at h
  simp only [Bool.and_eq_true, decide_eq_true_eq] at h
  unfold weight at h
  split at h <;> omega
theorem chk_eq (h : LgInv st L G) (xs : List UInt8) : rchk st L xs = lck st L xs ∧ LgInv (lck st L xs).1 (lck st L xs).2.1 (G + 1) := by
  have h' : LgInv st L (G + 1) := ⟨by have := h.gen; omega, h.live, h.cap, h.slots, h.size, h.falls, h.on⟩
  unfold lck rchk
  cases hd : deadB st L
  rotate_left
  · exact ⟨rfl, h'⟩
  · cases hf : fitW xs.length L.cap
    · rw [if_pos ((fitW_iff _ _).1 hf)]
      exact ⟨rfl, h'⟩
    · have hnf : ¬ (weight xs.length = 0 ∨ (L.cap : Int) < weight xs.length) := fun e => by rw [(fitW_iff _ _).2 e] at hf; cases hf
      rw [if_neg hnf]
      simp only [Bool.false_eq_true, if_false, Bool.true_eq_false]
      obtain ⟨w1, w2⟩ := weight_fit hf
      obtain ⟨o1, o2, o3⟩ := h.on (dead_iff.1 hd)
      have hl := h.live
      have hcap := h.cap
      have hfl : (headFrame (L.gen + 1) L.cap L.slots xs).length = xs.length + 33 := headFrame_length _ _ _ _
      generalize headFrame (L.gen + 1) L.cap L.slots xs = fr at *
      obtain ⟨o, ho⟩ : ∃ o : Nat, 1 - L.live = o := ⟨_, rfl⟩
      have hoi : (1 - (L.live : Int)) = (o : Int) := by omega
      have hi : ∀ (s : St), 2 ≤ s.files.length → s.is (o : Int) = true ∧ s.is (L.live : Int) = true := fun s hs => ⟨is_of (by omega), is_of (by omega)⟩
      obtain ⟨⟨a1, a2, a3⟩, a4⟩ := trunc_oks (n := 0) o1 (hi st o2).1 (Int.le_refl _) (by omega)
      obtain ⟨t1, e1, ht1⟩ : ∃ a b, st.truncate (o : Int) 0 = (a, b) := ⟨_, _, rfl⟩
      rw [ht1] at a1 a2 a3 a4
      dsimp only at a1 a2 a3 a4
      rw [← hoi] at ht1
      rcases a1 with rfl | rfl
      rotate_left
      · rw [rchkB_a (layR_a (fr := fr) ht1 (by decide)) (by decide), lckB_a ht1 (by decide)]
        exact ⟨rfl, h'.fell (a3 rfl)⟩
      · obtain ⟨b1, b2, b3⟩ := a2 rfl
        have hn1 : o < st.files.length := by omega
        have f1 : ∀ g, t1.file g = if o = g then ([], 0) else st.file g := fun g => by rw [a4 rfl, Int.toNat_natCast, put_file _ _ _ _ hn1]; simp
        obtain ⟨⟨c1, c2, c3⟩, c4⟩ := app_oks (b := fr) b1 (hi t1 (by omega)).1 (by rw [Int.toNat_natCast, f1 o, if_pos rfl]; simp; omega)
        obtain ⟨t2, e2, ht2⟩ : ∃ a b, t1.append (o : Int) fr = (a, b) := ⟨_, _, rfl⟩
        rw [ht2] at c1 c2 c3 c4
        dsimp only at c1 c2 c3 c4
        rw [← hoi] at ht2
        rcases c1 with rfl | rfl
        rotate_left
        · rw [rchkB_a (layR_b ht1 ht2 (by decide)) (by decide), lckB_b ht1 (write_bad ht2 (by decide)) (by decide)]
          exact ⟨rfl, h'.fell (by rw [c3 rfl]; omega)⟩
        · obtain ⟨d1, d2, d3⟩ := c2 rfl
          have hn2 : o < t1.files.length := by omega
          have f2 : ∀ g, t2.file g = if o = g then (fr, 0) else st.file g := fun g => by
            rw [c4 rfl, Int.toNat_natCast, put_file _ _ _ _ hn2, f1 o, if_pos rfl, f1 g]
            by_cases e : o = g <;> simp [e]
          obtain ⟨⟨g1, g2, g3⟩, g4⟩ := sync_oks d1 (hi t2 (by omega)).1
          obtain ⟨t3, e3, ht3⟩ : ∃ a b, t2.sync (o : Int) = (a, b) := ⟨_, _, rfl⟩
          rw [ht3] at g1 g2 g3 g4
          dsimp only at g1 g2 g3 g4
          rw [← hoi] at ht3
          have hlay : layR st (1 - (L.live : Int)) fr = (t3, e3) := by rw [layR_c ht1 ht2, ht3]
          have hwr := write_good ht2 ht3
          rcases g1 with rfl | rfl
          rotate_left
          · rw [rchkB_a hlay (by decide), lckB_b ht1 hwr (by decide)]
            exact ⟨rfl, h'.fell (by rw [g3 rfl]; omega)⟩
          · obtain ⟨k1, k2, k3⟩ := g2 rfl
            have hn3 : o < t2.files.length := by omega
            have f3 : ∀ g, (t3.file g).1 = if o = g then fr else (st.file g).1 := fun g => by
              rw [g4 rfl, Int.toNat_natCast, put_file _ _ _ _ hn3, f2 o, if_pos rfl, f2 g]
              by_cases e : o = g <;> simp [e]
            obtain ⟨⟨m1, m2, m3⟩, m4⟩ := trunc_oks (n := 0) k1 (hi t3 (by omega)).2 (Int.le_refl _) (by omega)
            obtain ⟨t4, e4, ht4⟩ : ∃ a b, t3.truncate (L.live : Int) 0 = (a, b) := ⟨_, _, rfl⟩
            rw [ht4] at m1 m2 m3 m4
            dsimp only at m1 m2 m3 m4
            rw [if_pos rfl] at hwr
            rcases m1 with rfl | rfl
            rotate_left
            · rw [rchkB_b hlay ht4 (by decide), lckB_c ht1 hwr ht4 (by decide)]
              exact ⟨rfl, h'.fell (by rw [m3 rfl]; omega)⟩
            · obtain ⟨p1, p2, p3⟩ := m2 rfl
              rw [rchkB_c hlay ht4, lckB_d ht1 hwr ht4]
              refine ⟨rfl, by have := h.gen; show L.gen + 1 ≤ _; omega, by show 1 - L.live ≤ 1; omega, h.cap, h.slots, by show fr.length ≤ L.cap; omega, by have := h.falls; show L.falls ≤ t4.falls; rw [p2, k2, d2, b2]; exact this, fun _ => ⟨p1, by rw [p3, k3, d3, b3]; exact o2, ?_⟩⟩
              show (t4.file (1 - L.live)).1.length = fr.length
              rw [m4 rfl, Int.toNat_natCast, put_file _ _ _ _ (by omega), if_neg (by omega), f3, if_pos ho.symm]
theorem fmt_eq (hok : st.Ok M) (c s : Int) (xs : List UInt8) : fmtR st c s xs = fmtP st c s xs := by
  unfold fmtR fmtP
  by_cases h1 : st.size 1 < 0 ∨ rightB c s = false
  · rw [if_pos h1, if_pos h1]
  · rw [if_neg h1, if_neg h1]
    cases hf : fitW xs.length c
    · rw [if_pos ((fitW_iff _ _).1 hf)]; rfl
    · have hnf : ¬ (weight xs.length = 0 ∨ c < weight xs.length) := fun e => by rw [(fitW_iff _ _).2 e] at hf; cases hf
      rw [if_neg hnf]
      simp only [Bool.true_eq_false, if_false]
      obtain ⟨w1, w2⟩ := weight_fit hf
      have hi1 : st.is 1 = true := by
        cases hc : st.is 1 with
        | true => rfl
        | false => exact absurd (.inl (by unfold St.size; rw [hc]; simp)) h1
      have hn : 1 < st.files.length := is_lt (f := 1) hi1
      have hfl : (headFrame 1 c.toNat s.toNat xs).length = xs.length + 33 := headFrame_length _ _ _ _
      generalize headFrame 1 c.toNat s.toNat xs = fr at *
      cases hoff : st.off
      rotate_left
      · have : st.truncate 0 0 = (st, 40) := by unfold St.truncate; rw [if_pos hoff]
        unfold fmtT
        rw [this, if_pos rfl, if_pos (by simp)]
      · rw [if_neg (by decide)]
        unfold fmtT fmtS
        have hi : ∀ (s : St), 2 ≤ s.files.length → s.is 0 = true ∧ s.is 1 = true := fun s hs => ⟨is_of (f := 0) (by omega), is_of (f := 1) (by omega)⟩
        obtain ⟨⟨a1, a2, a3⟩, a4⟩ := trunc_oks (f := 0) (n := 0) hoff (hi st hn).1 (Int.le_refl _) (by omega)
        generalize st.truncate 0 0 = r1 at *
        obtain ⟨t1, e1⟩ := r1
        dsimp only at a1 a2 a3 a4 ⊢
        rcases a1 with rfl | rfl
        rotate_left
        · rfl
        · obtain ⟨b1, b2, b3⟩ := a2 rfl
          obtain ⟨⟨c1, c2, c3⟩, c4⟩ := trunc_oks (f := 1) (n := 0) b1 (hi t1 (by omega)).2 (Int.le_refl _) (by omega)
          generalize t1.truncate 1 0 = r2 at *
          obtain ⟨t2, e2⟩ := r2
          dsimp only at c1 c2 c3 c4 ⊢
          rcases c1 with rfl | rfl
          rotate_left
          · rfl
          · obtain ⟨d1, d2, d3⟩ := c2 rfl
            have f1 : (t2.file 0).1 = [] := by
              rw [c4 rfl, put_file _ _ _ _ (by show 1 < _; omega), if_neg (by decide), a4 rfl, put_file _ _ _ _ (by show 0 < _; omega), if_pos (by rfl)]
              rfl
            obtain ⟨⟨g1, g2, g3⟩, g4⟩ := app_oks (f := 0) (b := fr) d1 (hi t2 (by omega)).1 (by show (t2.file 0).1.length + _ ≤ _; rw [f1]; simp [rightB] at h1; simp; omega)
            simp only [ne_eq, not_true_eq_false, if_false]
            unfold St.write
            generalize t2.append 0 fr = r3 at *
            obtain ⟨t3, e3⟩ := r3
            dsimp only at g1 g2 g3 g4 ⊢
            rcases g1 with rfl | rfl
            rotate_left
            · rfl
            · obtain ⟨k1, k2, k3⟩ := g2 rfl
              obtain ⟨⟨m1, m2, m3⟩, m4⟩ := sync_oks (f := 0) k1 (hi t3 (by omega)).1
              generalize t3.sync 0 = r4 at *
              obtain ⟨t4, e4⟩ := r4
              dsimp only at m1 ⊢
              rcases m1 with rfl | rfl <;> rfl
theorem cut_good {s : St} {live wh : Nat} (h1 : s.off = false) (h2 : 2 ≤ s.files.length) (hl : live ≤ 1) (hw : wh ≤ (s.file live).1.length) (he : (cutP s live wh).2 = 0) :
    (cutP s live wh).1.off = false ∧ (cutP s live wh).1.files.length = s.files.length ∧ ((cutP s live wh).1.file live).1.length = wh := by
  obtain ⟨t1, e1, ht1⟩ : ∃ a b, (if wh < (s.file live).1.length then s.truncate live wh else (s, 0)) = (a, b) := ⟨_, _, rfl⟩
  have hi : s.is (live : Int) = true := is_of (by omega)
  have hT : e1 = 0 → t1.off = false ∧ t1.files.length = s.files.length ∧ (t1.file live).1.length = wh := by
    intro e
    by_cases hA : wh < (s.file live).1.length
    · rw [if_pos hA] at ht1
      obtain ⟨⟨a1, a2, a3⟩, a4⟩ := trunc_oks (n := (wh : Int)) h1 hi (by omega) (by rw [Int.toNat_natCast]; omega)
      rw [ht1] at a2 a4
      obtain ⟨b1, b2, b3⟩ := a2 e
      have hf : t1 = _ := a4 e
      refine ⟨b1, b3, ?_⟩
      rw [hf, Int.toNat_natCast, put_file _ _ _ _ (by omega), if_pos rfl]
      simp; omega
    · rw [if_neg hA] at ht1
      cases ht1
      exact ⟨h1, rfl, by omega⟩
  by_cases hz : e1 = 0
  rotate_left
  · exfalso
    unfold cutP at he
    simp only [ht1] at he
    rw [if_pos (by simpa using hz)] at he
    cases he
  · subst hz
    obtain ⟨b1, b2, b3⟩ := hT rfl
    by_cases hB : 0 < t1.size (1 - (live : Int))
    · have hc := cutP_c ht1 hB
      rw [hc] at he ⊢
      dsimp only at he ⊢
      have he2 : (t1.truncate (1 - (live : Int)) 0).2 = 0 := by
        by_cases h : (t1.truncate (1 - (live : Int)) 0).2 = 0
        · exact h
        · rw [if_neg h] at he; cases he
      obtain ⟨o, ho⟩ : ∃ o : Nat, 1 - live = o := ⟨_, rfl⟩
      have hoi : (1 - (live : Int)) = (o : Int) := by omega
      rw [hoi] at he2 ⊢
      obtain ⟨⟨a1, a2, a3⟩, a4⟩ := trunc_oks (f := (o : Int)) (n := 0) b1 (is_of (by omega)) (Int.le_refl _) (by omega)
      obtain ⟨c1, c2, c3⟩ := a2 he2
      refine ⟨c1, by omega, ?_⟩
      rw [a4 he2, Int.toNat_natCast, put_file _ _ _ _ (by omega), if_neg (by omega)]
      exact b3
    · rw [cutP_b ht1 hB]
      exact ⟨b1, b2, b3⟩
theorem open_inv (hL : logOf (openP st) = some L) : LgInv (openP st).1 L 0 := by
  unfold openP at hL ⊢
  cases hoff : st.off
  rotate_left
  · rw [hoff] at hL; cases hL
  · rw [hoff] at hL
    simp only [Bool.false_eq_true, if_false] at hL ⊢
    cases hc : chooseP (st.is 1) (lookP (st.file 0).1) (lookP (st.file 1).1) with
    | inl n => rw [hc] at hL; cases hL
    | inr x =>
      obtain ⟨live, g, c, s, state, n⟩ := x
      rw [hc] at hL
      simp only [] at hL ⊢
      cases hb : brokenP g c (FrW.framesOf (st.file live).1)
      rotate_left
      · rw [hb] at hL; cases hL
      · rw [hb] at hL
        simp only [Bool.false_eq_true, if_false] at hL ⊢
        obtain ⟨hi1, hlv⟩ := choose_live hc
        have hlk : lookP (st.file live).1 = some (g, c, s, state, n) := by rcases hlv with ⟨rfl, e⟩ | ⟨rfl, e⟩ <;> exact e
        have hlive : live ≤ 1 := by rcases hlv with ⟨rfl, e⟩ | ⟨rfl, e⟩ <;> omega
        obtain ⟨dat, hfr, _, _, _, _, hc1, hc2, hs1, hs2⟩ := look_some hlk
        have hwl := FrW.wholeOf_le _ (st.file live).1 (Nat.le_refl _)
        have hb2 : g < 9223372036854775808 ∧ FrW.wholeOf (FrW.framesOf (st.file live).1) ≤ c := by
          unfold brokenP at hb
          simp only [Bool.or_eq_false_iff, decide_eq_false_iff_not] at hb
          omega
        generalize FrW.wholeOf (FrW.framesOf (st.file live).1) = wh at *
        have hn : 2 ≤ st.files.length := is_lt (f := 1) hi1
        by_cases he : (cutP st live wh).2 = 0
        · rw [if_neg (by simpa using he)] at hL ⊢
          obtain ⟨k1, k2, k3⟩ := cut_good hoff hn hlive hwl he
          simp only [logOf, lgOf, Option.some.injEq] at hL
          subst hL
          exact ⟨by show g ≤ _; omega, hlive, hc2, hs2, hb2.2, Nat.le_refl _, fun _ => ⟨k1, by show 2 ≤ (cutP st live wh).1.files.length; omega, k3⟩⟩
        · rw [if_pos (by simpa using he)] at hL
          cases hL
end
end Go.Proofs.WlW

namespace Go.Proofs.WlW
open Go Go.RowKit Go.Tk Go.Dk Go.Sp Go.Proofs.DkW

theorem sync_len (s : St) (f : Int) (g : Nat) : ((s.sync f).1.file g).1.length ≤ (s.file g).1.length := by
  unfold St.sync
  split
  · exact Nat.le_refl _
  · split
    · exact Nat.le_refl _
    · split
      · exact fall_len s.lit _ g
      · unfold St.put St.lit St.file
        simp only [List.getD_eq_getElem?_getD, List.getElem?_set]
        by_cases hg : f.toNat = g
        · subst hg
          rw [if_pos rfl]
          by_cases hl : f.toNat < s.files.length
          · rw [if_pos hl, List.getElem?_eq_getElem hl]; simp
          · rw [if_neg hl, List.getElem?_eq_none (by omega)]; simp
        · rw [if_neg hg]; exact Nat.le_refl _
theorem write_len (s : St) (f : Int) (b : List UInt8) (g : Nat) : ((St.write s f b).1.file g).1.length ≤ (s.file g).1.length + b.length := by
  unfold St.write
  have h1 := append_len s f b g
  split
  · have h2 := sync_len (s.append f b).1 f g
    split <;> (dsimp only; omega)
  · exact h1
theorem lapp_len (s : St) (L : Lg) (xs : List UInt8) (g : Nat) : ((lapp s L xs).1.file g).1.length ≤ (s.file g).1.length + (xs.length + 9) := by
  unfold lapp
  split
  · exact Nat.le_add_right _ _
  · split
    · exact Nat.le_add_right _ _
    · have := write_len s L.live (FrW.frm 2 xs) g
      rw [fr2_len] at this
      exact this
theorem lapp_ok {s : St} {M : Nat} (h : s.Ok M) (L : Lg) (xs : List UInt8) : (lapp s L xs).1.Ok (M + 4) := by
  unfold lapp
  split
  · exact Ok_mono h (by omega)
  · split
    · exact Ok_mono h (by omega)
    · exact Ok_mono (write_ok h _ _) (by omega)
theorem lckB_len (s : St) (L : Lg) (fr : List UInt8) (g : Nat) : ((lckB s L fr).1.file g).1.length ≤ (s.file g).1.length + fr.length := by
  have h1 := trunc_len s (1 - (L.live : Int)) 0 g
  have h2 := write_len (s.truncate (1 - (L.live : Int)) 0).1 (1 - (L.live : Int)) fr g
  have h3 := trunc_len (St.write (s.truncate (1 - (L.live : Int)) 0).1 (1 - (L.live : Int)) fr).1 (L.live : Int) 0 g
  unfold lckB
  split
  · dsimp only; omega
  · split
    · dsimp only; omega
    · split <;> (dsimp only; omega)
theorem lckB_ok {s : St} {M : Nat} (h : s.Ok M) (L : Lg) (fr : List UInt8) : (lckB s L fr).1.Ok (M + 4) := by
  have h1 := truncate_ok h (1 - (L.live : Int)) 0
  have h2 := write_ok h1 (1 - (L.live : Int)) fr
  have h3 := truncate_ok h2 (L.live : Int) 0
  unfold lckB
  split
  · exact Ok_mono h1 (by omega)
  · split
    · exact Ok_mono h2 (by omega)
    · split <;> exact Ok_mono h3 (by omega)
theorem lck_len (s : St) (L : Lg) (xs : List UInt8) (g : Nat) : ((lck s L xs).1.file g).1.length ≤ (s.file g).1.length + (xs.length + 33) := by
  unfold lck
  split
  · exact Nat.le_add_right _ _
  · split
    · exact Nat.le_add_right _ _
    · have := lckB_len s L (headFrame (L.gen + 1) L.cap L.slots xs) g
      rw [headFrame_length] at this
      exact this
theorem lck_ok {s : St} {M : Nat} (h : s.Ok M) (L : Lg) (xs : List UInt8) : (lck s L xs).1.Ok (M + 4) := by
  unfold lck
  split
  · exact Ok_mono h (by omega)
  · split
    · exact Ok_mono h (by omega)
    · exact lckB_ok h _ _
theorem fmtT_len (s : St) (fr : List UInt8) (g : Nat) : ((fmtT s fr).1.file g).1.length ≤ (s.file g).1.length + fr.length := by
  have h1 := trunc_len s 0 0 g
  have h2 := trunc_len (s.truncate 0 0).1 1 0 g
  have h3 := write_len ((s.truncate 0 0).1.truncate 1 0).1 0 fr g
  unfold fmtT
  split
  · dsimp only; omega
  · split
    · dsimp only; omega
    · omega
theorem fmtT_ok {s : St} {M : Nat} (h : s.Ok M) (fr : List UInt8) : (fmtT s fr).1.Ok (M + 4) := by
  have h1 := truncate_ok h 0 0
  have h2 := truncate_ok h1 1 0
  have h3 := write_ok h2 0 fr
  unfold fmtT
  split
  · exact Ok_mono h1 (by omega)
  · split
    · exact Ok_mono h2 (by omega)
    · exact h3
theorem fmtP_len (s : St) (c sl : Int) (xs : List UInt8) (g : Nat) : ((fmtP s c sl xs).1.file g).1.length ≤ (s.file g).1.length + (xs.length + 33) := by
  unfold fmtP
  split
  · exact Nat.le_add_right _ _
  · split
    · exact Nat.le_add_right _ _
    · have := fmtT_len s (headFrame 1 c.toNat sl.toNat xs) g
      rw [headFrame_length] at this
      exact this
theorem fmtP_ok {s : St} {M : Nat} (h : s.Ok M) (c sl : Int) (xs : List UInt8) : (fmtP s c sl xs).1.Ok (M + 4) := by
  unfold fmtP
  split
  · exact Ok_mono h (by omega)
  · split
    · exact Ok_mono h (by omega)
    · exact fmtT_ok h _
theorem crash_len (s : St) (k : List Int) (g : Nat) : ((s.crash k).file g).1.length ≤ (s.file g).1.length := by
  unfold St.crash
  split
  · exact Nat.le_refl _
  · exact fall_len s k g
/-- An op of the statement: kind, two numbers, bytes. -/
structure WOp where
  kind : Int
  n : Int
  m : Int
  b : List UInt8
def stepP (st : St) (lo : Option Lg) (o : WOp) : St × Option Lg :=
  if o.kind = 0 then ((fmtP st o.n o.m (o.b.take 3000)).1, none) else
  if o.kind = 1 then ((openP st).1, logOf (openP st)) else
  if o.kind = 2 then (match lo with | none => (st, none) | some L => ((lapp st L (o.b.take 3000)).1, some (lapp st L (o.b.take 3000)).2.1)) else
  if o.kind = 3 then (match lo with | none => (st, none) | some L => ((lck st L (o.b.take 3000)).1, some (lck st L (o.b.take 3000)).2.1)) else
  if o.kind = 4 then ((st.light o.n [o.m, o.m]).1, lo) else
  if o.kind = 5 then (st.crash [o.m, o.n], lo) else
  if o.kind = 6 then (st.restart, lo) else
  if o.kind = 7 then ((st.append (bits BinOp.and IntKind.i64 o.n 1) (o.b.take 3000)).1, none) else (st, lo)
structure WInv (st : St) (lo : Option Lg) (k : Nat) : Prop where
  ok : st.Ok (4 * k)
  len : ∀ f, (st.file f).1.length ≤ 3100 * k
  log : ∀ L, lo = some L → LgInv st L k
theorem LgInv.mono {st : St} {L : Lg} {G G' : Nat} (h : LgInv st L G) (hg : G ≤ G') : LgInv st L G' := ⟨by have := h.gen; omega, h.live, h.cap, h.slots, h.size, h.falls, h.on⟩
theorem step_inv {st : St} {lo : Option Lg} {k : Nat} (h : WInv st lo k) (o : WOp) (hn : o.n ≤ 9223372036854775807) : WInv (stepP st lo o).1 (stepP st lo o).2 (k + 1) := by
  have hb : (o.b.take 3000).length ≤ 3000 := by simp; omega
  generalize hx : o.b.take 3000 = b at *
  have hsame : WInv st lo (k + 1) := ⟨Ok_mono h.ok (by omega), fun f => by have := h.len f; omega, fun L hL => (h.log L hL).mono (by omega)⟩
  unfold stepP
  rw [hx]
  by_cases h0 : o.kind = 0
  · rw [if_pos h0]
    exact ⟨Ok_mono (fmtP_ok h.ok _ _ _) (by omega), fun f => by have := h.len f; have := fmtP_len st o.n o.m b f; dsimp only; omega, fun L hL => by cases hL⟩
  rw [if_neg h0]
  by_cases h1 : o.kind = 1
  · rw [if_pos h1]
    exact ⟨Ok_mono (openP_ok h.ok) (by omega), fun f => by have := h.len f; have := openP_len st f; dsimp only; omega, fun L hL => (open_inv hL).mono (by omega)⟩
  rw [if_neg h1]
  by_cases h2 : o.kind = 2
  · rw [if_pos h2]
    cases lo with
    | none => exact hsame
    | some L => exact ⟨Ok_mono (lapp_ok h.ok _ _) (by omega), fun f => by have := h.len f; have := lapp_len st L b f; dsimp only; omega, fun L' hL => by cases hL; exact ((app_eq (h.log L rfl) b).2.2).mono (by omega)⟩
  rw [if_neg h2]
  by_cases h3 : o.kind = 3
  · rw [if_pos h3]
    cases lo with
    | none => exact hsame
    | some L => exact ⟨Ok_mono (lck_ok h.ok _ _) (by omega), fun f => by have := h.len f; have := lck_len st L b f; dsimp only; omega, fun L' hL => by cases hL; exact (chk_eq (h.log L rfl) b).2⟩
  rw [if_neg h3]
  by_cases h4 : o.kind = 4
  · rw [if_pos h4]
    have hfl : (st.light o.n [o.m, o.m]).1.files = st.files ∧ (st.light o.n [o.m, o.m]).1.falls = st.falls ∧ (st.light o.n [o.m, o.m]).1.off = st.off := by
      unfold St.light
      split
      · exact ⟨rfl, rfl, rfl⟩
      · split <;> exact ⟨rfl, rfl, rfl⟩
    obtain ⟨f1, f2, f3⟩ := hfl
    have hfile : ∀ f, (st.light o.n [o.m, o.m]).1.file f = st.file f := fun f => by unfold St.file; rw [f1]
    exact ⟨Ok_mono (light_ok h.ok _ _ hn) (by omega), fun f => by dsimp only; rw [hfile]; have := h.len f; omega, fun L hL => ((h.log L hL).same f2 (fun e => by rw [f3]; exact e) (by rw [f1]) (by rw [hfile])).mono (by omega)⟩
  rw [if_neg h4]
  by_cases h5 : o.kind = 5
  · rw [if_pos h5]
    refine ⟨Ok_mono (crash_ok h.ok _) (by omega), fun f => by have := h.len f; have := crash_len st [o.m, o.n] f; dsimp only; omega, fun L hL => ?_⟩
    unfold St.crash
    cases hoff : st.off
    · exact ((h.log L hL).fell (by rfl)).mono (by omega)
    · exact (h.log L hL).mono (by omega)
  rw [if_neg h5]
  by_cases h6 : o.kind = 6
  · rw [if_pos h6]
    exact ⟨Ok_mono (restart_ok h.ok) (by omega), fun f => by have := h.len f; show (st.file f).1.length ≤ _; omega, fun L hL => ((h.log L hL).same (st' := st.restart) rfl (fun _ => rfl) rfl rfl).mono (by omega)⟩
  rw [if_neg h6]
  by_cases h7 : o.kind = 7
  · rw [if_pos h7]
    exact ⟨Ok_mono (append_ok h.ok _ _) (by omega), fun f => by have := h.len f; have := append_len st (bits BinOp.and IntKind.i64 o.n 1) b f; dsimp only; omega, fun L hL => by cases hL⟩
  rw [if_neg h7]
  exact hsame
end Go.Proofs.WlW
