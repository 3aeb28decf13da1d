/- Layer 4, disk: the walks of the program's Sync and Truncate. -/
import Derived.Test.YtcfjdldlcdomgaaDkD
namespace Go.Proofs.DkW
open Go Go.RowKit Go.Tk Go.Dk Go.Sp
attribute [local go_sem] Oper.semAt_some

/-- A fuse that burns: what is kept, and the fall. -/
theorem PDw.falls {S F U : Nat → Prop} {w : World} {p q c : Nat} {cs : Array Value} {vs : Nat → Value} {fu : Value} {st : St} {M : Nat} {n : Int} {kl : List Int}
    (hP : PDw S F U w p q c cs vs fu st) (hok : st.Ok0 M) (hM : M ≤ 1000000) (hf : st.fuse = some (n, kl)) :
    ∃ g ka kc, fu = .pointer (some ⟨g, 0, none⟩) ∧ w.cell? ⟨p, 3, none⟩ = some (.pointer (some ⟨g, 0, none⟩)) ∧ w.cell? ⟨g, 1, none⟩ = some (.slice ka kl.length kc) ∧
      Calls Try.prog 87 #[.pointer (some ⟨p, 0, none⟩), .slice ka kl.length kc] w fun e w' => e = .returned (.tuple #[]) ∧ (∃ cs vs, PDw S F U w' p q c cs vs (.pointer none) (st.fall kl)) ∧ Chg (fun k => k = q ∨ k = p) w w' := by
  have hfu := hP.fuse
  rw [hf] at hfu
  obtain ⟨g, kv, rfl, hgb, hgu, hki, hkb⟩ := hfu
  obtain ⟨ka, kc, rfl, _, _⟩ := hki.form
  exact ⟨g, ka, kc, rfl, PDw.c3 hP, (hgb.cell 1).trans rfl, fall_any hP hok hM _ kl hki fun k hp hk => ⟨fun e => hP.disj k (e ▸ hP.files.at_) (hkb k hp hk).1, fun e => (hP.us k (hkb k hp hk).1).2 e⟩⟩
theorem burnt_some {st : St} (h : st.burnt = true) : ∃ n kl, st.fuse = some (n, kl) := by
  unfold St.burnt at h
  split at h
  · cases h
  · exact ⟨_, _, ‹_›⟩
theorem lit_ok {st : St} {M : Nat} (h : st.Ok M) : st.lit.Ok0 M := ⟨h.some, h.many, h.file, h.falls⟩

set_option maxHeartbeats 1000000 in
set_option maxRecDepth 100000 in
theorem sync_any {S : Nat → Prop} {w : World} {p : Nat} {st : St} {M : Nat} (h : PD S w p st) (hok : st.Ok M) (hM : M ≤ 1000000) (f : Int) :
    Calls Try.prog 33 #[.pointer (some ⟨p, 0, none⟩), .int .i64 f] w fun e w' => e = .returned (.int .i64 (st.sync f).2) ∧ PD S w' p (st.sync f).1 ∧ Chg S w w' := by
  have hr := refused_any f h
  have hpd := h
  obtain ⟨F, U, q, c, cs, vs, fu, h⟩ := h
  cases ho : st.off
  · cases hi : st.is f
    · rw [ho, hi] at hr
      have Hr := Lib.hid hr; clear hr
      go_enter Try.func33, Try.ntmps33
      go_wp2_with (go_at_call 85; refine Hr.out.mono ?_; rintro e w' ⟨rfl, rfl⟩)
      go_ret
      exact ⟨by simp [St.sync, ho, hi], by simpa [St.sync, ho, hi] using hpd, Chg.refl _ _⟩
    · rw [ho, hi] at hr
      obtain ⟨k, rfl, hk⟩ := is_nat hi
      have he : st.sync (k : Int) = if st.burnt then (st.lit.fall st.keeps, 40) else (st.lit.put k ((st.file k).1, (st.file k).1.length), 0) := by
        simp only [St.sync, ho, hi, Int.toNat_natCast]; simp
      have hbu := burns_any h hok
      have Hk : Hid (k < st.files.length) := hk
      have Hr := Lib.hid hr; have He := Lib.hid he; have Hpd := Lib.hid hpd; have Hok := Lib.hid hok; have Hbu := Lib.hid hbu; clear hr he hpd hok hbu
      clear h ho hi
      rcases hbt : st.burnt with _ | _
      · rw [hbt] at He Hbu
        go_enter Try.func33, Try.ntmps33
        go_wp2_with (first | (go_at_call 85; refine Hr.out.mono ?_; rintro e w' ⟨rfl, rfl⟩) | fail)
        refine Hbu.out.mono ?_
        rintro e w1 ⟨rfl, h1, hc1⟩
        have hq : k < st.lit.files.length := hk
        have g0 := PDw.c0 h1
        obtain ⟨a, m, hv, hm1, hm2, s1, s2⟩ := PDw.at_ h1 k hq
        rw [lit_file] at hv hm1 s1 s2
        rw [lit_files] at g0
        have hfr := h1.files.row.frozen (k * 2 + 1)
        have Hv := Lib.hid hv
        have H1 := Lib.hid h1; have Hc1 := Lib.hid hc1; clear h1 hc1
        clear hv hbt
        go_wp2_with fail
        go_still_tail 16, (by kernel_rfl)
        go_wp2
        go_ret
        have hcc : Chg (fun k => k = q) w1 (w1.setCell ⟨q, k * 2 + 1, none⟩ (.int .i64 ((st.file k).1.length : Int))).drew := ((Chg.refl (fun k => k = q) w1).thenSet _ _ (.inl rfl)).drew
        have hz := H1.out.files.size
        have hsl := H1.out.files.sl k hq
        have ho := H1.out.files.own k hq
        rw [He.out]
        refine ⟨rfl, ⟨F, U, q, c, _, fun i => if i = k then vs k else vs i, fu, PDw.cut H1.out hq hcc (H1.out.files.row.set _ _) ?_ ?_ ?_ ?_ (row_keep (by rw [St.file_eq hq] at ho; exact ho) hcc fun g hg => (H1.out.files.blk k g hq hg).2) (fun g hg => hg)⟩, ?_⟩
        · rw [Array.size_setIfInBounds]
        · rw [Array.getElem?_setIfInBounds_ne (by omega)]; exact hsl
        · rw [Array.getElem?_setIfInBounds_self_of_lt (by omega)]
        · exact fun j h1 h2 => by rw [Array.getElem?_setIfInBounds_ne (by omega)]
        · exact (Hc1.out.sub fun _ _ h => h.1).trans hcc fun g _ e => e ▸ (H1.out.fs _ H1.out.files.at_).1
      · rw [hbt] at He Hbu
        obtain ⟨n1, kl, hfz⟩ := burnt_some hbt
        have hfl : st.lit.fuse = some (n1 - 1, kl) := by simp [St.lit, hfz]
        have hkk : st.keeps = kl := by simp [St.keeps, hfz]
        have Hfl := Lib.hid hfl; have Hkk := Lib.hid hkk; clear hfl hkk
        clear hfz hbt
        go_enter Try.func33, Try.ntmps33
        go_wp2_with (first | (go_at_call 85; refine Hr.out.mono ?_; rintro e w' ⟨rfl, rfl⟩) | fail)
        refine Hbu.out.mono ?_
        rintro e w1 ⟨rfl, h1, hc1⟩
        obtain ⟨g, ka, kc, rfl, c3, c4, hfall⟩ := PDw.falls h1 (lit_ok Hok.out) hM Hfl.out
        have H1 := Lib.hid h1; have Hc1 := Lib.hid hc1; have Hfall := Lib.hid hfall; clear h1 hc1 hfall
        go_wp2_with fail
        refine Hfall.out.mono ?_
        rintro e w4 ⟨rfl, ⟨cs4, vs4, hP4⟩, hc4⟩
        go_wp2
        go_ret
        rw [He.out, Hkk.out]
        refine ⟨rfl, ⟨_, _, _, _, _, _, _, hP4⟩, (Hc1.out.sub fun _ _ h => h.1).trans hc4 fun x hx e => ?_⟩
        rcases e with rfl | rfl
        · exact (H1.out.fs _ H1.out.files.at_).1
        · exact H1.out.sp
  · rw [ho] at hr
    have Hr := Lib.hid hr; clear hr
    go_enter Try.func33, Try.ntmps33
    go_wp2_with (go_at_call 85; refine Hr.out.mono ?_; rintro e w' ⟨rfl, rfl⟩)
    go_ret
    exact ⟨by simp [St.sync, ho], by simpa [St.sync, ho] using hpd, Chg.refl _ _⟩

set_option maxHeartbeats 1000000 in
set_option maxRecDepth 100000 in
theorem truncate_any {S : Nat → Prop} {w : World} {p : Nat} {st : St} {M : Nat} (h : PD S w p st) (hok : st.Ok M) (hM : M ≤ 1000000) (f n : Int) :
    Calls Try.prog 34 #[.pointer (some ⟨p, 0, none⟩), .int .i64 f, .int .i64 n] w fun e w' => e = .returned (.int .i64 (st.truncate f n).2) ∧ PD S w' p (st.truncate f n).1 ∧ Chg S w w' := by
  have hr := refused_any f h
  have hpd := h
  obtain ⟨F, U, q, c, cs, vs, fu, h⟩ := h
  cases ho : st.off
  · cases hi : st.is f
    · rw [ho, hi] at hr
      have Hr := Lib.hid hr; clear hr
      go_enter Try.func34, Try.ntmps34
      go_wp2_with (first | (go_at_call 85; refine Hr.out.mono ?_; rintro e w' ⟨rfl, rfl⟩) | fail)
      go_ret
      exact ⟨by simp [St.truncate, ho, hi], by simpa [St.truncate, ho, hi] using hpd, Chg.refl _ _⟩
    · rw [ho, hi] at hr
      obtain ⟨k, rfl, hk⟩ := is_nat hi
      have g0 := PDw.c0 h
      obtain ⟨a, m, hv, hm1, hm2, s1, s2⟩ := PDw.at_ h k hk
      have hb3 := hok.file (st.file k) (by rw [← St.file_eq hk]; exact List.getElem_mem _)
      by_cases hn : n < 0 ∨ ((st.file k).1.length : Int) < n
      · have he : st.truncate (k : Int) n = (st, 1) := by simp only [St.truncate, ho, hi, Int.toNat_natCast]; simp [hn]
        have Hr := Lib.hid hr; have He := Lib.hid he; have Hpd := Lib.hid hpd; have Hv := Lib.hid hv; clear hr he hpd hv
        rcases Int.lt_or_le n 0 with h0 | h0
        · have hd : decide (n < 0) = true := by simpa using h0
          clear hn
          go_enter Try.func34, Try.ntmps34
          go_wp2_with (first | (go_at_call 85; refine Hr.out.mono ?_; rintro e w' ⟨rfl, rfl⟩) | fail)
          go_ret
          rw [He.out]
          exact ⟨rfl, Hpd.out, Chg.refl _ _⟩
        · have hd : decide (n < 0) = false := by simpa using h0
          have hd2 : ((st.file k).1.length : Int) < n := by omega
          clear hn
          go_enter Try.func34, Try.ntmps34
          go_wp2_with (first | (go_at_call 85; refine Hr.out.mono ?_; rintro e w' ⟨rfl, rfl⟩) | fail)
          go_ret
          rw [He.out]
          exact ⟨rfl, Hpd.out, Chg.refl _ _⟩
      · obtain ⟨n, rfl⟩ := Int.eq_ofNat_of_zero_le (show 0 ≤ n by omega)
        have he : st.truncate (k : Int) (n : Int) = if st.burnt then (st.lit.fall st.keeps, 40) else (st.lit.put k ((st.file k).1.take n, min (st.file k).2 n), 0) := by
          simp only [St.truncate, ho, hi, Int.toNat_natCast, if_neg hn]; simp
        have hn1 : (n : Int) ≤ ((st.file k).1.length : Int) := by omega
        have hn3 : ¬ ((st.file k).1.length : Int) < (n : Int) := by omega
        have hn2 : n ≤ (st.file k).1.length := by omega
        have hbu := burns_any h hok
        have Hk : Hid (k < st.files.length) := hk
        have Hr := Lib.hid hr; have He := Lib.hid he; have Hpd := Lib.hid hpd; have Hok := Lib.hid hok; have Hbu := Lib.hid hbu; have Hv := Lib.hid hv; have Hn := Lib.hid hn; clear hr he hpd hok hbu hv hn
        clear h ho hi
        rcases hbt : st.burnt with _ | _
        · rw [hbt] at He Hbu
          go_enter Try.func34, Try.ntmps34
          go_wp2_with (first | (go_at_call 85; refine Hr.out.mono ?_; rintro e w' ⟨rfl, rfl⟩) | fail)
          refine Hbu.out.mono ?_
          rintro e w1 ⟨rfl, h1, hc1⟩
          have hq : k < st.lit.files.length := hk
          clear s1 s2 g0
          obtain ⟨a', m', hv, _, _, s1, s2⟩ := PDw.at_ h1 k hq
          rw [lit_file] at hv s1 s2
          rw [Hv.out] at hv
          obtain ⟨rfl, rfl⟩ : a' = a ∧ m' = m := by cases hv; exact ⟨rfl, rfl⟩
          clear hv
          have hf0 := h1.files.row.frozen (k * 2)
          have hf1 := h1.files.row.frozen (k * 2 + 1)
          have hnm : (n : Int) ≤ (m' : Int) := by omega
          have hnm2 : n ≤ m' := by omega
          obtain ⟨t, ht⟩ : ∃ t, (st.file k).2 = t := ⟨_, rfl⟩
          rw [ht] at s2
          obtain ⟨T, hT⟩ : ∃ T, min t n = T := ⟨_, rfl⟩
          have e1 : (if (n : Int) < (t : Int) then (n : Int) else (t : Int)) = (T : Int) := by split <;> omega
          have e2 : (if n < t then (n : Int) else (t : Int)) = (T : Int) := by split <;> omega
          have H1 := Lib.hid h1; have Hc1 := Lib.hid hc1; have Ht := Lib.hid ht; have HT := Lib.hid hT; clear h1 hc1 ht hT
          clear hbt
          go_wp2
          go_ret
          have hcc : Chg (fun k => k = q) w1 ((w1.setCell ⟨q, k * 2, none⟩ (.slice a' n m')).setCell ⟨q, k * 2 + 1, none⟩ (.int .i64 (T : Int))) := ((Chg.refl (fun k => k = q) w1).thenSet _ _ (.inl rfl)).thenSet _ _ (.inl rfl)
          have hz := H1.out.files.size
          rw [He.out, Ht.out, HT.out]
          refine ⟨rfl, ⟨F, U, q, c, _, fun i => if i = k then .slice a' n m' else vs i, fu, PDw.cut H1.out hq hcc ((H1.out.files.row.set _ _).set _ _) ?_ ?_ ?_ ?_ (Files.own_cut H1.out.files hq (St.file_eq hq) Hv.out hn2 hcc) (fun g hg => by rw [Hv.out]; cases a' <;> exact hg)⟩, ?_⟩
          · rw [Array.size_setIfInBounds, Array.size_setIfInBounds]
          · rw [Array.getElem?_setIfInBounds_ne (by omega), Array.getElem?_setIfInBounds_self_of_lt (by omega)]
          · rw [Array.getElem?_setIfInBounds_self_of_lt (by rw [Array.size_setIfInBounds]; omega)]
          · exact fun j h1 h2 => by rw [Array.getElem?_setIfInBounds_ne (by omega), Array.getElem?_setIfInBounds_ne (by omega)]
          · exact (Hc1.out.sub fun _ _ h => h.1).trans hcc fun g _ e => e ▸ (H1.out.fs _ H1.out.files.at_).1
        · rw [hbt] at He Hbu
          obtain ⟨n1, kl, hfz⟩ := burnt_some hbt
          have hfl : st.lit.fuse = some (n1 - 1, kl) := by simp [St.lit, hfz]
          have hkk : st.keeps = kl := by simp [St.keeps, hfz]
          have Hfl := Lib.hid hfl; have Hkk := Lib.hid hkk; clear hfl hkk
          clear hfz hbt
          go_enter Try.func34, Try.ntmps34
          go_wp2_with (first | (go_at_call 85; refine Hr.out.mono ?_; rintro e w' ⟨rfl, rfl⟩) | fail)
          refine Hbu.out.mono ?_
          rintro e w1 ⟨rfl, h1, hc1⟩
          obtain ⟨g, ka, kc, rfl, c3, c4, hfall⟩ := PDw.falls h1 (lit_ok Hok.out) hM Hfl.out
          have H1 := Lib.hid h1; have Hc1 := Lib.hid hc1; have Hfall := Lib.hid hfall; clear h1 hc1 hfall
          go_wp2_with fail
          refine Hfall.out.mono ?_
          rintro e w4 ⟨rfl, ⟨cs4, vs4, hP4⟩, hc4⟩
          go_wp2
          go_ret
          rw [He.out, Hkk.out]
          refine ⟨rfl, ⟨_, _, _, _, _, _, _, hP4⟩, (Hc1.out.sub fun _ _ h => h.1).trans hc4 fun x hx e => ?_⟩
          rcases e with rfl | rfl
          · exact (H1.out.fs _ H1.out.files.at_).1
          · exact H1.out.sp
  · rw [ho] at hr
    have Hr := Lib.hid hr; clear hr
    go_enter Try.func34, Try.ntmps34
    go_wp2_with (first | (go_at_call 85; refine Hr.out.mono ?_; rintro e w' ⟨rfl, rfl⟩) | fail)
    go_ret
    exact ⟨by simp [St.truncate, ho], by simpa [St.truncate, ho] using hpd, Chg.refl _ _⟩
end Go.Proofs.DkW
