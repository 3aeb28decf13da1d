/- Layer 4, disk: the walk of the program's Append. Layer 4, disk: the walks of the program's Sync and Truncate. The walks of layer 5, frame, and of the sum it leans on: sizes; the table; the sum by the table and bit by bit. -/
import Derived.Test.YtcfjdldlcdomgaaMWalPlays1
import Derived.Test.YtcfjdldlcdomgaaMWalPlays2
set_option linter.unusedVariables false
set_option linter.unusedSimpArgs false
namespace Go.Proofs.DkW
open Go Go.RowKit Go.Tk Go.Dk Go.Sp
attribute [local go_sem] Oper.semAt_some

theorem St.file_eq {s : St} {f : Nat} (h : f < s.files.length) : s.files[f] = s.file f := by simp [St.file, h]
theorem lit_files (s : St) : s.lit.files = s.files := rfl
theorem lit_file (s : St) (f : Nat) : s.lit.file f = s.file f := rfl
theorem is_nat {s : St} {f : Int} (h : s.is f = true) : ∃ k : Nat, f = (k : Int) ∧ k < s.files.length := by
  simp only [St.is, Bool.and_eq_true, decide_eq_true_eq] at h
  obtain ⟨k, rfl⟩ := Int.eq_ofNat_of_zero_le h.1
  exact ⟨k, rfl, by omega⟩
theorem ok_put {s : St} {M : Nat} (h : s.Ok0 M) {f : Nat} {x : List UInt8 × Nat} (hx : x.2 ≤ x.1.length ∧ x.1.length ≤ 16777216) : (s.put f x).files.length ≤ 8 ∧ ∀ y ∈ (s.put f x).files, y.2 ≤ y.1.length ∧ y.1.length ≤ 16777216 := by
  refine ⟨by simpa [St.put] using h.many, fun y hy => ?_⟩
  rcases List.mem_or_eq_of_mem_set hy with h1 | rfl
  · exact h.file y h1
  · exact hx

theorem sAt_value {R : Value → World → Prop} {u : Value} {w' : World} : sAt Try.prog R (.ok (.value u) w') = R u w' := rfl
theorem sAt_skip {R : Value → World → Prop} {w' : World} : sAt Try.prog R (.ok .skip w') = R undef w' := rfl
/-- What an append and the store behind it may write. -/
def InA (q : Nat) (o : Option Addr) (w w' : World) : Prop := Chg (fun g => g = q ∨ o.map (·.block) = some g) w w'

theorem bs_keep {T : Nat → Prop} {w w' : World} {v : Value} {xs : List UInt8} (h : Bs w v xs) (hc : Chg T w w') (hn : ∀ k, v.ownBlock = some k → 0 < xs.length → k < w.heap.size → ¬ T k) : Bs w' v xs := by
  rcases Nat.eq_zero_or_pos xs.length with h0 | h0
  · obtain ⟨hl, a, cap, rfl, h1, h2, h3, h4⟩ := h
    exact ⟨hl, a, cap, rfl, h1, h2, h3, fun hp => by omega⟩
  · exact sl_chg h hc fun k hk hl => hn k hk h0 hl
set_option maxHeartbeats 1000000 in
set_option maxRecDepth 100000 in
theorem append_any0 {S : Nat → Prop} {w : World} {p : Nat} {st : St} {M : Nat} (h : PD S w p st) (hok : st.Ok M) (hM : M ≤ 1000000) (f : Int) (v : Value) (xs : List UInt8) (hb : Bs w v xs) (hbx : xs.length ≤ 1073741824)
    (hd : ∀ k, k < w.heap.size → 0 < xs.length → v.ownBlock = some k → ¬ S k) :
    Calls Try.prog 32 #[.pointer (some ⟨p, 0, none⟩), .int .i64 f, v] w fun e w' => e = .returned (.int .i64 (st.append f xs).2) ∧ PD (Gw S w) w' p (st.append f xs).1 ∧ Chg S w w' := by
  have hr := refused_any f h
  obtain ⟨xa, xc, rfl, hx1, hx2⟩ := hb.form
  obtain ⟨F, U, q, c, cs, vs, fu, h⟩ := h
  have hpd : PD (Gw S w) w p st := PD.sub (S := S) ⟨F, U, q, c, cs, vs, fu, h⟩ fun k hk => .inl hk
  cases ho : st.off
  · cases hi : st.is f
    · rw [ho, hi] at hr
      have Hr := Lib.hid hr; clear hr
      go_enter Try.func32, Try.ntmps32
      go_wp2_with (go_at_call 85; refine Hr.out.mono ?_; rintro e w' ⟨rfl, rfl⟩)
      go_ret
      exact ⟨by simp [St.append, ho, hi], by simpa [St.append, ho, hi] using hpd, Chg.refl _ _⟩
    · rw [ho, hi] at hr
      obtain ⟨k, rfl, hk⟩ := is_nat hi
      obtain ⟨a, m, hv, hm1, hm2, s1, s2⟩ := PDw.at_ h k hk
      have g0 := PDw.c0 h
      have hb3 := hok.file (st.file k) (by rw [← St.file_eq hk]; exact List.getElem_mem _)
      by_cases hfull : 16777216 < (st.file k).1.length + xs.length
      · have hf1 : (16777216 : Int) < ((st.file k).1.length : Int) + (xs.length : Int) := by omega
        have he : st.append (k : Int) xs = (st, 41) := by simp only [St.append, ho, hi, Int.toNat_natCast]; simp [hfull]
        have Hr := Lib.hid hr; have He := Lib.hid he; clear hr he
        clear hv hfull
        go_enter Try.func32, Try.ntmps32
        go_wp2_with (go_at_call 85; refine Hr.out.mono ?_; rintro e w' ⟨rfl, rfl⟩)
        go_ret
        rw [He.out]
        exact ⟨rfl, hpd, Chg.refl _ _⟩
      · have hf1 : ¬ (16777216 : Int) < ((st.file k).1.length : Int) + (xs.length : Int) := by omega
        have he : st.append (k : Int) xs = if st.burnt then ((st.lit.put k ((st.file k).1 ++ xs, (st.file k).2)).fall st.keeps, 40) else (st.lit.put k ((st.file k).1 ++ xs, (st.file k).2), 0) := by
          simp only [St.append, ho, hi, Int.toNat_natCast]; simp [hfull]
        have hbu := burns_any h hok
        have H0 := Lib.hid h
        have Hk : Hid (k < st.files.length) := hk
        have Hr := Lib.hid hr; have He := Lib.hid he; have Hb := Lib.hid hb; have Hd := Lib.hid hd; have Hv := Lib.hid hv; have Hfull := Lib.hid hfull; have Hpd := Lib.hid hpd; have Hok := Lib.hid hok; have Hbu := Lib.hid hbu; clear hr he hb hd hv hfull hpd hok hbu
        clear h ho hi
        go_enter Try.func32, Try.ntmps32
        go_wp2_with (go_at_call 85; refine Hr.out.mono ?_; rintro e w' ⟨rfl, rfl⟩)
        refine Hbu.out.mono ?_
        rintro e w1 ⟨rfl, h1, hc1⟩
        clear s1 s2 g0
        have g0 := PDw.c0 h1
        have hq : k < st.lit.files.length := hk
        obtain ⟨a', m', hv', _, _, s1, s2⟩ := PDw.at_ h1 k hq
        rw [lit_file] at hv' s1 s2
        rw [Hv.out] at hv'
        obtain ⟨rfl, rfl⟩ : a' = a ∧ m' = m := by cases hv'; exact ⟨rfl, rfl⟩
        clear hv'
        rw [lit_files] at g0
        have hown := h1.files.own k hq
        rw [St.file_eq hq, lit_file, Hv.out] at hown
        have hrow := h1.files.row
        have hfr := hrow.frozen (k * 2)
        have hbs : Bs w1 (.slice xa xs.length xc) xs := bs_keep Hb.out hc1 fun k hk h0 hl hs => Hd.out k hl h0 hk hs.1
        have hqv : ∀ g, a'.map (·.block) = some g → F g ∧ g ≠ q := fun g hg => h1.files.blk k g hq (by rw [Hv.out]; cases a' <;> exact hg)
        have hpq : p ≠ q := fun e => (h1.fs q h1.files.at_).2 e.symm
        have H1 := Lib.hid h1; have Hc1 := Lib.hid hc1; have Hown := Lib.hid hown; have Hrow := Lib.hid hrow; have Hbs := Lib.hid hbs; have Hqv := Lib.hid hqv; have G0 := Lib.hid g0; clear h1 hc1 hown hrow hbs hqv g0
        go_wp2_with fail
        refine wp_region_sp (fun j => j == 12 || j == 14 || j == 17) (InA q a' w1) (by kernel_rfl) (by kernel_rfl) (Chg.refl _ _) (fun _ _ h k => Chg.thenMk h k) ?_
        intro D hD hne
        have q1 := @qAt_value Try.prog
        have l0 : ∀ w', InA q a' w1 w' → w'.cell? ⟨p, 0, none⟩ = some (.slice (some ⟨q, 0, none⟩) st.files.length c) := fun w' h => Chg.cell h G0.out (by rintro (e | e); exact hpq e; exact (H1.out.fs _ (Hqv.out _ e).1).2 rfl)
        iterate 12 (first | (refine spk (by rfl) (by rfl) (by rfl) (fun K hK => ?_); go_big_quiet_op; first | (refine hK _ ?_; clear hK K) | (apply Exists.intro; refine ⟨fun _ => ?_, hK _ ?_⟩; (exact fun _ => rfl); clear hK K)) | (refine spq (by rfl) (by rfl) (fun K hK => ?_); apply Exists.intro; refine ⟨fun w' hw' => ?_, ?_⟩; (go_simp; exact rfl); (go_simp; refine hK _ ?_; clear hK K)))
        refine sps (by rfl) (by rfl) (fun v w' => v = .slice a' (st.file k).1.length m' ∧ Mk w1 w') (fun v w1 w2 h k => ⟨h.1, mk_trans h.2 k⟩) (fun v w' h => Chg.of_mk h.2) (fun w' hw' => ?_) (fun K dv hdv hK => ?_)
        · have hm := (hD.out w' hw').1
          have hcell : w'.cell? ⟨q, k * 2, none⟩ = some (.slice a' (st.file k).1.length m') := (hm.cell (Hrow.out.lt)).trans s1
          have HM := Lib.hid hm
          clear hm
          have sA := @sAt_value
          go_simp
          exact HM.out
        obtain ⟨w0, rfl, h0⟩ := hdv
        clear h0 w0 hne
        go_simp
        refine hK _ ?_
        clear hK K
        iterate 1 (first | (refine spk (by rfl) (by rfl) (by rfl) (fun K hK => ?_); go_big_quiet_op; first | (refine hK _ ?_; clear hK K) | (apply Exists.intro; refine ⟨fun _ => ?_, hK _ ?_⟩; (exact fun _ => rfl); clear hK K)) | (refine spq (by rfl) (by rfl) (fun K hK => ?_); apply Exists.intro; refine ⟨fun w' hw' => ?_, ?_⟩; (go_simp; exact rfl); (go_simp; refine hK _ ?_; clear hK K)))
        refine sps (by rfl) (by rfl) (fun v w' => InA q a' w1 w' ∧ Bk w' q 146 cs ∧ w'.ownsRow 0 5 1 v ((st.file k).1.length + xs.length) (bv (st.file k).1 ++ bv xs) ∧ (v.ownBlock = a'.map (·.block) ∨ ∃ g, v.ownBlock = some g ∧ w1.heap.size ≤ g))
          (fun v w1 w2 h k => ⟨Chg.thenMk h.1 k, h.2.1.mk k, own_mk h.2.2.1 k, h.2.2.2⟩) (fun v w' h => h.1) (fun w' hw' => ?_) (fun K dv hdv hK => ?_)
        · obtain ⟨_, hm⟩ := hw'
          have hb' : a'.map (·.block) = (Value.slice a' (st.file k).1.length m').ownBlock := by cases a' <;> rfl
          refine sAt_append (v := .slice a' (st.file k).1.length m') (xv := .slice xa xs.length xc) Try.underlying22 FrW.info5 (.tmp 42) (.tmp 43) rfl rfl (own_mk Hown.out hm) rfl (Hbs.out.mk hm) (bv_one _) (by omega) (by omega) ?_
          intro v' w'' ho hg hn hf
          rw [hb']
          have hch : InA q a' w1 w'' := Chg.trans (Chg.of_mk hm) (Chg.of_grown hg fun k hk _ => by rw [← hb'] at hk; exact hk) (fun x _ e => .inr e)
          have hbk : Bk w'' q 146 cs := by
            refine (Hrow.out.mk hm).keep (Chg.of_grown (S := fun g => a'.map (·.block) = some g) hg fun k hk _ => by rw [← hb'] at hk; exact hk) fun e => (Hqv.out q e).2 rfl
          refine ⟨hch, hbk, ho, hf.imp id fun ⟨g, h1, h2⟩ => ⟨g, h1, by have := hm.size; omega⟩⟩
        obtain ⟨w0, hx1', hx2', h0, hfresh⟩ := hdv
        obtain ⟨a2, m2, rfl, hm21, hm22⟩ := (own_sl h0).form
        have Hfresh := Lib.hid hfresh
        clear hx1' hx2' h0 w0 hfresh
        go_simp
        refine hK _ ?_
        clear hK K
        iterate 2 (first | (refine spk (by rfl) (by rfl) (by rfl) (fun K hK => ?_); go_big_quiet_op; first | (refine hK _ ?_; clear hK K) | (apply Exists.intro; refine ⟨fun _ => ?_, hK _ ?_⟩; (exact fun _ => rfl); clear hK K)) | (refine spq (by rfl) (by rfl) (fun K hK => ?_); apply Exists.intro; refine ⟨fun w' hw' => ?_, ?_⟩; (go_simp; exact rfl); (go_simp; refine hK _ ?_; clear hK K)))
        refine sps (by rfl) (by rfl) (fun v w' => v = undef ∧ InA q a' w1 w' ∧ Bk w' q 146 (cs.setIfInBounds (k * 2) (.slice a2 ((st.file k).1.length + xs.length) m2)) ∧ w'.ownsRow 0 5 1 (.slice a2 ((st.file k).1.length + xs.length) m2) ((st.file k).1.length + xs.length) (bv (st.file k).1 ++ bv xs))
          (fun v w1 w2 h k => ⟨h.1, Chg.thenMk h.2.1 k, h.2.2.1.mk k, own_mk h.2.2.2 k⟩) (fun v w' h => h.2.1) (fun w' hw' => ?_) (fun K dv hdv hK => ?_)
        · obtain ⟨hin, hbk, how, _⟩ := hw'
          have hcell : w'.cell? ⟨q, k * 2, none⟩ = some (.slice a' (st.file k).1.length m') := by rw [hbk.cell, ← Hrow.out.cell]; exact s1
          have hfr' := hbk.frozen (k * 2)
          have h2 : a2.map (·.block) ≠ some q := by
            intro e
            rcases Hfresh.out with e2 | ⟨g, e2, hg⟩
            · have e3 : a2.map (·.block) = a'.map (·.block) := by rw [← e2]; cases a2 <;> rfl
              exact (Hqv.out q (by rw [← e3, e])).2 rfl
            · have e3 : a2.map (·.block) = some g := by rw [← e2]; cases a2 <;> rfl
              rw [e] at e3
              cases e3
              have := Hrow.out.lt
              omega
          have hset : Chg (fun g => g = q) w' (w'.setCell ⟨q, k * 2, none⟩ (.slice a2 ((st.file k).1.length + xs.length) m2)) := Chg.set _ _ _ _ rfl
          have hout : InA q a' w1 (w'.setCell ⟨q, k * 2, none⟩ (.slice a2 ((st.file k).1.length + xs.length) m2)) ∧ Bk (w'.setCell ⟨q, k * 2, none⟩ (.slice a2 ((st.file k).1.length + xs.length) m2)) q 146 (cs.setIfInBounds (k * 2) (.slice a2 ((st.file k).1.length + xs.length) m2)) ∧ (w'.setCell ⟨q, k * 2, none⟩ (.slice a2 ((st.file k).1.length + xs.length) m2)).ownsRow 0 5 1 (.slice a2 ((st.file k).1.length + xs.length) m2) ((st.file k).1.length + xs.length) (bv (st.file k).1 ++ bv xs) :=
            ⟨Chg.trans hin hset fun x _ e => .inl e, hbk.set _ _, row_keep how hset fun g hg e => h2 (by subst e; rw [← hg]; cases a2 <;> rfl)⟩
          have Hout := Lib.hid hout; have Hin := Lib.hid hin; have Hbk := Lib.hid hbk; have How := Lib.hid how; have Hset := Lib.hid hset; clear hout hin hbk how hset
          have sA := @sAt_skip
          go_simp
          exact Hout.out
        obtain ⟨w0, rfl, _⟩ := hdv
        go_simp
        refine hK _ ?_
        clear hK K
        refine sp_nil ?_
        rintro w3 ⟨-, hin, hbk, how⟩
        have hz := H1.out.files.size
        have hbl := bv_append (st.file k).1 xs
        rw [← hbl, ← List.length_append] at how
        have hP := PDw.put H1.out hq (b' := (st.file k).1 ++ xs) (n' := (st.file k).2) (hin.sub fun g _ e => e.imp id fun e => by rw [Hv.out]; cases a' <;> exact e) hbk (by rw [Array.size_setIfInBounds])
          (by rw [Array.getElem?_setIfInBounds_self_of_lt (by omega)]) (by rw [Array.getElem?_setIfInBounds_ne (by omega)]; have := H1.out.files.last k hq; rw [St.file_eq hq] at this; exact this)
          (fun j h1 h2 => by rw [Array.getElem?_setIfInBounds_ne (by omega)]) (by rw [List.length_append] at how ⊢; exact how)
          (fun g hg => by
            rcases Hfresh.out with e2 | ⟨g2, e2, hg2⟩
            · refine .inl ?_
              rw [Hv.out]
              have e3 : a2.map (·.block) = a'.map (·.block) := by rw [← e2]; cases a2 <;> rfl
              have e4 : a2.map (·.block) = some g := by rw [← hg]; cases a2 <;> rfl
              rw [e3] at e4
              cases a' <;> exact e4
            · have e4 : (Value.slice a2 ((st.file k).1.length + xs.length) m2).ownBlock = some g := by rw [← hg]
              rw [e4] at e2
              cases e2
              exact .inr hg2)
        have hC : Chg S w w3 := (Hc1.out.sub fun _ _ h => h.1).trans hin fun g _ e => by
          rcases e with rfl | e
          · exact (H1.out.fs _ H1.out.files.at_).1
          · exact (H1.out.fs _ (Hqv.out g e).1).1
        have hokp := ok_put Hok.out.toOk0 (f := k) (x := ((st.file k).1 ++ xs, (st.file k).2)) ⟨by simp; omega, by simp; omega⟩
        have hsz := Hc1.out.size
        clear s1 s2 hfr how hbk hin hbl hD q1 l0
        rcases hbt : st.burnt with _ | _
        · rw [hbt] at He
          have HP := Lib.hid hP; have HC := Lib.hid hC; have Hokp := Lib.hid hokp; clear hP hC hokp
          go_wp2
          go_ret
          refine ⟨by rw [He.out]; rfl, ?_, HC.out⟩
          rw [He.out]
          exact PD.sub ⟨_, _, _, _, _, _, _, HP.out⟩ fun g hg => by rcases hg with hg | hg; exact .inl hg; exact .inr (by omega)
        · rw [hbt] at He
          have hfu := hP.fuse
          obtain ⟨n1, kl, hfz⟩ : ∃ n kl, st.fuse = some (n, kl) := by
            unfold St.burnt at hbt
            split at hbt
            · cases hbt
            · exact ⟨_, _, ‹_›⟩
          have hfl : (st.lit.put k ((st.file k).1 ++ xs, (st.file k).2)).fuse = some (n1 - 1, kl) := by simp [St.lit, St.put, hfz]
          rw [hfl] at hfu
          obtain ⟨g, kv, rfl, hgb, hgu, hki, hkb⟩ := hfu
          have c3 := PDw.c3 hP
          have c4 : w3.cell? ⟨g, 1, none⟩ = some kv := (hgb.cell 1).trans rfl
          obtain ⟨ka, kc, rfl, _, _⟩ := hki.form
          have hokq : (st.lit.put k ((st.file k).1 ++ xs, (st.file k).2)).Ok0 M :=
            ⟨by simp [St.put, St.lit]; exact Hok.out.some, hokp.1, hokp.2, Hok.out.falls⟩
          have hfall := fall_any hP hokq hM (.slice ka kl.length kc) kl hki (fun k hp hk => ⟨fun e => hP.disj k (e ▸ hP.files.at_) (hkb k hp hk).1, fun e => (hP.us k (hkb k hp hk).1).2 e⟩)
          have hkk : st.keeps = kl := by simp [St.keeps, hfz]
          have HP := Lib.hid hP; have HC := Lib.hid hC; have Hokp := Lib.hid hokp; have Hokq := Lib.hid hokq; have Hfall := Lib.hid hfall; have Hgb := Lib.hid hgb; have Hgu := Lib.hid hgu; have Hki := Lib.hid hki; have Hkb := Lib.hid hkb; have Hfl := Lib.hid hfl; have Hkk := Lib.hid hkk; have Hfz := Lib.hid hfz; clear hP hC hokp hokq hfall hgb hgu hki hkb hfl hkk hfz
          go_wp2_with fail
          refine Hfall.out.mono ?_
          rintro e w4 ⟨rfl, ⟨cs4, vs4, hP4⟩, hc4⟩
          go_wp2
          go_ret
          have hz4 := HC.out.size
          refine ⟨by rw [He.out]; rfl, ?_, ?_⟩
          · rw [He.out, Hkk.out]
            exact PD.sub ⟨_, _, _, _, _, _, _, hP4⟩ fun g hg => by rcases hg with hg | hg; exact .inl hg; exact .inr (by omega)
          · refine HC.out.trans hc4 fun x hx e => ?_
            rcases e with rfl | rfl
            · exact (H1.out.fs _ H1.out.files.at_).1
            · exact H1.out.sp
  · rw [ho] at hr
    have Hr := Lib.hid hr; clear hr
    go_enter Try.func32, Try.ntmps32
    go_wp2_with (go_at_call 85; refine Hr.out.mono ?_; rintro e w' ⟨rfl, rfl⟩)
    go_ret
    exact ⟨by simp [St.append, ho], by simpa [St.append, ho] using hpd, Chg.refl _ _⟩
theorem append_any {S : Nat → Prop} {w : World} {p : Nat} {st : St} {M : Nat} (h : PD S w p st) (hok : st.Ok M) (hM : M ≤ 1000000) (f : Int) (v : Value) (xs : List UInt8) (hb : Bs w v xs) (hbx : xs.length ≤ 1073741824)
    (hd : ∀ k, k < w.heap.size → v.ownBlock = some k → ¬ S k) :
    Calls Try.prog 32 #[.pointer (some ⟨p, 0, none⟩), .int .i64 f, v] w fun e w' => e = .returned (.int .i64 (st.append f xs).2) ∧ PD (Gw S w) w' p (st.append f xs).1 ∧ Chg S w w' := append_any0 h hok hM f v xs hb hbx (fun k hk _ e => hd k hk e)
end Go.Proofs.DkW

namespace Go.Proofs.DkW
open Go Go.RowKit Go.Tk Go.Dk Go.Sp
attribute [local go_sem] Oper.semAt_some

/-- A fuse that burns: what is kept, and the fall. -/
theorem PDw.falls {S F U : Nat → Prop} {w : World} {p q c : Nat} {cs : Array Value} {vs : Nat → Value} {fu : Value} {st : St} {M : Nat} {n : Int} {kl : List Int}
    (hP : PDw S F U w p q c cs vs fu st) (hok : st.Ok0 M) (hM : M ≤ 1000000) (hf : st.fuse = some (n, kl)) :
    ∃ g ka kc, fu = .pointer (some ⟨g, 0, none⟩) ∧ w.cell? ⟨p, 3, none⟩ = some (.pointer (some ⟨g, 0, none⟩)) ∧ w.cell? ⟨g, 1, none⟩ = some (.slice ka kl.length kc) ∧
      Calls Try.prog 87 #[.pointer (some ⟨p, 0, none⟩), .slice ka kl.length kc] w fun e w' => e = .returned (.tuple #[]) ∧ (∃ cs vs, PDw S F U w' p q c cs vs (.pointer none) (st.fall kl)) ∧ Chg (fun k => k = q ∨ k = p) w w' := by
  have hfu := hP.fuse
  rw [hf] at hfu
  obtain ⟨g, kv, rfl, hgb, hgu, hki, hkb⟩ := hfu
  obtain ⟨ka, kc, rfl, _, _⟩ := hki.form
  exact ⟨g, ka, kc, rfl, PDw.c3 hP, (hgb.cell 1).trans rfl, fall_any hP hok hM _ kl hki fun k hp hk => ⟨fun e => hP.disj k (e ▸ hP.files.at_) (hkb k hp hk).1, fun e => (hP.us k (hkb k hp hk).1).2 e⟩⟩
theorem burnt_some {st : St} (h : st.burnt = true) : ∃ n kl, st.fuse = some (n, kl) := by
  unfold St.burnt at h
  split at h
  · cases h
  · exact ⟨_, _, ‹_›⟩
theorem lit_ok {st : St} {M : Nat} (h : st.Ok M) : st.lit.Ok0 M := ⟨h.some, h.many, h.file, h.falls⟩

set_option maxHeartbeats 1000000 in
set_option maxRecDepth 100000 in
theorem sync_any {S : Nat → Prop} {w : World} {p : Nat} {st : St} {M : Nat} (h : PD S w p st) (hok : st.Ok M) (hM : M ≤ 1000000) (f : Int) :
    Calls Try.prog 33 #[.pointer (some ⟨p, 0, none⟩), .int .i64 f] w fun e w' => e = .returned (.int .i64 (st.sync f).2) ∧ PD S w' p (st.sync f).1 ∧ Chg S w w' := by
  have hr := refused_any f h
  have hpd := h
  obtain ⟨F, U, q, c, cs, vs, fu, h⟩ := h
  cases ho : st.off
  · cases hi : st.is f
    · rw [ho, hi] at hr
      have Hr := Lib.hid hr; clear hr
      go_enter Try.func33, Try.ntmps33
      go_wp2_with (go_at_call 85; refine Hr.out.mono ?_; rintro e w' ⟨rfl, rfl⟩)
      go_ret
      exact ⟨by simp [St.sync, ho, hi], by simpa [St.sync, ho, hi] using hpd, Chg.refl _ _⟩
    · rw [ho, hi] at hr
      obtain ⟨k, rfl, hk⟩ := is_nat hi
      have he : st.sync (k : Int) = if st.burnt then (st.lit.fall st.keeps, 40) else (st.lit.put k ((st.file k).1, (st.file k).1.length), 0) := by
        simp only [St.sync, ho, hi, Int.toNat_natCast]; simp
      have hbu := burns_any h hok
      have Hk : Hid (k < st.files.length) := hk
      have Hr := Lib.hid hr; have He := Lib.hid he; have Hpd := Lib.hid hpd; have Hok := Lib.hid hok; have Hbu := Lib.hid hbu; clear hr he hpd hok hbu
      clear h ho hi
      rcases hbt : st.burnt with _ | _
      · rw [hbt] at He Hbu
        go_enter Try.func33, Try.ntmps33
        go_wp2_with (first | (go_at_call 85; refine Hr.out.mono ?_; rintro e w' ⟨rfl, rfl⟩) | fail)
        refine Hbu.out.mono ?_
        rintro e w1 ⟨rfl, h1, hc1⟩
        have hq : k < st.lit.files.length := hk
        have g0 := PDw.c0 h1
        obtain ⟨a, m, hv, hm1, hm2, s1, s2⟩ := PDw.at_ h1 k hq
        rw [lit_file] at hv hm1 s1 s2
        rw [lit_files] at g0
        have hfr := h1.files.row.frozen (k * 2 + 1)
        have Hv := Lib.hid hv
        have H1 := Lib.hid h1; have Hc1 := Lib.hid hc1; clear h1 hc1
        clear hv hbt
        go_wp2_with fail
        go_still_tail 16, (by kernel_rfl)
        go_wp2
        go_ret
        have hcc : Chg (fun k => k = q) w1 (w1.setCell ⟨q, k * 2 + 1, none⟩ (.int .i64 ((st.file k).1.length : Int))).drew := ((Chg.refl (fun k => k = q) w1).thenSet _ _ (.inl rfl)).drew
        have hz := H1.out.files.size
        have hsl := H1.out.files.sl k hq
        have ho := H1.out.files.own k hq
        rw [He.out]
        refine ⟨rfl, ⟨F, U, q, c, _, fun i => if i = k then vs k else vs i, fu, PDw.cut H1.out hq hcc (H1.out.files.row.set _ _) ?_ ?_ ?_ ?_ (row_keep (by rw [St.file_eq hq] at ho; exact ho) hcc fun g hg => (H1.out.files.blk k g hq hg).2) (fun g hg => hg)⟩, ?_⟩
        · rw [Array.size_setIfInBounds]
        · rw [Array.getElem?_setIfInBounds_ne (by omega)]; exact hsl
        · rw [Array.getElem?_setIfInBounds_self_of_lt (by omega)]
        · exact fun j h1 h2 => by rw [Array.getElem?_setIfInBounds_ne (by omega)]
        · exact (Hc1.out.sub fun _ _ h => h.1).trans hcc fun g _ e => e ▸ (H1.out.fs _ H1.out.files.at_).1
      · rw [hbt] at He Hbu
        obtain ⟨n1, kl, hfz⟩ := burnt_some hbt
        have hfl : st.lit.fuse = some (n1 - 1, kl) := by simp [St.lit, hfz]
        have hkk : st.keeps = kl := by simp [St.keeps, hfz]
        have Hfl := Lib.hid hfl; have Hkk := Lib.hid hkk; clear hfl hkk
        clear hfz hbt
        go_enter Try.func33, Try.ntmps33
        go_wp2_with (first | (go_at_call 85; refine Hr.out.mono ?_; rintro e w' ⟨rfl, rfl⟩) | fail)
        refine Hbu.out.mono ?_
        rintro e w1 ⟨rfl, h1, hc1⟩
        obtain ⟨g, ka, kc, rfl, c3, c4, hfall⟩ := PDw.falls h1 (lit_ok Hok.out) hM Hfl.out
        have H1 := Lib.hid h1; have Hc1 := Lib.hid hc1; have Hfall := Lib.hid hfall; clear h1 hc1 hfall
        go_wp2_with fail
        refine Hfall.out.mono ?_
        rintro e w4 ⟨rfl, ⟨cs4, vs4, hP4⟩, hc4⟩
        go_wp2
        go_ret
        rw [He.out, Hkk.out]
        refine ⟨rfl, ⟨_, _, _, _, _, _, _, hP4⟩, (Hc1.out.sub fun _ _ h => h.1).trans hc4 fun x hx e => ?_⟩
        rcases e with rfl | rfl
        · exact (H1.out.fs _ H1.out.files.at_).1
        · exact H1.out.sp
  · rw [ho] at hr
    have Hr := Lib.hid hr; clear hr
    go_enter Try.func33, Try.ntmps33
    go_wp2_with (go_at_call 85; refine Hr.out.mono ?_; rintro e w' ⟨rfl, rfl⟩)
    go_ret
    exact ⟨by simp [St.sync, ho], by simpa [St.sync, ho] using hpd, Chg.refl _ _⟩

set_option maxHeartbeats 1000000 in
set_option maxRecDepth 100000 in
theorem truncate_any {S : Nat → Prop} {w : World} {p : Nat} {st : St} {M : Nat} (h : PD S w p st) (hok : st.Ok M) (hM : M ≤ 1000000) (f n : Int) :
    Calls Try.prog 34 #[.pointer (some ⟨p, 0, none⟩), .int .i64 f, .int .i64 n] w fun e w' => e = .returned (.int .i64 (st.truncate f n).2) ∧ PD S w' p (st.truncate f n).1 ∧ Chg S w w' := by
  have hr := refused_any f h
  have hpd := h
  obtain ⟨F, U, q, c, cs, vs, fu, h⟩ := h
  cases ho : st.off
  · cases hi : st.is f
    · rw [ho, hi] at hr
      have Hr := Lib.hid hr; clear hr
      go_enter Try.func34, Try.ntmps34
      go_wp2_with (first | (go_at_call 85; refine Hr.out.mono ?_; rintro e w' ⟨rfl, rfl⟩) | fail)
      go_ret
      exact ⟨by simp [St.truncate, ho, hi], by simpa [St.truncate, ho, hi] using hpd, Chg.refl _ _⟩
    · rw [ho, hi] at hr
      obtain ⟨k, rfl, hk⟩ := is_nat hi
      have g0 := PDw.c0 h
      obtain ⟨a, m, hv, hm1, hm2, s1, s2⟩ := PDw.at_ h k hk
      have hb3 := hok.file (st.file k) (by rw [← St.file_eq hk]; exact List.getElem_mem _)
      by_cases hn : n < 0 ∨ ((st.file k).1.length : Int) < n
      · have he : st.truncate (k : Int) n = (st, 1) := by simp only [St.truncate, ho, hi, Int.toNat_natCast]; simp [hn]
        have Hr := Lib.hid hr; have He := Lib.hid he; have Hpd := Lib.hid hpd; have Hv := Lib.hid hv; clear hr he hpd hv
        rcases Int.lt_or_le n 0 with h0 | h0
        · have hd : decide (n < 0) = true := by simpa using h0
          clear hn
          go_enter Try.func34, Try.ntmps34
          go_wp2_with (first | (go_at_call 85; refine Hr.out.mono ?_; rintro e w' ⟨rfl, rfl⟩) | fail)
          go_ret
          rw [He.out]
          exact ⟨rfl, Hpd.out, Chg.refl _ _⟩
        · have hd : decide (n < 0) = false := by simpa using h0
          have hd2 : ((st.file k).1.length : Int) < n := by omega
          clear hn
          go_enter Try.func34, Try.ntmps34
          go_wp2_with (first | (go_at_call 85; refine Hr.out.mono ?_; rintro e w' ⟨rfl, rfl⟩) | fail)
          go_ret
          rw [He.out]
          exact ⟨rfl, Hpd.out, Chg.refl _ _⟩
      · obtain ⟨n, rfl⟩ := Int.eq_ofNat_of_zero_le (show 0 ≤ n by omega)
        have he : st.truncate (k : Int) (n : Int) = if st.burnt then (st.lit.fall st.keeps, 40) else (st.lit.put k ((st.file k).1.take n, min (st.file k).2 n), 0) := by
          simp only [St.truncate, ho, hi, Int.toNat_natCast, if_neg hn]; simp
        have hn1 : (n : Int) ≤ ((st.file k).1.length : Int) := by omega
        have hn3 : ¬ ((st.file k).1.length : Int) < (n : Int) := by omega
        have hn2 : n ≤ (st.file k).1.length := by omega
        have hbu := burns_any h hok
        have Hk : Hid (k < st.files.length) := hk
        have Hr := Lib.hid hr; have He := Lib.hid he; have Hpd := Lib.hid hpd; have Hok := Lib.hid hok; have Hbu := Lib.hid hbu; have Hv := Lib.hid hv; have Hn := Lib.hid hn; clear hr he hpd hok hbu hv hn
        clear h ho hi
        rcases hbt : st.burnt with _ | _
        · rw [hbt] at He Hbu
          go_enter Try.func34, Try.ntmps34
          go_wp2_with (first | (go_at_call 85; refine Hr.out.mono ?_; rintro e w' ⟨rfl, rfl⟩) | fail)
          refine Hbu.out.mono ?_
          rintro e w1 ⟨rfl, h1, hc1⟩
          have hq : k < st.lit.files.length := hk
          clear s1 s2 g0
          obtain ⟨a', m', hv, _, _, s1, s2⟩ := PDw.at_ h1 k hq
          rw [lit_file] at hv s1 s2
          rw [Hv.out] at hv
          obtain ⟨rfl, rfl⟩ : a' = a ∧ m' = m := by cases hv; exact ⟨rfl, rfl⟩
          clear hv
          have hf0 := h1.files.row.frozen (k * 2)
          have hf1 := h1.files.row.frozen (k * 2 + 1)
          have hnm : (n : Int) ≤ (m' : Int) := by omega
          have hnm2 : n ≤ m' := by omega
          obtain ⟨t, ht⟩ : ∃ t, (st.file k).2 = t := ⟨_, rfl⟩
          rw [ht] at s2
          obtain ⟨T, hT⟩ : ∃ T, min t n = T := ⟨_, rfl⟩
          have e1 : (if (n : Int) < (t : Int) then (n : Int) else (t : Int)) = (T : Int) := by split <;> omega
          have e2 : (if n < t then (n : Int) else (t : Int)) = (T : Int) := by split <;> omega
          have H1 := Lib.hid h1; have Hc1 := Lib.hid hc1; have Ht := Lib.hid ht; have HT := Lib.hid hT; clear h1 hc1 ht hT
          clear hbt
          go_wp2
          go_ret
          have hcc : Chg (fun k => k = q) w1 ((w1.setCell ⟨q, k * 2, none⟩ (.slice a' n m')).setCell ⟨q, k * 2 + 1, none⟩ (.int .i64 (T : Int))) := ((Chg.refl (fun k => k = q) w1).thenSet _ _ (.inl rfl)).thenSet _ _ (.inl rfl)
          have hz := H1.out.files.size
          rw [He.out, Ht.out, HT.out]
          refine ⟨rfl, ⟨F, U, q, c, _, fun i => if i = k then .slice a' n m' else vs i, fu, PDw.cut H1.out hq hcc ((H1.out.files.row.set _ _).set _ _) ?_ ?_ ?_ ?_ (Files.own_cut H1.out.files hq (St.file_eq hq) Hv.out hn2 hcc) (fun g hg => by rw [Hv.out]; cases a' <;> exact hg)⟩, ?_⟩
          · rw [Array.size_setIfInBounds, Array.size_setIfInBounds]
          · rw [Array.getElem?_setIfInBounds_ne (by omega), Array.getElem?_setIfInBounds_self_of_lt (by omega)]
          · rw [Array.getElem?_setIfInBounds_self_of_lt (by rw [Array.size_setIfInBounds]; omega)]
          · exact fun j h1 h2 => by rw [Array.getElem?_setIfInBounds_ne (by omega), Array.getElem?_setIfInBounds_ne (by omega)]
          · exact (Hc1.out.sub fun _ _ h => h.1).trans hcc fun g _ e => e ▸ (H1.out.fs _ H1.out.files.at_).1
        · rw [hbt] at He Hbu
          obtain ⟨n1, kl, hfz⟩ := burnt_some hbt
          have hfl : st.lit.fuse = some (n1 - 1, kl) := by simp [St.lit, hfz]
          have hkk : st.keeps = kl := by simp [St.keeps, hfz]
          have Hfl := Lib.hid hfl; have Hkk := Lib.hid hkk; clear hfl hkk
          clear hfz hbt
          go_enter Try.func34, Try.ntmps34
          go_wp2_with (first | (go_at_call 85; refine Hr.out.mono ?_; rintro e w' ⟨rfl, rfl⟩) | fail)
          refine Hbu.out.mono ?_
          rintro e w1 ⟨rfl, h1, hc1⟩
          obtain ⟨g, ka, kc, rfl, c3, c4, hfall⟩ := PDw.falls h1 (lit_ok Hok.out) hM Hfl.out
          have H1 := Lib.hid h1; have Hc1 := Lib.hid hc1; have Hfall := Lib.hid hfall; clear h1 hc1 hfall
          go_wp2_with fail
          refine Hfall.out.mono ?_
          rintro e w4 ⟨rfl, ⟨cs4, vs4, hP4⟩, hc4⟩
          go_wp2
          go_ret
          rw [He.out, Hkk.out]
          refine ⟨rfl, ⟨_, _, _, _, _, _, _, hP4⟩, (Hc1.out.sub fun _ _ h => h.1).trans hc4 fun x hx e => ?_⟩
          rcases e with rfl | rfl
          · exact (H1.out.fs _ H1.out.files.at_).1
          · exact H1.out.sp
  · rw [ho] at hr
    have Hr := Lib.hid hr; clear hr
    go_enter Try.func34, Try.ntmps34
    go_wp2_with (first | (go_at_call 85; refine Hr.out.mono ?_; rintro e w' ⟨rfl, rfl⟩) | fail)
    go_ret
    exact ⟨by simp [St.truncate, ho], by simpa [St.truncate, ho] using hpd, Chg.refl _ _⟩
end Go.Proofs.DkW

namespace Go.Proofs.FrW
open Go Go.RowKit Go.Tk

def sizeF (n : Int) : Int := if n < 0 then 0 else if 4194304 < n then 0 else n + 9
theorem size_any (n : Int) (w : World) : Calls Try.prog 20 #[.int .i64 n] w fun e w' => e = .returned (.int .i64 (sizeF n)) ∧ w = w' := by
  unfold sizeF
  by_cases h1 : n < 0
  · go_enter Try.func20, Try.ntmps20
    go_wp2
    go_ret
    exact ⟨by simp [h1], rfl⟩
  · by_cases h2 : 4194304 < n
    · go_enter Try.func20, Try.ntmps20
      go_wp2
      go_ret
      exact ⟨by simp [h1, h2], rfl⟩
    · go_enter Try.func20, Try.ntmps20
      go_wp2
      go_ret
      exact ⟨by simp [h1, h2]; omega, rfl⟩
theorem sizeR_any (n : Int) (w : World) : Calls Try.prog 21 #[.int .i64 n] w fun e w' => e = .returned (.int .i64 (sizeF n)) ∧ w = w' := by
  unfold sizeF
  by_cases h1 : n < 0
  · go_enter Try.func21, Try.ntmps21
    go_wp2
    go_ret
    exact ⟨by simp [h1], rfl⟩
  · by_cases h2 : 4194304 < n
    · go_enter Try.func21, Try.ntmps21
      go_wp2
      go_ret
      exact ⟨by simp [h1, h2], rfl⟩
    · go_enter Try.func21, Try.ntmps21
      go_wp2
      go_ret
      exact ⟨by simp [h1, h2], rfl⟩
set_option maxHeartbeats 400000 in
set_option maxRecDepth 100000 in
theorem four_any (w : World) (base : Nat) (v : Value) (xs : List UInt8) (n : Nat) (hn : n < 4294967296) (h : w.ownsRow base 5 1 v xs.length (bv xs)) (hb : xs.length ≤ 140737488355000) (hbase : base ≤ w.heap.size) :
    Calls Try.prog 142 #[v, .int .u32 (n : Int)] w fun e w' => ∃ v', e = .returned v' ∧ w'.ownsRow base 5 1 v' (xs ++ by4 n).length (bv (xs ++ by4 n)) ∧ w.grownBy w' v.ownBlock ∧ (v'.ownBlock = v.ownBlock ∨ ∃ g, v'.ownBlock = some g ∧ w.heap.size ≤ g) := by
  have h' := Lib.hid h
  have hb' := Lib.hid hb
  have hn' := Lib.hid hn
  clear h hb hn
  go_enter Try.func142, Try.ntmps142
  go_wp2_with (at_builtin; refine wpList_append_bytes (P := Try.prog) Try.underlying22 info5 rfl (.tmp 5) (.tmp 17) rfl rfl (h'.out.alloc _) rfl (new_bytes w (by4 n) _ 5 4 rfl (by4_eq n) (by simp [maxLen])) (bv_one _) (by have := hb'.out; omega) (by simp; omega) ?_; intro v1 w1 ho1 hg1 hn1 hf1; have Ho1 := Lib.hid ho1; have Hg1 := Lib.hid hg1; have Hf1 := Lib.hid hf1; clear ho1 hg1 hn1 hf1)
  go_ret
  exact ⟨_, rfl, by rw [List.length_append, bv_append]; exact Ho1.out, alloc_grown Hg1.out, own_fresh_alloc Hf1.out⟩

/-! ### the table -/
theorem s1_odd {n : Nat} (h : n % 2 = 1) : ((Fr.s1 n : Nat) : Int) = ((n / 2 ^^^ 3988292384 : Nat) : Int) := by unfold Fr.s1; rw [if_pos h]
theorem s1_even {n : Nat} (h : n % 2 = 0) : ((Fr.s1 n : Nat) : Int) = ((n / 2 : Nat) : Int) := by unfold Fr.s1; rw [if_neg (by omega)]
/-- what the inner loop has made of i behind k rounds -/
def skL : Nat → Nat → Nat
  | 0, n => n
  | k + 1, n => Fr.s1 (skL k n)
theorem skL_s1 (k n : Nat) : skL k (Fr.s1 n) = Fr.s1 (skL k n) := by
  induction k with
  | zero => rfl
  | succ k ih => simp only [skL]; rw [ih]
theorem skL_eq (k : Nat) : ∀ n, skL k n = Fr.sk k n := by
  induction k with
  | zero => intro n; rfl
  | succ k ih => intro n; simp only [skL, Fr.sk]; rw [← ih, skL_s1]
theorem skL_lt (k : Nat) {n : Nat} (h : n < 2 ^ 32) : skL k n < 2 ^ 32 := by rw [skL_eq]; exact Fr.sk_lt k h

theorem info196 : (Try.prog.info? 196).map (fun i => (i.zero, i.size, i.bytes)) = some (some (.agg (Array.replicate 256 (.int .u32 0))), 256, 1024) := by kernel_rfl
/-- the table -/
def crcTab : Array Value := ((List.range 256).map fun i => Value.int .u32 (Fr.sk 8 i : Int)).toArray
theorem crcTab_size : crcTab.size = 256 := by simp [crcTab]
theorem crcTab_at (i : Nat) (h : i < 256) : crcTab[i]? = some (.int .u32 (Fr.sk 8 i : Int)) := by simp [crcTab, h]
theorem crcTab_one : ∀ v ∈ crcTab.toList, v.oneCell' = true := by intro v hv; simp [crcTab] at hv; obtain ⟨i, _, rfl⟩ := hv; rfl
theorem crcTab_info : (Try.prog.info? 196).map (·.size) = some crcTab.size := by rw [crcTab_size]; kernel_rfl
/-- the table as far as it is made -/
def Tab (g k : Nat) (w : World) : Prop := ∃ cs : Array Value, w.heap[g]? = some (.cells cs 196 (0, 0)) ∧ cs.size = 256 ∧ ∀ i, i < k → cs[i]? = some (.int .u32 (Fr.sk 8 i : Int))
theorem Tab.cell {g k : Nat} {w : World} (h : Tab g k w) (j : Nat) (hj : j < 256) : (∃ v, w.cell? ⟨g, j, none⟩ = some v) ∧ w.frozen? ⟨g, j, none⟩ = false := by
  obtain ⟨cs, hg, hs, _⟩ := h
  exact ⟨⟨cs[j], by rw [cell_of_row w g j cs 196 (0, 0) hg]; simp [hs, hj]⟩, frozen_of_row w g j cs 196 hg⟩
theorem Tab.set {g k : Nat} {w : World} (h : Tab g k w) (hk : k < 256) : Tab g (k + 1) (w.setCell ⟨g, k, none⟩ (.int .u32 (Fr.sk 8 k : Int))) := by
  obtain ⟨cs, hg, hs, hc⟩ := h
  refine ⟨_, heap_setCell_same w g k cs 196 _ hg, by simpa using hs, fun i hi => ?_⟩
  rw [Array.getElem?_setIfInBounds]
  by_cases e : k = i
  · subst e; simp [hs, hk]
  · rw [if_neg e]; exact hc i (by omega)
theorem Tab.full {g : Nat} {w : World} (h : Tab g 256 w) : w.heap[g]? = some (.cells crcTab 196 (0, 0)) := by
  obtain ⟨cs, hg, hs, hc⟩ := h
  rw [hg]
  congr 2
  apply Array.ext (by rw [hs, crcTab_size])
  intro i h1 h2
  have := hc i (by omega)
  have h3 := crcTab_at i (by omega)
  rw [Array.getElem?_eq_getElem h1] at this
  rw [Array.getElem?_eq_getElem h2] at h3
  exact Option.some.inj (this.trans h3.symm)
theorem and1 {x : Nat} (h : x < 4294967296) : bits BinOp.and IntKind.u32 (x : Int) 1 = ((x % 2 : Nat) : Int) := by
  have := u32_and_nat x 1 h (by omega)
  rw [show ((1 : Nat) : Int) = 1 from rfl] at this
  rw [this, nat_mask1]
theorem xorP {x : Nat} (h : x < 4294967296) (h1 : x % 2 = 1) : bits BinOp.xor IntKind.u32 ((x : Int) / 2) 3988292384 = ((Fr.s1 x : Nat) : Int) := by
  have := u32_xor_nat (x / 2) 3988292384 (by omega) (by omega)
  rw [show (((x / 2 : Nat) : Int)) = (x : Int) / 2 from by omega, show ((3988292384 : Nat) : Int) = 3988292384 from rfl] at this
  rw [this, s1_odd h1]
theorem shr1 {x : Nat} (h1 : x % 2 = 0) : (x : Int) / 2 = ((Fr.s1 x : Nat) : Int) := by rw [s1_even h1]; omega
set_option maxRecDepth 100000 in
theorem table_any (w : World) : Calls Try.prog 141 #[] w fun e w' => e = .returned (.agg crcTab) ∧ Mk w w' := by
  go_enter Try.func141, Try.ntmps141
  go_wp2
  obtain ⟨w0, hw0⟩ : ∃ w0, (w.alloc (Obj.cells Try.zeroCells196 196)).alloc (Obj.cells Try.zeroCells196 196) = w0 := ⟨_, rfl⟩
  have T0 : Tab (w.heap.size + 1) 0 w0 := by subst hw0; exact ⟨_, by have := heap_alloc_new (w.alloc (Obj.cells Try.zeroCells196 196)) (Obj.cells Try.zeroCells196 196); simpa using this, by kernel_rfl, fun i hi => by omega⟩
  have Z0 : w0.heap[w.heap.size]? = some (.cells Try.zeroCells196 196 (0, 0)) := by subst hw0; rw [Below.heap_alloc _ _ _ (by simp)]; exact heap_alloc_new _ _
  have B0 : Mk w w0 := by subst hw0; exact (mk_alloc _ _).alloc (by simp) _
  rw [hw0]
  clear hw0
  go_loopw [4] (fun i wr => ∃ k : Nat, k ≤ 256 ∧ i = .int .i64 k ∧ Tab (w.heap.size + 1) k wr ∧ Mk w wr ∧ wr.heap[w.heap.size]? = some (.cells Try.zeroCells196 196 (0, 0))) (fun i _ => 256 - (intOf i).toNat)
  case atStart => exact ⟨0, by omega, rfl, T0, B0, Z0⟩
  case round =>
    obtain ⟨k, hk, rfl, hT, hB, hZ⟩ := hrel
    have HZ := Lib.hid hZ
    have HT := Lib.hid hT
    have HB := Lib.hid hB
    clear hT hB hZ T0 B0 Z0
    by_cases hlt : k < 256
    · go_wp2
      go_loop [3, 9] (fun n j => ∃ m : Nat, m ≤ 8 ∧ j = .int .i64 m ∧ n = .int .u32 (skL m k : Int)) (fun _ j => 8 - (intOf j).toNat)
      case atStart => exact ⟨0, by omega, rfl, rfl⟩
      case round =>
        obtain ⟨m, hm, rfl, rfl⟩ := hrel
        by_cases hlm : m < 8
        · obtain ⟨x, hx⟩ : ∃ x, x = skL m k := ⟨_, rfl⟩
          have hxl : x < 4294967296 := by rw [hx]; exact skL_lt m (by omega)
          have hs : Fr.s1 x = skL (m + 1) k := by rw [hx]; rfl
          rw [← hx]
          have Hs := Lib.hid hs
          have Hxl := Lib.hid hxl
          clear hx hs hxl
          by_cases hp : x % 2 = 1
          · have hb : (bits BinOp.and IntKind.u32 (x : Int) 1 == 1) = true := by rw [and1 Hxl.out, hp]; rfl
            have Hp := Lib.hid hp
            clear hp
            go_wp2
            go_round
            case rel => exact ⟨m + 1, by omega, by go_num, by rw [xorP Hxl.out Hp.out, Hs.out]⟩
            case measure => simp [intOf]; omega
          · have hb : (bits BinOp.and IntKind.u32 (x : Int) 1 == 1) = false := by rw [and1 Hxl.out, show x % 2 = 0 by omega]; rfl
            have Hp := Lib.hid hp
            clear hp
            go_wp2
            go_round
            case rel => exact ⟨m + 1, by omega, by go_num, by rw [shr1 (by have := Hp.out; omega), Hs.out]⟩
            case measure => simp [intOf]; omega
        · obtain ⟨⟨v0, hc0⟩, hf0⟩ := HT.out.cell k hlt
          obtain rfl : m = 8 := by omega
          go_wp2
          go_roundw
          case rel => exact ⟨k + 1, by omega, by go_num, by rw [skL_eq]; exact HT.out.set hlt, HB.out.setCell (by simp) _, by rw [Below.heap_setCell _ _ _ _ (by simp)]; exact HZ.out⟩
          case measure => simp [intOf]; omega
    · have hfull : wr.heap[w.heap.size + 1]? = some (.cells crcTab 196 (0, 0)) := by
        obtain rfl : k = 256 := by omega
        exact HT.out.full
      have hz := HZ.out
      have HF := Lib.hid hfull
      have HZ2 := Lib.hid hz
      clear hfull hz
      go_wp2_with (first | (refine wpList_load_row rfl 196 (.tmp 1) rfl (w.heap.size + 1) rfl 196 _ _ _ HF.out Try.underlying196 rfl crcTab_info ?_) | (refine wpList_store_row rfl 196 (.tmp 0) (.tmp 24) rfl w.heap.size crcTab rfl rfl 196 _ HZ2.out crcTab_info (by rw [crcTab_size]; kernel_rfl) (by rw [Array.all_eq_true']; intro v hv; exact crcTab_one v (by simpa using hv)) ?_))
      have hr := setRow_has wr w.heap.size _ crcTab 196 HZ.out
      exact bodyPost_ret (results_cell_row rfl _ _ w.heap.size 196 _ _ _ rfl hr Try.underlying196 rfl crcTab_info) rfl ⟨rfl, mk_setRow HB.out (Nat.le_refl _) _⟩
end Go.Proofs.FrW
