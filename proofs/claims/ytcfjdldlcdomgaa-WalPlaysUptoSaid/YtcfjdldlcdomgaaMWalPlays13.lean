/- Layer 4, disk: the walks of the document's Append, Read, Fuse, Crash, New. Layer 6, wal: the document's answers: may, number, whole. -/
import Derived.Test.YtcfjdldlcdomgaaMWalPlays12
import Derived.Test.YtcfjdldlcdomgaaMWalPlays10
import Derived.Test.YtcfjdldlcdomgaaMWalPlays7
set_option linter.unusedVariables false
set_option linter.unusedSimpArgs false
namespace Go.Proofs.DkW
open Go Go.RowKit Go.Tk Go.Dk Go.Sp
attribute [local go_sem] Oper.semAt_some

theorem bs_keep' {T : Nat → Prop} {w w' : World} {v : Value} {xs : List UInt8} (h : Bs w v xs) (hc : Chg T w w') (hn : ∀ k, v.ownBlock = some k → 0 < xs.length → k < w.heap.size → ¬ T k) : Bs w' v xs := by
  rcases Nat.eq_zero_or_pos xs.length with h0 | h0
  · obtain ⟨hl, a, cap, rfl, h1, h2, h3, h4⟩ := h
    exact ⟨hl, a, cap, rfl, h1, h2, h3, fun hp => by omega⟩
  · exact sl_chg h hc fun k hk hl => hn k hk h0 hl
set_option maxHeartbeats 1000000 in
set_option maxRecDepth 100000 in
theorem rappend_any0 {S : Nat → Prop} {w : World} {p : Nat} {st : St} {M : Nat} (h : RD S w p st) (hok : st.Ok M) (hM : M ≤ 1000000) (f : Int) (v : Value) (xs : List UInt8) (hb : Bs w v xs) (hbx : xs.length ≤ 1073741824)
    (hd : ∀ k, k < w.heap.size → 0 < xs.length → v.ownBlock = some k → ¬ S k) :
    Calls Try.prog 48 #[.pointer (some ⟨p, 0, none⟩), .int .i64 f, v] w fun e w' => e = .returned (.int .i64 (st.append f xs).2) ∧ RD (Gw S w) w' p (st.append f xs).1 ∧ Chg S w w' := by
  have hr := may_any f h
  obtain ⟨xa, xc, rfl, hx1, hx2⟩ := hb.form
  have hpd : RD (Gw S w) w p st := RD.sub h fun k hk => .inl hk
  obtain ⟨F, U, q, c, cs, vs, bn, ops, kv, kl, h⟩ := h
  cases ho : st.off
  · cases hi : st.is f
    · rw [ho, hi] at hr
      have Hr := Lib.hid hr; clear hr
      go_enter Try.func48, Try.ntmps48
      go_wp2_with (first | (go_at_call 111; refine Hr.out.mono ?_; rintro e w' ⟨rfl, rfl⟩) | fail)
      go_ret
      exact ⟨by simp [St.append, ho, hi], by simpa [St.append, ho, hi] using hpd, Chg.refl _ _⟩
    · rw [ho, hi] at hr
      obtain ⟨k, rfl, hk⟩ := is_nat hi
      obtain ⟨a, m, hv, hm1, hm2, s1, s2⟩ := RDw.at_ h k hk
      have g0 := RDw.c0 h
      have hb3 := hok.file (st.file k) (by rw [← St.file_eq hk]; exact List.getElem_mem _)
      have hb4 : ((st.file k).1.length : Int) ≤ 16777216 := by omega
      by_cases hfull : 16777216 < (st.file k).1.length + xs.length
      · have hf1 : (16777216 : Int) - ((st.file k).1.length : Int) < (xs.length : Int) := by omega
        have he : st.append (k : Int) xs = (st, 41) := by simp only [St.append, ho, hi, Int.toNat_natCast]; simp [hfull]
        have Hr := Lib.hid hr; have He := Lib.hid he; clear hr he
        clear hv hfull
        go_enter Try.func48, Try.ntmps48
        go_wp2_with (first | (go_at_call 111; refine Hr.out.mono ?_; rintro e w' ⟨rfl, rfl⟩) | fail)
        go_ret
        rw [He.out]
        exact ⟨rfl, hpd, Chg.refl _ _⟩
      · have hf1 : ¬ (16777216 : Int) - ((st.file k).1.length : Int) < (xs.length : Int) := by omega
        have he : st.append (k : Int) xs = if st.burnt then ((st.lit.put k ((st.file k).1 ++ xs, (st.file k).2)).fall st.keeps, 40) else (st.lit.put k ((st.file k).1 ++ xs, (st.file k).2), 0) := by
          simp only [St.append, ho, hi, Int.toNat_natCast]; simp [hfull]
        have hbu := rburns_any h hok
        have H0 := Lib.hid h
        have Hk : Hid (k < st.files.length) := hk
        have Hr := Lib.hid hr; have He := Lib.hid he; have Hb := Lib.hid hb; have Hd := Lib.hid hd; have Hv := Lib.hid hv; have Hfull := Lib.hid hfull; have Hpd := Lib.hid hpd; have Hok := Lib.hid hok; have Hbu := Lib.hid hbu; clear hr he hb hd hv hfull hpd hok hbu
        clear h ho hi
        go_enter Try.func48, Try.ntmps48
        go_wp2_with (first | (go_at_call 111; refine Hr.out.mono ?_; rintro e w' ⟨rfl, rfl⟩) | fail)
        refine Hbu.out.mono ?_
        rintro e w1 ⟨rfl, ⟨ops', h1⟩, hc1⟩
        clear s1 s2 g0
        have g0 := RDw.c0 h1
        have hq : k < (afterBurn st).files.length := by rw [afterBurn_files]; exact hk
        obtain ⟨a', m', hv', _, _, s1, s2⟩ := RDw.at_ h1 k hq
        rw [afterBurn_file] at hv' s1 s2
        rw [Hv.out] at hv'
        obtain ⟨rfl, rfl⟩ : a' = a ∧ m' = m := by cases hv'; exact ⟨rfl, rfl⟩
        clear hv'
        rw [afterBurn_files] at g0
        have hown := h1.files.own k hq
        rw [St.file_eq hq, afterBurn_file, Hv.out] at hown
        have hbs : Bs w1 (.slice xa xs.length xc) xs := bs_keep' Hb.out hc1 fun g hg h0 hl hs => Hd.out g hl h0 hg (hs ▸ h1.sp)
        have hpq : p ≠ q := fun e => (h1.fs q h1.files.at_).2 e.symm
        have Hn0 : Hid (w1.ownsRow w1.heap.size 5 1 (.slice none 0 0) 0 []) := World.ownsRow_nil _ _ _ _
        have hslf : Sl w1 1 (.slice a' (st.file k).1.length m') (st.file k).1.length (bv (st.file k).1) := own_sl hown
        have hlm : (st.file k).1.length ≤ 16777216 := hb3.2
        have hxl : xs.length ≤ 16777216 := by have := Hfull.out; omega
        have H1 := Lib.hid h1; have Hc1 := Lib.hid hc1; have Hown := Lib.hid hown; have Hbs := Lib.hid hbs; have Hslf := Lib.hid hslf; clear h1 hc1 hown hbs hslf
        go_wp2_with (first | (at_builtin; refine wpList_append_bytes (P := Try.prog) Try.underlying22 FrW.info5 rfl (.tmp 31) (.tmp 39) rfl rfl Hn0.out rfl Hslf.out (bv_one _) (by omega) (Nat.le_refl _) ?_; intro v2 w2 ho2 hg2 hn2 hf2; clear hn2 hf2; have Ho2 := Lib.hid (show w2.ownsRow w1.heap.size 5 1 v2 (st.file k).1.length (bv (st.file k).1) by simpa using ho2); have Hm2 := Lib.hid (grown_mk hg2); clear ho2 hg2) | fail)
        obtain ⟨a2, m2, rfl, hm21, hm22⟩ := (own_sl Ho2.out).form
        have hfresh2 : ∀ g, a2.map (·.block) = some g → w1.heap.size ≤ g := fun g hg => (Ho2.out.lt g (by cases a2 <;> exact hg)).1
        have hlq : q < w1.heap.size := H1.out.files.row.lt
        have hr2 := H1.out.files.row.mk Hm2.out
        have g2 := RDw.c0 (H1.out.keep (Chg.of_mk (S := fun _ => False) Hm2.out) fun _ _ _ h => h)
        rw [afterBurn_files] at g2
        have hbs2 := Hbs.out.mk Hm2.out
        have hp1 := H1.out.head.lt
        have l0 : ∀ w', InA q a2 w2 w' → w'.cell? ⟨p, 0, none⟩ = some (.slice (some ⟨q, 0, none⟩) st.files.length c) := fun w' h => Chg.cell h g2 (by
          rintro (e | e)
          · exact hpq e
          · exact absurd (hfresh2 _ e) (by show ¬ w1.heap.size ≤ p; omega))
        have hqa : a2.map (·.block) ≠ some q := fun e => by have := hfresh2 _ e; omega
        have q1 := @qAt_value Try.prog
        have hbl := bv_append (st.file k).1 xs
        have Hr2 := Lib.hid hr2; have Hbs2 := Lib.hid hbs2; have Hfresh2 := Lib.hid hfresh2; have Hbl := Lib.hid hbl; clear hr2 hbs2 hfresh2 hbl
        clear g0 s1 s2 g2
        refine wp_region_sp (fun j => j == 7 || j == 10) (InA q a2 w2) (by kernel_rfl) (by kernel_rfl) (Chg.refl _ _) (fun _ _ h k => Chg.thenMk h k) ?_
        intro D hD hne
        iterate 7 (first | (refine spk (by rfl) (by rfl) (by rfl) (fun K hK => ?_); go_big_quiet_op; first | (refine hK _ ?_; clear hK K) | (apply Exists.intro; refine ⟨fun _ => ?_, hK _ ?_⟩; (exact fun _ => rfl); clear hK K)) | (refine spq (by rfl) (by rfl) (fun K hK => ?_); apply Exists.intro; refine ⟨fun w' hw' => ?_, ?_⟩; (go_simp; exact rfl); (go_simp; refine hK _ ?_; clear hK K)))
        refine sps (by rfl) (by rfl) (fun v w' => InA q a2 w2 w' ∧ Bk w' q 163 cs ∧ w'.ownsRow 0 5 1 v ((st.file k).1.length + xs.length) (bv (st.file k).1 ++ bv xs) ∧ (v.ownBlock = a2.map (·.block) ∨ ∃ g, v.ownBlock = some g ∧ w2.heap.size ≤ g))
          (fun v w1 w2 h k => ⟨Chg.thenMk h.1 k, h.2.1.mk k, own_mk h.2.2.1 k, h.2.2.2⟩) (fun v w' h => h.1) (fun w' hw' => ?_) (fun K dv hdv hK => ?_)
        · have hm := (hD.out w' hw').1
          have hb' : a2.map (·.block) = (Value.slice a2 (st.file k).1.length m2).ownBlock := by cases a2 <;> rfl
          refine sAt_append (v := .slice a2 (st.file k).1.length m2) (xv := .slice xa xs.length xc) Try.underlying22 FrW.info5 (.tmp 46) (.tmp 47) rfl rfl (own_mk (own_base Ho2.out (Nat.zero_le _)) hm) rfl (Hbs2.out.mk hm) (bv_one _) (by omega) (by omega) ?_
          intro v' w'' ho hg hn hf
          rw [hb']
          have hch : InA q a2 w2 w'' := Chg.trans (Chg.of_mk hm) (Chg.of_grown hg fun k hk _ => by rw [← hb'] at hk; exact hk) (fun x _ e => .inr e)
          have hbk : Bk w'' q 163 cs := by
            refine (Hr2.out.mk hm).keep (Chg.of_grown (S := fun g => a2.map (·.block) = some g) hg fun k hk _ => by rw [← hb'] at hk; exact hk) fun e => hqa e
          refine ⟨hch, hbk, ho, hf.imp id fun ⟨g, h1, h2⟩ => ⟨g, h1, by have := hm.size; omega⟩⟩
        obtain ⟨w0, hx1', hx2', h0, hfresh⟩ := hdv
        obtain ⟨a3, m3, rfl, hm31, hm32⟩ := (own_sl h0).form
        have Hfresh := Lib.hid hfresh
        clear hx1' hx2' h0 w0 hfresh hne
        go_simp
        refine hK _ ?_
        clear hK K
        iterate 2 (first | (refine spk (by rfl) (by rfl) (by rfl) (fun K hK => ?_); go_big_quiet_op; first | (refine hK _ ?_; clear hK K) | (apply Exists.intro; refine ⟨fun _ => ?_, hK _ ?_⟩; (exact fun _ => rfl); clear hK K)) | (refine spq (by rfl) (by rfl) (fun K hK => ?_); apply Exists.intro; refine ⟨fun w' hw' => ?_, ?_⟩; (go_simp; exact rfl); (go_simp; refine hK _ ?_; clear hK K)))
        refine sps (by rfl) (by rfl) (fun v w' => v = undef ∧ InA q a2 w2 w' ∧ Bk w' q 163 (cs.setIfInBounds (k * 2) (.slice a3 ((st.file k).1.length + xs.length) m3)) ∧ w'.ownsRow 0 5 1 (.slice a3 ((st.file k).1.length + xs.length) m3) ((st.file k).1.length + xs.length) (bv (st.file k).1 ++ bv xs))
          (fun v w1 w2 h k => ⟨h.1, Chg.thenMk h.2.1 k, h.2.2.1.mk k, own_mk h.2.2.2 k⟩) (fun v w' h => h.2.1) (fun w' hw' => ?_) (fun K dv hdv hK => ?_)
        · obtain ⟨hin, hbk, how, _⟩ := hw'
          have hz := H1.out.files.size
          have hsl := H1.out.files.sl k hq
          have hcell : w'.cell? ⟨q, k * 2, none⟩ = some (vs k) := by rw [hbk.cell, hsl]
          rw [Hv.out] at hcell
          have hfr' := hbk.frozen (k * 2)
          have h2 : a3.map (·.block) ≠ some q := by
            intro e
            rcases Hfresh.out with e2 | ⟨g, e2, hg⟩
            · have e3 : a3.map (·.block) = a2.map (·.block) := by rw [← e2]; cases a3 <;> rfl
              exact hqa (by rw [← e3, e])
            · have e3 : a3.map (·.block) = some g := by rw [← e2]; cases a3 <;> rfl
              rw [e] at e3
              cases e3
              have := Hm2.out.size
              omega
          have hset : Chg (fun g => g = q) w' (w'.setCell ⟨q, k * 2, none⟩ (.slice a3 ((st.file k).1.length + xs.length) m3)) := Chg.set _ _ _ _ rfl
          have hout : InA q a2 w2 (w'.setCell ⟨q, k * 2, none⟩ (.slice a3 ((st.file k).1.length + xs.length) m3)) ∧ Bk (w'.setCell ⟨q, k * 2, none⟩ (.slice a3 ((st.file k).1.length + xs.length) m3)) q 163 (cs.setIfInBounds (k * 2) (.slice a3 ((st.file k).1.length + xs.length) m3)) ∧ (w'.setCell ⟨q, k * 2, none⟩ (.slice a3 ((st.file k).1.length + xs.length) m3)).ownsRow 0 5 1 (.slice a3 ((st.file k).1.length + xs.length) m3) ((st.file k).1.length + xs.length) (bv (st.file k).1 ++ bv xs) :=
            ⟨Chg.trans hin hset fun x _ e => .inl e, hbk.set _ _, row_keep how hset fun g hg e => h2 (by subst e; rw [← hg]; cases a3 <;> rfl)⟩
          have Hout := Lib.hid hout; have Hin := Lib.hid hin; have Hbk := Lib.hid hbk; have How := Lib.hid how; have Hset := Lib.hid hset; clear hout hin hbk how hset
          have sA := @sAt_skip
          go_simp
          exact Hout.out
        obtain ⟨w0, rfl, _⟩ := hdv
        go_simp
        refine hK _ ?_
        clear hK K
        refine sp_nil ?_
        rintro w3 ⟨-, hin, hbk, how⟩
        have hz := H1.out.files.size
        rw [← Hbl.out, ← List.length_append] at how
        have hc13 : Chg (fun g => g = q) w1 w3 := (Chg.of_mk Hm2.out).trans hin fun x hx e => by
          rcases e with e | e
          · exact e
          · have := Hfresh2.out _ e; omega
        have hP := RDw.put H1.out hq (b' := (st.file k).1 ++ xs) (n' := (st.file k).2) (hc13.sub fun g _ e => .inl e) hbk (by rw [Array.size_setIfInBounds])
          (by rw [Array.getElem?_setIfInBounds_self_of_lt (by omega)]) (by rw [Array.getElem?_setIfInBounds_ne (by omega)]; have := H1.out.files.last k hq; rw [St.file_eq hq, afterBurn_file] at this; exact this)
          (fun j h1 h2 => by rw [Array.getElem?_setIfInBounds_ne (by omega)]) (by rw [List.length_append] at how ⊢; exact how)
          (fun g hg => by
            refine .inr ?_
            have hm2 := Hm2.out.size
            rcases Hfresh.out with e2 | ⟨g2, e2, hg2⟩
            · have e3 : a3.map (·.block) = a2.map (·.block) := by rw [← e2]; cases a3 <;> rfl
              have e4 : a3.map (·.block) = some g := by rw [← hg]; cases a3 <;> rfl
              rw [e3] at e4
              exact Hfresh2.out g e4
            · have e4 : (Value.slice a3 ((st.file k).1.length + xs.length) m3).ownBlock = some g := by rw [← hg]
              rw [e4] at e2
              cases e2
              omega)
        have hC : Chg S w w3 := (Hc1.out.sub fun _ _ h => h ▸ H1.out.sp).trans hc13 fun g _ e => e ▸ (H1.out.fs _ H1.out.files.at_).1
        have hokp := ok_put (afterBurn_ok Hok.out) (f := k) (x := ((st.file k).1 ++ xs, (st.file k).2)) ⟨by simp; omega, by have := Hfull.out; simp; omega⟩
        have hsz := Hc1.out.size
        clear how hbk hin hD q1 l0
        rcases hbt : st.burnt with _ | _
        · rw [hbt] at He
          rw [afterBurn_no hbt] at hP
          have HP := Lib.hid hP; have HC := Lib.hid hC; have Hokp := Lib.hid hokp; clear hP hC hokp
          go_wp2
          go_ret
          refine ⟨by rw [He.out]; rfl, ?_, HC.out⟩
          rw [He.out]
          exact RD.sub ⟨_, _, _, _, _, _, _, _, _, _, HP.out⟩ fun g hg => by rcases hg with hg | hg; exact .inl hg; exact .inr (by omega)
        · have hkk := keeps_of H0.out hbt
          rw [hbt] at He
          have hokq : ((afterBurn st).put k ((st.file k).1 ++ xs, (st.file k).2)).Ok0 M :=
            ⟨by have := Hok.out.some; simp [St.put, afterBurn_files]; exact this, hokp.1, hokp.2, by have := (afterBurn_ok Hok.out).falls; exact this⟩
          obtain ⟨ka, kc, rfl, c5, hfall⟩ := RDw.falls hP hokq hM
          rw [put_fall] at hfall
          have HP := Lib.hid hP; have HC := Lib.hid hC; have Hokp := Lib.hid hokp; have Hokq := Lib.hid hokq; have Hfall := Lib.hid hfall; have Hkk := Lib.hid hkk; clear hP hC hokp hokq hfall hkk
          go_wp2_with fail
          refine Hfall.out.mono ?_
          rintro e w4 ⟨rfl, ⟨cs4, vs4, hP4⟩, hc4⟩
          go_wp2
          go_ret
          have hz4 := HC.out.size
          refine ⟨by rw [He.out]; rfl, ?_, ?_⟩
          · rw [He.out, Hkk.out]
            exact RD.sub ⟨_, _, _, _, _, _, _, _, _, _, hP4⟩ fun g hg => by rcases hg with hg | hg; exact .inl hg; exact .inr (by omega)
          · refine HC.out.trans hc4 fun x hx e => ?_
            rcases e with rfl | rfl
            · exact (H1.out.fs _ H1.out.files.at_).1
            · exact H1.out.sp
  · rw [ho] at hr
    have Hr := Lib.hid hr; clear hr
    go_enter Try.func48, Try.ntmps48
    go_wp2_with (first | (go_at_call 111; refine Hr.out.mono ?_; rintro e w' ⟨rfl, rfl⟩) | fail)
    go_ret
    exact ⟨by simp [St.append, ho], by simpa [St.append, ho] using hpd, Chg.refl _ _⟩

theorem rappend_any {S : Nat → Prop} {w : World} {p : Nat} {st : St} {M : Nat} (h : RD S w p st) (hok : st.Ok M) (hM : M ≤ 1000000) (f : Int) (v : Value) (xs : List UInt8) (hb : Bs w v xs) (hbx : xs.length ≤ 1073741824)
    (hd : ∀ k, k < w.heap.size → v.ownBlock = some k → ¬ S k) :
    Calls Try.prog 48 #[.pointer (some ⟨p, 0, none⟩), .int .i64 f, v] w fun e w' => e = .returned (.int .i64 (st.append f xs).2) ∧ RD (Gw S w) w' p (st.append f xs).1 ∧ Chg S w w' := rappend_any0 h hok hM f v xs hb hbx (fun k hk _ e => hd k hk e)
set_option maxHeartbeats 1000000 in
set_option maxRecDepth 100000 in
theorem rread_any {S : Nat → Prop} {w : World} {p : Nat} {st : St} {M : Nat} (h : RD S w p st) (hok : st.Ok M) (f at_ n : Int) :
    Calls Try.prog 115 #[.pointer (some ⟨p, 0, none⟩), .int .i64 f, .int .i64 at_, .int .i64 n] w (ReadPost w (st.read f at_ n)) := by
  have hr := may_any f h
  obtain ⟨F, U, q, c, cs, vs, bn, ops, kv, kl, h⟩ := h
  cases ho : st.off
  · cases hi : st.is f
    · have he : st.read f at_ n = ([], 1) := by simp [St.read, ho, hi]
      rw [ho, hi] at hr
      have Hr := Lib.hid hr; have He := Lib.hid he; clear hr he
      go_enter Try.func115, Try.ntmps115
      go_wp2_with (first | (go_at_call 111; refine Hr.out.mono ?_; rintro e w' ⟨rfl, rfl⟩) | fail)
      go_ret2
      rw [He.out]; exact ReadPost.bad
    · rw [ho, hi] at hr
      obtain ⟨k, rfl, hk⟩ := is_nat hi
      have g0 := RDw.c0 h
      obtain ⟨a, m, hv, hm1, hm2, s1, s2⟩ := RDw.at_ h k hk
      have hb3 := hok.file (st.file k) (by rw [← St.file_eq hk]; exact List.getElem_mem _)
      have hown := h.files.own k hk
      rw [St.file_eq hk, hv] at hown
      by_cases hbad : at_ < 0 ∨ n < 0 ∨ ((st.file k).1.length : Int) < at_ ∨ ((st.file k).1.length : Int) - at_ < n
      · have he : st.read (k : Int) at_ n = ([], 1) := by simp only [St.read, ho, hi, Int.toNat_natCast]; simp [hbad]
        have H := Lib.hid h; have Hr := Lib.hid hr; have He := Lib.hid he; have Hv := Lib.hid hv; have Hown := Lib.hid hown; clear h hr he hv hown
        rcases Int.lt_or_le at_ 0 with k1 | k1
        · have hd : decide (at_ < 0) = true := by simpa using k1
          clear hbad k1
          go_enter Try.func115, Try.ntmps115
          go_wp2_with (first | (go_at_call 111; refine Hr.out.mono ?_; rintro e w' ⟨rfl, rfl⟩) | fail)
          go_ret2
          rw [He.out]; exact ReadPost.bad
        · have hd : decide (at_ < 0) = false := by simpa using k1
          rcases Int.lt_or_le n 0 with k2 | k2
          · have hd2 : decide (n < 0) = true := by simpa using k2
            clear hbad
            go_enter Try.func115, Try.ntmps115
            go_wp2_with (first | (go_at_call 111; refine Hr.out.mono ?_; rintro e w' ⟨rfl, rfl⟩) | fail)
            go_ret2
            rw [He.out]; exact ReadPost.bad
          · have hd2 : decide (n < 0) = false := by simpa using k2
            rcases Int.lt_or_le ((st.file k).1.length : Int) at_ with k3 | k3
            · have hd3 : decide (((st.file k).1.length : Int) < at_) = true := by simpa using k3
              clear hbad
              go_enter Try.func115, Try.ntmps115
              go_wp2_with (first | (go_at_call 111; refine Hr.out.mono ?_; rintro e w' ⟨rfl, rfl⟩) | fail)
              go_ret2
              rw [He.out]; exact ReadPost.bad
            · have hd3 : decide (((st.file k).1.length : Int) < at_) = false := by simpa using k3
              have k4 : ((st.file k).1.length : Int) - at_ < n := by omega
              clear hbad
              go_enter Try.func115, Try.ntmps115
              go_wp2_with (first | (go_at_call 111; refine Hr.out.mono ?_; rintro e w' ⟨rfl, rfl⟩) | fail)
              go_ret2
              rw [He.out]; exact ReadPost.bad
      · obtain ⟨t, rfl⟩ := Int.eq_ofNat_of_zero_le (show 0 ≤ at_ by omega)
        obtain ⟨n, rfl⟩ := Int.eq_ofNat_of_zero_le (show 0 ≤ n by omega)
        have he : st.read (k : Int) (t : Int) (n : Int) = (((st.file k).1.drop t).take n, 0) := by simp only [St.read, ho, hi, Int.toNat_natCast, if_neg hbad]; simp
        have k1 : t + n ≤ (st.file k).1.length := by omega
        have k3 : (t : Int) ≤ ((st.file k).1.length : Int) := by omega
        have k4 : (n : Int) ≤ ((st.file k).1.length : Int) - (t : Int) := by omega
        have k5 : (t : Int) + (n : Int) ≤ (m : Int) := by omega
        have k6 : t + n ≤ m := by omega
        have hb5 : ((st.file k).1.length : Int) ≤ 16777216 := by omega
        have hd : decide ((t : Int) < 0) = false := by simp
        have hd2 : decide ((n : Int) < 0) = false := by simp
        have hd3 : decide (((st.file k).1.length : Int) < (t : Int)) = false := by simp; omega
        have hd3' : decide ((st.file k).1.length < t) = false := by simp; omega
        have hd4 : decide (((st.file k).1.length : Int) - (t : Int) < (n : Int)) = false := by simp; omega
        have hsub := FrW.sub_addr (own_sl hown) t (t + n) m (by omega) (by omega) k6 (Nat.le_refl _)
        have hL2 : (((st.file k).1.drop t).take n).length = n := by simp; omega
        rw [show ((bv (st.file k).1).take (t + n)).drop t = bv (((st.file k).1.drop t).take n) by rw [List.drop_take]; simp [bv], Nat.add_sub_cancel_left] at hsub
        have hm3 : t ≤ m := by omega
        have Hn0 : Hid (w.ownsRow w.heap.size 5 1 (.slice none 0 0) 0 []) := World.ownsRow_nil _ _ _ _
        have hnn : n ≤ 16777216 := by omega
        by_cases hmt : m = t
        · rw [if_pos hmt] at hsub
          subst hmt
          rw [Nat.sub_self] at hsub
          obtain rfl : n = 0 := by omega
          have Hs := Lib.hid hL2
          have H := Lib.hid h; have Hr := Lib.hid hr; have He := Lib.hid he; have Hv := Lib.hid hv; have Hown := Lib.hid hown; have Hbad := Lib.hid hbad; have HL2 := Lib.hid hL2; have Hsub := Lib.hid hsub; clear h hr he hv hown hbad hL2 hsub
          rw [List.take_zero] at Hs
          have hz0 : (List.take 0 (List.drop m (st.file k).1)) = [] := rfl
          rw [hz0] at Hsub He
          clear hz0 k4 k5 k6 hd4 hnn
          go_enter Try.func115, Try.ntmps115
          go_wp2_with (first | (go_at_call 111; refine Hr.out.mono ?_; rintro e w' ⟨rfl, rfl⟩) | (at_builtin; refine wpList_append_bytes (P := Try.prog) Try.underlying22 FrW.info5 rfl (.tmp 46) (.tmp 59) rfl rfl Hn0.out rfl Hsub.out (bv_one _) (by omega) (Nat.le_refl _) ?_; intro v2 w2 ho2 hg2 hn2 hf2; clear hn2 hf2; have Ho2 := Lib.hid ho2; have Hm2 := Lib.hid (grown_mk hg2); clear ho2 hg2))
          go_ret2
          rw [He.out]
          exact ⟨_, rfl, by simpa using Ho2.out, Hm2.out⟩
        · rw [if_neg hmt] at hsub
          have Hs := Lib.hid hL2
          have H := Lib.hid h; have Hr := Lib.hid hr; have He := Lib.hid he; have Hv := Lib.hid hv; have Hown := Lib.hid hown; have Hbad := Lib.hid hbad; have HL2 := Lib.hid hL2; have Hsub := Lib.hid hsub; clear h hr he hv hown hbad hL2 hsub
          go_enter Try.func115, Try.ntmps115
          go_wp2_with (first | (go_at_call 111; refine Hr.out.mono ?_; rintro e w' ⟨rfl, rfl⟩) | (at_builtin; refine wpList_append_bytes (P := Try.prog) Try.underlying22 FrW.info5 rfl (.tmp 46) (.tmp 59) rfl rfl Hn0.out (xv := .slice (Option.map (fun x => x.add t) a) n (m - t)) (by first | rfl | (simp [Act.eval]; done)) Hsub.out (bv_one _) (by omega) (Nat.le_refl _) ?_; intro v2 w2 ho2 hg2 hn2 hf2; clear hn2 hf2; have Ho2 := Lib.hid ho2; have Hm2 := Lib.hid (grown_mk hg2); clear ho2 hg2))
          go_ret2
          rw [He.out]
          refine ⟨_, rfl, ?_, Hm2.out⟩
          have h9 := Ho2.out
          rw [Nat.zero_add, List.nil_append] at h9
          rw [Hs.out]
          exact h9
  · have he : st.read f at_ n = ([], 40) := by simp [St.read, ho]
    rw [ho] at hr
    have Hr := Lib.hid hr; have He := Lib.hid he; clear hr he
    go_enter Try.func115, Try.ntmps115
    go_wp2_with (first | (go_at_call 111; refine Hr.out.mono ?_; rintro e w' ⟨rfl, rfl⟩) | fail)
    go_ret2
    rw [He.out]; exact ReadPost.bad

theorem rcrash_any {S : Nat → Prop} {w : World} {p : Nat} {st : St} {M : Nat} (h : RD S w p st) (hok : st.Ok M) (hM : M ≤ 1000000) (v : Value) (xs : List Int) (hx : Is w v xs)
    (hd : ∀ k, k < w.heap.size → v.ownBlock = some k → ¬ S k) :
    Calls Try.prog 98 #[.pointer (some ⟨p, 0, none⟩), v] w fun e w' => e = .returned (.tuple #[]) ∧ RD S w' p (st.crash xs) ∧ Chg S w w' := by
  have hpd := h
  obtain ⟨F, U, q, c, cs, vs, bn, ops, kv, kl, h⟩ := h
  have c1 := RDw.c1 h
  cases ho : st.off
  · rw [ho] at c1
    have hf := fails_any h hok.toOk0 hM v xs hx (fun k hp hk => ⟨fun e => hd k (is_lt hx hp hk) hk (e ▸ (h.fs _ h.files.at_).1), fun e => hd k (is_lt hx hp hk) hk (e ▸ h.sp)⟩)
    have H := Lib.hid h; have Hf := Lib.hid hf; have Hx := Lib.hid hx; have Hd := Lib.hid hd; clear h hf hx hd
    go_enter Try.func98, Try.ntmps98
    go_wp2_with fail
    refine Hf.out.mono ?_
    rintro e w1 ⟨rfl, ⟨cs4, vs4, hP4⟩, hc4⟩
    go_wp2
    go_end0
    refine ⟨rfl, ?_, hc4.sub fun x hx e => ?_⟩
    · have e : st.crash xs = st.fall xs := by simp [St.crash, ho]
      rw [e]; exact ⟨_, _, _, _, _, _, _, _, _, _, hP4⟩
    · rcases e with rfl | rfl
      · exact (H.out.fs _ H.out.files.at_).1
      · exact H.out.sp
  · rw [ho] at c1
    have H := Lib.hid h; have Hx := Lib.hid hx; clear h hx
    go_enter Try.func98, Try.ntmps98
    go_wp2
    go_end0
    exact ⟨rfl, by simpa [St.crash, ho] using hpd, Chg.refl _ _⟩

theorem info163 : (Try.prog.info? 163).map (fun i => (i.zero, i.size, i.bytes)) = some (some (.agg #[.slice none 0 0, .int .i64 0]), 2, 32) := by kernel_rfl
theorem under157 : Try.prog.underlying 157 = some (.slice 163) := by kernel_rfl
set_option maxRecDepth 100000 in
theorem rnew_bad (w : World) (n : Int) (h : n < 1 ∨ 8 < n) : Calls Try.prog 89 #[.int .i64 n] w fun e w' => e = .returned (.tuple #[.pointer none, .int .i64 1]) ∧ w = w' := by
  rcases Int.lt_or_le n 1 with h0 | h0
  · have hd : decide (n < 1) = true := by simpa using h0
    clear h
    go_enter Try.func89, Try.ntmps89
    go_wp2
    go_ret2
    exact ⟨rfl, rfl⟩
  · have hd : decide (n < 1) = false := by simpa using h0
    have hd2 : 8 < n := by omega
    clear h
    go_enter Try.func89, Try.ntmps89
    go_wp2
    go_ret2
    exact ⟨rfl, rfl⟩
set_option maxRecDepth 100000 in
theorem rnew_any (w : World) (n : Nat) (h0 : 1 ≤ n) (h1 : n ≤ 8) : Calls Try.prog 89 #[.int .i64 (n : Int)] w fun e w' => ∃ p, e = .returned (.tuple #[.pointer (some ⟨p, 0, none⟩), .int .i64 0]) ∧ RD (fun k => w.heap.size ≤ k) w' p (fresh n) ∧ Mk w w' := by
  have hd : decide ((n : Int) < 1) = false := by simp; omega
  have hd2 : ¬ 8 < (n : Int) := by omega
  obtain ⟨i0, hi1, hz0, hz1, hz2⟩ := info_parts info163
  go_enter Try.func89, Try.ntmps89
  go_wp2_with (refine wpList_make_full w rfl (.tmp 10) (.tmp 10) 157 rfl w.heap.size 163 i0 _ 2 under157 hi1 hz0 hz1 .i64 .i64 n n n rfl rfl rfl rfl (by rw [hz2]; omega) (by simp only [maxLen]; omega) (Nat.le_refl _) ?_; intro w1 ho1 hg1; have Ho1 := Lib.hid ho1; have Hg1 := Lib.hid hg1; clear ho1 hg1)
  go_ret2
  have hq := Ho1.out.lt _ rfl
  refine ⟨w1.heap.size, rfl, ⟨fun k => k = w.heap.size, fun _ => False, w.heap.size, n, madeCells (Value.agg #[.slice none 0 0, .int .i64 0]).cells (n * 2), fun _ => .slice none 0 0, false, 0, .slice none 0 0, [], ?_, ?_, own_sl (World.ownsRow_nil _ 0 3 1), ?_, rfl, ?_, ?_, ?_, ?_, ?_⟩, mk_trans (grown_mk Hg1.out) (mk_alloc _ _)⟩
  · simpa [Dk.fresh] using Bk.new w1 159 #[.slice (some ⟨w.heap.size, 0, none⟩) n n, .bool true, .int .i64 0, .bool false, .int .i64 0, .slice none 0 0]
  · exact (Files.fresh (F := fun k => k = w.heap.size) Ho1.out rfl).made (mk_alloc _ _)
  · intro k hp; exact absurd hp (by simp)
  · have := hq.2; show w.heap.size ≤ w1.heap.size; omega
  · rintro k rfl; exact ⟨Nat.le_refl _, by have := hq.2; omega⟩
  · exact fun k h => h.elim
  · exact fun k _ h => h
  · simp [Dk.fresh, maxLen]; omega

set_option maxHeartbeats 1000000 in
set_option maxRecDepth 100000 in
theorem rfuse_any {S : Nat → Prop} {w : World} {p : Nat} {st : St} (h : RD S w p st) (ops : Int) (v : Value) (xs : List Int) (hx : Is w v xs) (hb : xs.length ≤ 17592186044416) (hd : ∀ k, k < w.heap.size → v.ownBlock = some k → ¬ S k) :
    Calls Try.prog 97 #[.pointer (some ⟨p, 0, none⟩), .int .i64 ops, v] w fun e w' => e = .returned (.int .i64 (st.light ops xs).2) ∧ RD (Gw S w) w' p (st.light ops xs).1 ∧ Chg S w w' := by
  have hpd : RD (Gw S w) w p st := RD.sub h fun k hk => .inl hk
  obtain ⟨F, U, q, c, cs, vs, bn, ops0, kv, kl, h⟩ := h
  have c1 := RDw.c1 h
  obtain ⟨xa, xc, rfl, _, _⟩ := hx.form
  cases ho : st.off
  · rw [ho] at c1
    by_cases hn : ops < 0
    · have H := Lib.hid h; have Hpd := Lib.hid hpd; have Hx := Lib.hid hx; clear h hpd hx
      go_enter Try.func97, Try.ntmps97
      go_wp2
      go_ret
      exact ⟨by simp [St.light, ho, hn], by simpa [St.light, ho, hn] using Hpd.out, Chg.refl _ _⟩
    · have he : st.light ops xs = ({ st with fuse := some (ops, xs) }, 0) := by simp [St.light, ho, hn]
      have c3 := RDw.c3 h
      have c4 := RDw.c4 h
      have f3 := h.head.frozen 3
      have f4 := h.head.frozen 4
      have hw1 : ((w.setCell ⟨p, 3, none⟩ (.bool true)).setCell ⟨p, 4, none⟩ (.int .i64 ops)).heap.size = w.heap.size := by simp
      have hb1 := (h.head.set 3 (.bool true)).set 4 (.int .i64 ops)
      have hx1 : Is ((w.setCell ⟨p, 3, none⟩ (.bool true)).setCell ⟨p, 4, none⟩ (.int .i64 ops)) (.slice xa xs.length xc) xs :=
        is_keep hx (((Chg.refl (fun k => k = p) w).thenSet ⟨p, 3, none⟩ (.bool true) (.inl rfl)).thenSet ⟨p, 4, none⟩ (.int .i64 ops) (.inl rfl)) fun k hk _ hk2 e => hd k hk hk2 (e ▸ h.sp)
      have hcc : Chg (fun k => k = p) w ((w.setCell ⟨p, 3, none⟩ (.bool true)).setCell ⟨p, 4, none⟩ (.int .i64 ops)) := ((Chg.refl (fun k => k = p) w).thenSet ⟨p, 3, none⟩ (.bool true) (.inl rfl)).thenSet ⟨p, 4, none⟩ (.int .i64 ops) (.inl rfl)
      have Hn0 : Hid (((w.setCell ⟨p, 3, none⟩ (.bool true)).setCell ⟨p, 4, none⟩ (.int .i64 ops)).ownsRow ((w.setCell ⟨p, 3, none⟩ (.bool true)).setCell ⟨p, 4, none⟩ (.int .i64 ops)).heap.size 3 1 (.slice none 0 0) 0 []) := World.ownsRow_nil _ _ _ _
      have H := Lib.hid h; have Hpd := Lib.hid hpd; have Hx := Lib.hid hx; have He := Lib.hid he; have Hw1 := Lib.hid hw1; have Hb1 := Lib.hid hb1; have Hx1 := Lib.hid hx1; have Hcc := Lib.hid hcc; clear h hpd hx he hw1 hb1 hx1 hcc
      go_enter Try.func97, Try.ntmps97
      go_wp2_with (first | (at_builtin; refine wpList_append_ints (P := Try.prog) under64 info3 rfl (.tmp 23) (.tmp 24) rfl rfl Hn0.out rfl Hx1.out (iv_one _) (by omega) (Nat.le_refl _) ?_; intro v2 w2 ho2 hg2 hn2 hf2; clear hn2 hf2; obtain ⟨ka, kc, rfl, _, _⟩ := (own_sl ho2).form; have Ho2 := Lib.hid ho2; have Hm2 := Lib.hid (grown_mk hg2); have hb2 := Hb1.out.mk Hm2.out; have hf5 := hb2.frozen 5; have hc5 : w2.cell? ⟨p, 5, none⟩ = some kv := (hb2.cell 5).trans (by simp); have Hb2 := Lib.hid hb2; clear ho2 hg2 hb2) | fail)
      go_ret
      have hcc2 : Chg (fun k => k = p) w (w2.setCell ⟨p, 5, none⟩ (.slice ka xs.length kc)) := (Hcc.out.thenMk Hm2.out).thenSet _ _ (.inl rfl)
      have hlt := H.out.head.lt
      have hw := Hw1.out
      rw [He.out]
      refine ⟨rfl, ⟨fun k => F k ∧ k < w.heap.size, fun k => w.heap.size ≤ k, q, c, cs, vs, true, ops, .slice ka xs.length kc, xs, ?_, ?_, ?_, ?_, rfl, .inl H.out.sp, ?_, ?_, ?_, H.out.hc⟩, hcc2.sub fun k _ e => e ▸ H.out.sp⟩
      · simpa [ho] using Hb2.out.set 5 (.slice ka xs.length kc)
      · exact (H.out.files.sub fun k hk hf => ⟨hf, hk⟩).keep hcc2 fun k hk hf e => (H.out.fs k hf.1).2 e
      · have h2 : Sl w2 1 (.slice ka xs.length kc) xs.length (iv xs) := by simpa using own_sl Ho2.out
        refine sl_chg h2 (Chg.set (fun k => k = p) _ ⟨p, 5, none⟩ _ rfl) fun k hk _ e => ?_
        have := (Ho2.out.lt k (by simpa using hk)).1
        omega
      · intro k hp hk
        have := (Ho2.out.lt k (by simpa using hk)).1
        omega
      · exact fun k hk => ⟨.inl (H.out.fs k hk.1).1, (H.out.fs k hk.1).2⟩
      · exact fun k hk => ⟨.inr hk, by omega⟩
      · exact fun k hk hu => by omega
  · rw [ho] at c1
    have H := Lib.hid h; have Hpd := Lib.hid hpd; have Hx := Lib.hid hx; clear h hpd hx
    go_enter Try.func97, Try.ntmps97
    go_wp2
    go_ret
    exact ⟨by simp [St.light, ho], by simpa [St.light, ho] using Hpd.out, Chg.refl _ _⟩
end Go.Proofs.DkW

namespace Go.Proofs.WlW
open Go Go.RowKit Go.Tk Go.Dk Go.Sp Go.Proofs.DkW
attribute [local go_sem] Oper.semAt_some
theorem rmay2_any (w : World) (c s : Int) : Calls Try.prog 151 #[.int .i64 c, .int .i64 s] w fun e w' => e = .returned (.bool (rightB c s)) ∧ w = w' := by
  by_cases h1 : 1024 ≤ c
  · by_cases h2 : c ≤ 4194304
    · by_cases h3 : 1 ≤ s
      · by_cases h4 : s ≤ 65536
        · have H : Hid (rightB c s = true) := by show _ = _; simp [rightB, h1, h2, h3, h4]
          have d1 : decide (1024 ≤ c) = true := by simpa using h1
          have d2 : decide (c ≤ 4194304) = true := by simpa using h2
          have d3 : decide (1 ≤ s) = true := by simpa using h3
          have d4 : decide (s ≤ 65536) = true := by simpa using h4
          go_enter Try.func151, Try.ntmps151
          go_wp2
          go_ret
          rw [H.out]; exact ⟨rfl, rfl⟩
        · have H : Hid (rightB c s = false) := by show _ = _; simp [rightB, h4]
          have d1 : decide (1024 ≤ c) = true := by simpa using h1
          have d2 : decide (c ≤ 4194304) = true := by simpa using h2
          have d3 : decide (1 ≤ s) = true := by simpa using h3
          have d4 : decide (s ≤ 65536) = false := by simpa using h4
          go_enter Try.func151, Try.ntmps151
          go_wp2
          go_ret
          rw [H.out]; exact ⟨rfl, rfl⟩
      · have H : Hid (rightB c s = false) := by show _ = _; simp [rightB, h3]
        have d1 : decide (1024 ≤ c) = true := by simpa using h1
        have d2 : decide (c ≤ 4194304) = true := by simpa using h2
        have d3 : decide (1 ≤ s) = false := by simpa using h3
        go_enter Try.func151, Try.ntmps151
        go_wp2
        go_ret
        rw [H.out]; exact ⟨rfl, rfl⟩
    · have H : Hid (rightB c s = false) := by show _ = _; simp [rightB, h2]
      have d1 : decide (1024 ≤ c) = true := by simpa using h1
      have d2 : decide (c ≤ 4194304) = false := by simpa using h2
      go_enter Try.func151, Try.ntmps151
      go_wp2
      go_ret
      rw [H.out]; exact ⟨rfl, rfl⟩
  · have H : Hid (rightB c s = false) := by show _ = _; simp [rightB, h1]
    have d1 : decide (1024 ≤ c) = false := by simpa using h1
    go_enter Try.func151, Try.ntmps151
    go_wp2
    go_ret
    rw [H.out]; exact ⟨rfl, rfl⟩
theorem rnum_any (w : World) (v : Value) (xs : List UInt8) (h : Bs w v xs) (hx : xs.length ≤ 8) :
    Calls Try.prog 168 #[v] w fun e w' => e = .returned (.int .u64 (numB xs : Int)) ∧ w = w' := by
  obtain ⟨a, cp, rfl, _, _⟩ := h.form
  have H := Lib.hid h; clear h
  go_enter Try.func168, Try.ntmps168
  go_wp2
  go_loop [3, 4] (fun n i => ∃ k : Nat, i = .int .i64 ((k : Int) - 1) ∧ k ≤ xs.length ∧ n = .int .u64 (numB (xs.drop k) : Int)) (fun _ i => (intOf i + 1).toNat)
  case atStart => exact ⟨xs.length, rfl, Nat.le_refl _, by rw [List.drop_length]; rfl⟩
  case round =>
    obtain ⟨k, rfl, hk, rfl⟩ := hrel
    rcases k with _ | k
    · go_wp2
      go_ret
      exact ⟨rfl, rfl⟩
    · obtain ⟨b, off, rfl, hcell⟩ := FrW.bs_at H.out k (by omega)
      have hc8 := xs[k].toNat_lt
      have hlt : numB (xs.drop (k + 1)) < 256 ^ (xs.drop (k + 1)).length := numB_lt _
      have hp : 256 ^ (xs.drop (k + 1)).length ≤ 256 ^ 7 := Nat.pow_le_pow_right (by decide) (by simp; omega)
      have h7 : 256 ^ 7 = 72057594037927936 := by decide
      have hn : numB (xs.drop k) = xs[k].toNat + 256 * numB (xs.drop (k + 1)) := by rw [List.drop_eq_getElem_cons (by omega)]; rfl
      have HN := Lib.hid hn
      generalize hN : numB (xs.drop (k + 1)) = N at *
      have hN2 : N < 72057594037927936 := by omega
      have HNN := Lib.hid hN
      clear hlt hp h7 hn hN
      have e1 : ((k + 1 : Nat) : Int) - 1 = (k : Int) := by omega
      rw [e1]
      go_wp2_with fail
      go_round
      case rel =>
        refine ⟨k, rfl, by omega, ?_⟩
        rw [HN.out]
        congr 1
        omega
      case measure => simp [intOf]
theorem rwhole_any {S : Nat → Prop} {w : World} {p : Nat} {st : St} {M : Nat} (h : RD S w p st) (hok : st.Ok M) (hoff : st.off = false) (f : Nat) (hf : f ≤ 8) :
    Calls Try.prog 147 #[.pointer (some ⟨p, 0, none⟩), .int .i64 (f : Int)] w fun e w' => ∃ v, e = .returned v ∧ w'.ownsRow w.heap.size 5 1 v (st.file f).1.length (bv (st.file f).1) ∧ Mk w w' := by
  have hsz := rsize_any (f : Int) h
  cases hi : st.is (f : Int)
  · have h1 : st.size (f : Int) = -1 := by simp [St.size, hi]
    have h2 : st.read (f : Int) 0 0 = ([], 1) := by simp [St.read, hi, hoff]
    have hfile : (st.file f).1 = [] := by
      simp [St.is] at hi
      simp [St.file, List.getD_eq_getElem?_getD, List.getElem?_eq_none (show st.files.length ≤ f by omega)]
    rw [h1] at hsz
    have hrd := rread_any h hok (f : Int) 0 0
    rw [h2] at hrd
    rw [hfile]
    have H := Lib.hid h; have Hok := Lib.hid hok; have Hsz := Lib.hid hsz; have H1 := Lib.hid h1; have H2 := Lib.hid h2; have Hrd := Lib.hid hrd; have Hi := Lib.hid hi; have Hfile := Lib.hid hfile; clear h hok hsz h1 h2 hrd hi hfile
    go_enter Try.func147, Try.ntmps147
    go_wp2_with (first | (go_at_call 102; refine Hsz.out.mono ?_; rintro e w' ⟨rfl, rfl⟩) | (go_at_call 115; refine Hrd.out.mono ?_; rintro e w1 ⟨v1, rfl, ho1, hm1⟩; have Ho1 := Lib.hid ho1; have Hm1 := Lib.hid hm1; clear ho1 hm1) | fail)
    go_ret
    exact ⟨_, rfl, Ho1.out, Hm1.out⟩
  · obtain ⟨f', hf', hfl⟩ := is_nat hi
    obtain rfl : f = f' := by omega
    have h1 : st.size (f : Int) = ((st.file f).1.length : Int) := by simp [St.size, hi]
    have h2 := read_all hoff hfl
    have hfo := (file_ok hok f).2
    rw [h1] at hsz
    have hrd := rread_any h hok (f : Int) 0 ((st.file f).1.length : Int)
    rw [h2] at hrd
    generalize hxs : (st.file f).1 = xs at *
    have hmax : (if (xs.length : Int) < 0 then (0 : Int) else (xs.length : Int)) = (xs.length : Int) := by split <;> omega
    have hmax2 : (if 0 < (xs.length : Int) then (xs.length : Int) else 0) = (xs.length : Int) := by split <;> omega
    have hmax3 : (if 0 < xs.length then (xs.length : Int) else 0) = (xs.length : Int) := by split <;> omega
    have H := Lib.hid h; have Hok := Lib.hid hok; have Hsz := Lib.hid hsz; have H1 := Lib.hid h1; have H2 := Lib.hid h2; have Hrd := Lib.hid hrd; have Hi := Lib.hid hi; have Hxs := Lib.hid hxs; clear h hok hsz h1 h2 hrd hi hxs
    go_enter Try.func147, Try.ntmps147
    go_wp2_with (first | (go_at_call 102; refine Hsz.out.mono ?_; rintro e w' ⟨rfl, rfl⟩) | (go_at_call 115; refine Hrd.out.mono ?_; rintro e w1 ⟨v1, rfl, ho1, hm1⟩; have Ho1 := Lib.hid ho1; have Hm1 := Lib.hid hm1; clear ho1 hm1) | fail)
    go_ret
    exact ⟨_, rfl, Ho1.out, Hm1.out⟩
end Go.Proofs.WlW
