/- Layer 4, disk: the walk of the program's Append. -/
import Derived.Test.YtcfjdldlcdomgaaDkC
import Derived.Test.YtcfjdldlcdomgaaSp
import Derived.Test.YtcfjdldlcdomgaaFrA
namespace Go.Proofs.DkW
open Go Go.RowKit Go.Tk Go.Dk Go.Sp
attribute [local go_sem] Oper.semAt_some

theorem St.file_eq {s : St} {f : Nat} (h : f < s.files.length) : s.files[f] = s.file f := by simp [St.file, h]
theorem lit_files (s : St) : s.lit.files = s.files := rfl
theorem lit_file (s : St) (f : Nat) : s.lit.file f = s.file f := rfl
theorem is_nat {s : St} {f : Int} (h : s.is f = true) : ∃ k : Nat, f = (k : Int) ∧ k < s.files.length := by
  simp only [St.is, Bool.and_eq_true, decide_eq_true_eq] at h
  obtain ⟨k, rfl⟩ := Int.eq_ofNat_of_zero_le h.1
  exact ⟨k, rfl, by omega⟩
theorem ok_put {s : St} {M : Nat} (h : s.Ok0 M) {f : Nat} {x : List UInt8 × Nat} (hx : x.2 ≤ x.1.length ∧ x.1.length ≤ 16777216) : (s.put f x).files.length ≤ 8 ∧ ∀ y ∈ (s.put f x).files, y.2 ≤ y.1.length ∧ y.1.length ≤ 16777216 := by
  refine ⟨by simpa [St.put] using h.many, fun y hy => ?_⟩
  rcases List.mem_or_eq_of_mem_set hy with h1 | rfl
  · exact h.file y h1
  · exact hx

theorem sAt_value {R : Value → World → Prop} {u : Value} {w' : World} : sAt Try.prog R (.ok (.value u) w') = R u w' := rfl
theorem sAt_skip {R : Value → World → Prop} {w' : World} : sAt Try.prog R (.ok .skip w') = R undef w' := rfl
/-- What an append and the store behind it may write. -/
def InA (q : Nat) (o : Option Addr) (w w' : World) : Prop := Chg (fun g => g = q ∨ o.map (·.block) = some g) w w'

set_option maxHeartbeats 1000000 in
set_option maxRecDepth 100000 in
theorem append_any {S : Nat → Prop} {w : World} {p : Nat} {st : St} {M : Nat} (h : PD S w p st) (hok : st.Ok M) (hM : M ≤ 1000000) (f : Int) (v : Value) (xs : List UInt8) (hb : Bs w v xs) (hbx : xs.length ≤ 1073741824)
    (hd : ∀ k, k < w.heap.size → v.ownBlock = some k → ¬ S k) :
    Calls Try.prog 32 #[.pointer (some ⟨p, 0, none⟩), .int .i64 f, v] w fun e w' => e = .returned (.int .i64 (st.append f xs).2) ∧ PD (Gw S w) w' p (st.append f xs).1 ∧ Chg S w w' := by
  have hr := refused_any f h
  obtain ⟨xa, xc, rfl, hx1, hx2⟩ := hb.form
  obtain ⟨F, U, q, c, cs, vs, fu, h⟩ := h
  have hpd : PD (Gw S w) w p st := PD.sub (S := S) ⟨F, U, q, c, cs, vs, fu, h⟩ fun k hk => .inl hk
  cases ho : st.off
  · cases hi : st.is f
    · rw [ho, hi] at hr
      have Hr := Lib.hid hr; clear hr
      go_enter Try.func32, Try.ntmps32
      go_wp2_with (go_at_call 85; refine Hr.out.mono ?_; rintro e w' ⟨rfl, rfl⟩)
      go_ret
      exact ⟨by simp [St.append, ho, hi], by simpa [St.append, ho, hi] using hpd, Chg.refl _ _⟩
    · rw [ho, hi] at hr
      obtain ⟨k, rfl, hk⟩ := is_nat hi
      obtain ⟨a, m, hv, hm1, hm2, s1, s2⟩ := PDw.at_ h k hk
      have g0 := PDw.c0 h
      have hb3 := hok.file (st.file k) (by rw [← St.file_eq hk]; exact List.getElem_mem _)
      by_cases hfull : 16777216 < (st.file k).1.length + xs.length
      · have hf1 : (16777216 : Int) < ((st.file k).1.length : Int) + (xs.length : Int) := by omega
        have he : st.append (k : Int) xs = (st, 41) := by simp only [St.append, ho, hi, Int.toNat_natCast]; simp [hfull]
        have Hr := Lib.hid hr; have He := Lib.hid he; clear hr he
        clear hv hfull
        go_enter Try.func32, Try.ntmps32
        go_wp2_with (go_at_call 85; refine Hr.out.mono ?_; rintro e w' ⟨rfl, rfl⟩)
        go_ret
        rw [He.out]
        exact ⟨rfl, hpd, Chg.refl _ _⟩
      · have hf1 : ¬ (16777216 : Int) < ((st.file k).1.length : Int) + (xs.length : Int) := by omega
        have he : st.append (k : Int) xs = if st.burnt then ((st.lit.put k ((st.file k).1 ++ xs, (st.file k).2)).fall st.keeps, 40) else (st.lit.put k ((st.file k).1 ++ xs, (st.file k).2), 0) := by
          simp only [St.append, ho, hi, Int.toNat_natCast]; simp [hfull]
        have hbu := burns_any h hok
        have H0 := Lib.hid h
        have Hk : Hid (k < st.files.length) := hk
        have Hr := Lib.hid hr; have He := Lib.hid he; have Hb := Lib.hid hb; have Hd := Lib.hid hd; have Hv := Lib.hid hv; have Hfull := Lib.hid hfull; have Hpd := Lib.hid hpd; have Hok := Lib.hid hok; have Hbu := Lib.hid hbu; clear hr he hb hd hv hfull hpd hok hbu
        clear h ho hi
        go_enter Try.func32, Try.ntmps32
        go_wp2_with (go_at_call 85; refine Hr.out.mono ?_; rintro e w' ⟨rfl, rfl⟩)
        refine Hbu.out.mono ?_
        rintro e w1 ⟨rfl, h1, hc1⟩
        clear s1 s2 g0
        have g0 := PDw.c0 h1
        have hq : k < st.lit.files.length := hk
        obtain ⟨a', m', hv', _, _, s1, s2⟩ := PDw.at_ h1 k hq
        rw [lit_file] at hv' s1 s2
        rw [Hv.out] at hv'
        obtain ⟨rfl, rfl⟩ : a' = a ∧ m' = m := by cases hv'; exact ⟨rfl, rfl⟩
        clear hv'
        rw [lit_files] at g0
        have hown := h1.files.own k hq
        rw [St.file_eq hq, lit_file, Hv.out] at hown
        have hrow := h1.files.row
        have hfr := hrow.frozen (k * 2)
        have hbs : Bs w1 (.slice xa xs.length xc) xs := sl_chg Hb.out hc1 fun k hk hl hs => Hd.out k hl hk hs.1
        have hqv : ∀ g, a'.map (·.block) = some g → F g ∧ g ≠ q := fun g hg => h1.files.blk k g hq (by rw [Hv.out]; cases a' <;> exact hg)
        have hpq : p ≠ q := fun e => (h1.fs q h1.files.at_).2 e.symm
        have H1 := Lib.hid h1; have Hc1 := Lib.hid hc1; have Hown := Lib.hid hown; have Hrow := Lib.hid hrow; have Hbs := Lib.hid hbs; have Hqv := Lib.hid hqv; have G0 := Lib.hid g0; clear h1 hc1 hown hrow hbs hqv g0
        go_wp2_with fail
        refine wp_region_sp (fun j => j == 12 || j == 14 || j == 17) (InA q a' w1) (by kernel_rfl) (by kernel_rfl) (Chg.refl _ _) (fun _ _ h k => Chg.thenMk h k) ?_
        intro D hD hne
        have q1 := @qAt_value Try.prog
        have l0 : ∀ w', InA q a' w1 w' → w'.cell? ⟨p, 0, none⟩ = some (.slice (some ⟨q, 0, none⟩) st.files.length c) := fun w' h => Chg.cell h G0.out (by rintro (e | e); exact hpq e; exact (H1.out.fs _ (Hqv.out _ e).1).2 rfl)
        iterate 12 (first | (refine spk (by rfl) (by rfl) (by rfl) (fun K hK => ?_); go_big_quiet_op; first | (refine hK _ ?_; clear hK K) | (apply Exists.intro; refine ⟨fun _ => ?_, hK _ ?_⟩; (exact fun _ => rfl); clear hK K)) | (refine spq (by rfl) (by rfl) (fun K hK => ?_); apply Exists.intro; refine ⟨fun w' hw' => ?_, ?_⟩; (go_simp; exact rfl); (go_simp; refine hK _ ?_; clear hK K)))
        refine sps (by rfl) (by rfl) (fun v w' => v = .slice a' (st.file k).1.length m' ∧ Mk w1 w') (fun v w1 w2 h k => ⟨h.1, mk_trans h.2 k⟩) (fun v w' h => Chg.of_mk h.2) (fun w' hw' => ?_) (fun K dv hdv hK => ?_)
        · have hm := (hD.out w' hw').1
          have hcell : w'.cell? ⟨q, k * 2, none⟩ = some (.slice a' (st.file k).1.length m') := (hm.cell (Hrow.out.lt)).trans s1
          have HM := Lib.hid hm
          clear hm
          have sA := @sAt_value
          go_simp
          exact HM.out
        obtain ⟨w0, rfl, h0⟩ := hdv
        clear h0 w0 hne
        go_simp
        refine hK _ ?_
        clear hK K
        iterate 1 (first | (refine spk (by rfl) (by rfl) (by rfl) (fun K hK => ?_); go_big_quiet_op; first | (refine hK _ ?_; clear hK K) | (apply Exists.intro; refine ⟨fun _ => ?_, hK _ ?_⟩; (exact fun _ => rfl); clear hK K)) | (refine spq (by rfl) (by rfl) (fun K hK => ?_); apply Exists.intro; refine ⟨fun w' hw' => ?_, ?_⟩; (go_simp; exact rfl); (go_simp; refine hK _ ?_; clear hK K)))
        refine sps (by rfl) (by rfl) (fun v w' => InA q a' w1 w' ∧ Bk w' q 146 cs ∧ w'.ownsRow 0 5 1 v ((st.file k).1.length + xs.length) (bv (st.file k).1 ++ bv xs) ∧ (v.ownBlock = a'.map (·.block) ∨ ∃ g, v.ownBlock = some g ∧ w1.heap.size ≤ g))
          (fun v w1 w2 h k => ⟨Chg.thenMk h.1 k, h.2.1.mk k, own_mk h.2.2.1 k, h.2.2.2⟩) (fun v w' h => h.1) (fun w' hw' => ?_) (fun K dv hdv hK => ?_)
        · obtain ⟨_, hm⟩ := hw'
          have hb' : a'.map (·.block) = (Value.slice a' (st.file k).1.length m').ownBlock := by cases a' <;> rfl
          refine sAt_append (v := .slice a' (st.file k).1.length m') (xv := .slice xa xs.length xc) Try.underlying22 FrW.info5 (.tmp 42) (.tmp 43) rfl rfl (own_mk Hown.out hm) rfl (Hbs.out.mk hm) (bv_one _) (by omega) (by omega) ?_
          intro v' w'' ho hg hn hf
          rw [hb']
          have hch : InA q a' w1 w'' := Chg.trans (Chg.of_mk hm) (Chg.of_grown hg fun k hk _ => by rw [← hb'] at hk; exact hk) (fun x _ e => .inr e)
          have hbk : Bk w'' q 146 cs := by
            refine (Hrow.out.mk hm).keep (Chg.of_grown (S := fun g => a'.map (·.block) = some g) hg fun k hk _ => by rw [← hb'] at hk; exact hk) fun e => (Hqv.out q e).2 rfl
          refine ⟨hch, hbk, ho, hf.imp id fun ⟨g, h1, h2⟩ => ⟨g, h1, by have := hm.size; omega⟩⟩
        obtain ⟨w0, hx1', hx2', h0, hfresh⟩ := hdv
        obtain ⟨a2, m2, rfl, hm21, hm22⟩ := (own_sl h0).form
        have Hfresh := Lib.hid hfresh
        clear hx1' hx2' h0 w0 hfresh
        go_simp
        refine hK _ ?_
        clear hK K
        iterate 2 (first | (refine spk (by rfl) (by rfl) (by rfl) (fun K hK => ?_); go_big_quiet_op; first | (refine hK _ ?_; clear hK K) | (apply Exists.intro; refine ⟨fun _ => ?_, hK _ ?_⟩; (exact fun _ => rfl); clear hK K)) | (refine spq (by rfl) (by rfl) (fun K hK => ?_); apply Exists.intro; refine ⟨fun w' hw' => ?_, ?_⟩; (go_simp; exact rfl); (go_simp; refine hK _ ?_; clear hK K)))
        refine sps (by rfl) (by rfl) (fun v w' => v = undef ∧ InA q a' w1 w' ∧ Bk w' q 146 (cs.setIfInBounds (k * 2) (.slice a2 ((st.file k).1.length + xs.length) m2)) ∧ w'.ownsRow 0 5 1 (.slice a2 ((st.file k).1.length + xs.length) m2) ((st.file k).1.length + xs.length) (bv (st.file k).1 ++ bv xs))
          (fun v w1 w2 h k => ⟨h.1, Chg.thenMk h.2.1 k, h.2.2.1.mk k, own_mk h.2.2.2 k⟩) (fun v w' h => h.2.1) (fun w' hw' => ?_) (fun K dv hdv hK => ?_)
        · obtain ⟨hin, hbk, how, _⟩ := hw'
          have hcell : w'.cell? ⟨q, k * 2, none⟩ = some (.slice a' (st.file k).1.length m') := by rw [hbk.cell, ← Hrow.out.cell]; exact s1
          have hfr' := hbk.frozen (k * 2)
          have h2 : a2.map (·.block) ≠ some q := by
            intro e
            rcases Hfresh.out with e2 | ⟨g, e2, hg⟩
            · have e3 : a2.map (·.block) = a'.map (·.block) := by rw [← e2]; cases a2 <;> rfl
              exact (Hqv.out q (by rw [← e3, e])).2 rfl
            · have e3 : a2.map (·.block) = some g := by rw [← e2]; cases a2 <;> rfl
              rw [e] at e3
              cases e3
              have := Hrow.out.lt
              omega
          have hset : Chg (fun g => g = q) w' (w'.setCell ⟨q, k * 2, none⟩ (.slice a2 ((st.file k).1.length + xs.length) m2)) := Chg.set _ _ _ _ rfl
          have hout : InA q a' w1 (w'.setCell ⟨q, k * 2, none⟩ (.slice a2 ((st.file k).1.length + xs.length) m2)) ∧ Bk (w'.setCell ⟨q, k * 2, none⟩ (.slice a2 ((st.file k).1.length + xs.length) m2)) q 146 (cs.setIfInBounds (k * 2) (.slice a2 ((st.file k).1.length + xs.length) m2)) ∧ (w'.setCell ⟨q, k * 2, none⟩ (.slice a2 ((st.file k).1.length + xs.length) m2)).ownsRow 0 5 1 (.slice a2 ((st.file k).1.length + xs.length) m2) ((st.file k).1.length + xs.length) (bv (st.file k).1 ++ bv xs) :=
            ⟨Chg.trans hin hset fun x _ e => .inl e, hbk.set _ _, row_keep how hset fun g hg e => h2 (by subst e; rw [← hg]; cases a2 <;> rfl)⟩
          have Hout := Lib.hid hout; have Hin := Lib.hid hin; have Hbk := Lib.hid hbk; have How := Lib.hid how; have Hset := Lib.hid hset; clear hout hin hbk how hset
          have sA := @sAt_skip
          go_simp
          exact Hout.out
        obtain ⟨w0, rfl, _⟩ := hdv
        go_simp
        refine hK _ ?_
        clear hK K
        refine sp_nil ?_
        rintro w3 ⟨-, hin, hbk, how⟩
        have hz := H1.out.files.size
        have hbl := bv_append (st.file k).1 xs
        rw [← hbl, ← List.length_append] at how
        have hP := PDw.put H1.out hq (b' := (st.file k).1 ++ xs) (n' := (st.file k).2) (hin.sub fun g _ e => e.imp id fun e => by rw [Hv.out]; cases a' <;> exact e) hbk (by rw [Array.size_setIfInBounds])
          (by rw [Array.getElem?_setIfInBounds_self_of_lt (by omega)]) (by rw [Array.getElem?_setIfInBounds_ne (by omega)]; have := H1.out.files.last k hq; rw [St.file_eq hq] at this; exact this)
          (fun j h1 h2 => by rw [Array.getElem?_setIfInBounds_ne (by omega)]) (by rw [List.length_append] at how ⊢; exact how)
          (fun g hg => by
            rcases Hfresh.out with e2 | ⟨g2, e2, hg2⟩
            · refine .inl ?_
              rw [Hv.out]
              have e3 : a2.map (·.block) = a'.map (·.block) := by rw [← e2]; cases a2 <;> rfl
              have e4 : a2.map (·.block) = some g := by rw [← hg]; cases a2 <;> rfl
              rw [e3] at e4
              cases a' <;> exact e4
            · have e4 : (Value.slice a2 ((st.file k).1.length + xs.length) m2).ownBlock = some g := by rw [← hg]
              rw [e4] at e2
              cases e2
              exact .inr hg2)
        have hC : Chg S w w3 := (Hc1.out.sub fun _ _ h => h.1).trans hin fun g _ e => by
          rcases e with rfl | e
          · exact (H1.out.fs _ H1.out.files.at_).1
          · exact (H1.out.fs _ (Hqv.out g e).1).1
        have hokp := ok_put Hok.out.toOk0 (f := k) (x := ((st.file k).1 ++ xs, (st.file k).2)) ⟨by simp; omega, by simp; omega⟩
        have hsz := Hc1.out.size
        clear s1 s2 hfr how hbk hin hbl hD q1 l0
        rcases hbt : st.burnt with _ | _
        · rw [hbt] at He
          have HP := Lib.hid hP; have HC := Lib.hid hC; have Hokp := Lib.hid hokp; clear hP hC hokp
          go_wp2
          go_ret
          refine ⟨by rw [He.out]; rfl, ?_, HC.out⟩
          rw [He.out]
          exact PD.sub ⟨_, _, _, _, _, _, _, HP.out⟩ fun g hg => by rcases hg with hg | hg; exact .inl hg; exact .inr (by omega)
        · rw [hbt] at He
          have hfu := hP.fuse
          obtain ⟨n1, kl, hfz⟩ : ∃ n kl, st.fuse = some (n, kl) := by
            unfold St.burnt at hbt
            split at hbt
            · cases hbt
            · exact ⟨_, _, ‹_›⟩
          have hfl : (st.lit.put k ((st.file k).1 ++ xs, (st.file k).2)).fuse = some (n1 - 1, kl) := by simp [St.lit, St.put, hfz]
          rw [hfl] at hfu
          obtain ⟨g, kv, rfl, hgb, hgu, hki, hkb⟩ := hfu
          have c3 := PDw.c3 hP
          have c4 : w3.cell? ⟨g, 1, none⟩ = some kv := (hgb.cell 1).trans rfl
          obtain ⟨ka, kc, rfl, _, _⟩ := hki.form
          have hokq : (st.lit.put k ((st.file k).1 ++ xs, (st.file k).2)).Ok0 M :=
            ⟨by simp [St.put, St.lit]; exact Hok.out.some, hokp.1, hokp.2, Hok.out.falls⟩
          have hfall := fall_any hP hokq hM (.slice ka kl.length kc) kl hki (fun k hp hk => ⟨fun e => hP.disj k (e ▸ hP.files.at_) (hkb k hp hk).1, fun e => (hP.us k (hkb k hp hk).1).2 e⟩)
          have hkk : st.keeps = kl := by simp [St.keeps, hfz]
          have HP := Lib.hid hP; have HC := Lib.hid hC; have Hokp := Lib.hid hokp; have Hokq := Lib.hid hokq; have Hfall := Lib.hid hfall; have Hgb := Lib.hid hgb; have Hgu := Lib.hid hgu; have Hki := Lib.hid hki; have Hkb := Lib.hid hkb; have Hfl := Lib.hid hfl; have Hkk := Lib.hid hkk; have Hfz := Lib.hid hfz; clear hP hC hokp hokq hfall hgb hgu hki hkb hfl hkk hfz
          go_wp2_with fail
          refine Hfall.out.mono ?_
          rintro e w4 ⟨rfl, ⟨cs4, vs4, hP4⟩, hc4⟩
          go_wp2
          go_ret
          have hz4 := HC.out.size
          refine ⟨by rw [He.out]; rfl, ?_, ?_⟩
          · rw [He.out, Hkk.out]
            exact PD.sub ⟨_, _, _, _, _, _, _, hP4⟩ fun g hg => by rcases hg with hg | hg; exact .inl hg; exact .inr (by omega)
          · refine HC.out.trans hc4 fun x hx e => ?_
            rcases e with rfl | rfl
            · exact (H1.out.fs _ H1.out.files.at_).1
            · exact H1.out.sp
  · rw [ho] at hr
    have Hr := Lib.hid hr; clear hr
    go_enter Try.func32, Try.ntmps32
    go_wp2_with (go_at_call 85; refine Hr.out.mono ?_; rintro e w' ⟨rfl, rfl⟩)
    go_ret
    exact ⟨by simp [St.append, ho], by simpa [St.append, ho] using hpd, Chg.refl _ _⟩
end Go.Proofs.DkW
