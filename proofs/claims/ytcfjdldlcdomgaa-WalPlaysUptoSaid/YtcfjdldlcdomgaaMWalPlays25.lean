/- Layer 6, wal: the document's lays, Format. Layer 6, wal: the document's Append. -/
import Derived.Test.YtcfjdldlcdomgaaMWalPlays24
set_option linter.unusedVariables false
set_option linter.unusedSimpArgs false
namespace Go.Proofs.WlW
open Go Go.RowKit Go.Tk Go.Dk Go.Sp Go.Proofs.DkW

def layR (st : St) (f : Int) (fr : List UInt8) : St × Int :=
  if (st.truncate f 0).2 ≠ 0 then st.truncate f 0 else if ((st.truncate f 0).1.append f fr).2 ≠ 0 then (st.truncate f 0).1.append f fr else ((st.truncate f 0).1.append f fr).1.sync f
theorem layR_a {st t1 : St} {f e1 : Int} {fr : List UInt8} (h1 : st.truncate f 0 = (t1, e1)) (he : e1 ≠ 0) : layR st f fr = (t1, e1) := by unfold layR; rw [h1, if_pos he]
theorem layR_b {st t1 t2 : St} {f e2 : Int} {fr : List UInt8} (h1 : st.truncate f 0 = (t1, 0)) (h2 : t1.append f fr = (t2, e2)) (he : e2 ≠ 0) : layR st f fr = (t2, e2) := by unfold layR; rw [h1, if_neg (by simp), h2, if_pos he]
theorem layR_c {st t1 t2 : St} {f : Int} {fr : List UInt8} (h1 : st.truncate f 0 = (t1, 0)) (h2 : t1.append f fr = (t2, 0)) : layR st f fr = t2.sync f := by unfold layR; rw [h1, if_neg (by simp), h2, if_neg (by simp)]
set_option maxHeartbeats 4000000 in
set_option maxRecDepth 100000 in
theorem lays_any {S : Nat → Prop} {w : World} {q M : Nat} {st : St} (h : RD S w q st) (hok : st.Ok M) (hM : M < 900000) (hS : ∀ k, S k → k < w.heap.size) (f : Int) (gen cap slots : Nat) (v : Value) (xs : List UInt8) (hv : Bs w v xs) (hx : xs.length ≤ 4194280) (hg : gen < 18446744073709551616) (hc : cap ≤ 4194304) (hsl : slots ≤ 65536)
    (hd : ∀ k, v.ownBlock = some k → 0 < xs.length → ¬ S k) :
    Calls Try.prog 156 #[.pointer (some ⟨q, 0, none⟩), .int .i64 f, .agg #[.int .u64 (gen : Int), .int .i64 (cap : Int), .int .i64 (slots : Int), v]] w fun e w' => e = .returned (.int .i64 (layR st f (headFrame gen cap slots xs)).2) ∧ RD (Gw S w) w' q (layR st f (headFrame gen cap slots xs)).1 ∧ Chg S w w' := by
  obtain ⟨va, vc, rfl, hvc, hvm⟩ := hv.form
  obtain ⟨W0, hW0⟩ : ∃ W0, w.alloc (.cells #[.int .u64 (gen : Int), .int .i64 (cap : Int), .int .i64 (slots : Int), .slice va xs.length vc] 200) = W0 := ⟨_, rfl⟩
  have hbox : Bk W0 w.heap.size 200 #[.int .u64 (gen : Int), .int .i64 (cap : Int), .int .i64 (slots : Int), .slice va xs.length vc] := by rw [← hW0]; exact Bk.new w 200 _
  have hm0 : Mk w W0 := by rw [← hW0]; exact mk_alloc _ _
  obtain ⟨fr, hfr⟩ : ∃ x, headFrame gen cap slots xs = x := ⟨_, rfl⟩
  have hfl : fr.length = xs.length + 33 := by rw [← hfr, headFrame_length]
  rw [hfr]
  obtain ⟨t1, e1, ht1⟩ : ∃ a b, st.truncate f 0 = (a, b) := ⟨_, _, rfl⟩
  have hok1 := truncate_ok hok f 0
  have k1 := rtruncate_any (h.made hm0) hok (by omega) f 0
  rw [ht1] at hok1 k1
  obtain ⟨t2, e2, ht2⟩ : ∃ a b, t1.append f fr = (a, b) := ⟨_, _, rfl⟩
  have hok2 := append_ok hok1 f fr
  rw [ht2] at hok2
  by_cases he1 : e1 = 0
  rotate_left
  · have hl := layR_a (fr := fr) ht1 he1
    have h1 : (e1 == 0) = false := by simpa using he1
    have H := Lib.hid h; have Hv := Lib.hid hv; have Hvc := Lib.hid hvc; have Hvm := Lib.hid hvm; have Hbox := Lib.hid hbox; have Hm0 := Lib.hid hm0; have Hfr := Lib.hid hfr; have Hfl := Lib.hid hfl; have Ht1 := Lib.hid ht1; have Hok1 := Lib.hid hok1; have K1 := Lib.hid k1; have Hok2 := Lib.hid hok2; have Ht2 := Lib.hid ht2; have Hl := Lib.hid hl; clear h hv hvc hvm hbox hm0 hfr hfl ht1 hok1 k1 hok2 ht2 hl
    go_enter Try.func156, Try.ntmps156
    go_wp2_with fail
    refine K1.out.mono ?_
    rintro e w1 ⟨rfl, hp1, hc1⟩
    have Hp1 := Lib.hid hp1; have Hc1 := Lib.hid hc1; clear hp1 hc1
    go_wp2
    go_ret
    rw [Hl.out]
    exact ⟨rfl, Hp1.out.sub fun _ e => .inl e, Chg.trans (Chg.of_mk Hm0.out) Hc1.out (fun _ _ e => e)⟩
  · subst he1
    have H := Lib.hid h; have Hv := Lib.hid hv; have Hvc := Lib.hid hvc; have Hvm := Lib.hid hvm; have Hbox := Lib.hid hbox; have Hm0 := Lib.hid hm0; have Hfr := Lib.hid hfr; have Hfl := Lib.hid hfl; have Ht1 := Lib.hid ht1; have Hok1 := Lib.hid hok1; have K1 := Lib.hid k1; have Hok2 := Lib.hid hok2; have Ht2 := Lib.hid ht2; clear h hv hvc hvm hbox hm0 hfr hfl ht1 hok1 k1 hok2 ht2
    go_enter Try.func156, Try.ntmps156
    go_wp2_with fail
    refine K1.out.mono ?_
    rintro e w1 ⟨rfl, hp1, hc1⟩
    have hb1 := Hbox.out.keep hc1 (fun e => by have := hS _ e; omega)
    have hld := load200 hb1 rfl
    have hby := rframe_any w1 gen cap slots _ xs (bs_keep (Hv.out.mk Hm0.out) hc1 (fun k hk h0 _ => hd k hk h0)) hx hg hc hsl
    have Hp1 := Lib.hid hp1; have Hc1 := Lib.hid hc1; have Hb1 := Lib.hid hb1; have Hld := Lib.hid hld; have Hby := Lib.hid hby; clear hp1 hc1 hb1 hld hby
    clear hW0
    go_wp2_with (first | (refine WlW.wpList_load_row rfl 200 (.tmp 5) rfl w.heap.size rfl (.agg #[.int .u64 (gen : Int), .int .i64 (cap : Int), .int .i64 (slots : Int), .slice va xs.length vc]) Hld.out ?_) | fail)
    refine Hby.out.mono ?_
    rintro e w2 ⟨bv', rfl, hob, hm2⟩
    rw [← Hfl.out, Hfr.out] at hob
    obtain ⟨ba, bc, rfl, _, _⟩ := (own_sl hob).form
    have hz1 : w.heap.size ≤ w1.heap.size := by have := Hm0.out.size; have := Hc1.out.size; omega
    have k2 := rappend_any (Hp1.out.made hm2) Hok1.out (by omega) f _ fr (own_sl hob) (by have := Hfl.out; omega) (fun k _ e hs => by have := (hob.lt k e).1; have := hS k hs; omega)
    rw [Ht2.out] at k2
    have Hob := Lib.hid hob; have Hm2 := Lib.hid hm2; have K2 := Lib.hid k2; clear hob hm2 k2
    go_wp2_with fail
    refine K2.out.mono ?_
    rintro e w3 ⟨rfl, hp3, hc3⟩
    have hc03 : Chg S w w3 := Chg.trans (Chg.trans (Chg.trans (Chg.of_mk Hm0.out) Hc1.out (fun _ _ e => e)) (Chg.of_mk (S := S) Hm2.out) (fun _ _ e => e)) hc3 (fun _ _ e => e)
    have hp3' : RD (Gw S w) w3 q t2 := hp3.sub (Gw_mono (by have := Hm2.out.size; omega))
    by_cases he2 : e2 = 0
    · subst he2
      have hl := layR_c (fr := fr) Ht1.out Ht2.out
      have k3 := rsync_any hp3' Hok2.out (by omega) f
      have Hp3 := Lib.hid hp3; have Hc3 := Lib.hid hc3; have Hc03 := Lib.hid hc03; have Hp3' := Lib.hid hp3'; have Hl := Lib.hid hl; have K3 := Lib.hid k3; clear hp3 hc3 hc03 hp3' hl k3
      go_wp2_with fail
      refine K3.out.mono ?_
      rintro e w4 ⟨rfl, hp4, hc4⟩
      have Hp4 := Lib.hid hp4; have Hc4 := Lib.hid hc4; clear hp4 hc4
      go_wp2
      go_ret
      rw [Hl.out]
      exact ⟨rfl, Hp4.out, Hc03.out.then Hc4.out⟩
    · have h2 : (e2 == 0) = false := by simpa using he2
      have hl := layR_b (fr := fr) Ht1.out Ht2.out he2
      have Hp3 := Lib.hid hp3; have Hc3 := Lib.hid hc3; have Hc03 := Lib.hid hc03; have Hp3' := Lib.hid hp3'; have Hl := Lib.hid hl; clear hp3 hc3 hc03 hp3' hl
      go_wp2
      go_ret
      rw [Hl.out]
      exact ⟨rfl, Hp3'.out, Hc03.out⟩
def fmtS (st : St) (fr : List UInt8) : St × Int :=
  if (st.truncate 0 0).2 ≠ 0 then st.truncate 0 0 else if ((st.truncate 0 0).1.truncate 1 0).2 ≠ 0 then (st.truncate 0 0).1.truncate 1 0 else
  if (((st.truncate 0 0).1.truncate 1 0).1.append 0 fr).2 ≠ 0 then ((st.truncate 0 0).1.truncate 1 0).1.append 0 fr else (((st.truncate 0 0).1.truncate 1 0).1.append 0 fr).1.sync 0
theorem fmtS_a {st t1 : St} {e1 : Int} {fr : List UInt8} (h1 : st.truncate 0 0 = (t1, e1)) (he : e1 ≠ 0) : fmtS st fr = (t1, e1) := by unfold fmtS; rw [h1, if_pos he]
theorem fmtS_b {st t1 t2 : St} {e2 : Int} {fr : List UInt8} (h1 : st.truncate 0 0 = (t1, 0)) (h2 : t1.truncate 1 0 = (t2, e2)) (he : e2 ≠ 0) : fmtS st fr = (t2, e2) := by unfold fmtS; rw [h1, if_neg (by simp), h2, if_pos he]
theorem fmtS_c {st t1 t2 t3 : St} {e3 : Int} {fr : List UInt8} (h1 : st.truncate 0 0 = (t1, 0)) (h2 : t1.truncate 1 0 = (t2, 0)) (h3 : t2.append 0 fr = (t3, e3)) (he : e3 ≠ 0) : fmtS st fr = (t3, e3) := by unfold fmtS; rw [h1, if_neg (by simp), h2, if_neg (by simp), h3, if_pos he]
theorem fmtS_d {st t1 t2 t3 : St} {fr : List UInt8} (h1 : st.truncate 0 0 = (t1, 0)) (h2 : t1.truncate 1 0 = (t2, 0)) (h3 : t2.append 0 fr = (t3, 0)) : fmtS st fr = t3.sync 0 := by unfold fmtS; rw [h1, if_neg (by simp), h2, if_neg (by simp), h3, if_neg (by simp)]
def fmtR (st : St) (cap slots : Int) (state : List UInt8) : St × Int :=
  if st.size 1 < 0 ∨ rightB cap slots = false then (st, 1) else if fitW state.length cap = false then (st, 60) else if st.off then (st, 40) else
  fmtS st (headFrame 1 cap.toNat slots.toNat state)
set_option maxHeartbeats 4000000 in
set_option maxRecDepth 100000 in
theorem rformat_any {S : Nat → Prop} {w : World} {q M : Nat} {st : St} (h : RD S w q st) (hok : st.Ok M) (hM : M < 900000) (hS : ∀ k, S k → k < w.heap.size) (cap slots : Int) (v : Value) (xs : List UInt8) (hv : Bs w v xs) (hlen : xs.length ≤ 140737488355328)
    (hd : ∀ k, v.ownBlock = some k → 0 < xs.length → ¬ S k) :
    Calls Try.prog 122 #[.pointer (some ⟨q, 0, none⟩), .int .i64 cap, .int .i64 slots, v] w fun e w' => e = .returned (.int .i64 (fmtR st cap slots xs).2) ∧ RD (Gw S w) w' q (fmtR st cap slots xs).1 ∧ Chg S w w' := by
  obtain ⟨va, vc, rfl, hvc, hvm⟩ := hv.form
  have hsize := rsize_any 1 h
  have hright := rmay2_any w cap slots
  have hfit := rfitw_any w (xs.length : Int) cap
  have hon := RD.on h
  have hself : RD (Gw S w) w q st ∧ Chg S w w := ⟨h.sub fun _ e => .inl e, Chg.refl _ _⟩
  generalize hsz : st.size 1 = sz at *
  cases hr : rightB cap slots
  · have hl : fmtR st cap slots xs = (st, 1) := by unfold fmtR; rw [hsz, if_pos (.inr hr)]
    rw [hr] at hright
    obtain ⟨b, hb⟩ : ∃ b, decide (sz < 0) = b := ⟨_, rfl⟩
    obtain ⟨c, hc⟩ : ∃ b, fitW xs.length cap = b := ⟨_, rfl⟩
    rw [hc] at hfit
    cases b
    all_goals
      have Hsize := Lib.hid hsize; have Hright := Lib.hid hright; have Hfit := Lib.hid hfit; have Hl := Lib.hid hl; have H := Lib.hid h; have Hv := Lib.hid hv; have Hvc := Lib.hid hvc; have Hvm := Lib.hid hvm; have Hsz := Lib.hid hsz; have Hr := Lib.hid hr; have Hc := Lib.hid hc; clear hsize hright hfit hl h hv hvc hvm hsz hr hc
      go_enter Try.func122, Try.ntmps122
      go_wp2_with (first | (go_at_call 151; refine Hright.out.mono ?_; rintro e w' ⟨rfl, rfl⟩) | (go_at_call 152; refine Hfit.out.mono ?_; rintro e w' ⟨rfl, rfl⟩) | (go_at_call 102; refine Hsize.out.mono ?_; rintro e w' ⟨rfl, rfl⟩) | fail)
      go_ret
      rw [Hl.out]
      exact ⟨rfl, hself⟩
  · rw [hr] at hright
    by_cases h1 : sz < 0
    · have hl : fmtR st cap slots xs = (st, 1) := by unfold fmtR; rw [hsz, if_pos (.inl h1)]
      have d1 : decide (sz < 0) = true := by simpa using h1
      obtain ⟨c, hc⟩ : ∃ b, fitW xs.length cap = b := ⟨_, rfl⟩
      rw [hc] at hfit
      have Hsize := Lib.hid hsize; have Hright := Lib.hid hright; have Hfit := Lib.hid hfit; have Hl := Lib.hid hl; have H := Lib.hid h; have Hv := Lib.hid hv; have Hvc := Lib.hid hvc; have Hvm := Lib.hid hvm; have Hsz := Lib.hid hsz; have Hr := Lib.hid hr; have Hc := Lib.hid hc; clear hsize hright hfit hl h hv hvc hvm hsz hr hc
      go_enter Try.func122, Try.ntmps122
      go_wp2_with (first | (go_at_call 151; refine Hright.out.mono ?_; rintro e w' ⟨rfl, rfl⟩) | (go_at_call 152; refine Hfit.out.mono ?_; rintro e w' ⟨rfl, rfl⟩) | (go_at_call 102; refine Hsize.out.mono ?_; rintro e w' ⟨rfl, rfl⟩) | fail)
      go_ret
      rw [Hl.out]
      exact ⟨rfl, hself⟩
    · have d1 : decide (sz < 0) = false := by simpa using h1
      cases hf : fitW xs.length cap
      · have hl : fmtR st cap slots xs = (st, 60) := by unfold fmtR; rw [hsz, if_neg (by rw [hr]; simp; omega), if_pos hf]
        rw [hf] at hfit
        have Hsize := Lib.hid hsize; have Hright := Lib.hid hright; have Hfit := Lib.hid hfit; have Hl := Lib.hid hl; have H := Lib.hid h; have Hv := Lib.hid hv; have Hvc := Lib.hid hvc; have Hvm := Lib.hid hvm; have Hsz := Lib.hid hsz; have Hr := Lib.hid hr; have Hf := Lib.hid hf; clear hsize hright hfit hl h hv hvc hvm hsz hr hf
        go_enter Try.func122, Try.ntmps122
        go_wp2_with (first | (go_at_call 151; refine Hright.out.mono ?_; rintro e w' ⟨rfl, rfl⟩) | (go_at_call 152; refine Hfit.out.mono ?_; rintro e w' ⟨rfl, rfl⟩) | (go_at_call 102; refine Hsize.out.mono ?_; rintro e w' ⟨rfl, rfl⟩) | fail)
        go_ret
        rw [Hl.out]
        exact ⟨rfl, hself⟩
      · rw [hf] at hfit
        cases hoff : st.off
        rotate_left
        · have hl : fmtR st cap slots xs = (st, 40) := by unfold fmtR; rw [hsz, if_neg (by rw [hr]; simp; omega), if_neg (by rw [hf]; decide), if_pos hoff]
          rw [hoff] at hon
          have Hsize := Lib.hid hsize; have Hright := Lib.hid hright; have Hfit := Lib.hid hfit; have Hl := Lib.hid hl; have H := Lib.hid h; have Hv := Lib.hid hv; have Hvc := Lib.hid hvc; have Hvm := Lib.hid hvm; have Hsz := Lib.hid hsz; have Hr := Lib.hid hr; have Hf := Lib.hid hf; have Hoff := Lib.hid hoff; clear hsize hright hfit hl h hv hvc hvm hsz hr hf hoff
          go_enter Try.func122, Try.ntmps122
          go_wp2_with (first | (go_at_call 151; refine Hright.out.mono ?_; rintro e w' ⟨rfl, rfl⟩) | (go_at_call 152; refine Hfit.out.mono ?_; rintro e w' ⟨rfl, rfl⟩) | (go_at_call 102; refine Hsize.out.mono ?_; rintro e w' ⟨rfl, rfl⟩) | fail)
          go_ret
          rw [Hl.out]
          exact ⟨rfl, hself⟩
        · rw [hoff] at hon
          have hr' : 1024 ≤ cap ∧ cap ≤ 4194304 ∧ 1 ≤ slots ∧ slots ≤ 65536 := by simp [rightB] at hr; omega
          have hxl : xs.length ≤ 4194280 := by
            by_cases e : xs.length ≤ 4194280
            · exact e
            · have : weight (xs.length : Int) = 0 := by unfold weight; rw [if_pos (by omega)]
              rw [fitW, this] at hf; simp at hf
          obtain ⟨c, rfl⟩ := Int.eq_ofNat_of_zero_le (show 0 ≤ cap by omega)
          obtain ⟨sl, rfl⟩ := Int.eq_ofNat_of_zero_le (show 0 ≤ slots by omega)
          obtain ⟨fr, hfr⟩ : ∃ f, headFrame 1 c sl xs = f := ⟨_, rfl⟩
          have hfl : fr.length = xs.length + 33 := by rw [← hfr, headFrame_length]
          have hl : fmtR st (c : Int) (sl : Int) xs = fmtS st fr := by unfold fmtR; rw [hsz, if_neg (by rw [hr]; simp; omega), if_neg (by rw [hf]; decide), if_neg (by rw [hoff]; decide), Int.toNat_natCast, Int.toNat_natCast, hfr]
          obtain ⟨t1, e1, ht1⟩ : ∃ a b, st.truncate 0 0 = (a, b) := ⟨_, _, rfl⟩
          have hok1 := truncate_ok hok 0 0
          have k1 := rtruncate_any h hok (by omega) 0 0
          rw [ht1] at hok1 k1
          obtain ⟨t2, e2, ht2⟩ : ∃ a b, t1.truncate 1 0 = (a, b) := ⟨_, _, rfl⟩
          have hok2 := truncate_ok hok1 1 0
          have k2 : ∀ (w' : World), RD S w' q t1 → _ := fun w' h1 => rtruncate_any h1 hok1 (by omega) 1 0
          rw [ht2] at hok2 k2
          obtain ⟨t3, e3, ht3⟩ : ∃ a b, t2.append 0 fr = (a, b) := ⟨_, _, rfl⟩
          have hok3 := append_ok hok2 0 fr
          rw [ht3] at hok3
          have ha1 := @fmtS_a st t1 e1 fr ht1
          have Hsize := Lib.hid hsize; have Hright := Lib.hid hright; have Hfit := Lib.hid hfit; have Hl := Lib.hid hl; have H := Lib.hid h; have Hv := Lib.hid hv; have Hvc := Lib.hid hvc; have Hvm := Lib.hid hvm; have Hsz := Lib.hid hsz; have Hr := Lib.hid hr; have Hf := Lib.hid hf; have Hoff := Lib.hid hoff; have Hfr := Lib.hid hfr; have Hfl := Lib.hid hfl; have Ht1 := Lib.hid ht1; have Hok1 := Lib.hid hok1; have K1 := Lib.hid k1; have Ht2 := Lib.hid ht2; have Hok2 := Lib.hid hok2; have K2 := Lib.hid k2; have Ht3 := Lib.hid ht3; have Hok3 := Lib.hid hok3; have Ha1 := Lib.hid ha1; clear hsize hright hfit hl h hv hvc hvm hsz hr hf hoff hfr hfl ht1 hok1 k1 ht2 hok2 k2 ht3 hok3 ha1
          go_enter Try.func122, Try.ntmps122
          go_wp2_with (first | (go_at_call 151; refine Hright.out.mono ?_; rintro e w' ⟨rfl, rfl⟩) | (go_at_call 152; refine Hfit.out.mono ?_; rintro e w' ⟨rfl, rfl⟩) | (go_at_call 102; refine Hsize.out.mono ?_; rintro e w' ⟨rfl, rfl⟩) | fail)
          refine K1.out.mono ?_
          rintro e w1 ⟨rfl, hp1, hc1⟩
          by_cases he1 : e1 = 0
          rotate_left
          · have n1 : (e1 == 0) = false := by simpa using he1
            have Hp1 := Lib.hid hp1; have Hc1 := Lib.hid hc1; clear hp1 hc1
            go_wp2
            go_ret
            rw [Hl.out, Ha1.out he1]
            exact ⟨rfl, Hp1.out.sub fun _ e => .inl e, Hc1.out⟩
          · subst he1
            have Hp1 := Lib.hid hp1; have Hc1 := Lib.hid hc1; clear hp1 hc1
            go_wp2_with fail
            refine (K2.out _ Hp1.out).mono ?_
            rintro e w2 ⟨rfl, hp2, hc2⟩
            have hc02 := Chg.trans Hc1.out hc2 (fun _ _ e => e)
            by_cases he2 : e2 = 0
            rotate_left
            · have n1 : (e2 == 0) = false := by simpa using he2
              have Hp2 := Lib.hid hp2; have Hc02 := Lib.hid hc02; clear hp2 hc02
              go_wp2
              go_ret
              rw [Hl.out, fmtS_b Ht1.out Ht2.out he2]
              exact ⟨rfl, Hp2.out.sub fun _ e => .inl e, Hc02.out⟩
            · subst he2
              have hby := rframe_any w2 1 c sl _ xs (bs_keep Hv.out hc02 (fun k hk h0 _ => hd k hk h0)) hxl (by decide) (by omega) (by omega)
              have Hp2 := Lib.hid hp2; have Hc02 := Lib.hid hc02; have Hby := Lib.hid hby; clear hp2 hc02 hby
              go_wp2_with fail
              refine Hby.out.mono ?_
              rintro e w3 ⟨bv', rfl, hob, hm3⟩
              rw [← Hfl.out, Hfr.out] at hob
              obtain ⟨ba, bc, rfl, _, _⟩ := (own_sl hob).form
              have hz2 : w.heap.size ≤ w2.heap.size := Hc02.out.size
              have k3 := rappend_any (Hp2.out.made hm3) Hok2.out (by omega) 0 _ fr (own_sl hob) (by have := Hfl.out; omega) (fun k _ e hs => by have := (hob.lt k e).1; have := hS k hs; omega)
              rw [Ht3.out] at k3
              have Hob := Lib.hid hob; have Hm3 := Lib.hid hm3; have K3 := Lib.hid k3; clear hob hm3 k3
              go_wp2_with fail
              refine K3.out.mono ?_
              rintro e w4 ⟨rfl, hp4, hc4⟩
              have hc04 : Chg S w w4 := Chg.trans (Hc02.out.thenMk Hm3.out) hc4 (fun _ _ e => e)
              have hp4' : RD (Gw S w) w4 q t3 := hp4.sub (Gw_mono (by have := Hm3.out.size; omega))
              by_cases he3 : e3 = 0
              rotate_left
              · have n1 : (e3 == 0) = false := by simpa using he3
                have Hp4 := Lib.hid hp4; have Hc4 := Lib.hid hc4; have Hc04 := Lib.hid hc04; have Hp4' := Lib.hid hp4'; clear hp4 hc4 hc04 hp4'
                go_wp2
                go_ret
                rw [Hl.out, fmtS_c Ht1.out Ht2.out Ht3.out he3]
                exact ⟨rfl, Hp4'.out, Hc04.out⟩
              · subst he3
                have hF := fmtS_d (fr := fr) Ht1.out Ht2.out Ht3.out
                have k4 := rsync_any hp4' Hok3.out (by omega) 0
                have Hp4 := Lib.hid hp4; have Hc4 := Lib.hid hc4; have Hc04 := Lib.hid hc04; have Hp4' := Lib.hid hp4'; have HF := Lib.hid hF; have K4 := Lib.hid k4; clear hp4 hc4 hc04 hp4' hF k4
                go_wp2_with fail
                refine K4.out.mono ?_
                rintro e w5 ⟨rfl, hp5, hc5⟩
                have Hp5 := Lib.hid hp5; have Hc5 := Lib.hid hc5; clear hp5 hc5
                go_wp2
                go_ret
                rw [Hl.out, HF.out]
                exact ⟨rfl, Hp5.out, Hc04.out.then Hc5.out⟩
end Go.Proofs.WlW

namespace Go.Proofs.WlW
open Go Go.RowKit Go.Tk Go.Dk Go.Sp Go.Proofs.DkW

def appS (st : St) (f : Int) (fr : List UInt8) : St × Int := if (st.append f fr).2 ≠ 0 then st.append f fr else (st.append f fr).1.sync f
def appR (st : St) (L : Lg) (xs : List UInt8) : St × Int :=
  if deadB st L then (st, 40) else if rfitsB st L xs.length = false then (st, 60) else appS st L.live (FrW.frm 2 xs)
theorem appS_a {st t1 : St} {f e1 : Int} {fr : List UInt8} (h1 : st.append f fr = (t1, e1)) (he : e1 ≠ 0) : appS st f fr = (t1, e1) := by unfold appS; rw [h1, if_pos he]
theorem appS_b {st t1 : St} {f : Int} {fr : List UInt8} (h1 : st.append f fr = (t1, 0)) : appS st f fr = t1.sync f := by unfold appS; rw [h1, if_neg (by simp)]
/-- What a call leaves that writes into the document's disk, and knows a log's block. -/
structure RPost (T : Nat → Prop) (w : World) (g q : Nat) (st : St) (L : Lg) (sv : Value) (w' : World) : Prop where
  disk : RD (Gw T w) w' q st
  log : Bk w' g 204 (rlC q L sv)
  chg : Chg T w w'
section
variable {T : Nat → Prop} {w w1 w' w'' : World} {g q M : Nat} {st st' : St} {L : Lg} {sv : Value}
theorem RPost.mk' (h : RPost T w g q st L sv w') (hm : Mk w' w'') : RPost T w g q st L sv w'' := ⟨h.disk.made hm, h.log.mk hm, h.chg.thenMk hm⟩
theorem RPost.same (hb : Bk w g 204 (rlC q L sv)) (h : RD T w q st) (hm : Mk w w') : RPost T w g q st L sv w' := ⟨(h.made hm).sub fun _ e => .inl e, hb.mk hm, Chg.of_mk hm⟩
theorem RPost.base (h : RPost T w1 g q st L sv w') (hm : Mk w w1) : RPost T w g q st L sv w' := ⟨h.disk.sub (Gw_mono hm.size), h.log, Chg.trans (Chg.of_mk hm) h.chg (fun _ _ e => e)⟩
theorem RPost.next (h : RPost T w g q st L sv w') (hg : ¬ T g) (hl : g < w.heap.size) (hd : RD (Gw (Gw T w) w') w'' q st') (hc : Chg (Gw T w) w' w'') : RPost T w g q st' L sv w'' :=
  ⟨hd.sub fun k hk => hk.elim id (fun e => .inr (Nat.le_trans h.chg.size e)), h.log.keep hc (fun e => e.elim hg (fun e => by omega)), h.chg.then hc⟩
theorem size_b (hok : st.Ok M) (f : Int) : st.size f ≤ 16777216 ∧ -1 ≤ st.size f := by
  unfold St.size
  split
  · omega
  · have := (file_ok hok f.toNat).2; omega
theorem rsize_b (hok : st.Ok M) : rsizeL st L ≤ 1000000000 ∧ -1 ≤ rsizeL st L := by
  unfold rsizeL
  split
  · omega
  · have := size_b hok (L.live : Int); omega
set_option maxHeartbeats 4000000 in
set_option maxRecDepth 100000 in
theorem rlappend_any (hb : Bk w g 204 (rlC q L sv)) (h : RD T w q st) (hok : st.Ok M) (hM : M < 900000) (hS : ∀ k, T k → k < w.heap.size) (hg : ¬ T g) (v : Value) (xs : List UInt8) (hv : Bs w v xs) (hlen : xs.length ≤ 140737488355328) :
    Calls Try.prog 123 #[.pointer (some ⟨g, 0, none⟩), v] w fun e w' => e = .returned (.int .i64 (appR st L xs).2) ∧ RPost T w g q (appR st L xs).1 L sv w' := by
  have hdead := rldead_any hb h
  have hfit := fun (w' : World) (hm : Mk w w') => rlfits_any (hb.mk hm) (h.made hm) (rsize_b hok) (xs.length : Int)
  obtain ⟨va, vc, rfl, hvc, hvm⟩ := hv.form
  cases hd : deadB st L
  rotate_left
  · have hl : appR st L xs = (st, 40) := by unfold appR; rw [hd]; rfl
    rw [hd] at hdead
    obtain ⟨b, hf⟩ : ∃ b, rfitsB st L xs.length = b := ⟨_, rfl⟩
    simp only [hf] at hfit
    have Hdead := Lib.hid hdead; have Hfit := Lib.hid hfit; have Hl := Lib.hid hl; have Hb := Lib.hid hb; have H := Lib.hid h; have Hv := Lib.hid hv; have Hvc := Lib.hid hvc; have Hvm := Lib.hid hvm; have Hd := Lib.hid hd; have Hf := Lib.hid hf; clear hdead hfit hl hb h hv hvc hvm hd hf
    go_enter Try.func123, Try.ntmps123
    go_wp2_with fail
    refine Hdead.out.mono ?_
    rintro e w1 ⟨rfl, m, hm⟩
    have hmk : Mk w w1 := hm ▸ mk_drewN w m
    clear hm
    have Hmk := Lib.hid hmk; clear hmk
    go_wp2_with fail
    refine (Hfit.out _ Hmk.out).mono ?_
    rintro e w2 ⟨rfl, m2, hm2⟩
    have hmk2 : Mk w w2 := mk_trans Hmk.out (hm2 ▸ mk_drewN w1 m2)
    clear hm2
    have Hmk2 := Lib.hid hmk2; clear hmk2
    go_wp2
    go_ret
    rw [Hl.out]
    exact ⟨rfl, RPost.same Hb.out H.out Hmk2.out⟩
  · rw [hd] at hdead
    cases hf : rfitsB st L xs.length
    · have hl : appR st L xs = (st, 60) := by unfold appR; rw [hd, hf]; rfl
      simp only [hf] at hfit
      have Hdead := Lib.hid hdead; have Hfit := Lib.hid hfit; have Hl := Lib.hid hl; have Hb := Lib.hid hb; have H := Lib.hid h; have Hv := Lib.hid hv; have Hvc := Lib.hid hvc; have Hvm := Lib.hid hvm; have Hd := Lib.hid hd; have Hf := Lib.hid hf; clear hdead hfit hl hb h hv hvc hvm hd hf
      go_enter Try.func123, Try.ntmps123
      go_wp2_with fail
      refine Hdead.out.mono ?_
      rintro e w1 ⟨rfl, m, hm⟩
      have hmk : Mk w w1 := hm ▸ mk_drewN w m
      clear hm
      have Hmk := Lib.hid hmk; clear hmk
      go_wp2_with fail
      refine (Hfit.out _ Hmk.out).mono ?_
      rintro e w2 ⟨rfl, m2, hm2⟩
      have hmk2 : Mk w w2 := mk_trans Hmk.out (hm2 ▸ mk_drewN w1 m2)
      clear hm2
      have Hmk2 := Lib.hid hmk2; clear hmk2
      go_wp2
      go_ret
      rw [Hl.out]
      exact ⟨rfl, RPost.same Hb.out H.out Hmk2.out⟩
    · have hl : appR st L xs = appS st L.live (FrW.frm 2 xs) := by unfold appR; rw [hd, hf]; rfl
      simp only [hf] at hfit
      have hxl : xs.length ≤ 4194304 := by unfold rfitsB at hf; simp at hf; omega
      have hfl : (FrW.frm 2 xs).length = xs.length + 9 := FrW.frm_length _ _
      generalize hfr : FrW.frm 2 xs = fr at *
      obtain ⟨t1, e1, ht1⟩ : ∃ a b, st.append L.live fr = (a, b) := ⟨_, _, rfl⟩
      have hok1 := append_ok hok L.live fr
      rw [ht1] at hok1
      have Hdead := Lib.hid hdead; have Hfit := Lib.hid hfit; have Hl := Lib.hid hl; have Hb := Lib.hid hb; have H := Lib.hid h; have Hv := Lib.hid hv; have Hvc := Lib.hid hvc; have Hvm := Lib.hid hvm; have Hd := Lib.hid hd; have Hf := Lib.hid hf; have Hxl := Lib.hid hxl; have Hfl := Lib.hid hfl; have Hfr := Lib.hid hfr; have Ht1 := Lib.hid ht1; have Hok1 := Lib.hid hok1; clear hdead hfit hl hb h hv hvc hvm hd hf hxl hfl hfr ht1 hok1
      go_enter Try.func123, Try.ntmps123
      go_wp2_with fail
      refine Hdead.out.mono ?_
      rintro e w1 ⟨rfl, m, hm⟩
      have hmk : Mk w w1 := hm ▸ mk_drewN w m
      clear hm
      have Hmk := Lib.hid hmk; clear hmk
      go_wp2_with fail
      refine (Hfit.out _ Hmk.out).mono ?_
      rintro e w2 ⟨rfl, m2, hm2⟩
      have hmk2 : Mk w w2 := mk_trans Hmk.out (hm2 ▸ mk_drewN w1 m2)
      clear hm2
      have hlp0 : RPost T w2 g q st L sv w2 := RPost.same (Hb.out.mk hmk2) (H.out.made hmk2) (mk_refl _)
      have hv2 := Hv.out.mk hmk2
      have hzz := hmk2.size
      have hgl := Hb.out.lt
      have hC0 : ∀ w', Bk w' g 204 (rlC q L sv) → w'.cell? ⟨g, 0, none⟩ = some (.pointer (some ⟨q, 0, none⟩)) := fun w' h => rl_0 h
      have hC2 : ∀ w', Bk w' g 204 (rlC q L sv) → w'.cell? ⟨g, 2, none⟩ = some (.int .i64 (L.live : Int)) := fun w' h => rl_2 h
      have Hmk2 := Lib.hid hmk2; have Hlp0 := Lib.hid hlp0; have Hv2 := Lib.hid hv2; clear hmk2 hlp0 hv2
      go_wp2_with fail
      refine wp_region_sq (fun j => j == 9 || j == 10) (fun w' => Bk w' g 204 (rlC q L sv)) (by kernel_rfl) (by kernel_rfl) Hlp0.out.log (fun _ _ h k => h.mk k) ?_
      intro D' hD' hne
      have q1 := @qAt_value Try.prog
      iterate 9 (first | (refine spk (by rfl) (by rfl) (by rfl) (fun K hK => ?_); go_big_quiet_op; first | (refine hK _ ?_; clear hK K) | (apply Exists.intro; refine ⟨fun _ => ?_, hK _ ?_⟩; (exact fun _ => rfl); clear hK K)) | (refine spq (by rfl) (by rfl) (fun K hK => ?_); apply Exists.intro; refine ⟨fun w' hw' => ?_, ?_⟩; (go_simp; exact rfl); (go_simp; refine hK _ ?_; clear hK K)))
      refine sps (by rfl) (by rfl) (fun u w' => ∃ ba bc, u = .slice ba fr.length bc ∧ Mk w2 w' ∧ w'.ownsRow w2.heap.size 5 1 (.slice ba fr.length bc) fr.length (bv fr)) (fun v w1 w2 ⟨a, c, h1, h2, h3⟩ k => ⟨a, c, h1, mk_trans h2 k, own_mk h3 k⟩) (fun v w' ⟨_, _, _, h, _⟩ => Hlp0.out.log.mk h) (fun w' hw' => ?_) (fun K dv hdv hK => ?_)
      · have hm' := (hD'.out w' hw').1
        clear hw'
        have Hm' := Lib.hid hm'; clear hm'
        go_simp
        refine FrW.sAt_enter ?_
        refine (FrW.Made_any w' _ xs 2 (Hv2.out.mk Hm'.out) Hxl.out).mono ?_
        rintro e w3 ⟨bv', rfl, hob, hm3⟩
        rw [Hfr.out] at hob
        obtain ⟨ba, bc, rfl, _, _⟩ := (own_sl hob).form
        exact ⟨_, rfl, ba, bc, rfl, mk_trans Hm'.out hm3, own_base hob Hm'.out.size⟩
      obtain ⟨wz, ba, bc, rfl, hz1, hz2⟩ := hdv
      clear hz1 hz2 wz
      go_simp
      refine hK _ ?_
      clear hK K
      refine sps (by rfl) (by rfl) (fun u w' => u = .int .i64 e1 ∧ RPost T w2 g q t1 L sv w') (fun v w1 w2 ⟨h1, h2⟩ k => ⟨h1, h2.mk' k⟩) (fun v w' ⟨_, h⟩ => h.log) (fun w' hw' => ?_) (fun K dv hdv hK => ?_)
      · obtain ⟨ba', bc', he', hm', ho'⟩ := hw'
        cases he'
        have Hm' := Lib.hid hm'; have Ho' := Lib.hid ho'; clear hm' ho'
        go_simp
        refine FrW.sAt_enter ?_
        have k2 := rappend_any (H.out.made (mk_trans Hmk2.out Hm'.out)) hok (by omega) (L.live : Int) _ fr (own_sl Ho'.out) (by have := Hfl.out; have := Hxl.out; omega) (fun k hk e hs => by
          have := (Ho'.out.lt k e).1
          have := hS k hs
          omega)
        rw [Ht1.out] at k2
        refine k2.mono ?_
        rintro e w3 ⟨rfl, h3, hc3⟩
        exact ⟨_, rfl, rfl, h3.sub (Gw_mono Hm'.out.size), (Hlp0.out.log.mk Hm'.out).keep hc3 hg, Chg.trans (Chg.of_mk Hm'.out) hc3 (fun _ _ e => e)⟩
      obtain ⟨wz, rfl, hz1⟩ := hdv
      clear hz1 wz
      go_simp
      refine hK _ ?_
      clear hK K
      iterate 1 (first | (refine spk (by rfl) (by rfl) (by rfl) (fun K hK => ?_); go_big_quiet_op; first | (refine hK _ ?_; clear hK K) | (apply Exists.intro; refine ⟨fun _ => ?_, hK _ ?_⟩; (exact fun _ => rfl); clear hK K)) | (refine spq (by rfl) (by rfl) (fun K hK => ?_); apply Exists.intro; refine ⟨fun w' hw' => ?_, ?_⟩; (go_simp; exact rfl); (go_simp; refine hK _ ?_; clear hK K)))
      refine sp_nil ?_
      rintro w3 ⟨_, hp3⟩
      clear hD' D' hne q1
      by_cases he1 : e1 = 0
      rotate_left
      · have n1 : (e1 == 0) = false := by simpa using he1
        have Hp3 := Lib.hid hp3; clear hp3
        clear hC0 hC2
        go_wp2
        go_ret
        rw [Hl.out, appS_a Ht1.out he1]
        exact ⟨rfl, Hp3.out.base Hmk2.out⟩
      · subst he1
        have hF := appS_b (fr := fr) Ht1.out
        obtain ⟨t2, e2, ht2⟩ : ∃ a b, t1.sync L.live = (a, b) := ⟨_, _, rfl⟩
        rw [ht2] at hF
        have Hp3 := Lib.hid hp3; have HF := Lib.hid hF; have Ht2 := Lib.hid ht2; clear hp3 hF ht2
        go_wp2_with fail
        refine wp_region_sq (fun j => j == 8) (fun w' => Bk w' g 204 (rlC q L sv)) (by kernel_rfl) (by kernel_rfl) Hp3.out.log (fun _ _ h k => h.mk k) ?_
        intro D' hD' hne
        have q1 := @qAt_value Try.prog
        iterate 8 (first | (refine spk (by rfl) (by rfl) (by rfl) (fun K hK => ?_); go_big_quiet_op; first | (refine hK _ ?_; clear hK K) | (apply Exists.intro; refine ⟨fun _ => ?_, hK _ ?_⟩; (exact fun _ => rfl); clear hK K)) | (refine spq (by rfl) (by rfl) (fun K hK => ?_); apply Exists.intro; refine ⟨fun w' hw' => ?_, ?_⟩; (go_simp; exact rfl); (go_simp; refine hK _ ?_; clear hK K)))
        refine sps (by rfl) (by rfl) (fun u w' => u = .int .i64 e2 ∧ RPost T w2 g q t2 L sv w') (fun v w1 w2 ⟨h1, h2⟩ k => ⟨h1, h2.mk' k⟩) (fun v w' ⟨_, h⟩ => h.log) (fun w' hw' => ?_) (fun K dv hdv hK => ?_)
        · have hp4 := Hp3.out.mk' (hD'.out w' hw').1
          clear hw'
          have Hp4 := Lib.hid hp4; clear hp4
          go_simp
          refine FrW.sAt_enter ?_
          have k3 := rsync_any Hp4.out.disk Hok1.out (by omega) (L.live : Int)
          rw [Ht2.out] at k3
          refine k3.mono ?_
          rintro e w5 ⟨rfl, h5, hc5⟩
          exact ⟨_, rfl, rfl, Hp4.out.next hg (by omega) (h5.sub fun _ e => .inl e) hc5⟩
        obtain ⟨wz, rfl, hz1⟩ := hdv
        clear hz1 wz
        go_simp
        refine hK _ ?_
        clear hK K
        iterate 1 (first | (refine spk (by rfl) (by rfl) (by rfl) (fun K hK => ?_); go_big_quiet_op; first | (refine hK _ ?_; clear hK K) | (apply Exists.intro; refine ⟨fun _ => ?_, hK _ ?_⟩; (exact fun _ => rfl); clear hK K)) | (refine spq (by rfl) (by rfl) (fun K hK => ?_); apply Exists.intro; refine ⟨fun w' hw' => ?_, ?_⟩; (go_simp; exact rfl); (go_simp; refine hK _ ?_; clear hK K)))
        refine sp_nil ?_
        rintro w5 ⟨_, hp5⟩
        clear hD' D' hne q1 hC0 hC2
        have Hp5 := Lib.hid hp5; clear hp5
        go_wp2
        go_ret
        rw [Hl.out, HF.out]
        exact ⟨rfl, Hp5.out.base Hmk2.out⟩
end
end Go.Proofs.WlW
