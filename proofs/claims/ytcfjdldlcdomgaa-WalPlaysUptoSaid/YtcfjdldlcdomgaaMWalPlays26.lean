/- Layer 6, wal: the document's Checkpoint. Layer 6, wal: the words of the statements: short, lent, back. Layer 6, wal: the statements' looks. -/
import Derived.Test.YtcfjdldlcdomgaaMWalPlays25
import Derived.BigRegion
set_option linter.unusedVariables false
set_option linter.unusedSimpArgs false
namespace Go.Proofs.WlW
open Go Go.RowKit Go.Tk Go.Dk Go.Sp Go.Proofs.DkW

def rchkB (st : St) (L : Lg) (fr : List UInt8) : St × Lg × Int :=
  if (layR st (1 - (L.live : Int)) fr).2 ≠ 0 then ((layR st (1 - (L.live : Int)) fr).1, L, (layR st (1 - (L.live : Int)) fr).2) else
  if ((layR st (1 - (L.live : Int)) fr).1.truncate (L.live : Int) 0).2 ≠ 0 then (((layR st (1 - (L.live : Int)) fr).1.truncate (L.live : Int) 0).1, L, ((layR st (1 - (L.live : Int)) fr).1.truncate (L.live : Int) 0).2) else
  (((layR st (1 - (L.live : Int)) fr).1.truncate (L.live : Int) 0).1, { L with gen := L.gen + 1, live := 1 - L.live, size := fr.length }, 0)
theorem rchkB_a {st t1 : St} {L : Lg} {e1 : Int} {fr : List UInt8} (h1 : layR st (1 - (L.live : Int)) fr = (t1, e1)) (he : e1 ≠ 0) : rchkB st L fr = (t1, L, e1) := by unfold rchkB; rw [h1, if_pos he]
theorem rchkB_b {st t1 t2 : St} {L : Lg} {e2 : Int} {fr : List UInt8} (h1 : layR st (1 - (L.live : Int)) fr = (t1, 0)) (h2 : t1.truncate (L.live : Int) 0 = (t2, e2)) (he : e2 ≠ 0) : rchkB st L fr = (t2, L, e2) := by unfold rchkB; rw [h1, if_neg (by simp), h2, if_pos he]
theorem rchkB_c {st t1 t2 : St} {L : Lg} {fr : List UInt8} (h1 : layR st (1 - (L.live : Int)) fr = (t1, 0)) (h2 : t1.truncate (L.live : Int) 0 = (t2, 0)) : rchkB st L fr = (t2, { L with gen := L.gen + 1, live := 1 - L.live, size := fr.length }, 0) := by unfold rchkB; rw [h1, if_neg (by simp), h2, if_neg (by simp)]
def rchk (st : St) (L : Lg) (state : List UInt8) : St × Lg × Int :=
  if deadB st L then (st, L, 40) else if fitW state.length L.cap = false then (st, L, 60) else rchkB st L (headFrame (L.gen + 1) L.cap L.slots state)
theorem layR_ok {st : St} {M : Nat} (h : st.Ok M) (f : Int) (fr : List UInt8) : (layR st f fr).1.Ok (M + 3) := by
  unfold layR
  have h1 := truncate_ok h f 0
  have h2 := append_ok h1 f fr
  split
  · exact Ok_mono h1 (by omega)
  · split
    · exact Ok_mono h2 (by omega)
    · exact sync_ok h2 f
def r200 (g c s : Nat) (v : Value) : Array Value := #[.int .u64 (g : Int), .int .i64 (c : Int), .int .i64 (s : Int), v]
section
variable {T : Nat → Prop} {w w1 w' w'' : World} {g q M : Nat} {st st' : St} {L : Lg} {sv : Value}
theorem RPost.setAll (h : RPost T w g q st L sv w') (hg : ¬ T g) (hl : g < w.heap.size) (x2 x3 x4 x5 x6 : Value) :
    RD (Gw T w) (((((w'.setCell ⟨g, 2, none⟩ x2).setCell ⟨g, 3, none⟩ x3).setCell ⟨g, 4, none⟩ x4).setCell ⟨g, 5, none⟩ x5).setCell ⟨g, 6, none⟩ x6) q st ∧
      Bk (((((w'.setCell ⟨g, 2, none⟩ x2).setCell ⟨g, 3, none⟩ x3).setCell ⟨g, 4, none⟩ x4).setCell ⟨g, 5, none⟩ x5).setCell ⟨g, 6, none⟩ x6) g 204 #[.pointer (some ⟨q, 0, none⟩), .int .i64 (L.falls : Int), x2, x3, x4, x5, x6] ∧
      Chg (fun k => T k ∨ k = g) w (((((w'.setCell ⟨g, 2, none⟩ x2).setCell ⟨g, 3, none⟩ x3).setCell ⟨g, 4, none⟩ x4).setCell ⟨g, 5, none⟩ x5).setCell ⟨g, 6, none⟩ x6) := by
  have hc := ((((Chg.set (fun k => k = g) w' ⟨g, 2, none⟩ x2 rfl).thenSet ⟨g, 3, none⟩ x3 (.inl rfl)).thenSet ⟨g, 4, none⟩ x4 (.inl rfl)).thenSet ⟨g, 5, none⟩ x5 (.inl rfl)).thenSet ⟨g, 6, none⟩ x6 (.inl rfl)
  have hb := ((((h.log.set 2 x2).set 3 x3).set 4 x4).set 5 x5).set 6 x6
  have ha : (((((rlC q L sv).setIfInBounds 2 x2).setIfInBounds 3 x3).setIfInBounds 4 x4).setIfInBounds 5 x5).setIfInBounds 6 x6 = #[.pointer (some ⟨q, 0, none⟩), .int .i64 (L.falls : Int), x2, x3, x4, x5, x6] := by simp [rlC]
  rw [ha] at hb
  exact ⟨h.disk.keep hc (fun k _ hk e => by subst e; exact hk.elim hg (fun e => by omega)), hb, Chg.trans (h.chg.sub fun _ _ e => .inl e) hc (fun _ _ e => .inr e)⟩
set_option maxHeartbeats 4000000 in
set_option maxRecDepth 100000 in
theorem rlcheck_any (hb : Bk w g 204 (rlC q L sv)) (h : RD T w q st) (hok : st.Ok M) (hM : M < 800000) (hS : ∀ k, T k → k < w.heap.size) (hg : ¬ T g) (hL : LgOk L) (v : Value) (xs : List UInt8) (hv : Bs w v xs) (hlen : xs.length ≤ 140737488355328) (hsv : sv.oneCell' = true) (hX : ∀ k, v.ownBlock = some k → 0 < xs.length → ¬ T k) :
    Calls Try.prog 124 #[.pointer (some ⟨g, 0, none⟩), v] w fun e w' => e = .returned (.int .i64 (rchk st L xs).2.2) ∧ ∃ sv', sv'.oneCell' = true ∧ RD (Gw T w) w' q (rchk st L xs).1 ∧ Bk w' g 204 (rlC q (rchk st L xs).2.1 sv') ∧ Chg (fun k => T k ∨ k = g) w w' := by
  have hdead := rldead_any hb h
  have hfit := fun w' => rfitw_any w' (xs.length : Int) (L.cap : Int)
  obtain ⟨va, vc, rfl, hvc, hvm⟩ := hv.form
  obtain ⟨hL1, hL2, hL3, hL4, hL5⟩ := hL
  have HL1 := Lib.hid hL1; clear hL1
  cases hd : deadB st L
  rotate_left
  · have hl : rchk st L xs = (st, L, 40) := by unfold rchk; rw [hd]; rfl
    rw [hd] at hdead
    obtain ⟨b, hf⟩ : ∃ b, fitW xs.length L.cap = b := ⟨_, rfl⟩
    simp only [hf] at hfit
    have Hdead := Lib.hid hdead; have Hfit := Lib.hid hfit; have Hl := Lib.hid hl; have Hb := Lib.hid hb; have H := Lib.hid h; have Hv := Lib.hid hv; have Hvc := Lib.hid hvc; have Hvm := Lib.hid hvm; have Hd := Lib.hid hd; have Hf := Lib.hid hf; clear hdead hfit hl hb h hv hvc hvm hd hf
    go_enter Try.func124, Try.ntmps124
    go_wp2_with fail
    refine Hdead.out.mono ?_
    rintro e w1 ⟨rfl, m, hm⟩
    have hmk : Mk w w1 := hm ▸ mk_drewN w m
    clear hm
    have c4 := rl_4 (Hb.out.mk hmk)
    have Hmk := Lib.hid hmk; clear hmk
    go_wp2_with fail
    refine (Hfit.out _).mono ?_
    rintro e w2 ⟨rfl, rfl⟩
    go_wp2
    go_ret
    rw [Hl.out]
    exact ⟨rfl, sv, hsv, (H.out.made Hmk.out).sub fun _ e => .inl e, Hb.out.mk Hmk.out, Chg.of_mk Hmk.out⟩
  · rw [hd] at hdead
    cases hf : fitW xs.length L.cap
    · have hl : rchk st L xs = (st, L, 60) := by unfold rchk; rw [hd, hf]; rfl
      simp only [hf] at hfit
      have Hdead := Lib.hid hdead; have Hfit := Lib.hid hfit; have Hl := Lib.hid hl; have Hb := Lib.hid hb; have H := Lib.hid h; have Hv := Lib.hid hv; have Hvc := Lib.hid hvc; have Hvm := Lib.hid hvm; have Hd := Lib.hid hd; have Hf := Lib.hid hf; clear hdead hfit hl hb h hv hvc hvm hd hf
      go_enter Try.func124, Try.ntmps124
      go_wp2_with fail
      refine Hdead.out.mono ?_
      rintro e w1 ⟨rfl, m, hm⟩
      have hmk : Mk w w1 := hm ▸ mk_drewN w m
      clear hm
      have c4 := rl_4 (Hb.out.mk hmk)
      have Hmk := Lib.hid hmk; clear hmk
      go_wp2_with fail
      refine (Hfit.out _).mono ?_
      rintro e w2 ⟨rfl, rfl⟩
      go_wp2
      go_ret
      rw [Hl.out]
      exact ⟨rfl, sv, hsv, (H.out.made Hmk.out).sub fun _ e => .inl e, Hb.out.mk Hmk.out, Chg.of_mk Hmk.out⟩
    · simp only [hf] at hfit
      have hxl : xs.length ≤ 4194280 := by
        by_cases e : xs.length ≤ 4194280
        · exact e
        · have : weight (xs.length : Int) = 0 := by unfold weight; rw [if_pos (by omega)]
          rw [fitW, this] at hf; simp at hf
      obtain ⟨fr, hfr⟩ : ∃ f, headFrame (L.gen + 1) L.cap L.slots xs = f := ⟨_, rfl⟩
      have hl : rchk st L xs = rchkB st L fr := by unfold rchk; rw [hd, hf, hfr]; rfl
      obtain ⟨t1, e1, ht1⟩ : ∃ a b, layR st (1 - (L.live : Int)) fr = (a, b) := ⟨_, _, rfl⟩
      have hok1 := layR_ok hok (1 - (L.live : Int)) fr
      rw [ht1] at hok1
      obtain ⟨t2, e2, ht2⟩ : ∃ a b, t1.truncate (L.live : Int) 0 = (a, b) := ⟨_, _, rfl⟩
      have hwl : IntKind.i64.wrap (1 - (L.live : Int)) = 1 - (L.live : Int) := IntWalk.i64_in _ (by omega)
      have hwr : IntKind.u64.wrap ((L.gen : Int) + 1) = ((L.gen + 1 : Nat) : Int) := by rw [IntWalk.u64_in _ (by have := HL1.out; omega)]; omega
      have Hdead := Lib.hid hdead; have Hfit := Lib.hid hfit; have Hl := Lib.hid hl; have Hb := Lib.hid hb; have H := Lib.hid h; have Hv := Lib.hid hv; have Hvc := Lib.hid hvc; have Hvm := Lib.hid hvm; have Hd := Lib.hid hd; have Hf := Lib.hid hf; have Hfr := Lib.hid hfr; have Ht1 := Lib.hid ht1; have Hok1 := Lib.hid hok1; have Ht2 := Lib.hid ht2; clear hdead hfit hl hb h hv hvc hvm hd hf hfr ht1 hok1 ht2
      go_enter Try.func124, Try.ntmps124
      go_wp2_with fail
      refine Hdead.out.mono ?_
      rintro e w1 ⟨rfl, m, hm⟩
      have hmk : Mk w w1 := hm ▸ mk_drewN w m
      clear hm
      have c4 := rl_4 (Hb.out.mk hmk)
      have Hmk := Lib.hid hmk; clear hmk
      go_wp2_with fail
      refine (Hfit.out _).mono ?_
      rintro e w2 ⟨rfl, rfl⟩
      have hb1 := Hb.out.mk Hmk.out
      have hz1 := Hmk.out.size
      have hgl := Hb.out.lt
      have hC3 : ∀ w', Bk w' g 204 (rlC q L sv) → w'.cell? ⟨g, 3, none⟩ = some (.int .u64 (L.gen : Int)) := fun w' h => rl_3 h
      have hC4 : ∀ w', Bk w' g 204 (rlC q L sv) → w'.cell? ⟨g, 4, none⟩ = some (.int .i64 (L.cap : Int)) := fun w' h => rl_4 h
      have hC5 : ∀ w', Bk w' g 204 (rlC q L sv) → w'.cell? ⟨g, 5, none⟩ = some (.int .i64 (L.slots : Int)) := fun w' h => rl_5 h
      have Hb1 := Lib.hid hb1; clear hb1
      clear c4
      go_wp2_with fail
      refine wp_region_sq (fun j => j == 17 || j == 18) (fun w' => Bk w' g 204 (rlC q L sv)) (by kernel_rfl) (by kernel_rfl) Hb1.out (fun _ _ h k => h.mk k) ?_
      intro D' hD' hne
      have q1 := @qAt_value Try.prog
      iterate 17 (first | (refine spk (by rfl) (by rfl) (by rfl) (fun K hK => ?_); go_big_quiet_op; first | (refine hK _ ?_; clear hK K) | (apply Exists.intro; refine ⟨fun _ => ?_, hK _ ?_⟩; (exact fun _ => rfl); clear hK K)) | (refine spq (by rfl) (by rfl) (fun K hK => ?_); apply Exists.intro; refine ⟨fun w' hw' => ?_, ?_⟩; (go_simp; exact rfl); (go_simp; refine hK _ ?_; clear hK K)))
      refine sps (by rfl) (by rfl) (fun u w' => ∃ h7, u = .pointer (some ⟨h7, 0, none⟩) ∧ w1.heap.size ≤ h7 ∧ Mk w1 w' ∧ Bk w' h7 200 zero4) (fun v w1 w2 ⟨a, h1, h0, h2, h3⟩ k => ⟨a, h1, h0, mk_trans h2 k, h3.mk k⟩) (fun v w' ⟨_, _, _, h, _⟩ => Hb1.out.mk h) (fun w' hw' => ?_) (fun K dv hdv hK => ?_)
      · have hm' := (hD'.out w' hw').1
        clear hw'
        have Hm' := Lib.hid hm'; clear hm'
        have sA := @sAt_value
        go_simp
        exact ⟨Hm'.out.size, mk_trans Hm'.out (mk_alloc _ _), Bk.new _ _ _⟩
      obtain ⟨wz, h7, rfl, h70, hz2, hz3⟩ := hdv
      clear hz2 hz3 wz
      go_simp
      refine hK _ ?_
      clear hK K
      refine sps (by rfl) (by rfl) (fun u w' => u = undef ∧ Mk w1 w' ∧ Bk w' h7 200 (r200 (L.gen + 1) L.cap L.slots (.slice none 0 0))) (fun v w1 w2 ⟨h1, h2, h3⟩ k => ⟨h1, mk_trans h2 k, h3.mk k⟩) (fun v w' ⟨_, h, _⟩ => Hb1.out.mk h) (fun w' hw' => ?_) (fun K dv hdv hK => ?_)
      · obtain ⟨h7', he', _, hm', hb'⟩ := hw'
        cases he'
        refine sAt_storeRow rfl rfl rfl (set200 hb' rfl (show (r200 (L.gen + 1) L.cap L.slots (.slice none 0 0)).size = 4 from rfl) (by intro v hv; simp [r200] at hv; rcases hv with rfl | rfl | rfl | rfl <;> rfl)) ?_
        exact ⟨rfl, mk_setRow hm' h70 _, setRow_has _ _ _ _ _ hb'⟩
      obtain ⟨wz, rfl, hz1⟩ := hdv
      clear hz1 wz
      go_simp
      refine hK _ ?_
      clear hK K
      refine sp_nil ?_
      rintro w3 ⟨_, hm3, hb3⟩
      clear hD' D' hne q1 hC3 hC4 hC5
      have hmk3 := mk_trans Hmk.out hm3
      have e3 : w3.cell? ⟨h7, 3, none⟩ = some (.slice none 0 0) := (hb3.cell 3).trans rfl
      have f3 := hb3.frozen 3
      have hv3 := Hv.out.mk hmk3
      have hlen' := Lib.hid hlen
      have Hm3 := Lib.hid hm3; have Hb3 := Lib.hid hb3; have Hmk3 := Lib.hid hmk3; have Hv3 := Lib.hid hv3; clear hm3 hb3 hmk3 hv3
      go_wp2_with (first | (at_builtin; refine wpList_append_bytes (P := Try.prog) Try.underlying22 FrW.info5 rfl (.tmp 42) (.tmp 43) rfl rfl (World.ownsRow_nil w3 w3.heap.size 5 1) rfl Hv3.out (bv_one _) (by omega) (Nat.le_refl _) ?_; intro v4 w4 ho4 hg4 hn4 hf4; clear hn4 hf4; rw [Nat.zero_add, List.nil_append] at ho4; obtain ⟨a4, c4, rfl, _, _⟩ := (own_sl ho4).form; have hm4 : Mk w3 w4 := grown_mk hg4; have e3' := ((Hb3.out.mk hm4).cell 3).trans rfl; have f3' := (Hb3.out.mk hm4).frozen 3; have Ho4 := Lib.hid ho4; have Hm4 := Lib.hid hm4; clear ho4 hg4 hm4) | fail)
      have hb5 : Bk (w4.setCell ⟨h7, 3, none⟩ (.slice a4 xs.length c4)) h7 200 (r200 (L.gen + 1) L.cap L.slots (.slice a4 xs.length c4)) := (Hb3.out.mk Hm4.out).set 3 _
      have hm5 : Mk w (w4.setCell ⟨h7, 3, none⟩ (.slice a4 xs.length c4)) := (mk_trans Hmk3.out Hm4.out).setCell (by show w.heap.size ≤ h7; omega) _
      have ho5 : (w4.setCell ⟨h7, 3, none⟩ (.slice a4 xs.length c4)).ownsRow w3.heap.size 5 1 (.slice a4 xs.length c4) xs.length (bv xs) := own_keep Ho4.out (Chg.set (fun k => k = h7) w4 ⟨h7, 3, none⟩ _ rfl) (fun k hk e => by have := (Ho4.out.lt k hk).1; have := Hb3.out.lt; omega)
      have hz5 : w3.heap.size ≤ (w4.setCell ⟨h7, 3, none⟩ (.slice a4 xs.length c4)).heap.size := by have := Hm4.out.size; simpa using this
      generalize w4.setCell ⟨h7, 3, none⟩ (.slice a4 xs.length c4) = W at *
      have hz3 : w1.heap.size ≤ w3.heap.size := Hm3.out.size
      have hlog5 := Hb.out.mk hm5
      have hC0 : ∀ w', Bk w' g 204 (rlC q L sv) ∧ Bk w' h7 200 (r200 (L.gen + 1) L.cap L.slots (.slice a4 xs.length c4)) → w'.cell? ⟨g, 0, none⟩ = some (.pointer (some ⟨q, 0, none⟩)) := fun w' h => rl_0 h.1
      have hC2 : ∀ w', Bk w' g 204 (rlC q L sv) ∧ Bk w' h7 200 (r200 (L.gen + 1) L.cap L.slots (.slice a4 xs.length c4)) → w'.cell? ⟨g, 2, none⟩ = some (.int .i64 (L.live : Int)) := fun w' h => rl_2 h.1
      have hlp0 : RPost T W g q st L sv W := RPost.same hlog5 (H.out.made hm5) (mk_refl _)
      have Hb5 := Lib.hid hb5; have Hm5 := Lib.hid hm5; have Ho5 := Lib.hid ho5; have Hlog5 := Lib.hid hlog5; have Hlp0 := Lib.hid hlp0; clear hb5 hm5 ho5 hlog5 hlp0
      clear e3 f3 e3' f3'
      go_wp2_with fail
      refine wp_region_sq (fun j => j == 10) (fun w' => Bk w' g 204 (rlC q L sv) ∧ Bk w' h7 200 (r200 (L.gen + 1) L.cap L.slots (.slice a4 xs.length c4))) (by kernel_rfl) (by kernel_rfl) ⟨Hlog5.out, Hb5.out⟩ (fun _ _ h k => ⟨h.1.mk k, h.2.mk k⟩) ?_
      intro D' hD' hne
      have q1 := @qAt_value Try.prog
      iterate 9 (first | (refine spk (by rfl) (by rfl) (by rfl) (fun K hK => ?_); go_big_quiet_op; first | (refine hK _ ?_; clear hK K) | (apply Exists.intro; refine ⟨fun _ => ?_, hK _ ?_⟩; (exact fun _ => rfl); clear hK K)) | (refine spq (by rfl) (by rfl) (fun K hK => ?_); apply Exists.intro; refine ⟨fun w' hw' => ?_, ?_⟩; (go_simp; exact rfl); (go_simp; refine hK _ ?_; clear hK K)))
      refine spq (by rfl) (by rfl) (fun K hK => ?_)
      refine ⟨_, fun w' hw' => qAt_load rfl rfl (load200 hw'.2 rfl), hK _ ?_⟩
      clear hK K
      refine sps (by rfl) (by rfl) (fun u w' => u = .int .i64 e1 ∧ RPost T W g q t1 L sv w' ∧ Bk w' h7 200 (r200 (L.gen + 1) L.cap L.slots (.slice a4 xs.length c4))) (fun v w1 w2 ⟨h1, h2, h3⟩ k => ⟨h1, h2.mk' k, h3.mk k⟩) (fun v w' ⟨_, h, h2⟩ => ⟨h.log, h2⟩) (fun w' hw' => ?_) (fun K dv hdv hK => ?_)
      · have hm' := (hD'.out w' hw').1
        clear hw'
        have k4 := lays_any (H.out.made (mk_trans Hm5.out hm')) hok (by omega) (fun k hk => by have := hS k hk; have := Hm5.out.size; have := hm'.size; omega) (1 - (L.live : Int)) (L.gen + 1) L.cap L.slots _ xs ((own_sl Ho5.out).mk hm') hxl (by have := HL1.out; omega) hL4 hL5 (fun k hk _ hs => by have := (Ho5.out.lt k hk).1; have := hS k hs; omega)
        rw [Hfr.out, Ht1.out] at k4
        have Hm' := Lib.hid hm'; have K4 := Lib.hid k4; clear hm' k4
        go_simp
        refine FrW.sAt_enter ?_
        refine K4.out.mono ?_
        rintro e w6 ⟨rfl, h6, hc6⟩
        exact ⟨_, rfl, rfl, ⟨h6.sub (Gw_mono Hm'.out.size), (Hlog5.out.mk Hm'.out).keep hc6 hg, Chg.trans (Chg.of_mk Hm'.out) hc6 (fun _ _ e => e)⟩, (Hb5.out.mk Hm'.out).keep hc6 (fun e => by have := hS _ e; omega)⟩
      obtain ⟨wz, rfl, hz1⟩ := hdv
      clear hz1 wz
      go_simp
      refine hK _ ?_
      clear hK K
      iterate 1 (first | (refine spk (by rfl) (by rfl) (by rfl) (fun K hK => ?_); go_big_quiet_op; first | (refine hK _ ?_; clear hK K) | (apply Exists.intro; refine ⟨fun _ => ?_, hK _ ?_⟩; (exact fun _ => rfl); clear hK K)) | (refine spq (by rfl) (by rfl) (fun K hK => ?_); apply Exists.intro; refine ⟨fun w' hw' => ?_, ?_⟩; (go_simp; exact rfl); (go_simp; refine hK _ ?_; clear hK K)))
      refine sp_nil ?_
      rintro w6 ⟨_, hp6, hb6⟩
      clear hD' D' hne q1
      by_cases he1 : e1 = 0
      rotate_left
      · have n1 : (e1 == 0) = false := by simpa using he1
        have Hp6 := Lib.hid hp6; have Hb6 := Lib.hid hb6; clear hp6 hb6
        clear hC0 hC2
        go_wp2
        go_ret
        rw [Hl.out, rchkB_a Ht1.out he1]
        have hfin := Hp6.out.base Hm5.out
        exact ⟨rfl, sv, hsv, hfin.disk, hfin.log, hfin.chg.sub fun _ _ e => .inl e⟩
      · subst he1
        have Hp6 := Lib.hid hp6; have Hb6 := Lib.hid hb6; clear hp6 hb6
        go_wp2_with fail
        refine wp_region_sq (fun j => j == 8) (fun w' => Bk w' g 204 (rlC q L sv) ∧ Bk w' h7 200 (r200 (L.gen + 1) L.cap L.slots (.slice a4 xs.length c4))) (by kernel_rfl) (by kernel_rfl) ⟨Hp6.out.log, Hb6.out⟩ (fun _ _ h k => ⟨h.1.mk k, h.2.mk k⟩) ?_
        intro D' hD' hne
        have q1 := @qAt_value Try.prog
        iterate 8 (first | (refine spk (by rfl) (by rfl) (by rfl) (fun K hK => ?_); go_big_quiet_op; first | (refine hK _ ?_; clear hK K) | (apply Exists.intro; refine ⟨fun _ => ?_, hK _ ?_⟩; (exact fun _ => rfl); clear hK K)) | (refine spq (by rfl) (by rfl) (fun K hK => ?_); apply Exists.intro; refine ⟨fun w' hw' => ?_, ?_⟩; (go_simp; exact rfl); (go_simp; refine hK _ ?_; clear hK K)))
        refine sps (by rfl) (by rfl) (fun u w' => u = .int .i64 e2 ∧ RPost T W g q t2 L sv w' ∧ Bk w' h7 200 (r200 (L.gen + 1) L.cap L.slots (.slice a4 xs.length c4))) (fun v w1 w2 ⟨h1, h2, h3⟩ k => ⟨h1, h2.mk' k, h3.mk k⟩) (fun v w' ⟨_, h, h2⟩ => ⟨h.log, h2⟩) (fun w' hw' => ?_) (fun K dv hdv hK => ?_)
        · have hp7 := Hp6.out.mk' (hD'.out w' hw').1
          have hb7 := Hb6.out.mk (hD'.out w' hw').1
          clear hw'
          have Hp7 := Lib.hid hp7; have Hb7 := Lib.hid hb7; clear hp7 hb7
          go_simp
          refine FrW.sAt_enter ?_
          have k5 := rtruncate_any Hp7.out.disk Hok1.out (by omega) (L.live : Int) 0
          rw [Ht2.out] at k5
          refine k5.mono ?_
          rintro e w8 ⟨rfl, h8, hc8⟩
          have hlt7 := Hb5.out.lt
          exact ⟨_, rfl, rfl, Hp7.out.next hg (by omega) (h8.sub fun _ e => .inl e) hc8, Hb7.out.keep hc8 (fun e => e.elim (fun e => by have := hS _ e; omega) (fun e => by omega))⟩
        obtain ⟨wz, rfl, hz1⟩ := hdv
        clear hz1 wz
        go_simp
        refine hK _ ?_
        clear hK K
        iterate 1 (first | (refine spk (by rfl) (by rfl) (by rfl) (fun K hK => ?_); go_big_quiet_op; first | (refine hK _ ?_; clear hK K) | (apply Exists.intro; refine ⟨fun _ => ?_, hK _ ?_⟩; (exact fun _ => rfl); clear hK K)) | (refine spq (by rfl) (by rfl) (fun K hK => ?_); apply Exists.intro; refine ⟨fun w' hw' => ?_, ?_⟩; (go_simp; exact rfl); (go_simp; refine hK _ ?_; clear hK K)))
        refine sp_nil ?_
        rintro w7 ⟨_, hp7, hb7⟩
        clear hD' D' hne q1 hC0 hC2
        by_cases he2 : e2 = 0
        rotate_left
        · have n1 : (e2 == 0) = false := by simpa using he2
          have Hp7 := Lib.hid hp7; have Hb7 := Lib.hid hb7; clear hp7 hb7
          go_wp2
          go_ret
          rw [Hl.out, rchkB_b Ht1.out Ht2.out he2]
          have hfin := Hp7.out.base Hm5.out
          exact ⟨rfl, sv, hsv, hfin.disk, hfin.log, hfin.chg.sub fun _ _ e => .inl e⟩
        · subst he2
          have d2 := rl_2 hp7.log
          have d3 := rl_3 hp7.log
          have d4 := rl_4 hp7.log
          have d5 := rl_5 hp7.log
          have d6 := rl_6 hp7.log
          have g2 := hp7.log.frozen 2
          have g3 := hp7.log.frozen 3
          have g4 := hp7.log.frozen 4
          have g5 := hp7.log.frozen 5
          have g6 := hp7.log.frozen 6
          have hne7 : h7 ≠ g := by omega
          have hld : (loadVar 200 ⟨h7, 0, none⟩).run Try.prog (w7.setCell ⟨g, 2, none⟩ (.int .i64 (1 - (L.live : Int)))) = .ok (.agg #[.int .u64 ((L.gen + 1 : Nat) : Int), .int .i64 (L.cap : Int), .int .i64 (L.slots : Int), .slice a4 xs.length c4]) _ := load200 (hb7.other (p := ⟨g, 2, none⟩) (.int .i64 (1 - (L.live : Int))) hne7) rfl
          have Hp7 := Lib.hid hp7; have Hb7 := Lib.hid hb7; have Hld := Lib.hid hld; clear hp7 hb7 hld
          go_wp2_with (first | (refine WlW.wpList_load_row rfl 200 (.tmp 7) rfl h7 rfl (.agg #[.int .u64 ((L.gen + 1 : Nat) : Int), .int .i64 (L.cap : Int), .int .i64 (L.slots : Int), .slice a4 xs.length c4]) Hld.out ?_) | fail)
          go_ret
          rw [Hl.out, rchkB_c Ht1.out Ht2.out]
          have hlt5 := Hb5.out.lt
          have hfin := (Hp7.out.setAll hg (by omega) (.int .i64 (1 - (L.live : Int))) (.int .u64 ((L.gen + 1 : Nat) : Int)) (.int .i64 (L.cap : Int)) (.int .i64 (L.slots : Int)) (.slice a4 xs.length c4))
          refine ⟨rfl, .slice a4 xs.length c4, rfl, hfin.1.sub (Gw_mono Hm5.out.size), ?_, Chg.trans (Chg.of_mk Hm5.out) hfin.2.2 (fun _ _ e => e)⟩
          have h1 := hfin.2.1
          have e : (1 - (L.live : Int)) = ((1 - L.live : Nat) : Int) := by omega
          rw [e] at h1
          simp only [e]
          exact h1
end
end Go.Proofs.WlW

namespace Go.Proofs.WlW
open Go Go.RowKit Go.Tk Go.Dk Go.Sp Go.Proofs.DkW

theorem short_any (w : World) (v : Value) (xs : List UInt8) (h : Bs w v xs) : Calls Try.prog 51 #[v] w fun e w' => ∃ v', e = .returned v' ∧ Bs w v' (xs.take 3000) ∧ w = w' ∧ v'.ownBlock = v.ownBlock := by
  obtain ⟨a, c, rfl, h1, h2⟩ := h.form
  have H := Lib.hid h; clear h
  by_cases hl : 3000 < xs.length
  · have d1 : decide ((3000 : Int) < (xs.length : Int)) = true := by simp; omega
    have e : (xs.take 3000).length = 3000 := by simp; omega
    have hb := FrW.Sl.taken H.out 3000 (by omega)
    have E := Lib.hid e; have Hb := Lib.hid hb; clear e hb
    go_enter Try.func51, Try.ntmps51
    go_wp2
    go_ret
    exact ⟨.slice a 3000 c, rfl, by rw [Bs, E.out]; have := Hb.out; rw [Bs, E.out] at this; exact this, rfl, by cases a <;> rfl⟩
  · have d1 : decide ((3000 : Int) < (xs.length : Int)) = false := by simp; omega
    have e : xs.take 3000 = xs := List.take_of_length_le (by omega)
    have E := Lib.hid e; clear e
    go_enter Try.func51, Try.ntmps51
    go_wp2
    go_ret
    rw [E.out]
    exact ⟨.slice a xs.length c, rfl, H.out, rfl, rfl⟩
set_option maxRecDepth 100000 in
theorem wlent_any (w : World) (v : Value) (b : List UInt8) (h : Bs w v b) (hb : b.length ≤ 140737488355328) :
    Calls Try.prog 121 #[v] w fun e w' => ∃ g, e = .returned (.slice (some ⟨g, 0, none⟩) b.length (b.length + 8)) ∧ w'.ownsRow w.heap.size 5 1 (.slice (some ⟨g, 0, none⟩) (b.length + 8) (b.length + 8)) (b.length + 8) (bv (b ++ List.replicate 8 201)) ∧ Mk w w' := by
  obtain ⟨a, cap, rfl, hc1, hc2⟩ := h.form
  have H := Lib.hid h
  have hbl := hb
  clear h hc1 hc2 hb
  go_enter Try.func121, Try.ntmps121
  go_wp2_with (first | (at_make; refine wpList_make_zeros (P := Try.prog) Try.underlying22 FrW.info5 rfl _ _ rfl _ _ (b.length + 8) rfl rfl (by omega) (by omega) (by omega) ?_; intro w1 ho1 hm1; have HO1 := Lib.hid ho1; have HM1 := Lib.hid hm1; clear ho1 hm1) | (refine wpList_copy_head (P := Try.prog) Try.underlying22 FrW.info5s rfl (.tmp 9) (.tmp 10) rfl rfl HO1.out rfl (H.out.mk HM1.out) (bv_one _) (by omega) ?_; intro w2 ho2 hg2; rw [show List.drop b.length (bv (List.replicate (b.length + 8) 0)) = bv ((List.replicate (b.length + 8) 0).drop b.length) by simp [bv], ← bv_append, FrW.lentOf_zero] at ho2; have HO2 := Lib.hid ho2; have HM2 := Lib.hid (mk_own HM1.out HO1.out hg2); clear ho2 hg2))
  go_loopw [4] (fun i wr => ∃ k : Nat, b.length ≤ k ∧ k ≤ b.length + 8 ∧ i = .int .i64 k ∧ wr.ownsRow w.heap.size 5 1 (.slice (some ⟨w.heap.size, 0, none⟩) (b.length + 8) (b.length + 8)) (b.length + 8) (bv (FrW.lentOf b (k - b.length))) ∧ Mk w wr) (fun i _ => b.length + 8 - (intOf i).toNat)
  case atStart => exact ⟨b.length, by omega, by omega, rfl, by rw [Nat.sub_self]; exact HO2.out, HM2.out⟩
  case round =>
    obtain ⟨k, hk1, hk2, rfl, ho, hm⟩ := hrel
    have HO := Lib.hid ho
    have HM := Lib.hid hm
    clear ho hm
    by_cases hlt : k < b.length + 8
    · have hcell := own_cell HO.out k (by rw [FrW.lentOf_length _ _ (by omega)]; exact hlt) (FrW.lentOf_length _ _ (by omega))
      have hfro := HO.out.frozenAt k
      go_wp2
      go_roundw
      case rel =>
        refine ⟨k + 1, by omega, by omega, by go_num, ?_, mk_store HM.out HO.out⟩
        have := own_store HO.out k 201
        have e : (FrW.lentOf b (k - b.length)).set k 201 = FrW.lentOf b (k + 1 - b.length) := by
          have := FrW.lentOf_set b (k - b.length) (by omega)
          rw [show b.length + (k - b.length) = k by omega] at this
          rw [this]; congr 1; omega
        rw [e] at this
        exact this
      case measure => simp [intOf]; omega
    · go_wp2
      go_ret
      have e : k - b.length = 8 := by omega
      refine ⟨_, rfl, ?_, HM.out⟩
      have := HO.out
      rwa [e, FrW.lentOf_eight] at this
set_option maxHeartbeats 2000000 in
set_option maxRecDepth 100000 in
theorem back_any (w : World) (base g : Nat) (u : Value) (b : List UInt8) (h : w.ownsRow base 5 1 (.slice (some ⟨g, 0, none⟩) (b.length + 8) (b.length + 8)) (b.length + 8) (bv (b ++ List.replicate 8 201))) (hu : Bs w u b) (hb2 : b.length ≤ 140737488355320) (hne : ∀ k, u.ownBlock = some k → 0 < b.length → k ≠ g) :
    Calls Try.prog 125 #[.slice (some ⟨g, 0, none⟩) b.length (b.length + 8), u] w fun e w' => e = .returned (.bool true) ∧ Chg (fun k => k = g) w w' := by
  obtain ⟨a2, cap2, rfl, hc3, hc4⟩ := hu.form
  obtain ⟨l, hl⟩ : ∃ l, b ++ List.replicate 8 201 = l := ⟨_, rfl⟩
  have hll : l.length = b.length + 8 := by rw [← hl]; simp
  rw [hl] at h
  have H := Lib.hid h; have Hu := Lib.hid hu; have Hl := Lib.hid hl; have Hll := Lib.hid hll; clear h hu hl hll
  go_enter Try.func125, Try.ntmps125
  go_wp2_with fail
  go_loopw [6, 7] (fun o i wr => ∃ (k : Nat) (ys : List UInt8), o = .bool true ∧ k ≤ b.length + 8 ∧ i = .int .i64 k ∧ ys.length = b.length + 8 ∧ (∀ j (hj : j < l.length), k ≤ j → ys[j]? = some l[j]) ∧ wr.ownsRow base 5 1 (.slice (some ⟨g, 0, none⟩) (b.length + 8) (b.length + 8)) (b.length + 8) (bv ys) ∧ Chg (fun k => k = g) w wr) (fun _ i _ => b.length + 8 - (intOf i).toNat)
  case atStart => exact ⟨0, l, rfl, Nat.zero_le _, rfl, Hll.out, fun j hj _ => List.getElem?_eq_getElem hj, H.out, Chg.refl _ _⟩
  case round =>
    obtain ⟨k, ys, rfl, hk, rfl, hyl, hys, ho, hc⟩ := hrel
    by_cases hlt : k < b.length + 8
    · have hkl : k < l.length := by rw [Hll.out]; exact hlt
      obtain ⟨c, hcc⟩ : ∃ c, l[k] = c := ⟨_, rfl⟩
      have hyk := hys k hkl (Nat.le_refl _)
      rw [hcc] at hyk
      have hcell : wr.cell? ⟨g, k, none⟩ = some (.int .u8 (c.toNat : Int)) := by
        have h1 := ho.cells (g := g) rfl k (.int .u8 (c.toNat : Int)) (by simp [bv, hyk])
        have hadd : (⟨g, 0, none⟩ : Addr).add k = ⟨g, 0 + k, none⟩ := by unfold Addr.add; split <;> simp_all
        rw [hadd, Nat.zero_add] at h1
        exact h1
      have hfro := ho.frozenAt k
      have hbu := bs_keep Hu.out hc (fun k hk h0 _ => hne k hk h0)
      have Hyl := Lib.hid hyl; have Hys := Lib.hid hys; have Ho := Lib.hid ho; have Hc := Lib.hid hc; have Hyk := Lib.hid hyk; clear hyl hys ho hc hyk
      by_cases hkb : k < b.length
      · obtain ⟨bb2, off2, rfl, hc2⟩ := FrW.bs_at hbu k hkb
        have e : b[k] = c := by
          rw [← hcc]
          simp only [← Hl.out]
          rw [List.getElem_append_left hkb]
        rw [e] at hc2
        have g1 : decide ((k : Int) < (b.length : Int)) = true := by simp; omega
        have g1' : decide (k < b.length) = true := by simp; omega
        have g2 : ((c.toNat : Int) == (c.toNat : Int)) = true := by simp
        have g3 : (if ((b.length : Int) - 1 < (k : Int)) then ((b.length : Int) - 1) else (k : Int)) = (k : Int) := by rw [if_neg (by omega)]
        have Hbu := Lib.hid hbu; have Hcc := Lib.hid hcc; have E := Lib.hid e; clear hbu hcc e
        go_wp2_with fail
        go_quiet (fail)
        go_wp2
        go_roundw
        case rel => exact ⟨k + 1, ys.set k 202, rfl, by omega, by go_num, by rw [List.length_set]; exact Hyl.out, fun j hj hk => by rw [List.getElem?_set_ne (by omega)]; exact Hys.out j hj (by omega), own_store (own_mk Ho.out (mk_drewN _ _)) k 202, Chg.trans (Hc.out.thenMk (mk_drewN _ _)) (Chg.set (fun k => k = g) _ ⟨g, k, none⟩ _ rfl) (fun _ _ e => e)⟩
        case measure => simp [intOf]; omega
      · have e : c = 201 := by
          rw [← hcc]
          simp only [← Hl.out]
          rw [List.getElem_append_right (by omega)]
          exact List.getElem_replicate _
        rw [e] at hcell
        have hc' : wr.cell? ⟨g, k, none⟩ = some (.int .u8 201) := hcell
        have g1 : decide ((k : Int) < (b.length : Int)) = false := by simp; omega
        have g1' : decide (k < b.length) = false := by simp; omega
        have g3 : decide ((b.length : Int) ≤ (k : Int)) = true := by simp; omega
        have g3' : decide (b.length ≤ k) = true := by simp; omega
        clear hcell e hcc
        have Hbu := Lib.hid hbu; clear hbu
        go_wp2_with fail
        go_quiet (fail)
        go_wp2
        go_roundw
        case rel => exact ⟨k + 1, ys.set k 202, rfl, by omega, by go_num, by rw [List.length_set]; exact Hyl.out, fun j hj hk => by rw [List.getElem?_set_ne (by omega)]; exact Hys.out j hj (by omega), own_store (own_mk Ho.out (mk_drewN _ _)) k 202, Chg.trans (Hc.out.thenMk (mk_drewN _ _)) (Chg.set (fun k => k = g) _ ⟨g, k, none⟩ _ rfl) (fun _ _ e => e)⟩
        case measure => simp [intOf]; omega
    · have Hyl := Lib.hid hyl; have Hys := Lib.hid hys; have Ho := Lib.hid ho; have Hc := Lib.hid hc; clear hyl hys ho hc
      go_wp2
      go_ret
      exact ⟨rfl, Hc.out⟩
end Go.Proofs.WlW

namespace Go.Proofs.WlW
open Go Go.RowKit Go.Tk Go.Dk Go.Sp Go.Proofs.DkW

theorem fits_eq {st : St} {L : Lg} (h : (sizeL st L : Int) = rsizeL st L) (n : Int) : rfitsB st L n = fitsB st L n := by
  unfold rfitsB fitsB
  by_cases h1 : 0 ≤ n
  · by_cases h2 : n ≤ 4194304
    · have : FrW.sizeF n = n + 9 := by unfold FrW.sizeF; rw [if_neg (by omega), if_neg (by omega)]
      rw [this, h, Int.add_assoc]
    · simp [h2]
  · simp [h1]
set_option maxHeartbeats 4000000 in
set_option maxRecDepth 100000 in
theorem looks_any {S T : Nat → Prop} {w : World} {gw p q M base : Nat} {lv mv : Value} {st : St} {lo : Option Lg} (h : WDk S T w gw p q lv mv st) (hl : LogP base S T w p q lv mv lo) (hok : st.Ok M) (hs : ∀ L, lo = some L → (sizeL st L : Int) = rsizeL st L ∧ L.size ≤ 1000000000) (n : Int) :
    Calls Try.prog 126 #[.pointer (some ⟨gw, 0, none⟩), .int .i64 n] w fun e w' => e = .returned (.bool true) ∧ Mk w w' := by
  have c1 := h.c1
  have c3 := h.c3
  cases lo with
  | none =>
    obtain ⟨rfl, rfl⟩ := hl
    clear h hs
    go_enter Try.func126, Try.ntmps126
    go_wp2
    go_ret
    exact ⟨rfl, mk_refl _⟩
  | some L =>
    obtain ⟨g, g', sv, rfl, rfl, hb, hb', _⟩ := hl
    obtain ⟨hsz, hsl⟩ := hs L rfl
    have k1 := fun (w' : World) (hm : Mk w w') => lbytes_any (hb.mk hm) (h.pd.made hm)
    have k2 := fun (w' : World) (hm : Mk w w') => rlbytes_any (hb'.mk hm) (h.rd.made hm)
    have k3 := fun (w' : World) (hm : Mk w w') => lfits_any (hb.mk hm) (h.pd.made hm) hsl n
    have k4 := fun (w' : World) (hm : Mk w w') => rlfits_any (hb'.mk hm) (h.rd.made hm) (rsize_b hok) n
    have k5 := fun (w' : World) (hm : Mk w w') => lcap_any (hb.mk hm)
    have k6 := fun (w' : World) (hm : Mk w w') => rlcap_any (hb'.mk hm)
    have k7 := fun (w' : World) (hm : Mk w w') => lslots_any (hb.mk hm)
    have k8 := fun (w' : World) (hm : Mk w w') => rlslots_any (hb'.mk hm)
    have k9 := fun (w' : World) (hm : Mk w w') => lgen_any (hb.mk hm)
    have k10 := fun (w' : World) (hm : Mk w w') => rlgen_any (hb'.mk hm)
    have k11 := fun (w' : World) => weight_any w' n
    have k12 := fun (w' : World) => rweight_any w' n
    simp only [fits_eq hsz] at k4
    obtain ⟨bf, hbf⟩ : ∃ b, fitsB st L n = b := ⟨_, rfl⟩
    simp only [hbf] at k3 k4
    simp only [← hsz] at k2
    generalize sizeL st L = z at *
    generalize weight n = wt at *
    have n1 : ((z : Int) == (z : Int)) = true := by simp
    have n2 : ((L.cap : Int) == (L.cap : Int)) = true := by simp
    have n3 : ((L.slots : Int) == (L.slots : Int)) = true := by simp
    have n4 : ((L.gen : Int) == (L.gen : Int)) = true := by simp
    have n5 : (bf == bf) = true := by simp
    have n6 : (wt == wt) = true := by simp
    have hC1 : ∀ w', Mk w w' → w'.cell? ⟨gw, 1, none⟩ = some (.pointer (some ⟨g, 0, none⟩)) := fun w' hm => (h.made hm).c1
    have hC3 : ∀ w', Mk w w' → w'.cell? ⟨gw, 3, none⟩ = some (.pointer (some ⟨g', 0, none⟩)) := fun w' hm => (h.made hm).c3
    have K1 := Lib.hid k1; have K2 := Lib.hid k2; have K3 := Lib.hid k3; have K4 := Lib.hid k4; have K5 := Lib.hid k5; have K6 := Lib.hid k6; have K7 := Lib.hid k7; have K8 := Lib.hid k8; have K9 := Lib.hid k9; have K10 := Lib.hid k10; have K11 := Lib.hid k11; have K12 := Lib.hid k12; have H := Lib.hid h; have Hs := Lib.hid hs; have Hb := Lib.hid hb; have Hb' := Lib.hid hb'; have Hsz := Lib.hid hsz; have Hsl := Lib.hid hsl; have Hbf := Lib.hid hbf; have HC1 := Lib.hid hC1; have HC3 := Lib.hid hC3; clear k1 k2 k3 k4 k5 k6 k7 k8 k9 k10 k11 k12 h hs hb hb' hsz hsl hbf hC1 hC3
    go_enter Try.func126, Try.ntmps126
    go_wp2_with fail
    go_quiet (first | (go_at_call 55; exact q_drew (K1.out _ (mk_drewN _ _))) | (go_at_call 157; exact q_drew (K2.out _ (mk_drewN _ _))) | (go_at_call 109; exact q_same (K5.out _ (mk_drewN _ _))) | (go_at_call 158; exact q_same (K6.out _ (mk_drewN _ _))) | (go_at_call 108; exact q_same (K7.out _ (mk_drewN _ _))) | (go_at_call 159; exact q_same (K8.out _ (mk_drewN _ _))) | (go_at_call 107; exact q_same (K9.out _ (mk_drewN _ _))) | (go_at_call 160; exact q_same (K10.out _ (mk_drewN _ _))) | (go_at_call 106; exact q_drew (K3.out _ (mk_drewN _ _))) | (go_at_call 155; exact q_drew (K4.out _ (mk_drewN _ _))) | (go_at_call 110; exact q_same (K11.out _)) | (go_at_call 161; exact q_same (K12.out _)))
    go_wp2
    go_ret
    exact ⟨rfl, mk_drewN _ _⟩
end Go.Proofs.WlW
