/- Layer 6, wal: the program's Checkpoint. -/
import Derived.Test.YtcfjdldlcdomgaaMWalPlays16
import Derived.Test.YtcfjdldlcdomgaaMWalPlays18
import Derived.Test.YtcfjdldlcdomgaaMWalPlays19
import Derived.BigRegion
set_option linter.unusedVariables false
set_option linter.unusedSimpArgs false
namespace Go.Proofs.WlW
open Go Go.RowKit Go.Tk Go.Dk Go.Sp Go.Proofs.DkW

/-- What Checkpoint does where it may. -/
def lckB (st : St) (L : Lg) (fr : List UInt8) : St × Lg × Int :=
  if (st.truncate (1 - (L.live : Int)) 0).2 ≠ 0 then ((st.truncate (1 - (L.live : Int)) 0).1, L, 40) else
  if (St.write (st.truncate (1 - (L.live : Int)) 0).1 (1 - (L.live : Int)) fr).2 ≠ 0 then ((St.write (st.truncate (1 - (L.live : Int)) 0).1 (1 - (L.live : Int)) fr).1, L, 40) else
  if ((St.write (st.truncate (1 - (L.live : Int)) 0).1 (1 - (L.live : Int)) fr).1.truncate (L.live : Int) 0).2 ≠ 0 then (((St.write (st.truncate (1 - (L.live : Int)) 0).1 (1 - (L.live : Int)) fr).1.truncate (L.live : Int) 0).1, L, 40) else
  (((St.write (st.truncate (1 - (L.live : Int)) 0).1 (1 - (L.live : Int)) fr).1.truncate (L.live : Int) 0).1, { L with gen := L.gen + 1, live := 1 - L.live, size := fr.length }, 0)
def lck (st : St) (L : Lg) (state : List UInt8) : St × Lg × Int :=
  if deadB st L then (st, L, 40) else if weight state.length = 0 ∨ (L.cap : Int) < weight state.length then (st, L, 60) else
  lckB st L (headFrame (L.gen + 1) L.cap L.slots state)
theorem lckB_a {st t1 : St} {L : Lg} {fr : List UInt8} {e1 : Int} (h1 : st.truncate (1 - (L.live : Int)) 0 = (t1, e1)) (he : e1 ≠ 0) : lckB st L fr = (t1, L, 40) := by
  unfold lckB; rw [h1, if_pos he]
theorem lckB_b {st t1 t2 : St} {L : Lg} {fr : List UInt8} {e2 : Int} (h1 : st.truncate (1 - (L.live : Int)) 0 = (t1, 0)) (h2 : St.write t1 (1 - (L.live : Int)) fr = (t2, e2)) (he : e2 ≠ 0) : lckB st L fr = (t2, L, 40) := by
  unfold lckB; rw [h1, if_neg (by simp), h2, if_pos he]
theorem lckB_c {st t1 t2 t3 : St} {L : Lg} {fr : List UInt8} {e3 : Int} (h1 : st.truncate (1 - (L.live : Int)) 0 = (t1, 0)) (h2 : St.write t1 (1 - (L.live : Int)) fr = (t2, 0)) (h3 : t2.truncate (L.live : Int) 0 = (t3, e3)) (he : e3 ≠ 0) : lckB st L fr = (t3, L, 40) := by
  unfold lckB; rw [h1, if_neg (by simp), h2, if_neg (by simp), h3, if_pos he]
theorem lckB_d {st t1 t2 t3 : St} {L : Lg} {fr : List UInt8} (h1 : st.truncate (1 - (L.live : Int)) 0 = (t1, 0)) (h2 : St.write t1 (1 - (L.live : Int)) fr = (t2, 0)) (h3 : t2.truncate (L.live : Int) 0 = (t3, 0)) : lckB st L fr = (t3, { L with gen := L.gen + 1, live := 1 - L.live, size := fr.length }, 0) := by
  unfold lckB; rw [h1, if_neg (by simp), h2, if_neg (by simp), h3, if_neg (by simp)]
theorem write_ok {s : St} {M : Nat} (h : s.Ok M) (f : Int) (b : List UInt8) : (St.write s f b).1.Ok (M + 2) := by
  unfold St.write
  have h1 := append_ok h f b
  split
  · have h2 := sync_ok h1 f
    split <;> exact h2
  · exact Ok_mono h1 (by omega)
structure LgOk (L : Lg) : Prop where
  gen : L.gen < 18446744073709551615
  live : L.live ≤ 1
  size : L.size ≤ 1000000000
  cap : L.cap ≤ 4194304
  slots : L.slots ≤ 65536
theorem LPost.next {S : Nat → Prop} {w w' w'' : World} {g p : Nat} {st st' : St} {L : Lg} (h : LPost S w g p st L w') (hg : ¬ S g) (hl : g < w.heap.size) (hd : PD (Gw (Gw S w) w') w'' p st') (hc : Chg (Gw S w) w' w'') : LPost S w g p st' L w'' :=
  ⟨hd.sub fun k hk => hk.elim id (fun e => .inr (Nat.le_trans h.chg.size e)), h.log.keep hc (fun e => e.elim hg (fun e => by omega)), h.chg.then (hc.sub fun k _ hk => hk.imp_left .inl)⟩
theorem LPost.base {S : Nat → Prop} {w w1 w' : World} {g p : Nat} {st : St} {L : Lg} (h : LPost S w1 g p st L w') (hm : Mk w w1) : LPost S w g p st L w' :=
  ⟨h.disk.sub (Gw_mono hm.size), h.log, Chg.trans (Chg.of_mk hm) h.chg (fun _ _ e => e)⟩
theorem LPost.setAll {S : Nat → Prop} {w0 w w' : World} {g p : Nat} {st : St} {L : Lg} (h : LPost S w g p st L w') (hS : ∀ k, S k → k < w0.heap.size) (hg : ¬ S g) (hl0 : g < w0.heap.size) (hl : g < w.heap.size) (hv : L.live ≤ 1) (n : Nat) :
    LPost S w g p st { L with gen := L.gen + 1, live := 1 - L.live, size := n } (((((w'.setCell ⟨g, 0, none⟩ (.int .u64 ((L.gen : Int) + 1))).setCell ⟨g, 1, none⟩ (.int .i64 (L.cap : Int))).setCell ⟨g, 2, none⟩ (.int .i64 (L.slots : Int))).setCell ⟨g, 4, none⟩ (.int .i64 (1 - (L.live : Int)))).setCell ⟨g, 5, none⟩ (.int .i64 (n : Int))).drew := by
  have hc := (((((Chg.set (fun k => k = g) w' ⟨g, 0, none⟩ (.int .u64 ((L.gen : Int) + 1)) rfl).thenSet ⟨g, 1, none⟩ (.int .i64 (L.cap : Int)) (.inl rfl)).thenSet ⟨g, 2, none⟩ (.int .i64 (L.slots : Int)) (.inl rfl)).thenSet ⟨g, 4, none⟩ (.int .i64 (1 - (L.live : Int))) (.inl rfl)).thenSet ⟨g, 5, none⟩ (.int .i64 (n : Int)) (.inl rfl)).drew
  refine ⟨h.disk.keep hc (fun k _ hk e => by subst e; exact hk.elim hg (fun e => by omega)), ?_, h.chg.then (hc.sub fun k _ e => .inl (.inr e))⟩
  have hb := ((((h.log.set 0 (.int .u64 ((L.gen : Int) + 1))).set 1 (.int .i64 (L.cap : Int))).set 2 (.int .i64 (L.slots : Int))).set 4 (.int .i64 (1 - (L.live : Int)))).set 5 (.int .i64 (n : Int))
  have e : (1 - (L.live : Int)) = ((1 - L.live : Nat) : Int) := by omega
  have e2 : ((L.gen : Int) + 1) = ((L.gen + 1 : Nat) : Int) := by omega
  have ha : (((((lgC p L).setIfInBounds 0 (.int .u64 ((L.gen : Int) + 1))).setIfInBounds 1 (.int .i64 (L.cap : Int))).setIfInBounds 2 (.int .i64 (L.slots : Int))).setIfInBounds 4 (.int .i64 (1 - (L.live : Int)))).setIfInBounds 5 (.int .i64 (n : Int)) = lgC p { L with gen := L.gen + 1, live := 1 - L.live, size := n } := by
    rw [e, e2]; simp [lgC]
  rw [ha] at hb
  generalize (((((w'.setCell ⟨g, 0, none⟩ (.int .u64 ((L.gen : Int) + 1))).setCell ⟨g, 1, none⟩ (.int .i64 (L.cap : Int))).setCell ⟨g, 2, none⟩ (.int .i64 (L.slots : Int))).setCell ⟨g, 4, none⟩ (.int .i64 (1 - (L.live : Int)))).setCell ⟨g, 5, none⟩ (.int .i64 (n : Int))) = W at *
  exact hb
theorem load169L {w : World} {g p : Nat} {t : TypeId} {L : Lg} (h : Bk w g t (lgC p L)) : (loadVar 169 ⟨g, 0, none⟩).run Try.prog w = .ok (.agg #[.int .u64 (L.gen : Int), .int .i64 (L.cap : Int), .int .i64 (L.slots : Int)]) w := by
  obtain ⟨d, h1, h2⟩ : ∃ d, Try.prog.underlying 169 = some d ∧ d.isRow = true := by
    have : (Try.prog.underlying 169).map (fun d => d.isRow) = some true := by kernel_rfl
    obtain ⟨d, h1, h2⟩ := Option.map_eq_some_iff.1 this
    exact ⟨d, h1, h2⟩
  refine run_loadVar_mid w g 0 169 [.int .u64 (L.gen : Int), .int .i64 (L.cap : Int), .int .i64 (L.slots : Int)] d (fun j v hj => ?_) h1 h2 info169
  rw [Nat.zero_add]
  have e := h.cell j
  rw [e]
  match j, hj with
  | 0, hj => exact hj
  | 1, hj => exact hj
  | 2, hj => exact hj
def hd3 (a b c : Nat) : Array Value := #[.int .u64 (a : Int), .int .i64 (b : Int), .int .i64 (c : Int)]
theorem hd3_one (a b c : Nat) : ∀ v ∈ hd3 a b c, v.oneCell' = true := by intro v hv; simp [hd3] at hv; rcases hv with rfl | rfl | rfl <;> rfl
theorem set169 {w : World} {g : Nat} {t : TypeId} {cs cs' : Array Value} (h : Bk w g t cs) (hs : cs.size = 3) (hs' : cs'.size = 3) (h1 : ∀ v ∈ cs', v.oneCell' = true) : (storeVar 169 ⟨g, 0, none⟩ (.agg cs')).run Try.prog w = .ok () (w.setRow g cs') :=
  Tk.run_storeVar_row w g t 169 cs cs' h (by rw [hs, hs']) (by rw [info169, hs']) (fun v hv => h1 v (by simpa using hv))

set_option maxHeartbeats 4000000 in
set_option maxRecDepth 100000 in
theorem lcheck_any {S : Nat → Prop} {w : World} {g p M : Nat} {st : St} {L : Lg} (hb : Bk w g 175 (lgC p L)) (h : PD S w p st) (hok : st.Ok M) (hM : M < 900000) (hS : ∀ k, S k → k < w.heap.size) (hg : ¬ S g) (hL : LgOk L) (v : Value) (xs : List UInt8) (hv : Bs w v xs) (hlen : xs.length ≤ 140737488355328) :
    Calls Try.prog 58 #[.pointer (some ⟨g, 0, none⟩), v] w fun e w' => e = .returned (.int .i64 (lck st L xs).2.2) ∧ LPost S w g p (lck st L xs).1 (lck st L xs).2.1 w' := by
  have hdead := ldead_any hb h
  obtain ⟨va, vc, rfl, hvc, hvm⟩ := hv.form
  have c1 : ∀ m, (w.drewN m).cell? ⟨g, 1, none⟩ = some (.int .i64 (L.cap : Int)) := fun m => lg_1 hb
  obtain ⟨hL1, hL2, hL3, hL4, hL5⟩ := hL
  have HL1 := Lib.hid hL1; clear hL1
  cases hd : deadB st L
  · have hwt := fun w' => weight_any w' (xs.length : Int)
    rw [hd] at hdead
    by_cases hw : weight xs.length = 0 ∨ (L.cap : Int) < weight xs.length
    · have hl : lck st L xs = (st, L, 60) := by unfold lck; rw [hd, if_neg (by decide), if_pos hw]
      by_cases hw0 : weight xs.length = 0
      · rw [hw0] at hwt
        have Hdead := Lib.hid hdead; have Hl := Lib.hid hl; have Hb := Lib.hid hb; have H := Lib.hid h; have Hv := Lib.hid hv; have Hvc := Lib.hid hvc; have Hvm := Lib.hid hvm; have Hd := Lib.hid hd; have Hwt := Lib.hid hwt; have Hw := Lib.hid hw; clear hdead hl hb h hv hvc hvm hd hwt hw
        go_enter Try.func58, Try.ntmps58
        go_wp2_with fail
        refine Hdead.out.mono ?_
        rintro e w1 ⟨rfl, m, rfl⟩
        go_wp2_with fail
        refine (Hwt.out _).mono ?_
        rintro e w1 ⟨rfl, rfl⟩
        go_wp2
        go_ret
        rw [Hl.out]
        exact ⟨rfl, LPost.same Hb.out H.out (mk_drewN _ _)⟩
      · have hw1 := hw.resolve_left hw0
        have hw2 : (weight xs.length == 0) = false := by simpa using hw0
        generalize weight xs.length = z at *
        have hw3 : decide ((L.cap : Int) < z) = true := by simpa using hw1
        have Hdead := Lib.hid hdead; have Hl := Lib.hid hl; have Hb := Lib.hid hb; have H := Lib.hid h; have Hv := Lib.hid hv; have Hvc := Lib.hid hvc; have Hvm := Lib.hid hvm; have Hd := Lib.hid hd; have Hwt := Lib.hid hwt; have Hw := Lib.hid hw; clear hdead hl hb h hv hvc hvm hd hwt hw
        go_enter Try.func58, Try.ntmps58
        go_wp2_with fail
        refine Hdead.out.mono ?_
        rintro e w1 ⟨rfl, m, rfl⟩
        have c1' := c1 m
        go_wp2_with fail
        refine (Hwt.out _).mono ?_
        rintro e w1 ⟨rfl, rfl⟩
        go_wp2
        go_ret
        rw [Hl.out]
        exact ⟨rfl, LPost.same Hb.out H.out (mk_drewN _ _)⟩
    · have hw0 : ¬ weight xs.length = 0 := fun e => hw (.inl e)
      have hwx : weight xs.length = (xs.length : Int) + 33 ∧ xs.length ≤ 4194280 := by
        unfold weight at hw0 ⊢
        by_cases e : (xs.length : Int) < 0 ∨ 4194280 < (xs.length : Int)
        · rw [if_pos e] at hw0; exact absurd rfl hw0
        · rw [if_neg e]; exact ⟨rfl, by omega⟩
      have hw2 : (weight xs.length == 0) = false := by simpa using hw0
      have hw3 : decide ((L.cap : Int) < weight xs.length) = false := by simp; omega
      have hxl := hwx.2
      have hl : lck st L xs = lckB st L (headFrame (L.gen + 1) L.cap L.slots xs) := by unfold lck; rw [hd, if_neg (by decide), if_neg hw]
      have hz := hwx.1
      generalize hzz : weight xs.length = z at *
      have hpd0 := h
      have Hdead := Lib.hid hdead; have Hl := Lib.hid hl; have Hb := Lib.hid hb; have H := Lib.hid h; have Hv := Lib.hid hv; have Hvc := Lib.hid hvc; have Hvm := Lib.hid hvm; have Hd := Lib.hid hd; have Hwt := Lib.hid hwt; have Hw := Lib.hid hw; have Hwx := Lib.hid hwx; have Hzz := Lib.hid hzz; have Hz := Lib.hid hz; clear hdead hl hb h hv hvc hvm hd hwt hw hwx hzz hz
      go_enter Try.func58, Try.ntmps58
      go_wp2_with fail
      refine Hdead.out.mono ?_
      rintro e w1 ⟨rfl, m, rfl⟩
      have c1' := c1 m
      go_wp2_with fail
      refine (Hwt.out _).mono ?_
      rintro e w1 ⟨rfl, rfl⟩
      have hbm := Hb.out.drewN m
      have hwr : IntKind.u64.wrap ((L.gen : Int) + 1) = ((L.gen + 1 : Nat) : Int) := by rw [IntWalk.u64_in _ (by have := HL1.out; omega)]; omega
      have hst := fun w' => set169 (Bk.new w' 169 (hd3 0 0 0)) rfl (show (hd3 L.gen L.cap L.slots).size = 3 from rfl) (hd3_one _ _ _)
      have hld := load169L hbm
      have Hbm := Lib.hid hbm; have Hst := Lib.hid hst; have Hld := Lib.hid hld; clear hbm hst hld
      go_upto_region 7 with (first | (refine WlW.wpList_load_row rfl 169 (.tmp 26) rfl g rfl (.agg (hd3 L.gen L.cap L.slots)) Hld.out ?_) | (refine wpList_store_row rfl 169 (.tmp 6) (.tmp 27) rfl _ rfl (hd3 L.gen L.cap L.slots) rfl (Hst.out _) ?_) | fail)
      have hm1 : Mk w (((w.drewN m).alloc (.cells #[.int .u64 0, .int .i64 0, .int .i64 0] 169)).setRow w.heap.size (hd3 L.gen L.cap L.slots)) := mk_setRow (mk_trans (mk_drewN _ _) (mk_alloc _ _)) (Nat.le_refl _) _
      have hb1 : Bk (((w.drewN m).alloc (.cells #[.int .u64 0, .int .i64 0, .int .i64 0] 169)).setRow w.heap.size (hd3 L.gen L.cap L.slots)) w.heap.size 169 (hd3 L.gen L.cap L.slots) := setRow_has _ _ _ _ _ (Bk.new (w.drewN m) 169 _)
      generalize ((w.drewN m).alloc (.cells #[.int .u64 0, .int .i64 0, .int .i64 0] 169)).setRow w.heap.size (hd3 L.gen L.cap L.slots) = W1 at *
      have c0 : W1.cell? ⟨w.heap.size, 0, none⟩ = some (.int .u64 (L.gen : Int)) := (hb1.cell 0).trans rfl
      have f0 := hb1.frozen 0
      have hb2 : Bk (W1.setCell ⟨w.heap.size, 0, none⟩ (.int .u64 ((L.gen + 1 : Nat) : Int))) w.heap.size 169 (hd3 (L.gen + 1) L.cap L.slots) := hb1.set 0 _
      have hm2 : Mk w (W1.setCell ⟨w.heap.size, 0, none⟩ (.int .u64 ((L.gen + 1 : Nat) : Int))) := hm1.setCell (Nat.le_refl _) _
      have hld2 := load169 hb2 rfl
      have hby := bytes_any _ (L.gen + 1) L.cap L.slots _ xs (Hv.out.mk hm2) hxl (by have := HL1.out; omega) hL4 hL5
      have Hm1 := Lib.hid hm1; have Hb1 := Lib.hid hb1; have Hb2 := Lib.hid hb2; have Hm2 := Lib.hid hm2; have Hld2 := Lib.hid hld2; have Hby := Lib.hid hby; clear hm1 hb1 hb2 hm2 hld2 hby
      clear Hbm Hst Hld c1
      go_wp2_with (first | (refine WlW.wpList_load_row rfl 169 (.tmp 6) rfl w.heap.size rfl (.agg (hd3 (L.gen + 1) L.cap L.slots)) Hld2.out ?_) | fail)
      refine Hby.out.mono ?_
      rintro e w2 ⟨bv', rfl, hob, hm3⟩
      have hm4 := mk_trans Hm2.out hm3
      have hb6 := Hb2.out.mk hm3
      obtain ⟨fr, hfr⟩ : ∃ f, headFrame (L.gen + 1) L.cap L.slots xs = f := ⟨_, rfl⟩
      have hfl : fr.length = xs.length + 33 := by rw [← hfr, headFrame_length]
      rw [hfr, ← hfl] at hob
      have hl2 := Hl.out
      rw [hfr] at hl2
      obtain ⟨ba, bc, rfl, _, _⟩ := (own_sl hob).form
      have hown : ∀ k, (Value.slice ba fr.length bc).ownBlock = some k → w.heap.size ≤ k ∧ k < w2.heap.size := fun k hk => by have := hob.lt k hk; have := Hm2.out.size; omega
      have hbs : ∀ {w' : World} {st' : St}, LPost S w2 g p st' L w' → Bs w' (.slice ba fr.length bc) fr := fun h => sl_chg (own_sl hob) h.chg (fun k hk _ e => by have h1 := hown k hk; have h2 := Hb.out.lt; exact e.elim (fun e => by have := hS k e; omega) (fun e => by omega))
      have hglt : g < w2.heap.size := by have := Hb.out.lt; have := hm4.size; omega
      have hlp0 : LPost S w2 g p st L w2 := LPost.same (Hb.out.mk hm4) (H.out.made hm4) (mk_refl _)
      have hwl : IntKind.i64.wrap (1 - (L.live : Int)) = 1 - (L.live : Int) := IntWalk.i64_in _ (by omega)
      obtain ⟨t1, e1, ht1⟩ : ∃ a b, st.truncate (1 - (L.live : Int)) 0 = (a, b) := ⟨_, _, rfl⟩
      have hok1 := truncate_ok hok (1 - (L.live : Int)) 0
      rw [ht1] at hok1
      obtain ⟨t2, e2, ht2⟩ : ∃ a b, St.write t1 (1 - (L.live : Int)) fr = (a, b) := ⟨_, _, rfl⟩
      have hok2 := write_ok hok1 (1 - (L.live : Int)) fr
      rw [ht2] at hok2
      obtain ⟨t3, e3, ht3⟩ : ∃ a b, t2.truncate (L.live : Int) 0 = (a, b) := ⟨_, _, rfl⟩
      have k1 : ∀ (w' : World), LPost S w2 g p st L w' → Calls Try.prog 34 #[.pointer (some ⟨p, 0, none⟩), .int .i64 (1 - (L.live : Int)), .int .i64 0] w' (fun e w'' => ∃ u, e = .returned u ∧ u = .int .i64 e1 ∧ LPost S w2 g p t1 L w'') := fun w' h1 => by
        refine (truncate_any h1.disk hok (by omega) (1 - (L.live : Int)) 0).mono ?_
        rintro e w'' ⟨rfl, h2, hc2⟩
        rw [ht1] at h2 ⊢
        exact ⟨_, rfl, rfl, h1.next hg hglt (h2.sub fun k hk => .inl hk) hc2⟩
      have k2 : ∀ (w' : World), LPost S w2 g p t1 L w' → Calls Try.prog 117 #[.pointer (some ⟨p, 0, none⟩), .int .i64 (1 - (L.live : Int)), .slice ba fr.length bc] w' (fun e w'' => ∃ u, e = .returned u ∧ u = .int .i64 e2 ∧ LPost S w2 g p t2 L w'') := fun w' h1 => by
        refine (write_any h1.disk hok1 (by omega) (1 - (L.live : Int)) _ fr (hbs h1) (by omega) (fun k hk e hs => ?_)).mono ?_
        · have := hown k e
          rcases hs with hs | hs
          · have := hS k hs; omega
          · omega
        rintro e w'' ⟨rfl, h2, hc2⟩
        rw [ht2] at h2 ⊢
        exact ⟨_, rfl, rfl, h1.next hg hglt h2 hc2⟩
      have k3 : ∀ (w' : World), LPost S w2 g p t2 L w' → Calls Try.prog 34 #[.pointer (some ⟨p, 0, none⟩), .int .i64 (L.live : Int), .int .i64 0] w' (fun e w'' => ∃ u, e = .returned u ∧ u = .int .i64 e3 ∧ LPost S w2 g p t3 L w'') := fun w' h1 => by
        refine (truncate_any h1.disk hok2 (by omega) (L.live : Int) 0).mono ?_
        rintro e w'' ⟨rfl, h2, hc2⟩
        rw [ht3] at h2 ⊢
        exact ⟨_, rfl, rfl, h1.next hg hglt (h2.sub fun k hk => .inl hk) hc2⟩
      have hC3 : ∀ w', Bk w' g 175 (lgC p L) → w'.cell? ⟨g, 3, none⟩ = some (.pointer (some ⟨p, 0, none⟩)) := fun w' h => lg_3 h
      have hC4 : ∀ w', Bk w' g 175 (lgC p L) → w'.cell? ⟨g, 4, none⟩ = some (.int .i64 (L.live : Int)) := fun w' h => lg_4 h
      have K1 := Lib.hid k1
      have K2 := Lib.hid k2
      have K3 := Lib.hid k3
      clear hbs
      have Hfl := Lib.hid hfl; clear hfl
      have Hob := Lib.hid hob; have Hm4 := Lib.hid hm4; have Hb6 := Lib.hid hb6; have Hfr := Lib.hid hfr; have Hl2 := Lib.hid hl2; have Hown := Lib.hid hown; have Hlp0 := Lib.hid hlp0; have Ht1 := Lib.hid ht1; have Hok1 := Lib.hid hok1; have Ht2 := Lib.hid ht2; have Hok2 := Lib.hid hok2; have Ht3 := Lib.hid ht3; clear hob hm4 hb6 hfr hl2 hown hlp0 ht1 hok1 ht2 hok2 ht3
      clear k1 k2 k3 Hl Hm1 Hb1 Hb2 Hby Hld2 c0 f0 hm3 Hdead
      by_cases he1 : e1 = 0
      · subst he1
        by_cases he2 : e2 = 0
        · subst he2
          go_wp2_with fail
          refine wp_region_sq (fun j => j == 9 || j == 22 || j == 34) (fun w' => Bk w' g 175 (lgC p L)) (by kernel_rfl) (by kernel_rfl) (Hlp0.out.log) (fun _ _ h k => h.mk k) ?_; intro D' hD' hne; have q1 := @qAt_value Try.prog
          iterate 9 (first | (refine spk (by rfl) (by rfl) (by rfl) (fun K hK => ?_); go_big_quiet_op; first | (refine hK _ ?_; clear hK K) | (apply Exists.intro; refine ⟨fun _ => ?_, hK _ ?_⟩; (exact fun _ => rfl); clear hK K)) | (refine spq (by rfl) (by rfl) (fun K hK => ?_); apply Exists.intro; refine ⟨fun w' hw' => ?_, ?_⟩; (go_simp; exact rfl); (go_simp; refine hK _ ?_; clear hK K)))
          refine sps (by rfl) (by rfl) (fun u w' => u = .int .i64 0 ∧ LPost S w2 g p t1 L w') (fun v w1 w2 ⟨h1, h2⟩ k => ⟨h1, h2.mk' k⟩) (fun v w' ⟨_, h⟩ => h.log) (fun w' hw' => ?_) (fun K dv hdv hK => ?_); (· have hpw : LPost S w2 g p _ L w' := (by obtain ⟨hm', _⟩ := hD'.out w' hw'; exact Hlp0.out.mk' hm'); have Hpw := Lib.hid hpw; clear hpw hw'; go_simp; refine FrW.sAt_enter ?_; with_reducible exact K1.out _ Hpw.out); obtain ⟨wz, rfl, hz0⟩ := hdv; clear hz0 wz; go_simp; refine hK _ ?_; clear hK K
          iterate 12 (first | (refine spk (by rfl) (by rfl) (by rfl) (fun K hK => ?_); go_big_quiet_op; first | (refine hK _ ?_; clear hK K) | (apply Exists.intro; refine ⟨fun _ => ?_, hK _ ?_⟩; (exact fun _ => rfl); clear hK K)) | (refine spq (by rfl) (by rfl) (fun K hK => ?_); apply Exists.intro; refine ⟨fun w' hw' => ?_, ?_⟩; (go_simp; exact rfl); (go_simp; refine hK _ ?_; clear hK K)))
          refine sps (by rfl) (by rfl) (fun u w' => u = .int .i64 0 ∧ LPost S w2 g p t2 L w') (fun v w1 w2 ⟨h1, h2⟩ k => ⟨h1, h2.mk' k⟩) (fun v w' ⟨_, h⟩ => h.log) (fun w' hw' => ?_) (fun K dv hdv hK => ?_); (· have hpw : LPost S w2 g p _ L w' := hw'.2; have Hpw := Lib.hid hpw; clear hpw hw'; go_simp; refine FrW.sAt_enter ?_; with_reducible exact K2.out _ Hpw.out); obtain ⟨wz, rfl, hz0⟩ := hdv; clear hz0 wz; go_simp; refine hK _ ?_; clear hK K
          iterate 11 (first | (refine spk (by rfl) (by rfl) (by rfl) (fun K hK => ?_); go_big_quiet_op; first | (refine hK _ ?_; clear hK K) | (apply Exists.intro; refine ⟨fun _ => ?_, hK _ ?_⟩; (exact fun _ => rfl); clear hK K)) | (refine spq (by rfl) (by rfl) (fun K hK => ?_); apply Exists.intro; refine ⟨fun w' hw' => ?_, ?_⟩; (go_simp; exact rfl); (go_simp; refine hK _ ?_; clear hK K)))
          refine sps (by rfl) (by rfl) (fun u w' => u = .int .i64 e3 ∧ LPost S w2 g p t3 L w') (fun v w1 w2 ⟨h1, h2⟩ k => ⟨h1, h2.mk' k⟩) (fun v w' ⟨_, h⟩ => h.log) (fun w' hw' => ?_) (fun K dv hdv hK => ?_); (· have hpw : LPost S w2 g p _ L w' := hw'.2; have Hpw := Lib.hid hpw; clear hpw hw'; go_simp; refine FrW.sAt_enter ?_; with_reducible exact K3.out _ Hpw.out); obtain ⟨wz, rfl, hz0⟩ := hdv; clear hz0 wz; go_simp; refine hK _ ?_; clear hK K
          iterate 2 (first | (refine spk (by rfl) (by rfl) (by rfl) (fun K hK => ?_); go_big_quiet_op; first | (refine hK _ ?_; clear hK K) | (apply Exists.intro; refine ⟨fun _ => ?_, hK _ ?_⟩; (exact fun _ => rfl); clear hK K)) | (refine spq (by rfl) (by rfl) (fun K hK => ?_); apply Exists.intro; refine ⟨fun w' hw' => ?_, ?_⟩; (go_simp; exact rfl); (go_simp; refine hK _ ?_; clear hK K)))
          refine sp_nil ?_
          rintro w3 ⟨_, hp3⟩
          clear hD' D' hne q1 hC3 hC4
          by_cases he3 : e3 = 0
          · subst he3
            have hm6 := hp3.chg
            have c2 := lg_4 hp3.log
            have d0 : w3.cell? ⟨g, 0, none⟩ = some (.int .u64 (L.gen : Int)) := lg_0 hp3.log
            have d1 : w3.cell? ⟨g, 1, none⟩ = some (.int .i64 (L.cap : Int)) := lg_1 hp3.log
            have d2 : w3.cell? ⟨g, 2, none⟩ = some (.int .i64 (L.slots : Int)) := lg_2 hp3.log
            have d5 : w3.cell? ⟨g, 5, none⟩ = some (.int .i64 (L.size : Int)) := lg_5 hp3.log
            have fz := fun o => hp3.log.frozen o
            have hb7 := Hb6.out.keep hp3.chg (fun e => e.elim (fun e => by have := hS _ e; omega) (fun e => by have := Hb.out.lt; omega))
            have a0 : w3.cell? ⟨w.heap.size, 0, none⟩ = some (.int .u64 ((L.gen + 1 : Nat) : Int)) := (hb7.cell 0).trans rfl
            have a1 : w3.cell? ⟨w.heap.size, 1, none⟩ = some (.int .i64 (L.cap : Int)) := (hb7.cell 1).trans rfl
            have a2 : w3.cell? ⟨w.heap.size, 2, none⟩ = some (.int .i64 (L.slots : Int)) := (hb7.cell 2).trans rfl
            have fz0 := fz 0
            have fz1 := fz 1
            have fz2 := fz 2
            have fz4 := fz 4
            have fz5 := fz 5
            clear fz
            have Hp3 := Lib.hid hp3; have Hm6 := Lib.hid hm6; have Hb7 := Lib.hid hb7; clear hp3 hm6 hb7
            go_wp2_with fail
            go_region
            go_wp2
            go_ret
            rw [Hl2.out, lckB_d Ht1.out Ht2.out Ht3.out]
            exact ⟨rfl, (Hp3.out.setAll hS hg Hb.out.lt hglt hL2 fr.length).base Hm4.out⟩
          · have h1 : (e3 != 0) = true := by simpa using he3
            have Hp3 := Lib.hid hp3; clear hp3
            go_wp2
            go_ret
            rw [Hl2.out, lckB_c Ht1.out Ht2.out Ht3.out he3]
            exact ⟨rfl, Hp3.out.base Hm4.out⟩
        · have h2 : (e2 != 0) = true := by simpa using he2
          go_wp2_with fail
          refine wp_region_sq (fun j => j == 9 || j == 22 || j == 34) (fun w' => Bk w' g 175 (lgC p L)) (by kernel_rfl) (by kernel_rfl) (Hlp0.out.log) (fun _ _ h k => h.mk k) ?_; intro D' hD' hne; have q1 := @qAt_value Try.prog
          iterate 9 (first | (refine spk (by rfl) (by rfl) (by rfl) (fun K hK => ?_); go_big_quiet_op; first | (refine hK _ ?_; clear hK K) | (apply Exists.intro; refine ⟨fun _ => ?_, hK _ ?_⟩; (exact fun _ => rfl); clear hK K)) | (refine spq (by rfl) (by rfl) (fun K hK => ?_); apply Exists.intro; refine ⟨fun w' hw' => ?_, ?_⟩; (go_simp; exact rfl); (go_simp; refine hK _ ?_; clear hK K)))
          refine sps (by rfl) (by rfl) (fun u w' => u = .int .i64 0 ∧ LPost S w2 g p t1 L w') (fun v w1 w2 ⟨h1, h2⟩ k => ⟨h1, h2.mk' k⟩) (fun v w' ⟨_, h⟩ => h.log) (fun w' hw' => ?_) (fun K dv hdv hK => ?_); (· have hpw : LPost S w2 g p _ L w' := (by obtain ⟨hm', _⟩ := hD'.out w' hw'; exact Hlp0.out.mk' hm'); have Hpw := Lib.hid hpw; clear hpw hw'; go_simp; refine FrW.sAt_enter ?_; with_reducible exact K1.out _ Hpw.out); obtain ⟨wz, rfl, hz0⟩ := hdv; clear hz0 wz; go_simp; refine hK _ ?_; clear hK K
          iterate 12 (first | (refine spk (by rfl) (by rfl) (by rfl) (fun K hK => ?_); go_big_quiet_op; first | (refine hK _ ?_; clear hK K) | (apply Exists.intro; refine ⟨fun _ => ?_, hK _ ?_⟩; (exact fun _ => rfl); clear hK K)) | (refine spq (by rfl) (by rfl) (fun K hK => ?_); apply Exists.intro; refine ⟨fun w' hw' => ?_, ?_⟩; (go_simp; exact rfl); (go_simp; refine hK _ ?_; clear hK K)))
          refine sps (by rfl) (by rfl) (fun u w' => u = .int .i64 e2 ∧ LPost S w2 g p t2 L w') (fun v w1 w2 ⟨h1, h2⟩ k => ⟨h1, h2.mk' k⟩) (fun v w' ⟨_, h⟩ => h.log) (fun w' hw' => ?_) (fun K dv hdv hK => ?_); (· have hpw : LPost S w2 g p _ L w' := hw'.2; have Hpw := Lib.hid hpw; clear hpw hw'; go_simp; refine FrW.sAt_enter ?_; with_reducible exact K2.out _ Hpw.out); obtain ⟨wz, rfl, hz0⟩ := hdv; clear hz0 wz; go_simp; refine hK _ ?_; clear hK K
          iterate 2 (first | (refine spk (by rfl) (by rfl) (by rfl) (fun K hK => ?_); go_big_quiet_op; first | (refine hK _ ?_; clear hK K) | (apply Exists.intro; refine ⟨fun _ => ?_, hK _ ?_⟩; (exact fun _ => rfl); clear hK K)) | (refine spq (by rfl) (by rfl) (fun K hK => ?_); apply Exists.intro; refine ⟨fun w' hw' => ?_, ?_⟩; (go_simp; exact rfl); (go_simp; refine hK _ ?_; clear hK K)))
          (refine FrW.spk_skip 10 (by rfl) (by rfl) (by rfl) (fun K hK => ?_); go_big_quiet_op; (refine hK _ ?_ ?_; (· kernel_rfl)); clear hK K; simp only [List.drop, FrW.skipAct]; go_simp)
          iterate 1 (first | (refine spk (by rfl) (by rfl) (by rfl) (fun K hK => ?_); go_big_quiet_op; first | (refine hK _ ?_; clear hK K) | (apply Exists.intro; refine ⟨fun _ => ?_, hK _ ?_⟩; (exact fun _ => rfl); clear hK K)) | (refine spq (by rfl) (by rfl) (fun K hK => ?_); apply Exists.intro; refine ⟨fun w' hw' => ?_, ?_⟩; (go_simp; exact rfl); (go_simp; refine hK _ ?_; clear hK K)))
          refine sp_nil ?_
          rintro w3 hp3
          clear hD' D' hne q1 hC3 hC4
          have Hp3 := Lib.hid hp3; clear hp3
          go_wp2
          go_ret
          rw [Hl2.out, lckB_b Ht1.out Ht2.out he2]
          exact ⟨rfl, Hp3.out.base Hm4.out⟩
      · have h1 : (e1 != 0) = true := by simpa using he1
        go_wp2_with fail
        refine wp_region_sq (fun j => j == 9 || j == 22 || j == 34) (fun w' => Bk w' g 175 (lgC p L)) (by kernel_rfl) (by kernel_rfl) (Hlp0.out.log) (fun _ _ h k => h.mk k) ?_; intro D' hD' hne; have q1 := @qAt_value Try.prog
        iterate 9 (first | (refine spk (by rfl) (by rfl) (by rfl) (fun K hK => ?_); go_big_quiet_op; first | (refine hK _ ?_; clear hK K) | (apply Exists.intro; refine ⟨fun _ => ?_, hK _ ?_⟩; (exact fun _ => rfl); clear hK K)) | (refine spq (by rfl) (by rfl) (fun K hK => ?_); apply Exists.intro; refine ⟨fun w' hw' => ?_, ?_⟩; (go_simp; exact rfl); (go_simp; refine hK _ ?_; clear hK K)))
        refine sps (by rfl) (by rfl) (fun u w' => u = .int .i64 e1 ∧ LPost S w2 g p t1 L w') (fun v w1 w2 ⟨h1, h2⟩ k => ⟨h1, h2.mk' k⟩) (fun v w' ⟨_, h⟩ => h.log) (fun w' hw' => ?_) (fun K dv hdv hK => ?_); (· have hpw : LPost S w2 g p _ L w' := (by obtain ⟨hm', _⟩ := hD'.out w' hw'; exact Hlp0.out.mk' hm'); have Hpw := Lib.hid hpw; clear hpw hw'; go_simp; refine FrW.sAt_enter ?_; with_reducible exact K1.out _ Hpw.out); obtain ⟨wz, rfl, hz0⟩ := hdv; clear hz0 wz; go_simp; refine hK _ ?_; clear hK K
        iterate 1 (first | (refine spk (by rfl) (by rfl) (by rfl) (fun K hK => ?_); go_big_quiet_op; first | (refine hK _ ?_; clear hK K) | (apply Exists.intro; refine ⟨fun _ => ?_, hK _ ?_⟩; (exact fun _ => rfl); clear hK K)) | (refine spq (by rfl) (by rfl) (fun K hK => ?_); apply Exists.intro; refine ⟨fun w' hw' => ?_, ?_⟩; (go_simp; exact rfl); (go_simp; refine hK _ ?_; clear hK K)))
        (refine FrW.spk_skip 12 (by rfl) (by rfl) (by rfl) (fun K hK => ?_); go_big_quiet_op; (refine hK _ ?_ ?_; (· kernel_rfl)); clear hK K; simp only [List.drop, FrW.skipAct]; go_simp)
        iterate 1 (first | (refine spk (by rfl) (by rfl) (by rfl) (fun K hK => ?_); go_big_quiet_op; first | (refine hK _ ?_; clear hK K) | (apply Exists.intro; refine ⟨fun _ => ?_, hK _ ?_⟩; (exact fun _ => rfl); clear hK K)) | (refine spq (by rfl) (by rfl) (fun K hK => ?_); apply Exists.intro; refine ⟨fun w' hw' => ?_, ?_⟩; (go_simp; exact rfl); (go_simp; refine hK _ ?_; clear hK K)))
        (refine FrW.spk_skip 10 (by rfl) (by rfl) (by rfl) (fun K hK => ?_); go_big_quiet_op; (refine hK _ ?_ ?_; (· kernel_rfl)); clear hK K; simp only [List.drop, FrW.skipAct]; go_simp)
        iterate 1 (first | (refine spk (by rfl) (by rfl) (by rfl) (fun K hK => ?_); go_big_quiet_op; first | (refine hK _ ?_; clear hK K) | (apply Exists.intro; refine ⟨fun _ => ?_, hK _ ?_⟩; (exact fun _ => rfl); clear hK K)) | (refine spq (by rfl) (by rfl) (fun K hK => ?_); apply Exists.intro; refine ⟨fun w' hw' => ?_, ?_⟩; (go_simp; exact rfl); (go_simp; refine hK _ ?_; clear hK K)))
        refine sp_nil ?_
        rintro w3 hp3
        clear hD' D' hne q1 hC3 hC4
        have Hp3 := Lib.hid hp3; clear hp3
        go_wp2
        go_ret
        rw [Hl2.out, lckB_a Ht1.out he1]
        exact ⟨rfl, Hp3.out.base Hm4.out⟩
  · have hl : lck st L xs = (st, L, 40) := by unfold lck; rw [hd]; rfl
    rw [hd] at hdead
    have Hdead := Lib.hid hdead; have Hl := Lib.hid hl; have Hb := Lib.hid hb; have H := Lib.hid h; have Hv := Lib.hid hv; have Hvc := Lib.hid hvc; have Hvm := Lib.hid hvm; have Hd := Lib.hid hd; clear hdead hl hb h hv hvc hvm hd
    go_enter Try.func58, Try.ntmps58
    go_wp2_with fail
    refine Hdead.out.mono ?_
    rintro e w1 ⟨rfl, m, rfl⟩
    go_wp2
    go_ret
    rw [Hl.out]
    exact ⟨rfl, LPost.same Hb.out H.out (mk_drewN _ _)⟩
end Go.Proofs.WlW
