/- Layer 6, wal: the statements' step. -/
import Derived.Test.YtcfjdldlcdomgaaMWalPlays27
import Derived.Deep.RegionHeld3
set_option linter.unusedVariables false
set_option linter.unusedSimpArgs false
namespace Go.Proofs.WlW
open Go Go.RowKit Go.Tk Go.Dk Go.Sp Go.Proofs.DkW

/-- The statements' world; its disks' blocks lie in the class A. -/
def WS (A : Nat → Prop) (base : Nat) (w : World) (gw p q : Nat) (st : St) (lo : Option Lg) : Prop :=
  ∃ (S T : Nat → Prop) (lv mv : Value), WDk S T w gw p q lv mv st ∧ LogP base S T w p q lv mv lo ∧ ∀ k, S k ∨ T k ∨ k = gw → A k
section
variable {base : Nat} {S T U : Nat → Prop} {w w' : World} {gw p q M : Nat} {lv mv : Value} {st : St} {lo : Option Lg}
theorem LogP.keep (h : LogP base S T w p q lv mv lo) (hc : Chg U w w') (hn : ∀ k t cs, Bk w k t cs → t ≠ 91 → t ≠ 5 → t ≠ 109 → U k → False) : LogP base S T w' p q lv mv lo := by
  cases lo with
  | none => exact h
  | some L =>
    obtain ⟨g, g', sv, h1, h2, h3, h4, h5⟩ := h
    exact ⟨g, g', sv, h1, h2, h3.keep hc (fun e => hn g _ _ h3 (by decide) (by decide) (by decide) e), h4.keep hc (fun e => hn g' _ _ h4 (by decide) (by decide) (by decide) e), h5⟩
theorem LogP.lower {base' : Nat} (h : LogP base S T w p q lv mv lo) (hb : base' ≤ base) : LogP base' S T w p q lv mv lo := by
  cases lo with
  | none => exact h
  | some L =>
    obtain ⟨g, g', sv, h1, h2, h3, h4, h5, h6, h7, h8⟩ := h
    exact ⟨g, g', sv, h1, h2, h3, h4, h5, h6, Nat.le_trans hb h7, Nat.le_trans hb h8⟩
theorem LogP.made (h : LogP base S T w p q lv mv lo) (hm : Mk w w') : LogP base S T w' p q lv mv lo := h.keep (U := fun _ => False) (Chg.of_mk hm) (fun _ _ _ _ _ _ _ e => e)
theorem WS.made {A : Nat → Prop} (h : WS A base w gw p q st lo) (hm : Mk w w') : WS A base w' gw p q st lo := by
  obtain ⟨S, T, lv, mv, h1, h2, h3⟩ := h
  exact ⟨S, T, lv, mv, h1.made hm, h2.made hm, h3⟩
theorem WDk.clear (h : WDk S T w gw p q lv mv st) (x y : Value) : WDk S T ((w.setCell ⟨gw, 1, none⟩ x).setCell ⟨gw, 3, none⟩ y) gw p q x y st ∧ Chg (fun k => S k ∨ T k ∨ k = gw) w ((w.setCell ⟨gw, 1, none⟩ x).setCell ⟨gw, 3, none⟩ y) := by
  have hs : Chg (fun k => k = gw) w ((w.setCell ⟨gw, 1, none⟩ x).setCell ⟨gw, 3, none⟩ y) := (Chg.set (fun k => k = gw) w ⟨gw, 1, none⟩ x rfl).thenSet ⟨gw, 3, none⟩ y (.inl rfl)
  exact ⟨⟨h.pd.keep hs (fun k _ hk e => h.ne.1 (e ▸ hk)), h.rd.keep hs (fun k _ hk e => h.ne.2 (e ▸ hk)), (h.blk.set 1 x).set 3 y, fun k hk => by have := h.lt k hk; have := hs.size; omega, h.dis, h.ne⟩, hs.sub fun k _ e => .inr (.inr e)⟩
/-- Both disks, each maybe a call ahead of the other; X: what else may be written. -/
def Two (X S T : Nat → Prop) (W : World) (p q : Nat) (a b : St) (wx : World) : Prop :=
  ∃ S' T' : Nat → Prop, PD S' wx p a ∧ RD T' wx q b ∧ (∀ x, S' x → S x ∨ W.heap.size ≤ x) ∧ (∀ x, T' x → T x ∨ W.heap.size ≤ x) ∧ (∀ x, S' x ∨ T' x → x < wx.heap.size) ∧ (∀ x, S' x → ¬ T' x) ∧ Chg (fun k => S k ∨ T k ∨ X k) W wx
theorem Two.start {X : Nat → Prop} (h : WDk S T w gw p q lv mv st) : Two X S T w p q st st w :=
  ⟨S, T, h.pd, h.rd, fun _ e => .inl e, fun _ e => .inl e, h.lt, h.dis, Chg.refl _ _⟩
theorem Two.mk {X : Nat → Prop} {W wx wy : World} {a b : St} (h : Two X S T W p q a b wx) (hm : Mk wx wy) : Two X S T W p q a b wy := by
  obtain ⟨S', T', h1, h2, h3, h4, h5, h6, h7⟩ := h
  exact ⟨S', T', h1.made hm, h2.made hm, h3, h4, fun x hx => by have := h5 x hx; have := hm.size; omega, h6, h7.thenMk hm⟩
theorem Two.chg {X : Nat → Prop} {W wx : World} {a b : St} (h : Two X S T W p q a b wx) : Chg (fun k => S k ∨ T k ∨ X k) W wx := by
  obtain ⟨S', T', h1, h2, h3, h4, h5, h6, h7⟩ := h; exact h7
theorem Two.stepP {X : Nat → Prop} {W wx wy : World} {b a' : St} {S' T' : Nat → Prop} (hrd : RD T' wx q b) (h3 : ∀ x, S' x → S x ∨ W.heap.size ≤ x) (h4 : ∀ x, T' x → T x ∨ W.heap.size ≤ x) (h5 : ∀ x, S' x ∨ T' x → x < wx.heap.size) (h6 : ∀ x, S' x → ¬ T' x)
    (h7 : Chg (fun k => S k ∨ T k ∨ X k) W wx) (hX : ∀ k, X k → k < W.heap.size ∧ ¬ S k ∧ ¬ T k) (hd : PD (Gw S' wx) wy p a') (hc : Chg (fun k => S' k ∨ X k) wx wy) : Two X S T W p q a' b wy := by
  have hz := h7.size
  have hz2 := hc.size
  refine ⟨fun k => Gw S' wx k ∧ k < wy.heap.size, T', PD.trim hd, hrd.keep hc (fun k hk ht e => e.elim (fun e => h6 k e ht) (fun e => (h4 k ht).elim (hX k e).2.2 (fun e2 => by have := (hX k e).1; omega))), fun x hx => hx.1.elim (h3 x) (fun e => .inr (by omega)), h4, fun x hx => hx.elim (fun e => e.2) (fun e => by have := h5 x (.inr e); omega), fun x hx ht => hx.1.elim (fun e => h6 x e ht) (fun e => by have := h5 x (.inr ht); omega), ?_⟩
  exact Chg.trans h7 hc (fun x hx e => e.elim (fun e => (h3 x e).elim .inl (fun e => by omega)) (fun e => .inr (.inr e)))
theorem Two.stepR {X : Nat → Prop} {W wx wy : World} {a b' : St} {S' T' : Nat → Prop} (hpd : PD S' wx p a) (h3 : ∀ x, S' x → S x ∨ W.heap.size ≤ x) (h4 : ∀ x, T' x → T x ∨ W.heap.size ≤ x) (h5 : ∀ x, S' x ∨ T' x → x < wx.heap.size) (h6 : ∀ x, S' x → ¬ T' x)
    (h7 : Chg (fun k => S k ∨ T k ∨ X k) W wx) (hX : ∀ k, X k → k < W.heap.size ∧ ¬ S k ∧ ¬ T k) (hd : RD (Gw T' wx) wy q b') (hc : Chg (fun k => T' k ∨ X k) wx wy) : Two X S T W p q a b' wy := by
  have hz := h7.size
  have hz2 := hc.size
  refine ⟨S', fun k => Gw T' wx k ∧ k < wy.heap.size, hpd.keep hc (fun k hk hs e => e.elim (fun e => h6 k hs e) (fun e => (h3 k hs).elim (hX k e).2.1 (fun e2 => by have := (hX k e).1; omega))), RD.trim hd, h3, fun x hx => hx.1.elim (h4 x) (fun e => .inr (by omega)), fun x hx => hx.elim (fun e => by have := h5 x (.inl e); omega) (fun e => e.2), fun x hs hx => hx.1.elim (fun e => h6 x hs e) (fun e => by have := h5 x (.inl hs); omega), ?_⟩
  exact Chg.trans h7 hc (fun x hx e => e.elim (fun e => (h4 x e).elim (fun e => .inr (.inl e)) (fun e => by omega)) (fun e => .inr (.inr e)))
/-- Both calls behind: the statements' world again. -/
theorem Two.ws {X A : Nat → Prop} {W wx : World} {a : St} (h : WDk S T W gw p q lv mv st) (ht : Two X S T W p q a a wx) {lv' mv' : Value} (hbk : Bk wx gw 91 (gwC p q lv' mv')) (hlog : ∀ S' T' : Nat → Prop, (∀ x, S' x → S x ∨ W.heap.size ≤ x) → (∀ x, T' x → T x ∨ W.heap.size ≤ x) → LogP base S' T' wx p q lv' mv' lo)
    (hA : ∀ x, S x ∨ T x ∨ x = gw ∨ W.heap.size ≤ x → A x) : WS A base wx gw p q a lo := by
  obtain ⟨S', T', h1, h2, h3, h4, h5, h6, h7⟩ := ht
  have hl := h.blk.lt
  exact ⟨S', T', lv', mv', ⟨h1, h2, hbk, h5, h6, fun e => (h3 gw e).elim h.ne.1 (fun e => by omega), fun e => (h4 gw e).elim h.ne.2 (fun e => by omega)⟩, hlog S' T' h3 h4,
    fun x hx => hx.elim (fun hx => hA x ((h3 x hx).elim .inl (fun e => .inr (.inr (.inr e))))) (fun hx => hx.elim (fun hx => hA x ((h4 x hx).elim (fun e => .inr (.inl e)) (fun e => .inr (.inr (.inr e))))) (fun hx => hA x (.inr (.inr (.inl hx)))))⟩
/-- The logs lie as they lay. -/
theorem LogP.next {W wx : World} (h : LogP base S T W p q lv mv lo) {cs : Array Value} (hg : Bk W gw 91 cs) (hc : Chg (fun k => S k ∨ T k ∨ k = gw) W wx) (S' T' : Nat → Prop) (h3 : ∀ x, S' x → S x ∨ W.heap.size ≤ x) (h4 : ∀ x, T' x → T x ∨ W.heap.size ≤ x) : LogP base S' T' wx p q lv mv lo := by
  cases lo with
  | none => exact h
  | some L =>
    obtain ⟨g, g', sv, e1, e2, b1, b2, ⟨n1, n2, n3, n4⟩, h5⟩ := h
    have l1 := b1.lt
    have l2 := b2.lt
    have d1 : g ≠ gw := fun e => by subst e; have := (Bk.uniq b1 hg).1; cases this
    have d2 : g' ≠ gw := fun e => by subst e; have := (Bk.uniq b2 hg).1; cases this
    exact ⟨g, g', sv, e1, e2, b1.keep hc (fun e => e.elim n1 (fun e => e.elim n2 d1)), b2.keep hc (fun e => e.elim n3 (fun e => e.elim n4 d2)), ⟨fun e => (h3 _ e).elim n1 (fun e => by omega), fun e => (h4 _ e).elim n2 (fun e => by omega), fun e => (h3 _ e).elim n3 (fun e => by omega), fun e => (h4 _ e).elim n4 (fun e => by omega)⟩, h5⟩
/-- Behind the program's Fuse, ahead of the document's. -/
structure FuP (S T : Nat → Prop) (W Wc : World) (p q : Nat) (s1 st : St) (w' : World) : Prop where
  made : Mk W Wc
  pd : PD (Gw S Wc) w' p s1
  rd : RD T w' q st
  chg : Chg S Wc w'
theorem FuP.is {W Wc : World} {s1 : St} {m : Int} (h : FuP S T W Wc p q s1 st w') (hS : ∀ x, S x → x < W.heap.size) {v : Value} (hi : Is Wc v [m, m]) (ho : ∀ x, v.ownBlock = some x → W.heap.size ≤ x) : Is w' v [m, m] :=
  is_keep hi h.chg (fun k _ _ hk hs => by have := ho k hk; have := hS k hs; omega)
theorem fu1 {W Wc : World} {n m : Int} {s1 : St} {er : Int} (h : WDk S T W gw p q lv mv st) (hl : st.light n [m, m] = (s1, er)) (hm : Mk W Wc) (v : Value) (hi : Is Wc v [m, m]) :
    Calls Try.prog 41 #[.pointer (some ⟨p, 0, none⟩), .int .i64 n, v] Wc fun e w' => e = .returned (.int .i64 er) ∧ FuP S T W Wc p q s1 st w' := by
  have k1 := fuse_any (h.pd.made hm) n v [m, m] hi (by simp)
  rw [hl] at k1
  exact k1.mono fun e w' ⟨he, h1, h2⟩ => ⟨he, hm, h1, (h.rd.made hm).keep h2 (fun k _ ht hs => h.dis k hs ht), h2⟩
theorem fu2 {W Wc wx : World} {n m : Int} {s1 : St} {er : Int} (h : WDk S T W gw p q lv mv st) (hl : st.light n [m, m] = (s1, er)) (hp : FuP S T W Wc p q s1 st w') (hm : Mk w' wx) (v : Value) (hi : Is wx v [m, m]) (ho : ∀ x, v.ownBlock = some x → W.heap.size ≤ x) :
    Calls Try.prog 97 #[.pointer (some ⟨q, 0, none⟩), .int .i64 n, v] wx fun e w' => e = .returned (.int .i64 er) ∧ Two (fun _ => False) S T W p q s1 s1 w' := by
  have k1 := rfuse_any (hp.rd.made hm) n v [m, m] hi (by simp) (fun k _ hk ht => by have := ho k hk; have := h.lt k (.inr ht); omega)
  rw [hl] at k1
  have hz1 := hp.made.size
  have hz2 := hp.chg.size
  have hz3 := hm.size
  refine k1.mono fun e w'' ⟨he, h1, h2⟩ => ⟨he, ?_⟩
  refine Two.stepR (S' := fun k => Gw S Wc k ∧ k < w'.heap.size) (T' := T) ((PD.trim hp.pd).made hm) (fun x hx => hx.1.imp_right (fun e => by omega)) (fun _ e => .inl e) (fun x hx => hx.elim (fun e => by have := e.2; omega) (fun e => by have := h.lt x (.inr e); omega)) (fun x hx ht => hx.1.elim (fun e => h.dis x e ht) (fun e => by have := h.lt x (.inr ht); omega)) ?_ (fun _ e => e.elim) h1 (h2.sub fun _ _ e => .inl e)
  exact (Chg.trans (Chg.of_mk hp.made) hp.chg (fun _ _ e => .inl e)).thenMk hm
theorem is_lit (W : World) (m : Int) : Is (W.alloc (.cells #[.int .i64 m, .int .i64 m] 3)) (.slice (some ⟨W.heap.size, 0, none⟩) 2 2) [m, m] := own_sl (lit_own W #[.int .i64 m, .int .i64 m] 3 (by simp [maxLen]))
theorem mk_drew' (w : World) : Mk w w.drew := mk_drewN w 1
theorem lapp_rl (st : St) (L : Lg) (b : List UInt8) (q : Nat) (sv : Value) : rlC q (lapp st L b).2.1 sv = rlC q L sv := by
  unfold lapp
  split
  · rfl
  · split
    · rfl
    · dsimp only
      split <;> rfl
def ov (o : WOp) (v : Value) : Array Value := #[.int .i64 o.kind, .int .i64 o.n, .int .i64 o.m, v]
set_option maxHeartbeats 8000000 in
set_option maxRecDepth 100000 in
theorem step_any (h : WDk S T w gw p q lv mv st) (hl : LogP base S T w p q lv mv lo) (hb : ∀ k, S k ∨ T k ∨ k = gw → base ≤ k) (k : Nat) (hk : k ≤ 300) (hinv : WInv st lo k) (o : WOp) (v : Value) (hv : Bs w v o.b) (hvb : ∀ x, v.ownBlock = some x → 0 < o.b.length → x < base) (hbw : base ≤ w.heap.size)
    (hn : -9223372036854775808 ≤ o.n ∧ o.n ≤ 9223372036854775807) :
    Calls Try.prog 60 #[.pointer (some ⟨gw, 0, none⟩), .agg (ov o v)] w fun e w' => e = .returned (.bool true) ∧ WS (fun x => base ≤ x) base w' gw p q (stepP st lo o).1 (stepP st lo o).2 ∧ Chg (fun x => base ≤ x) w w' := by
  obtain ⟨kind, n, m, xs⟩ := o
  dsimp only at hv hvb hn
  obtain ⟨va, vc, rfl, hvc, hvm⟩ := hv.form
  have hstep := step_inv hinv ⟨kind, n, m, xs⟩ hn.2
  generalize hsp : stepP st lo ⟨kind, n, m, xs⟩ = sp at *
  obtain ⟨W0, hW0⟩ : ∃ W0, w.alloc (.cells (ov ⟨kind, n, m, xs⟩ (.slice va xs.length vc)) 109) = W0 := ⟨_, rfl⟩
  have hbx : Bk W0 w.heap.size 109 (ov ⟨kind, n, m, xs⟩ (.slice va xs.length vc)) := by rw [← hW0]; exact Bk.new w 109 _
  have hm0 : Mk w W0 := by rw [← hW0]; exact mk_alloc _ _
  have hz0 : W0.heap.size = w.heap.size + 1 := by rw [← hW0]; simp
  have b3 : W0.cell? ⟨w.heap.size, 3, none⟩ = some (.slice va xs.length vc) := (hbx.cell 3).trans rfl
  have hW0' : w.alloc (.cells #[.int .i64 kind, .int .i64 n, .int .i64 m, .slice va xs.length vc] 109) = W0 := hW0
  clear hW0
  have H := Lib.hid h; have Hl := Lib.hid hl; have Hb := Lib.hid hb; have Hinv := Lib.hid hinv; have Hstep := Lib.hid hstep; have Hsp := Lib.hid hsp; have Hv := Lib.hid hv; have Hvb := Lib.hid hvb; have Hvc := Lib.hid hvc; have Hvm := Lib.hid hvm; have Hbx := Lib.hid hbx; have Hm0 := Lib.hid hm0; have Hz0 := Lib.hid hz0; have Hn := Lib.hid hn; clear h hl hb hinv hstep hsp hv hvb hvc hvm hbx hm0 hz0 hn
  show Calls Try.prog 60 #[.pointer (some ⟨gw, 0, none⟩), .agg #[.int .i64 kind, .int .i64 n, .int .i64 m, .slice va xs.length vc]] w _
  go_enter Try.func60, Try.ntmps60
  go_wp2_with fail
  refine (short_any W0 _ xs (Hv.out.mk Hm0.out)).mono ?_
  rintro e w' ⟨v1, rfl, hv1, rfl, hvb1⟩
  clear b3 hW0'
  generalize hxb : xs.take 3000 = b at *
  have hbl : b.length ≤ 3000 := by rw [← hxb]; simp; omega
  obtain ⟨a1, c1, rfl, _, _⟩ := hv1.form
  have Hv1 := Lib.hid hv1; have Hvb1 := Lib.hid hvb1; have Hxb := Lib.hid hxb; clear hv1 hvb1 hxb
  go_wp2_with fail
  refine (wlent_any W0 _ b Hv1.out (by omega)).mono ?_
  rintro e W ⟨gl, rfl, hol, hm1⟩
  have hmW := mk_trans Hm0.out hm1
  have hbxW := Hbx.out.mk hm1
  have hglt := hol.lt gl rfl
  have b0 : W.cell? ⟨w.heap.size, 0, none⟩ = some (.int .i64 kind) := (hbxW.cell 0).trans rfl
  have Hol := Lib.hid hol; have Hm1 := Lib.hid hm1; have HmW := Lib.hid hmW; have HbxW := Lib.hid hbxW; have Hglt := Lib.hid hglt; clear hol hm1 hmW hbxW hglt
  go_upto_block 0 with fail
  go_cut [7] (fun s7 wx => s7 = .bool true ∧ WS (fun x => base ≤ x ∧ x ≠ gl ∧ x ≠ w.heap.size) base wx gw p q sp.1 sp.2 ∧ Chg (fun x => base ≤ x ∧ x ≠ gl ∧ x ≠ w.heap.size) W wx)
  case first =>
    have hdW := H.out.made HmW.out
    have hlW := Hl.out.made HmW.out
    have hok := Hinv.out.ok
    have hlen : ∀ f, (st.file f).1.length ≤ 1048576 := fun f => by have := Hinv.out.len f; omega
    have hzW : W0.heap.size ≤ W.heap.size := Hm1.out.size
    have hA : ∀ x, (S x ∨ T x ∨ x = gw) → base ≤ x ∧ x ≠ gl ∧ x ≠ w.heap.size := fun x hx => by
      have h1 := Hb.out x hx
      have h2 : x < w.heap.size := by
        rcases hx with hx | hx | hx
        · exact H.out.lt x (.inl hx)
        · exact H.out.lt x (.inr hx)
        · rw [hx]; exact H.out.blk.lt
      have := Hz0.out
      have := Hglt.out
      exact ⟨h1, by omega, by omega⟩
    have hnew : ∀ x, W.heap.size ≤ x → base ≤ x ∧ x ≠ gl ∧ x ≠ w.heap.size := fun x hx => by have := Hz0.out; have := Hglt.out; exact ⟨by omega, by omega, by omega⟩
    have hspx := Hsp.out
    unfold stepP at hspx
    simp only [Hxb.out] at hspx
    have c0 := hdW.c0
    have c1' := hdW.c1
    have c2 := hdW.c2
    have c3 := hdW.c3
    have HdW := Lib.hid hdW; have HlW := Lib.hid hlW; have Hok := Lib.hid hok; have Hlen := Lib.hid hlen; have HzW := Lib.hid hzW; have HA := Lib.hid hA; have Hnew := Lib.hid hnew; clear hdW hlW hok hlen hzW hA hnew
    by_cases h0 : kind = 0
    · rw [if_pos h0] at hspx
      subst h0
      have hbS : ¬ S w.heap.size := fun e => by have := H.out.lt _ (.inl e); omega
      have hbT : ¬ T w.heap.size := fun e => by have := H.out.lt _ (.inr e); omega
      obtain ⟨hdV, hcV⟩ := HdW.out.clear (.pointer none) (.pointer none)
      have f1 := HdW.out.blk.frozen 1
      have f3 := HdW.out.blk.frozen 3
      have hbxV := HbxW.out.keep hcV (fun e => (HA.out _ e).2.2 rfl)
      have hoV := own_keep Hol.out hcV (fun x hx e => by cases hx; exact (HA.out _ e).2.1 rfl)
      have hlV : Bs ((W.setCell ⟨gw, 1, none⟩ (.pointer none)).setCell ⟨gw, 3, none⟩ (.pointer none)) (.slice (some ⟨gl, 0, none⟩) b.length (b.length + 8)) b := by
        have h1 : Bs ((W.setCell ⟨gw, 1, none⟩ (.pointer none)).setCell ⟨gw, 3, none⟩ (.pointer none)) (.slice (some ⟨gl, 0, none⟩) (b.length + 8) (b.length + 8)) (b ++ List.replicate 8 201) := by have := own_sl hoV; rw [Bs]; simpa using this
        have h2 := FrW.Sl.taken h1 b.length (by simp)
        rw [List.take_left'] at h2
        · exact h2
        · rfl
      have hv1V := bs_keep (Hv1.out.mk Hm1.out) hcV (fun x hx h0 _ e => by
        have h1 := Hvb.out x (by rw [← Hvb1.out]; exact hx) (by have := Hxb.out; rw [← this] at h0; simp at h0; omega)
        have := Hb.out x e
        omega)
      have hzV := hcV.size
      have hfe := fmt_eq Hok.out n m b
      obtain ⟨s1, er, hs1⟩ : ∃ a c, fmtP st n m b = (a, c) := ⟨_, _, rfl⟩
      rw [hs1] at hfe hspx
      have hee : (er == er) = true := by simp
      have hgS : ∀ x, (Value.slice (some ⟨gl, 0, none⟩) b.length (b.length + 8)).ownBlock = some x → ¬ S x := fun x hx e => by cases hx; exact (HA.out _ (.inl e)).2.1 rfl
      have hvT : ∀ x, (Value.slice a1 b.length c1).ownBlock = some x → 0 < b.length → x < base := fun x hx h0 => Hvb.out x (by rw [← Hvb1.out]; exact hx) (by have := Hxb.out; rw [← this] at h0; simp at h0; omega)
      have Hspx := Lib.hid hspx; have Hfe := Lib.hid hfe; have Hs1 := Lib.hid hs1; clear hspx hfe hs1
      go_upto_region 8 with fail
      generalize (W.setCell ⟨gw, 1, none⟩ (.pointer none)).setCell ⟨gw, 3, none⟩ (.pointer none) = V at *
      have hC0 : ∀ w', Bk w' gw 91 (gwC p q (.pointer none) (.pointer none)) ∧ Bk w' w.heap.size 109 (ov ⟨0, n, m, xs⟩ (.slice va xs.length vc)) → w'.cell? ⟨gw, 0, none⟩ = some (.pointer (some ⟨p, 0, none⟩)) := fun w' h => gw_0 h.1
      have hC2 : ∀ w', Bk w' gw 91 (gwC p q (.pointer none) (.pointer none)) ∧ Bk w' w.heap.size 109 (ov ⟨0, n, m, xs⟩ (.slice va xs.length vc)) → w'.cell? ⟨gw, 2, none⟩ = some (.pointer (some ⟨q, 0, none⟩)) := fun w' h => gw_2 h.1
      have hCn : ∀ w', Bk w' gw 91 (gwC p q (.pointer none) (.pointer none)) ∧ Bk w' w.heap.size 109 (ov ⟨0, n, m, xs⟩ (.slice va xs.length vc)) → w'.cell? ⟨w.heap.size, 1, none⟩ = some (.int .i64 n) := fun w' h => (h.2.cell 1).trans rfl
      have hCm : ∀ w', Bk w' gw 91 (gwC p q (.pointer none) (.pointer none)) ∧ Bk w' w.heap.size 109 (ov ⟨0, n, m, xs⟩ (.slice va xs.length vc)) → w'.cell? ⟨w.heap.size, 2, none⟩ = some (.int .i64 m) := fun w' h => (h.2.cell 2).trans rfl
      have HdV := Lib.hid hdV; have HcV := Lib.hid hcV; have HbxV := Lib.hid hbxV; have HoV := Lib.hid hoV; have HlV := Lib.hid hlV; have Hv1V := Lib.hid hv1V; have HgS := Lib.hid hgS; have HvT := Lib.hid hvT; clear hdV hcV hbxV hoV hlV hv1V hgS hvT
      clear c0 c1' c2 c3
      go_wp2_with fail
      refine wp_region_sq (fun j => j == 9 || j == 19) (fun w' => Bk w' gw 91 (gwC p q (.pointer none) (.pointer none)) ∧ Bk w' w.heap.size 109 (ov ⟨0, n, m, xs⟩ (.slice va xs.length vc))) (by kernel_rfl) (by kernel_rfl) ⟨HdV.out.blk, HbxV.out⟩ (fun _ _ h k => ⟨h.1.mk k, h.2.mk k⟩) ?_
      intro D' hD' hne
      have q1 := @qAt_value Try.prog
      have hX : ∀ k : Nat, False → k < V.heap.size ∧ ¬ S k ∧ ¬ T k := fun _ e => e.elim
      have hTC : ∀ {a c : St} {w' : World}, Two (fun _ => False) S T V p q a c w' → Bk w' gw 91 (gwC p q (.pointer none) (.pointer none)) ∧ Bk w' w.heap.size 109 (ov ⟨0, n, m, xs⟩ (.slice va xs.length vc)) := fun h => ⟨HdV.out.blk.keep h.chg (fun e => e.elim HdV.out.ne.1 (fun e => e.elim HdV.out.ne.2 id)), HbxV.out.keep h.chg (fun e => e.elim hbS (fun e => e.elim hbT id))⟩
      iterate 9 (first | (refine spk (by rfl) (by rfl) (by rfl) (fun K hK => ?_); go_big_quiet_op; first | (refine hK _ ?_; clear hK K) | (apply Exists.intro; refine ⟨fun _ => ?_, hK _ ?_⟩; (exact fun _ => rfl); clear hK K)) | (refine spq (by rfl) (by rfl) (fun K hK => ?_); apply Exists.intro; refine ⟨fun w' hw' => ?_, ?_⟩; (go_simp; exact rfl); (go_simp; refine hK _ ?_; clear hK K)))
      refine sps (by rfl) (by rfl) (fun u w' => u = .int .i64 er ∧ Two (fun _ => False) S T V p q s1 st w') (fun v w1 w2 ⟨h1, h2⟩ k => ⟨h1, h2.mk k⟩) (fun v w' ⟨_, h⟩ => hTC h) (fun w' hw' => ?_) (fun K dv hdv hK => ?_)
      · have hm' := (hD'.out w' hw').1
        clear hw'
        have k1 := format_any (HdV.out.pd.made hm') Hok.out (by omega) (fun x hx => by have := HdV.out.lt x (.inl hx); have := hm'.size; omega) n m _ b (HlV.out.mk hm') (by omega) HgS.out
        rw [Hs1.out] at k1
        have Hm' := Lib.hid hm'; have K1 := Lib.hid k1; clear hm' k1
        go_simp
        refine FrW.sAt_enter ?_
        refine K1.out.mono ?_
        rintro e w'' ⟨rfl, h1, h2⟩
        exact ⟨_, rfl, rfl, Two.stepP (HdV.out.rd.made Hm'.out) (fun _ e => .inl e) (fun _ e => .inl e) (fun x hx => by have := HdV.out.lt x hx; have := Hm'.out.size; omega) HdV.out.dis (Chg.of_mk Hm'.out) hX h1 (h2.sub fun _ _ e => .inl e)⟩
      obtain ⟨wz, rfl, hz2⟩ := hdv
      clear hz2 wz
      go_simp
      refine hK _ ?_
      clear hK K
      iterate 9 (first | (refine spk (by rfl) (by rfl) (by rfl) (fun K hK => ?_); go_big_quiet_op; first | (refine hK _ ?_; clear hK K) | (apply Exists.intro; refine ⟨fun _ => ?_, hK _ ?_⟩; (exact fun _ => rfl); clear hK K)) | (refine spq (by rfl) (by rfl) (fun K hK => ?_); apply Exists.intro; refine ⟨fun w' hw' => ?_, ?_⟩; (go_simp; exact rfl); (go_simp; refine hK _ ?_; clear hK K)))
      refine sps (by rfl) (by rfl) (fun u w' => u = .int .i64 er ∧ Two (fun _ => False) S T V p q s1 s1 w') (fun v w1 w2 ⟨h1, h2⟩ k => ⟨h1, h2.mk k⟩) (fun v w' ⟨_, h⟩ => hTC h) (fun w' hw' => ?_) (fun K dv hdv hK => ?_)
      · obtain ⟨_, S', T', p1, p2, p3, p4, p5, p6, p7⟩ := hw'
        have k1 := rformat_any p2 Hok.out (by omega) (fun x hx => p5 x (.inr hx)) n m _ b (bs_keep Hv1V.out p7 (fun x hx h0 _ e => by
          have h1 := HvT.out x hx h0
          rcases e with e | e | e
          · have := Hb.out x (.inl e); omega
          · have := Hb.out x (.inr (.inl e)); omega
          · exact e)) (by omega) (fun x hx h0 e => by
          have h1 := HvT.out x hx h0
          rcases p4 x e with e | e
          · have := Hb.out x (.inr (.inl e)); omega
          · have := HzW.out; have := Hz0.out; omega)
        rw [Hfe.out] at k1
        have P1 := Lib.hid p1; have P2 := Lib.hid p2; have P3 := Lib.hid p3; have P4 := Lib.hid p4; have P5 := Lib.hid p5; have P6 := Lib.hid p6; have P7 := Lib.hid p7; have K1 := Lib.hid k1; clear p1 p2 p3 p4 p5 p6 p7 k1
        go_simp
        refine FrW.sAt_enter ?_
        refine K1.out.mono ?_
        rintro e w'' ⟨rfl, h1, h2⟩
        exact ⟨_, rfl, rfl, Two.stepR P1.out P3.out P4.out P5.out P6.out P7.out hX h1 (h2.sub fun _ _ e => .inl e)⟩
      obtain ⟨wz, rfl, hz2⟩ := hdv
      clear hz2 wz
      go_simp
      refine hK _ ?_
      clear hK K
      iterate 2 (first | (refine spk (by rfl) (by rfl) (by rfl) (fun K hK => ?_); go_big_quiet_op; first | (refine hK _ ?_; clear hK K) | (apply Exists.intro; refine ⟨fun _ => ?_, hK _ ?_⟩; (exact fun _ => rfl); clear hK K)) | (refine spq (by rfl) (by rfl) (fun K hK => ?_); apply Exists.intro; refine ⟨fun w' hw' => ?_, ?_⟩; (go_simp; exact rfl); (go_simp; refine hK _ ?_; clear hK K)))
      refine sp_nil ?_
      rintro w2 ⟨_, htw⟩
      have hbk2 := hTC htw
      clear hD' D' hne q1 hC0 hC2 hCn hCm hTC hX
      have Htw := Lib.hid htw; have Hbk2 := Lib.hid hbk2; clear htw hbk2
      go_wp2_with fail
      go_meet
      rw [← Hspx.out]
      exact ⟨rfl, Two.ws HdV.out Htw.out Hbk2.out.1 (fun S' T' _ _ => ⟨rfl, rfl⟩) (fun x hx => hx.elim (fun e => HA.out x (.inl e)) (fun hx => hx.elim (fun e => HA.out x (.inr (.inl e))) (fun hx => hx.elim (fun e => HA.out x (.inr (.inr e))) (fun e => Hnew.out x (by omega))))), Chg.trans (HcV.out.sub fun x _ e => HA.out x e) Htw.out.chg (fun x _ e => HA.out x (e.elim .inl (fun e => e.elim (fun e => .inr (.inl e)) (fun e => e.elim))))⟩
    rw [if_neg h0] at hspx
    have n0 : (kind == 0) = false := by simpa using h0
    by_cases h1 : kind = 1
    · rw [if_pos h1] at hspx
      subst h1
      have hops := opens_any HdW.out Hok.out (by omega) Hlen.out
      have Hops := Lib.hid hops; have Hspx := Lib.hid hspx; clear hops hspx
      clear h0 n0 c1' c3
      go_wp2_with fail
      refine Hops.out.mono ?_
      rintro e w' ⟨rfl, lv', mv', hd', hl', hc'⟩
      have Hd' := Lib.hid hd'; have Hl' := Lib.hid hl'; have Hc' := Lib.hid hc'; clear hd' hl' hc'
      go_wp2_with fail
      go_meet
      rw [← Hspx.out]
      exact ⟨rfl, ⟨S, T, lv', mv', Hd'.out, LogP.lower Hl'.out (by have := Hz0.out; have := HzW.out; omega), HA.out⟩, Hc'.out.sub fun x _ e => HA.out x e⟩
    rw [if_neg h1] at hspx
    have n1 : (kind == 1) = false := by simpa using h1
    by_cases h2 : kind = 2
    · rw [if_pos h2] at hspx
      subst h2
      clear h0 h1
      cases lo with
      | none =>
        obtain ⟨rfl, rfl⟩ := HlW.out
        have Hspx := Lib.hid hspx; clear hspx
        clear c0 c2
        go_wp2_with fail
        go_meet
        rw [← Hspx.out]
        exact ⟨rfl, ⟨S, T, _, _, HdW.out, ⟨rfl, rfl⟩, HA.out⟩, Chg.refl _ _⟩
      | some L =>
        obtain ⟨g, g', sv, rfl, rfl, hbg, hbg', ⟨ng1, ng2, ng3, ng4⟩, hsv, hgb, hgb'⟩ := HlW.out
        have hLi := Hinv.out.log L rfl
        have hgl2 := hbg.lt
        have hgl3 := hbg'.lt
        have hgg : g ≠ g' := fun e => by subst e; have := (Bk.uniq hbg hbg').1; cases this
        have hgw1 : gw ≠ g := fun e => by subst e; have := (Bk.uniq hbg HdW.out.blk).1; cases this
        have hgw2 : gw ≠ g' := fun e => by subst e; have := (Bk.uniq hbg' HdW.out.blk).1; cases this
        obtain ⟨cur, hcur⟩ := own_bk Hol.out rfl
        have hglg : g ≠ gl := fun e => by subst e; have := (Bk.uniq hbg hcur).1; cases this
        have hglg' : g' ≠ gl := fun e => by subst e; have := (Bk.uniq hbg' hcur).1; cases this
        have hgx : g ≠ w.heap.size := fun e => by subst e; have := (Bk.uniq hbg HbxW.out).1; cases this
        have hgx' : g' ≠ w.heap.size := fun e => by subst e; have := (Bk.uniq hbg' HbxW.out).1; cases this
        have hlW2 : Bs W (.slice (some ⟨gl, 0, none⟩) b.length (b.length + 8)) b := by
          have h1 : Bs W (.slice (some ⟨gl, 0, none⟩) (b.length + 8) (b.length + 8)) (b ++ List.replicate 8 201) := by have := own_sl Hol.out; rw [Bs]; simpa using this
          have h2 := FrW.Sl.taken h1 b.length (by simp)
          rw [List.take_left'] at h2
          · exact h2
          · rfl
        have hvT : ∀ x, (Value.slice a1 b.length c1).ownBlock = some x → 0 < b.length → x < base := fun x hx h0 => Hvb.out x (by rw [← Hvb1.out]; exact hx) (by have := Hxb.out; rw [← this] at h0; simp at h0; omega)
        obtain ⟨ae1, ae2, _⟩ := app_eq hLi b
        have hrl : rlC q (lapp st L b).2.1 sv = rlC q L sv := lapp_rl st L b q sv
        obtain ⟨s1, L1, er, hs1⟩ : ∃ x y z, lapp st L b = (x, y, z) := ⟨_, _, _, rfl⟩
        rw [hs1] at ae1 ae2 hrl
        simp only [hs1] at hspx
        have hr1 : appR st L b = (s1, er) := by rw [Prod.ext_iff]; exact ⟨ae1.symm, ae2.symm⟩
        have Hr1 := Lib.hid hr1; have Hrl := Lib.hid hrl; clear hr1 hrl
        clear ae1 ae2
        have hee : (er == er) = true := by simp
        have Hspx := Lib.hid hspx; have Hs1 := Lib.hid hs1; have HLi := Lib.hid hLi; have Hbg := Lib.hid hbg; have Hbg' := Lib.hid hbg'; have HlW2 := Lib.hid hlW2; have HvT := Lib.hid hvT; have Hcur := Lib.hid hcur; clear hspx hs1 hLi hbg hbg' hlW2 hvT hcur
        have hC1 : ∀ w', Bk w' gw 91 (gwC p q (.pointer (some ⟨g, 0, none⟩)) (.pointer (some ⟨g', 0, none⟩))) → w'.cell? ⟨gw, 1, none⟩ = some (.pointer (some ⟨g, 0, none⟩)) := fun w' h => (h.cell 1).trans rfl
        have hC3 : ∀ w', Bk w' gw 91 (gwC p q (.pointer (some ⟨g, 0, none⟩)) (.pointer (some ⟨g', 0, none⟩))) → w'.cell? ⟨gw, 3, none⟩ = some (.pointer (some ⟨g', 0, none⟩)) := fun w' h => (h.cell 3).trans rfl
        have hX : ∀ k : Nat, (k = g ∨ k = g') → k < W.heap.size ∧ ¬ S k ∧ ¬ T k := fun k e => e.elim (fun e => by subst e; exact ⟨hgl2, ng1, ng2⟩) (fun e => by subst e; exact ⟨hgl3, ng3, ng4⟩)
        have hTC : ∀ {a c : St} {w' : World}, Two (fun k => k = g ∨ k = g') S T W p q a c w' → Bk w' gw 91 (gwC p q (.pointer (some ⟨g, 0, none⟩)) (.pointer (some ⟨g', 0, none⟩))) := fun h => HdW.out.blk.keep h.chg (fun e => e.elim HdW.out.ne.1 (fun e => e.elim HdW.out.ne.2 (fun e => e.elim hgw1 hgw2)))
        clear c0 c2
        go_wp2_with fail
        refine wp_region_sq (fun j => j == 5 || j == 11) (fun w' => Bk w' gw 91 (gwC p q (.pointer (some ⟨g, 0, none⟩)) (.pointer (some ⟨g', 0, none⟩)))) (by kernel_rfl) (by kernel_rfl) HdW.out.blk (fun _ _ h k => h.mk k) ?_
        intro D' hD' hne
        have q1 := @qAt_value Try.prog
        iterate 5 (first | (refine spk (by rfl) (by rfl) (by rfl) (fun K hK => ?_); go_big_quiet_op; first | (refine hK _ ?_; clear hK K) | (apply Exists.intro; refine ⟨fun _ => ?_, hK _ ?_⟩; (exact fun _ => rfl); clear hK K)) | (refine spq (by rfl) (by rfl) (fun K hK => ?_); apply Exists.intro; refine ⟨fun w' hw' => ?_, ?_⟩; (go_simp; exact rfl); (go_simp; refine hK _ ?_; clear hK K)))
        refine sps (by rfl) (by rfl) (fun u w' => u = .int .i64 er ∧ Two (fun k => k = g ∨ k = g') S T W p q s1 st w' ∧ Bk w' g 175 (lgC p L1) ∧ Bk w' g' 204 (rlC q L sv)) (fun v w1 w2 ⟨h1, h2, h3, h4⟩ k => ⟨h1, h2.mk k, h3.mk k, h4.mk k⟩) (fun v w' ⟨_, h, _⟩ => hTC h) (fun w' hw' => ?_) (fun K dv hdv hK => ?_)
        · have hm' := (hD'.out w' hw').1
          clear hw'
          have k1 := lappend_any (Hbg.out.mk hm') (HdW.out.pd.made hm') Hok.out (by omega) (fun x hx => by have := HdW.out.lt x (.inl hx); have := hm'.size; omega) ng1 (by have := HLi.out.size; have := HLi.out.cap; omega) _ b (HlW2.out.mk hm') (by omega)
          rw [Hs1.out] at k1
          have Hm' := Lib.hid hm'; have K1 := Lib.hid k1; clear hm' k1
          go_simp
          refine FrW.sAt_enter ?_
          refine K1.out.mono ?_
          rintro e w'' ⟨rfl, h1, h2, h3⟩
          exact ⟨_, rfl, rfl, Two.stepP (HdW.out.rd.made Hm'.out) (fun _ e => .inl e) (fun _ e => .inl e) (fun x hx => by have := HdW.out.lt x hx; have := Hm'.out.size; omega) HdW.out.dis (Chg.of_mk Hm'.out) hX h1 (h3.sub fun _ _ e => e.imp_right .inl), h2, (Hbg'.out.mk Hm'.out).keep h3 (fun e => e.elim ng3 (fun e => hgg e.symm))⟩
        obtain ⟨wz, rfl, hz2, hz3, hz4⟩ := hdv
        clear hz2 hz3 hz4 wz
        go_simp
        refine hK _ ?_
        clear hK K
        iterate 5 (first | (refine spk (by rfl) (by rfl) (by rfl) (fun K hK => ?_); go_big_quiet_op; first | (refine hK _ ?_; clear hK K) | (apply Exists.intro; refine ⟨fun _ => ?_, hK _ ?_⟩; (exact fun _ => rfl); clear hK K)) | (refine spq (by rfl) (by rfl) (fun K hK => ?_); apply Exists.intro; refine ⟨fun w' hw' => ?_, ?_⟩; (go_simp; exact rfl); (go_simp; refine hK _ ?_; clear hK K)))
        refine sps (by rfl) (by rfl) (fun u w' => u = .int .i64 er ∧ Two (fun k => k = g ∨ k = g') S T W p q s1 s1 w' ∧ Bk w' g 175 (lgC p L1) ∧ ∃ sv' : Value, sv'.oneCell' = true ∧ Bk w' g' 204 (rlC q L1 sv')) (fun v w1 w2 ⟨h1, h2, h3, sv', h4, h5⟩ k => ⟨h1, h2.mk k, h3.mk k, sv', h4, h5.mk k⟩) (fun v w' ⟨_, h, _⟩ => hTC h) (fun w' hw' => ?_) (fun K dv hdv hK => ?_)
        · obtain ⟨_, ⟨S', T', p1, p2, p3, p4, p5, p6, p7⟩, b1, b2⟩ := hw'
          have hnT : ¬ T' g' := fun e => (p4 _ e).elim ng4 (fun e => by omega)
          have hnTg : ¬ T' g := fun e => (p4 _ e).elim ng2 (fun e => by omega)
          have hbv := bs_keep (Hv1.out.mk Hm1.out) p7 (fun x hx h0 _ e => by
            have h1 := HvT.out x hx h0
            rcases e with e | e | e | e
            · have := Hb.out x (.inl e); omega
            · have := Hb.out x (.inr (.inl e)); omega
            · omega
            · omega)
          have k1 := rlappend_any b2 p2 Hok.out (by omega) (fun x hx => p5 x (.inr hx)) hnT _ b hbv (by omega)
          rw [Hr1.out] at k1
          have P1 := Lib.hid p1; have P2 := Lib.hid p2; have P3 := Lib.hid p3; have P4 := Lib.hid p4; have P5 := Lib.hid p5; have P6 := Lib.hid p6; have P7 := Lib.hid p7; have K1 := Lib.hid k1; have B1 := Lib.hid b1; have B2 := Lib.hid b2; clear p1 p2 p3 p4 p5 p6 p7 k1 b1 b2
          go_simp
          refine FrW.sAt_enter ?_
          refine K1.out.mono ?_
          rintro e w'' ⟨rfl, h1, h2, h3⟩
          exact ⟨_, rfl, rfl, Two.stepR P1.out P3.out P4.out P5.out P6.out P7.out hX h1 (h3.sub fun _ _ e => .inl e), B1.out.keep h3 hnTg, sv, hsv, by rw [Hrl.out]; exact h2⟩
        obtain ⟨wz, rfl, hz2, hz3, hz4⟩ := hdv
        clear hz2 hz3 hz4 wz
        go_simp
        refine hK _ ?_
        clear hK K
        iterate 2 (first | (refine spk (by rfl) (by rfl) (by rfl) (fun K hK => ?_); go_big_quiet_op; first | (refine hK _ ?_; clear hK K) | (apply Exists.intro; refine ⟨fun _ => ?_, hK _ ?_⟩; (exact fun _ => rfl); clear hK K)) | (refine spq (by rfl) (by rfl) (fun K hK => ?_); apply Exists.intro; refine ⟨fun w' hw' => ?_, ?_⟩; (go_simp; exact rfl); (go_simp; refine hK _ ?_; clear hK K)))
        refine sp_nil ?_
        rintro w2 ⟨_, htw, hb1, sv', hsv', hb2⟩
        have hbk2 := hTC htw
        clear hD' D' hne q1 hC1 hC3 hTC
        have Htw := Lib.hid htw; have Hbk2 := Lib.hid hbk2; have Hb1 := Lib.hid hb1; have Hb2 := Lib.hid hb2; clear htw hbk2 hb1 hb2
        go_wp2_with fail
        go_meet
        rw [← Hspx.out]
        refine ⟨rfl, Two.ws HdW.out Htw.out Hbk2.out (fun S' T' h3 h4 => ⟨g, g', sv', rfl, rfl, Hb1.out, Hb2.out, ⟨fun e => (h3 _ e).elim ng1 (fun e => by omega), fun e => (h4 _ e).elim ng2 (fun e => by omega), fun e => (h3 _ e).elim ng3 (fun e => by omega), fun e => (h4 _ e).elim ng4 (fun e => by omega)⟩, hsv', hgb, hgb'⟩) (fun x hx => hx.elim (fun e => HA.out x (.inl e)) (fun hx => hx.elim (fun e => HA.out x (.inr (.inl e))) (fun hx => hx.elim (fun e => HA.out x (.inr (.inr e))) (fun e => Hnew.out x e)))), ?_⟩
        exact Htw.out.chg.sub (fun x _ e => e.elim (fun e => HA.out x (.inl e)) (fun e => e.elim (fun e => HA.out x (.inr (.inl e))) (fun e => e.elim (fun e => by subst e; exact ⟨hgb, hglg, hgx⟩) (fun e => by subst e; exact ⟨hgb', hglg', hgx'⟩))))
    rw [if_neg h2] at hspx
    have n2 : (kind == 2) = false := by simpa using h2
    by_cases h3 : kind = 3
    · rw [if_pos h3] at hspx
      subst h3
      clear h0 h1 h2
      cases lo with
      | none =>
        obtain ⟨rfl, rfl⟩ := HlW.out
        have Hspx := Lib.hid hspx; clear hspx
        clear c0 c2
        go_wp2_with fail
        go_meet
        rw [← Hspx.out]
        exact ⟨rfl, ⟨S, T, _, _, HdW.out, ⟨rfl, rfl⟩, HA.out⟩, Chg.refl _ _⟩
      | some L =>
        obtain ⟨g, g', sv, rfl, rfl, hbg, hbg', ⟨ng1, ng2, ng3, ng4⟩, hsv, hgb, hgb'⟩ := HlW.out
        have hLi := Hinv.out.log L rfl
        have hgl2 := hbg.lt
        have hgl3 := hbg'.lt
        have hgg : g ≠ g' := fun e => by subst e; have := (Bk.uniq hbg hbg').1; cases this
        have hgw1 : gw ≠ g := fun e => by subst e; have := (Bk.uniq hbg HdW.out.blk).1; cases this
        have hgw2 : gw ≠ g' := fun e => by subst e; have := (Bk.uniq hbg' HdW.out.blk).1; cases this
        obtain ⟨cur, hcur⟩ := own_bk Hol.out rfl
        have hglg : g ≠ gl := fun e => by subst e; have := (Bk.uniq hbg hcur).1; cases this
        have hglg' : g' ≠ gl := fun e => by subst e; have := (Bk.uniq hbg' hcur).1; cases this
        have hgx : g ≠ w.heap.size := fun e => by subst e; have := (Bk.uniq hbg HbxW.out).1; cases this
        have hgx' : g' ≠ w.heap.size := fun e => by subst e; have := (Bk.uniq hbg' HbxW.out).1; cases this
        have hlW2 : Bs W (.slice (some ⟨gl, 0, none⟩) b.length (b.length + 8)) b := by
          have h1 : Bs W (.slice (some ⟨gl, 0, none⟩) (b.length + 8) (b.length + 8)) (b ++ List.replicate 8 201) := by have := own_sl Hol.out; rw [Bs]; simpa using this
          have h2 := FrW.Sl.taken h1 b.length (by simp)
          rw [List.take_left'] at h2
          · exact h2
          · rfl
        have hvT : ∀ x, (Value.slice a1 b.length c1).ownBlock = some x → 0 < b.length → x < base := fun x hx h0 => Hvb.out x (by rw [← Hvb1.out]; exact hx) (by have := Hxb.out; rw [← this] at h0; simp at h0; omega)
        obtain ⟨ae1, _⟩ := chk_eq hLi b
        obtain ⟨s1, L1, er, hs1⟩ : ∃ x y z, lck st L b = (x, y, z) := ⟨_, _, _, rfl⟩
        rw [hs1] at ae1
        simp only [hs1] at hspx
        have hr1 := ae1
        have Hr1 := Lib.hid hr1; clear hr1
        clear ae1
        have hee : (er == er) = true := by simp
        have Hspx := Lib.hid hspx; have Hs1 := Lib.hid hs1; have HLi := Lib.hid hLi; have Hbg := Lib.hid hbg; have Hbg' := Lib.hid hbg'; have HlW2 := Lib.hid hlW2; have HvT := Lib.hid hvT; have Hcur := Lib.hid hcur; clear hspx hs1 hLi hbg hbg' hlW2 hvT hcur
        have hC1 : ∀ w', Bk w' gw 91 (gwC p q (.pointer (some ⟨g, 0, none⟩)) (.pointer (some ⟨g', 0, none⟩))) → w'.cell? ⟨gw, 1, none⟩ = some (.pointer (some ⟨g, 0, none⟩)) := fun w' h => (h.cell 1).trans rfl
        have hC3 : ∀ w', Bk w' gw 91 (gwC p q (.pointer (some ⟨g, 0, none⟩)) (.pointer (some ⟨g', 0, none⟩))) → w'.cell? ⟨gw, 3, none⟩ = some (.pointer (some ⟨g', 0, none⟩)) := fun w' h => (h.cell 3).trans rfl
        have hX : ∀ k : Nat, (k = g ∨ k = g') → k < W.heap.size ∧ ¬ S k ∧ ¬ T k := fun k e => e.elim (fun e => by subst e; exact ⟨hgl2, ng1, ng2⟩) (fun e => by subst e; exact ⟨hgl3, ng3, ng4⟩)
        have hTC : ∀ {a c : St} {w' : World}, Two (fun k => k = g ∨ k = g') S T W p q a c w' → Bk w' gw 91 (gwC p q (.pointer (some ⟨g, 0, none⟩)) (.pointer (some ⟨g', 0, none⟩))) := fun h => HdW.out.blk.keep h.chg (fun e => e.elim HdW.out.ne.1 (fun e => e.elim HdW.out.ne.2 (fun e => e.elim hgw1 hgw2)))
        clear c0 c2
        go_wp2_with fail
        refine wp_region_sq (fun j => j == 5 || j == 11) (fun w' => Bk w' gw 91 (gwC p q (.pointer (some ⟨g, 0, none⟩)) (.pointer (some ⟨g', 0, none⟩)))) (by kernel_rfl) (by kernel_rfl) HdW.out.blk (fun _ _ h k => h.mk k) ?_
        intro D' hD' hne
        have q1 := @qAt_value Try.prog
        iterate 5 (first | (refine spk (by rfl) (by rfl) (by rfl) (fun K hK => ?_); go_big_quiet_op; first | (refine hK _ ?_; clear hK K) | (apply Exists.intro; refine ⟨fun _ => ?_, hK _ ?_⟩; (exact fun _ => rfl); clear hK K)) | (refine spq (by rfl) (by rfl) (fun K hK => ?_); apply Exists.intro; refine ⟨fun w' hw' => ?_, ?_⟩; (go_simp; exact rfl); (go_simp; refine hK _ ?_; clear hK K)))
        refine sps (by rfl) (by rfl) (fun u w' => u = .int .i64 er ∧ Two (fun k => k = g ∨ k = g') S T W p q s1 st w' ∧ Bk w' g 175 (lgC p L1) ∧ Bk w' g' 204 (rlC q L sv)) (fun v w1 w2 ⟨h1, h2, h3, h4⟩ k => ⟨h1, h2.mk k, h3.mk k, h4.mk k⟩) (fun v w' ⟨_, h, _⟩ => hTC h) (fun w' hw' => ?_) (fun K dv hdv hK => ?_)
        · have hm' := (hD'.out w' hw').1
          clear hw'
          have k1 := lcheck_any (Hbg.out.mk hm') (HdW.out.pd.made hm') Hok.out (by omega) (fun x hx => by have := HdW.out.lt x (.inl hx); have := hm'.size; omega) ng1 (HLi.out.ok (by omega)) _ b (HlW2.out.mk hm') (by omega)
          rw [Hs1.out] at k1
          have Hm' := Lib.hid hm'; have K1 := Lib.hid k1; clear hm' k1
          go_simp
          refine FrW.sAt_enter ?_
          refine K1.out.mono ?_
          rintro e w'' ⟨rfl, h1, h2, h3⟩
          exact ⟨_, rfl, rfl, Two.stepP (HdW.out.rd.made Hm'.out) (fun _ e => .inl e) (fun _ e => .inl e) (fun x hx => by have := HdW.out.lt x hx; have := Hm'.out.size; omega) HdW.out.dis (Chg.of_mk Hm'.out) hX h1 (h3.sub fun _ _ e => e.imp_right .inl), h2, (Hbg'.out.mk Hm'.out).keep h3 (fun e => e.elim ng3 (fun e => hgg e.symm))⟩
        obtain ⟨wz, rfl, hz2, hz3, hz4⟩ := hdv
        clear hz2 hz3 hz4 wz
        go_simp
        refine hK _ ?_
        clear hK K
        iterate 5 (first | (refine spk (by rfl) (by rfl) (by rfl) (fun K hK => ?_); go_big_quiet_op; first | (refine hK _ ?_; clear hK K) | (apply Exists.intro; refine ⟨fun _ => ?_, hK _ ?_⟩; (exact fun _ => rfl); clear hK K)) | (refine spq (by rfl) (by rfl) (fun K hK => ?_); apply Exists.intro; refine ⟨fun w' hw' => ?_, ?_⟩; (go_simp; exact rfl); (go_simp; refine hK _ ?_; clear hK K)))
        refine sps (by rfl) (by rfl) (fun u w' => u = .int .i64 er ∧ Two (fun k => k = g ∨ k = g') S T W p q s1 s1 w' ∧ Bk w' g 175 (lgC p L1) ∧ ∃ sv' : Value, sv'.oneCell' = true ∧ Bk w' g' 204 (rlC q L1 sv')) (fun v w1 w2 ⟨h1, h2, h3, sv', h4, h5⟩ k => ⟨h1, h2.mk k, h3.mk k, sv', h4, h5.mk k⟩) (fun v w' ⟨_, h, _⟩ => hTC h) (fun w' hw' => ?_) (fun K dv hdv hK => ?_)
        · obtain ⟨_, ⟨S', T', p1, p2, p3, p4, p5, p6, p7⟩, b1, b2⟩ := hw'
          have hnT : ¬ T' g' := fun e => (p4 _ e).elim ng4 (fun e => by omega)
          have hnTg : ¬ T' g := fun e => (p4 _ e).elim ng2 (fun e => by omega)
          have hbv := bs_keep (Hv1.out.mk Hm1.out) p7 (fun x hx h0 _ e => by
            have h1 := HvT.out x hx h0
            rcases e with e | e | e | e
            · have := Hb.out x (.inl e); omega
            · have := Hb.out x (.inr (.inl e)); omega
            · omega
            · omega)
          have k1 := rlcheck_any b2 p2 Hok.out (by omega) (fun x hx => p5 x (.inr hx)) hnT (HLi.out.ok (by omega)) _ b hbv (by omega) hsv (fun x hx h0 e => by
            have h1 := HvT.out x hx h0
            rcases p4 x e with e | e
            · have := Hb.out x (.inr (.inl e)); omega
            · have := HzW.out; have := Hz0.out; omega)
          rw [Hr1.out] at k1
          have P1 := Lib.hid p1; have P2 := Lib.hid p2; have P3 := Lib.hid p3; have P4 := Lib.hid p4; have P5 := Lib.hid p5; have P6 := Lib.hid p6; have P7 := Lib.hid p7; have K1 := Lib.hid k1; have B1 := Lib.hid b1; have B2 := Lib.hid b2; clear p1 p2 p3 p4 p5 p6 p7 k1 b1 b2
          go_simp
          refine FrW.sAt_enter ?_
          refine K1.out.mono ?_
          rintro e w'' ⟨rfl, sv', h0, h1, h2, h3⟩
          exact ⟨_, rfl, rfl, Two.stepR P1.out P3.out P4.out P5.out P6.out P7.out hX h1 (h3.sub fun _ _ e => e.imp_right .inr), B1.out.keep h3 (fun e => e.elim hnTg hgg), sv', h0, h2⟩
        obtain ⟨wz, rfl, hz2, hz3, hz4⟩ := hdv
        clear hz2 hz3 hz4 wz
        go_simp
        refine hK _ ?_
        clear hK K
        iterate 2 (first | (refine spk (by rfl) (by rfl) (by rfl) (fun K hK => ?_); go_big_quiet_op; first | (refine hK _ ?_; clear hK K) | (apply Exists.intro; refine ⟨fun _ => ?_, hK _ ?_⟩; (exact fun _ => rfl); clear hK K)) | (refine spq (by rfl) (by rfl) (fun K hK => ?_); apply Exists.intro; refine ⟨fun w' hw' => ?_, ?_⟩; (go_simp; exact rfl); (go_simp; refine hK _ ?_; clear hK K)))
        refine sp_nil ?_
        rintro w2 ⟨_, htw, hb1, sv', hsv', hb2⟩
        have hbk2 := hTC htw
        clear hD' D' hne q1 hC1 hC3 hTC
        have Htw := Lib.hid htw; have Hbk2 := Lib.hid hbk2; have Hb1 := Lib.hid hb1; have Hb2 := Lib.hid hb2; clear htw hbk2 hb1 hb2
        go_wp2_with fail
        go_meet
        rw [← Hspx.out]
        refine ⟨rfl, Two.ws HdW.out Htw.out Hbk2.out (fun S' T' h3 h4 => ⟨g, g', sv', rfl, rfl, Hb1.out, Hb2.out, ⟨fun e => (h3 _ e).elim ng1 (fun e => by omega), fun e => (h4 _ e).elim ng2 (fun e => by omega), fun e => (h3 _ e).elim ng3 (fun e => by omega), fun e => (h4 _ e).elim ng4 (fun e => by omega)⟩, hsv', hgb, hgb'⟩) (fun x hx => hx.elim (fun e => HA.out x (.inl e)) (fun hx => hx.elim (fun e => HA.out x (.inr (.inl e))) (fun hx => hx.elim (fun e => HA.out x (.inr (.inr e))) (fun e => Hnew.out x e)))), ?_⟩
        exact Htw.out.chg.sub (fun x _ e => e.elim (fun e => HA.out x (.inl e)) (fun e => e.elim (fun e => HA.out x (.inr (.inl e))) (fun e => e.elim (fun e => by subst e; exact ⟨hgb, hglg, hgx⟩) (fun e => by subst e; exact ⟨hgb', hglg', hgx'⟩))))
    rw [if_neg h3] at hspx
    have n3 : (kind == 3) = false := by simpa using h3
    by_cases h4 : kind = 4
    · rw [if_pos h4] at hspx
      subst h4
      have hbS : ¬ S w.heap.size := fun e => by have := H.out.lt _ (.inl e); omega
      have hbT : ¬ T w.heap.size := fun e => by have := H.out.lt _ (.inr e); omega
      clear h0 h1 h2 h3 c1' c3
      have cn : W.cell? ⟨w.heap.size, 1, none⟩ = some (.int .i64 n) := (HbxW.out.cell 1).trans rfl
      have cm : W.cell? ⟨w.heap.size, 2, none⟩ = some (.int .i64 m) := (HbxW.out.cell 2).trans rfl
      have e0 := World.new_ne W _ c0
      have e2 := World.new_ne W _ c2
      have en := World.new_ne W _ cn
      have em := World.new_ne W _ cm
      obtain ⟨s1, er, hs1⟩ : ∃ a c, st.light n [m, m] = (a, c) := ⟨_, _, rfl⟩
      have hspy : (s1, lo) = sp := by rw [← hspx]; show _ = ((st.light n [m, m]).1, lo); rw [hs1]
      clear hspx
      have Hspx := Lib.hid hspy
      clear hspy
      go_wp2_with fail
      have hee : (er == er) = true := by simp
      have hSl : ∀ x, S x → x < W.heap.size := fun x e => HdW.out.lt x (.inl e)
      have M1 : Hid (Mk W (W.alloc (.cells #[.int .i64 m, .int .i64 m] 3)).drew) := Lib.hid (mk_trans (mk_alloc _ _) (mk_drew' _))
      have M2 : Hid (Mk W ((W.alloc (.cells #[.int .i64 m, .int .i64 m] 3)).alloc (.cells #[.int .i64 m, .int .i64 m] 3)).drew) := Lib.hid (mk_trans (mk_alloc _ _) (mk_trans (mk_alloc _ _) (mk_drew' _)))
      have J1 : Hid (Is (W.alloc (.cells #[.int .i64 m, .int .i64 m] 3)).drew (.slice (some ⟨W.heap.size, 0, none⟩) 2 2) [m, m]) := Lib.hid ((is_lit W m).mk (mk_drew' _))
      have J2 : Hid (Is ((W.alloc (.cells #[.int .i64 m, .int .i64 m] 3)).alloc (.cells #[.int .i64 m, .int .i64 m] 3)).drew (.slice (some ⟨W.heap.size, 0, none⟩) 2 2) [m, m]) := Lib.hid ((is_lit W m).mk (mk_trans (mk_alloc _ _) (mk_drew' _)))
      have J3 : Hid (Is ((W.alloc (.cells #[.int .i64 m, .int .i64 m] 3)).alloc (.cells #[.int .i64 m, .int .i64 m] 3)).drew (.slice (some ⟨W.heap.size + 1, 0, none⟩) 2 2) [m, m]) := Lib.hid (by have := is_lit (W.alloc (.cells #[.int .i64 m, .int .i64 m] 3)) m; exact (show Is _ (.slice (some ⟨W.heap.size + 1, 0, none⟩) 2 2) [m, m] from by rwa [show (W.alloc (.cells #[.int .i64 m, .int .i64 m] 3)).heap.size = W.heap.size + 1 from Array.size_push ..] at this).mk (mk_drew' _))
      have O0 : ∀ x, (Value.slice (some ⟨W.heap.size, 0, none⟩) 2 2).ownBlock = some x → W.heap.size ≤ x := fun x e => by cases e; exact Nat.le_refl _
      have O1 : ∀ x, (Value.slice (some ⟨W.heap.size + 1, 0, none⟩) 2 2).ownBlock = some x → W.heap.size ≤ x := fun x e => by cases e; exact Nat.le_succ _
      have O2 : ∀ (V : World), W.heap.size ≤ V.heap.size → ∀ x, (Value.slice (some ⟨V.heap.size, 0, none⟩) 2 2).ownBlock = some x → W.heap.size ≤ x := fun V hV x e => by cases e; exact hV
      have hcl : ∀ (Wc w' : World), FuP S T W Wc p q s1 st w' → w'.cell? ⟨gw, 0, none⟩ = some (.pointer (some ⟨p, 0, none⟩)) ∧ w'.cell? ⟨gw, 2, none⟩ = some (.pointer (some ⟨q, 0, none⟩)) ∧ w'.cell? ⟨w.heap.size, 1, none⟩ = some (.int .i64 n) ∧ w'.cell? ⟨w.heap.size, 2, none⟩ = some (.int .i64 m) ∧ W.heap.size ≤ w'.heap.size := fun Wc w' h => by
        have hb := (HdW.out.blk.mk h.made).keep h.chg HdW.out.ne.1
        have hx := (HbxW.out.mk h.made).keep h.chg hbS
        exact ⟨gw_0 hb, gw_2 hb, (hx.cell 1).trans rfl, (hx.cell 2).trans rfl, by have := h.made.size; have := h.chg.size; omega⟩
      have hcl2 : ∀ (w' : World), Two (fun _ => False) S T W p q s1 s1 w' → w'.cell? ⟨gw, 0, none⟩ = some (.pointer (some ⟨p, 0, none⟩)) ∧ w'.cell? ⟨gw, 2, none⟩ = some (.pointer (some ⟨q, 0, none⟩)) ∧ w'.cell? ⟨w.heap.size, 1, none⟩ = some (.int .i64 n) ∧ w'.cell? ⟨w.heap.size, 2, none⟩ = some (.int .i64 m) := fun w' h => by
        have hb := HdW.out.blk.keep h.chg (fun e => e.elim HdW.out.ne.1 (fun e => e.elim HdW.out.ne.2 id))
        have hx := HbxW.out.keep h.chg (fun e => e.elim hbS (fun e => e.elim hbT id))
        exact ⟨gw_0 hb, gw_2 hb, (hx.cell 1).trans rfl, (hx.cell 2).trans rfl⟩
      have HO0 := Lib.hid O0
      have HO1 := Lib.hid O1
      have HO2 := Lib.hid O2
      have HCL := Lib.hid hcl
      have HCL2 := Lib.hid hcl2
      have Hs1 := Lib.hid hs1; have HSl := Lib.hid hSl; clear hs1 hSl
      clear O0 O1 O2 hcl hcl2
      go_region_held3 (fun w' => w'.cell? ⟨gw, 0, none⟩ = some (.pointer (some ⟨p, 0, none⟩)) ∧ w'.cell? ⟨gw, 2, none⟩ = some (.pointer (some ⟨q, 0, none⟩)) ∧ w'.cell? ⟨w.heap.size, 1, none⟩ = some (.int .i64 n) ∧ w'.cell? ⟨w.heap.size, 2, none⟩ = some (.int .i64 m)) (go_keep)
        (first
          | (go_at_call 41; refine (fu1 HdW.out Hs1.out ?hm _ ?hi).mono ?_; (case hm => with_reducible first | exact M1.out | exact M2.out); (case hi => with_reducible first | exact J1.out | exact J2.out | exact J3.out); rintro e w' ⟨rfl, hP⟩; obtain ⟨s0, s2, sn, sm, hzw⟩ := HCL.out _ _ hP; have HP := Lib.hid hP; clear hP; have z0 := World.new_ne w' _ s0; have z2 := World.new_ne w' _ s2; have zn := World.new_ne w' _ sn; have zm := World.new_ne w' _ sm)
          | (go_at_call 97; refine (fu2 HdW.out Hs1.out HP.out ?hm _ ?hi ?ho).mono ?_; (case hm => with_reducible first | exact mk_refl _ | exact mk_alloc _ _); (case hi => with_reducible first | exact is_lit _ _ | exact HP.out.is HSl.out J2.out HO0.out | exact HP.out.is HSl.out J3.out HO1.out); (case ho => with_reducible first | exact HO2.out _ hzw | exact HO0.out | exact HO1.out); rintro e w'' ⟨rfl, hT⟩; obtain ⟨t0, t2, tn, tm⟩ := HCL2.out _ hT; have HT := Lib.hid hT; clear hT))
      all_goals (go_wp2_with fail)
      all_goals go_meet
      all_goals rw [← Hspx.out]
      all_goals exact ⟨rfl, Two.ws HdW.out HT.out (HdW.out.blk.keep HT.out.chg (fun e => e.elim HdW.out.ne.1 (fun e => e.elim HdW.out.ne.2 id))) (fun S' T' h3 h4 => HlW.out.next HdW.out.blk (HT.out.chg.sub (fun k _ e => e.elim .inl (fun e => e.elim (fun e => .inr (.inl e)) False.elim))) S' T' h3 h4) (fun x hx => hx.elim (fun e => HA.out x (.inl e)) (fun hx => hx.elim (fun e => HA.out x (.inr (.inl e))) (fun hx => hx.elim (fun e => HA.out x (.inr (.inr e))) (fun e => Hnew.out x e)))), HT.out.chg.sub (fun x _ e => HA.out x (e.elim .inl (fun e => e.elim (fun e => .inr (.inl e)) False.elim)))⟩
    rw [if_neg h4] at hspx
    have n4 : (kind == 4) = false := by simpa using h4
    by_cases h5 : kind = 5
    · rw [if_pos h5] at hspx
      subst h5
      have hbS : ¬ S w.heap.size := fun e => by have := H.out.lt _ (.inl e); omega
      have hbT : ¬ T w.heap.size := fun e => by have := H.out.lt _ (.inr e); omega
      have Hspx := Lib.hid hspx; clear hspx
      clear h0 h1 h2 h3 h4 c0 c1' c2 c3
      have hC0 : ∀ w', Bk w' gw 91 (gwC p q lv mv) ∧ Bk w' w.heap.size 109 (ov ⟨5, n, m, xs⟩ (.slice va xs.length vc)) → w'.cell? ⟨gw, 0, none⟩ = some (.pointer (some ⟨p, 0, none⟩)) := fun w' h => gw_0 h.1
      have hC2 : ∀ w', Bk w' gw 91 (gwC p q lv mv) ∧ Bk w' w.heap.size 109 (ov ⟨5, n, m, xs⟩ (.slice va xs.length vc)) → w'.cell? ⟨gw, 2, none⟩ = some (.pointer (some ⟨q, 0, none⟩)) := fun w' h => gw_2 h.1
      have hCn : ∀ w', Bk w' gw 91 (gwC p q lv mv) ∧ Bk w' w.heap.size 109 (ov ⟨5, n, m, xs⟩ (.slice va xs.length vc)) → w'.cell? ⟨w.heap.size, 1, none⟩ = some (.int .i64 n) := fun w' h => (h.2.cell 1).trans rfl
      have hCm : ∀ w', Bk w' gw 91 (gwC p q lv mv) ∧ Bk w' w.heap.size 109 (ov ⟨5, n, m, xs⟩ (.slice va xs.length vc)) → w'.cell? ⟨w.heap.size, 2, none⟩ = some (.int .i64 m) := fun w' h => (h.2.cell 2).trans rfl
      go_wp2_with fail
      refine wp_region_sq (fun j => j == 8 || j == 9) (fun w' => Bk w' gw 91 (gwC p q lv mv) ∧ Bk w' w.heap.size 109 (ov ⟨5, n, m, xs⟩ (.slice va xs.length vc))) (by kernel_rfl) (by kernel_rfl) ⟨HdW.out.blk, HbxW.out⟩ (fun _ _ h k => ⟨h.1.mk k, h.2.mk k⟩) ?_
      intro D' hD' hne
      have q1 := @qAt_value Try.prog
      iterate 8 (first | (refine spk (by rfl) (by rfl) (by rfl) (fun K hK => ?_); go_big_quiet_op; first | (refine hK _ ?_; clear hK K) | (apply Exists.intro; refine ⟨fun _ => ?_, hK _ ?_⟩; (exact fun _ => rfl); clear hK K)) | (refine spq (by rfl) (by rfl) (fun K hK => ?_); apply Exists.intro; refine ⟨fun w' hw' => ?_, ?_⟩; (go_simp; exact rfl); (go_simp; refine hK _ ?_; clear hK K)))
      refine sps (by rfl) (by rfl) (fun u w' => ∃ g, u = .slice (some ⟨g, 0, none⟩) 2 2 ∧ W.heap.size ≤ g ∧ Mk W w' ∧ Is w' (.slice (some ⟨g, 0, none⟩) 2 2) [m, n]) (fun v w1 w2 ⟨g, h1, h2, h3, h4⟩ k => ⟨g, h1, h2, mk_trans h3 k, h4.mk k⟩) (fun v w' ⟨_, _, _, h, _⟩ => ⟨HdW.out.blk.mk h, HbxW.out.mk h⟩) (fun w' hw' => ?_) (fun K dv hdv hK => ?_)
      · have hm' := (hD'.out w' hw').1
        clear hw'
        have hlit := own_sl (lit_own w' #[.int .i64 m, .int .i64 n] 3 (by simp [maxLen]))
        have Hm' := Lib.hid hm'; have Hlit := Lib.hid hlit; clear hm' hlit
        have sA := @sAt_value
        go_simp
        exact ⟨Hm'.out.size, mk_trans Hm'.out (mk_alloc _ _), Hlit.out⟩
      obtain ⟨wz, g5, rfl, hg5, hz2, hz3⟩ := hdv
      clear hz2 hz3 wz
      go_simp
      refine hK _ ?_
      clear hK K
      refine sps (by rfl) (by rfl) (fun u w' => u = .tuple #[] ∧ PD S w' p (st.crash [m, n]) ∧ Chg S W w') (fun v w1 w2 ⟨h1, h2, h3⟩ k => ⟨h1, h2.made k, h3.thenMk k⟩) (fun v w' ⟨_, _, h⟩ => ⟨HdW.out.blk.keep h HdW.out.ne.1, HbxW.out.keep h hbS⟩) (fun w' hw' => ?_) (fun K dv hdv hK => ?_)
      · obtain ⟨g', he', hg', hm', his⟩ := hw'
        cases he'
        have k1 := crash_any (HdW.out.pd.made hm') Hok.out (by omega) _ [m, n] his (fun x hx e hs => by cases e; have hlt : g5 < W.heap.size := HdW.out.lt _ (.inl hs); omega)
        have Hm' := Lib.hid hm'; have K1 := Lib.hid k1; clear hm' k1
        go_simp
        refine FrW.sAt_enter ?_
        refine K1.out.mono ?_
        rintro e w'' ⟨rfl, h1, h2⟩
        exact ⟨_, rfl, rfl, h1, Chg.trans (Chg.of_mk Hm'.out) h2 (fun _ _ e => e)⟩
      obtain ⟨wz, rfl, hz2, hz3⟩ := hdv
      clear hz2 hz3 wz
      go_simp
      refine hK _ ?_
      clear hK K
      refine sp_nil ?_
      rintro w1 ⟨_, hp1, hc1⟩
      clear hD' D' hne q1 hg5
      have hb1 := HdW.out.blk.keep hc1 HdW.out.ne.1
      have hx1 := HbxW.out.keep hc1 hbS
      have hr1 := HdW.out.rd.keep hc1 (fun k _ ht hs => HdW.out.dis k hs ht)
      have hz1 := hc1.size
      have Hp1 := Lib.hid hp1; have Hc1 := Lib.hid hc1; have Hb1 := Lib.hid hb1; have Hx1 := Lib.hid hx1; have Hr1 := Lib.hid hr1; clear hp1 hc1 hb1 hx1 hr1
      go_wp2_with fail
      refine wp_region_sq (fun j => j == 8 || j == 9) (fun w' => Bk w' gw 91 (gwC p q lv mv) ∧ Bk w' w.heap.size 109 (ov ⟨5, n, m, xs⟩ (.slice va xs.length vc))) (by kernel_rfl) (by kernel_rfl) ⟨Hb1.out, Hx1.out⟩ (fun _ _ h k => ⟨h.1.mk k, h.2.mk k⟩) ?_
      intro D' hD' hne
      have q1 := @qAt_value Try.prog
      iterate 8 (first | (refine spk (by rfl) (by rfl) (by rfl) (fun K hK => ?_); go_big_quiet_op; first | (refine hK _ ?_; clear hK K) | (apply Exists.intro; refine ⟨fun _ => ?_, hK _ ?_⟩; (exact fun _ => rfl); clear hK K)) | (refine spq (by rfl) (by rfl) (fun K hK => ?_); apply Exists.intro; refine ⟨fun w' hw' => ?_, ?_⟩; (go_simp; exact rfl); (go_simp; refine hK _ ?_; clear hK K)))
      refine sps (by rfl) (by rfl) (fun u w' => ∃ g, u = .slice (some ⟨g, 0, none⟩) 2 2 ∧ w1.heap.size ≤ g ∧ Mk w1 w' ∧ Is w' (.slice (some ⟨g, 0, none⟩) 2 2) [m, n]) (fun v w1 w2 ⟨g, h1, h2, h3, h4⟩ k => ⟨g, h1, h2, mk_trans h3 k, h4.mk k⟩) (fun v w' ⟨_, _, _, h, _⟩ => ⟨Hb1.out.mk h, Hx1.out.mk h⟩) (fun w' hw' => ?_) (fun K dv hdv hK => ?_)
      · have hm' := (hD'.out w' hw').1
        clear hw'
        have hlit := own_sl (lit_own w' #[.int .i64 m, .int .i64 n] 3 (by simp [maxLen]))
        have Hm' := Lib.hid hm'; have Hlit := Lib.hid hlit; clear hm' hlit
        have sA := @sAt_value
        go_simp
        exact ⟨Hm'.out.size, mk_trans Hm'.out (mk_alloc _ _), Hlit.out⟩
      obtain ⟨wz, g5, rfl, hg5, hz2, hz3⟩ := hdv
      clear hz2 hz3 wz
      go_simp
      refine hK _ ?_
      clear hK K
      refine sps (by rfl) (by rfl) (fun u w' => u = .tuple #[] ∧ RD T w' q (st.crash [m, n]) ∧ Chg T w1 w') (fun v w1 w2 ⟨h1, h2, h3⟩ k => ⟨h1, h2.made k, h3.thenMk k⟩) (fun v w' ⟨_, _, h⟩ => ⟨Hb1.out.keep h HdW.out.ne.2, Hx1.out.keep h hbT⟩) (fun w' hw' => ?_) (fun K dv hdv hK => ?_)
      · obtain ⟨g', he', hg', hm', his⟩ := hw'
        cases he'
        have k1 := rcrash_any (Hr1.out.made hm') Hok.out (by omega) _ [m, n] his (fun x hx e hs => by cases e; have hlt : g5 < W.heap.size := HdW.out.lt _ (.inr hs); omega)
        have Hm' := Lib.hid hm'; have K1 := Lib.hid k1; clear hm' k1
        go_simp
        refine FrW.sAt_enter ?_
        refine K1.out.mono ?_
        rintro e w'' ⟨rfl, h1, h2⟩
        exact ⟨_, rfl, rfl, h1, Chg.trans (Chg.of_mk Hm'.out) h2 (fun _ _ e => e)⟩
      obtain ⟨wz, rfl, hz2, hz3⟩ := hdv
      clear hz2 hz3 wz
      go_simp
      refine hK _ ?_
      clear hK K
      refine sp_nil ?_
      rintro w2 ⟨_, hp2, hc2⟩
      clear hD' D' hne q1 hg5 hC0 hC2 hCn hCm
      have hc12 : Chg (fun k => S k ∨ T k ∨ k = gw) W w2 := Chg.trans (Hc1.out.sub fun k _ e => .inl e) hc2 (fun k _ e => .inr (.inl e))
      have hlo := HlW.out.next HdW.out.blk hc12 S T (fun _ e => .inl e) (fun _ e => .inl e)
      have hwd : WDk S T w2 gw p q lv mv (st.crash [m, n]) := ⟨Hp1.out.keep hc2 (fun k _ => HdW.out.dis k), hp2, Hb1.out.keep hc2 HdW.out.ne.2, fun k hk => by have := HdW.out.lt k hk; have := hc12.size; omega, HdW.out.dis, HdW.out.ne⟩
      have Hc12 := Lib.hid hc12; have Hlo := Lib.hid hlo; have Hwd := Lib.hid hwd; clear hc12 hlo hwd
      clear hp2 hc2
      go_wp2_with fail
      go_meet
      rw [← Hspx.out]
      exact ⟨rfl, ⟨S, T, lv, mv, Hwd.out, Hlo.out, HA.out⟩, Hc12.out.sub fun x _ e => HA.out x e⟩
    rw [if_neg h5] at hspx
    have n5 : (kind == 5) = false := by simpa using h5
    by_cases h6 : kind = 6
    · rw [if_pos h6] at hspx
      subst h6
      have k1 := restart_any HdW.out.pd
      have Hspx := Lib.hid hspx; have K1 := Lib.hid k1; clear hspx k1
      clear h0 h1 h2 h3 h4 h5 c1' c3
      go_wp2_with fail
      refine K1.out.mono ?_
      rintro e w1 ⟨rfl, hp1, hc1⟩
      have hb1 := HdW.out.blk.keep hc1 HdW.out.ne.1
      have c2' := gw_2 hb1
      have k2 := rrestart_any (HdW.out.rd.keep hc1 (fun k _ ht hs => HdW.out.dis k hs ht))
      have Hp1 := Lib.hid hp1; have Hc1 := Lib.hid hc1; have Hb1 := Lib.hid hb1; have K2 := Lib.hid k2; clear hp1 hc1 hb1 k2
      go_wp2_with fail
      refine K2.out.mono ?_
      rintro e w2 ⟨rfl, hp2, hc2⟩
      have hc12 : Chg (fun k => S k ∨ T k ∨ k = gw) W w2 := Chg.trans (Hc1.out.sub fun k _ e => .inl e) hc2 (fun k _ e => .inr (.inl e))
      have hlo := HlW.out.next HdW.out.blk hc12 S T (fun _ e => .inl e) (fun _ e => .inl e)
      have hwd : WDk S T w2 gw p q lv mv st.restart := ⟨Hp1.out.keep hc2 (fun k _ => HdW.out.dis k), hp2, Hb1.out.keep hc2 HdW.out.ne.2, fun k hk => by have := HdW.out.lt k hk; have := hc12.size; omega, HdW.out.dis, HdW.out.ne⟩
      have Hc12 := Lib.hid hc12; have Hlo := Lib.hid hlo; have Hwd := Lib.hid hwd; clear hc12 hlo hwd
      clear hp2 hc2
      go_wp2_with fail
      go_meet
      rw [← Hspx.out]
      exact ⟨rfl, ⟨S, T, lv, mv, Hwd.out, Hlo.out, HA.out⟩, Hc12.out.sub fun x _ e => HA.out x e⟩
    rw [if_neg h6] at hspx
    have n6 : (kind == 6) = false := by simpa using h6
    by_cases h7 : kind = 7
    · rw [if_pos h7] at hspx
      subst h7
      have hbS : ¬ S w.heap.size := fun e => by have := H.out.lt _ (.inl e); omega
      have hbT : ¬ T w.heap.size := fun e => by have := H.out.lt _ (.inr e); omega
      obtain ⟨hdV, hcV⟩ := HdW.out.clear (.pointer none) (.pointer none)
      have f1 := HdW.out.blk.frozen 1
      have f3 := HdW.out.blk.frozen 3
      have hbxV := HbxW.out.keep hcV (fun e => (HA.out _ e).2.2 rfl)
      have hoV := own_keep Hol.out hcV (fun x hx e => by cases hx; exact (HA.out _ e).2.1 rfl)
      have hlV : Bs ((W.setCell ⟨gw, 1, none⟩ (.pointer none)).setCell ⟨gw, 3, none⟩ (.pointer none)) (.slice (some ⟨gl, 0, none⟩) b.length (b.length + 8)) b := by
        have h1 : Bs ((W.setCell ⟨gw, 1, none⟩ (.pointer none)).setCell ⟨gw, 3, none⟩ (.pointer none)) (.slice (some ⟨gl, 0, none⟩) (b.length + 8) (b.length + 8)) (b ++ List.replicate 8 201) := by have := own_sl hoV; rw [Bs]; simpa using this
        have h2 := FrW.Sl.taken h1 b.length (by simp)
        rw [List.take_left'] at h2
        · exact h2
        · rfl
      have hv1V := bs_keep (Hv1.out.mk Hm1.out) hcV (fun x hx h0 _ e => by
        have h1 := Hvb.out x (by rw [← Hvb1.out]; exact hx) (by have := Hxb.out; rw [← this] at h0; simp at h0; omega)
        have := Hb.out x e
        omega)
      have hzV := hcV.size
      obtain ⟨s1, er, hs1⟩ : ∃ a c, st.append (bits BinOp.and IntKind.i64 n 1) b = (a, c) := ⟨_, _, rfl⟩
      rw [hs1] at hspx
      have hee : (er == er) = true := by simp
      have hgS : ∀ x, (Value.slice (some ⟨gl, 0, none⟩) b.length (b.length + 8)).ownBlock = some x → ¬ S x := fun x hx e => by cases hx; exact (HA.out _ (.inl e)).2.1 rfl
      have hvT : ∀ x, (Value.slice a1 b.length c1).ownBlock = some x → 0 < b.length → x < base := fun x hx h0 => Hvb.out x (by rw [← Hvb1.out]; exact hx) (by have := Hxb.out; rw [← this] at h0; simp at h0; omega)
      have Hspx := Lib.hid hspx; have Hs1 := Lib.hid hs1; clear hspx hs1
      clear h0 h1 h2 h3 h4 h5 h6
      go_upto_region 28 with fail
      generalize (W.setCell ⟨gw, 1, none⟩ (.pointer none)).setCell ⟨gw, 3, none⟩ (.pointer none) = V at *
      have hC0 : ∀ w', Bk w' gw 91 (gwC p q (.pointer none) (.pointer none)) ∧ Bk w' w.heap.size 109 (ov ⟨7, n, m, xs⟩ (.slice va xs.length vc)) → w'.cell? ⟨gw, 0, none⟩ = some (.pointer (some ⟨p, 0, none⟩)) := fun w' h => gw_0 h.1
      have hC2 : ∀ w', Bk w' gw 91 (gwC p q (.pointer none) (.pointer none)) ∧ Bk w' w.heap.size 109 (ov ⟨7, n, m, xs⟩ (.slice va xs.length vc)) → w'.cell? ⟨gw, 2, none⟩ = some (.pointer (some ⟨q, 0, none⟩)) := fun w' h => gw_2 h.1
      have hCn : ∀ w', Bk w' gw 91 (gwC p q (.pointer none) (.pointer none)) ∧ Bk w' w.heap.size 109 (ov ⟨7, n, m, xs⟩ (.slice va xs.length vc)) → w'.cell? ⟨w.heap.size, 1, none⟩ = some (.int .i64 n) := fun w' h => (h.2.cell 1).trans rfl
      have HdV := Lib.hid hdV; have HcV := Lib.hid hcV; have HbxV := Lib.hid hbxV; have HoV := Lib.hid hoV; have HlV := Lib.hid hlV; have Hv1V := Lib.hid hv1V; have HgS := Lib.hid hgS; have HvT := Lib.hid hvT; clear hdV hcV hbxV hoV hlV hv1V hgS hvT
      clear c0 c1' c2 c3
      go_wp2_with fail
      refine wp_region_sq (fun j => j == 8 || j == 17) (fun w' => Bk w' gw 91 (gwC p q (.pointer none) (.pointer none)) ∧ Bk w' w.heap.size 109 (ov ⟨7, n, m, xs⟩ (.slice va xs.length vc))) (by kernel_rfl) (by kernel_rfl) ⟨HdV.out.blk, HbxV.out⟩ (fun _ _ h k => ⟨h.1.mk k, h.2.mk k⟩) ?_
      intro D' hD' hne
      have q1 := @qAt_value Try.prog
      have hX : ∀ k : Nat, False → k < V.heap.size ∧ ¬ S k ∧ ¬ T k := fun _ e => e.elim
      have hTC : ∀ {a c : St} {w' : World}, Two (fun _ => False) S T V p q a c w' → Bk w' gw 91 (gwC p q (.pointer none) (.pointer none)) ∧ Bk w' w.heap.size 109 (ov ⟨7, n, m, xs⟩ (.slice va xs.length vc)) := fun h => ⟨HdV.out.blk.keep h.chg (fun e => e.elim HdV.out.ne.1 (fun e => e.elim HdV.out.ne.2 id)), HbxV.out.keep h.chg (fun e => e.elim hbS (fun e => e.elim hbT id))⟩
      iterate 8 (first | (refine spk (by rfl) (by rfl) (by rfl) (fun K hK => ?_); go_big_quiet_op; first | (refine hK _ ?_; clear hK K) | (apply Exists.intro; refine ⟨fun _ => ?_, hK _ ?_⟩; (exact fun _ => rfl); clear hK K)) | (refine spq (by rfl) (by rfl) (fun K hK => ?_); apply Exists.intro; refine ⟨fun w' hw' => ?_, ?_⟩; (go_simp; exact rfl); (go_simp; refine hK _ ?_; clear hK K)))
      refine sps (by rfl) (by rfl) (fun u w' => u = .int .i64 er ∧ Two (fun _ => False) S T V p q s1 st w') (fun v w1 w2 ⟨h1, h2⟩ k => ⟨h1, h2.mk k⟩) (fun v w' ⟨_, h⟩ => hTC h) (fun w' hw' => ?_) (fun K dv hdv hK => ?_)
      · have hm' := (hD'.out w' hw').1
        clear hw'
        have k1 := append_any (HdV.out.pd.made hm') Hok.out (by omega) (bits BinOp.and IntKind.i64 n 1) _ b (HlV.out.mk hm') (by omega) (fun x _ e => HgS.out x e)
        rw [Hs1.out] at k1
        have Hm' := Lib.hid hm'; have K1 := Lib.hid k1; clear hm' k1
        go_simp
        refine FrW.sAt_enter ?_
        refine K1.out.mono ?_
        rintro e w'' ⟨rfl, h1, h2⟩
        exact ⟨_, rfl, rfl, Two.stepP (HdV.out.rd.made Hm'.out) (fun _ e => .inl e) (fun _ e => .inl e) (fun x hx => by have := HdV.out.lt x hx; have := Hm'.out.size; omega) HdV.out.dis (Chg.of_mk Hm'.out) hX h1 (h2.sub fun _ _ e => .inl e)⟩
      obtain ⟨wz, rfl, hz2⟩ := hdv
      clear hz2 wz
      go_simp
      refine hK _ ?_
      clear hK K
      iterate 8 (first | (refine spk (by rfl) (by rfl) (by rfl) (fun K hK => ?_); go_big_quiet_op; first | (refine hK _ ?_; clear hK K) | (apply Exists.intro; refine ⟨fun _ => ?_, hK _ ?_⟩; (exact fun _ => rfl); clear hK K)) | (refine spq (by rfl) (by rfl) (fun K hK => ?_); apply Exists.intro; refine ⟨fun w' hw' => ?_, ?_⟩; (go_simp; exact rfl); (go_simp; refine hK _ ?_; clear hK K)))
      refine sps (by rfl) (by rfl) (fun u w' => u = .int .i64 er ∧ Two (fun _ => False) S T V p q s1 s1 w') (fun v w1 w2 ⟨h1, h2⟩ k => ⟨h1, h2.mk k⟩) (fun v w' ⟨_, h⟩ => hTC h) (fun w' hw' => ?_) (fun K dv hdv hK => ?_)
      · obtain ⟨_, S', T', p1, p2, p3, p4, p5, p6, p7⟩ := hw'
        have k1 := rappend_any0 p2 Hok.out (by omega) (bits BinOp.and IntKind.i64 n 1) _ b (bs_keep Hv1V.out p7 (fun x hx h0 _ e => by
          have h1 := HvT.out x hx h0
          rcases e with e | e | e
          · have := Hb.out x (.inl e); omega
          · have := Hb.out x (.inr (.inl e)); omega
          · exact e)) (by omega) (fun x _ h0 hx e => by
          have h1 := HvT.out x hx h0
          rcases p4 x e with e | e
          · have := Hb.out x (.inr (.inl e)); omega
          · have := HzW.out; have := Hz0.out; omega)
        rw [Hs1.out] at k1
        have P1 := Lib.hid p1; have P2 := Lib.hid p2; have P3 := Lib.hid p3; have P4 := Lib.hid p4; have P5 := Lib.hid p5; have P6 := Lib.hid p6; have P7 := Lib.hid p7; have K1 := Lib.hid k1; clear p1 p2 p3 p4 p5 p6 p7 k1
        go_simp
        refine FrW.sAt_enter ?_
        refine K1.out.mono ?_
        rintro e w'' ⟨rfl, h1, h2⟩
        exact ⟨_, rfl, rfl, Two.stepR P1.out P3.out P4.out P5.out P6.out P7.out hX h1 (h2.sub fun _ _ e => .inl e)⟩
      obtain ⟨wz, rfl, hz2⟩ := hdv
      clear hz2 wz
      go_simp
      refine hK _ ?_
      clear hK K
      iterate 2 (first | (refine spk (by rfl) (by rfl) (by rfl) (fun K hK => ?_); go_big_quiet_op; first | (refine hK _ ?_; clear hK K) | (apply Exists.intro; refine ⟨fun _ => ?_, hK _ ?_⟩; (exact fun _ => rfl); clear hK K)) | (refine spq (by rfl) (by rfl) (fun K hK => ?_); apply Exists.intro; refine ⟨fun w' hw' => ?_, ?_⟩; (go_simp; exact rfl); (go_simp; refine hK _ ?_; clear hK K)))
      refine sp_nil ?_
      rintro w2 ⟨_, htw⟩
      have hbk2 := hTC htw
      clear hD' D' hne q1 hC0 hC2 hCn hTC hX
      have Htw := Lib.hid htw; have Hbk2 := Lib.hid hbk2; clear htw hbk2
      go_wp2_with fail
      go_meet
      rw [← Hspx.out]
      exact ⟨rfl, Two.ws HdV.out Htw.out Hbk2.out.1 (fun S' T' _ _ => ⟨rfl, rfl⟩) (fun x hx => hx.elim (fun e => HA.out x (.inl e)) (fun hx => hx.elim (fun e => HA.out x (.inr (.inl e))) (fun hx => hx.elim (fun e => HA.out x (.inr (.inr e))) (fun e => Hnew.out x (by omega))))), Chg.trans (HcV.out.sub fun x _ e => HA.out x e) Htw.out.chg (fun x _ e => HA.out x (e.elim .inl (fun e => e.elim (fun e => .inr (.inl e)) (fun e => e.elim))))⟩
    rw [if_neg h7] at hspx
    have n7 : (kind == 7) = false := by simpa using h7
    have Hspx := Lib.hid hspx; clear hspx
    clear h0 h1 h2 h3 h4 h5 h6 h7 c0 c1' c2 c3
    go_wp2_with fail
    go_meet
    rw [← Hspx.out]
    exact ⟨rfl, ⟨S, T, lv, mv, HdW.out, HlW.out, HA.out⟩, Chg.refl _ _⟩
  case rest =>
    obtain ⟨rfl, hws, hcx⟩ := hcut
    obtain ⟨W2, hW2⟩ : ∃ x, x = wc := ⟨_, rfl⟩
    subst hW2
    have hol2 := own_keep Hol.out hcx (fun x hx e => by cases hx; exact e.2.1 rfl)
    have hvW : Bs W2 (.slice a1 b.length c1) b := bs_keep (Hv1.out.mk Hm1.out) hcx (fun x hx h0 _ e => by
      have h1 := Hvb.out x (by rw [← Hvb1.out]; exact hx) (by have := Hxb.out; rw [← this] at h0; simp at h0; omega)
      omega)
    have hglz := Hglt.out
    have hgb : ∀ x, (Value.slice a1 b.length c1).ownBlock = some x → 0 < b.length → x ≠ gl := fun x hx h0 e => by
      have h1 := Hvb.out x (by rw [← Hvb1.out]; exact hx) (by have := Hxb.out; rw [← this] at h0; simp at h0; omega)
      have := Hz0.out
      omega
    have hbx2 := HbxW.out.keep hcx (fun e => e.2.2 rfl)
    have Hws := Lib.hid hws; have Hcx := Lib.hid hcx; have Hol2 := Lib.hid hol2; have HvW := Lib.hid hvW; have Hgb := Lib.hid hgb; have Hbx2 := Lib.hid hbx2; clear hws hcx hol2 hvW hgb hbx2
    clear b0
    go_wp2_with fail
    refine (back_any W2 W0.heap.size gl _ b Hol2.out HvW.out (by omega) Hgb.out).mono ?_
    rintro e W3 ⟨rfl, hc3⟩
    obtain ⟨S', T', lv', mv', hd', hl', hb'⟩ := Hws.out
    have hd3 := hd'.keep hc3 (fun x e => ⟨fun h => (hb' x (.inl h)).2.1 e, fun h => (hb' x (.inr (.inl h))).2.1 e, fun h => (hb' x (.inr (.inr h))).2.1 e⟩)
    obtain ⟨cur, hcur⟩ := own_bk Hol2.out rfl
    have hl3 : LogP base S' T' W3 p q lv' mv' sp.2 := hl'.keep hc3 (fun x t cs hx h1 h2 h3 e => by subst e; exact h2 (Bk.uniq hx hcur).1)
    have hc03 : Chg (fun x => base ≤ x) w W3 := Chg.trans (Chg.trans (Chg.of_mk HmW.out) Hcx.out (fun x _ e => e.1)) hc3 (fun x _ e => by have := Hz0.out; subst e; show base ≤ x; omega)
    have hbx3 := Hbx2.out.keep hc3 (fun e => by have := Hz0.out; omega)
    have hf := files_any hd3 Hstep.out.ok
    have Hc3 := Lib.hid hc3; have Hd' := Lib.hid hd'; have Hl' := Lib.hid hl'; have Hb' := Lib.hid hb'; have Hd3 := Lib.hid hd3; have Hl3 := Lib.hid hl3; have Hc03 := Lib.hid hc03; have Hbx3 := Lib.hid hbx3; have Hf := Lib.hid hf; have Hcur := Lib.hid hcur; clear hc3 hd' hl' hb' hd3 hl3 hc03 hbx3 hf hcur
    go_wp2_with fail
    refine Hf.out.mono ?_
    rintro e W4 ⟨rfl, hm4⟩
    have hd4 := Hd3.out.made hm4
    have hl4 := Hl3.out.made hm4
    have bn : W4.cell? ⟨w.heap.size, 1, none⟩ = some (.int .i64 n) := ((Hbx3.out.mk hm4).cell 1).trans rfl
    have hlk := looks_any hd4 hl4 Hstep.out.ok (fun L hL => ⟨(Hstep.out.log L hL).sizes, by have := (Hstep.out.log L hL).size; have := (Hstep.out.log L hL).cap; omega⟩) n
    have Hm4 := Lib.hid hm4; have Hd4 := Lib.hid hd4; have Hl4 := Lib.hid hl4; have Hlk := Lib.hid hlk; clear hm4 hd4 hl4 hlk
    go_wp2_with fail
    refine Hlk.out.mono ?_
    rintro e W5 ⟨rfl, hm5⟩
    have Hm5 := Lib.hid hm5; clear hm5
    go_wp2_with fail
    go_ret
    exact ⟨rfl, ⟨S', T', lv', mv', Hd4.out.made Hm5.out, Hl4.out.made Hm5.out, fun x hx => (Hb'.out x hx).1⟩, (Hc03.out.thenMk Hm4.out).thenMk Hm5.out⟩
end
end Go.Proofs.WlW
