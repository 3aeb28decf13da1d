/- Layer 6, wal: the program's log: dead, Bytes, Cap, Slots, Generation, Fits. Layer 6, wal: the program's Append. The walks of layer 5, frame: the statement FrameTorn. A region that draws its order inside a round of a range over a function: one walk in the order of the text. Nothing of the program stands here. -/
import Derived.Test.YtcfjdldlcdomgaaMWalPlays15
import Derived.Test.YtcfjdldlcdomgaaMWalPlays8
import Derived.Test.YtcfjdldlcdomgaaMWalPlays2
import Derived.StillTailTactics
import Derived.OrdersIn
import Derived.RangeFuncCalls
set_option linter.unusedVariables false
set_option linter.unusedSimpArgs false
namespace Go.Proofs.WlW
open Go Go.RowKit Go.Tk Go.Dk Go.Sp Go.Proofs.DkW

/-- What a log's block says. -/
structure Lg where
  gen : Nat
  cap : Nat
  slots : Nat
  live : Nat
  size : Nat
  falls : Nat
def lgC (p : Nat) (L : Lg) : Array Value := #[.int .u64 (L.gen : Int), .int .i64 (L.cap : Int), .int .i64 (L.slots : Int), .pointer (some ⟨p, 0, none⟩), .int .i64 (L.live : Int), .int .i64 (L.size : Int), .int .i64 (L.falls : Int)]
def deadB (st : St) (L : Lg) : Bool := (st.falls : Int) != (L.falls : Int)
def sizeL (st : St) (L : Lg) : Nat := if deadB st L then 0 else L.size
theorem q_same {P : Program} {f : FuncId} {args : Array Value} {w : World} {n : Nat} {v : Value} (h : Calls P f args (w.drewN n) fun e w' => e = .returned v ∧ w.drewN n = w') : Calls P f args (w.drewN n) fun e w'' => e = .returned v ∧ ∃ m, w'' = w.drewN m :=
  Calls.quiet_of_same (h.mono fun _ _ ⟨h1, h2⟩ => ⟨h1, h2.symm⟩)
theorem q_drew {P : Program} {f : FuncId} {args : Array Value} {w : World} {n : Nat} {v : Value} (h : Calls P f args (w.drewN n) fun e w' => e = .returned v ∧ ∃ m, (w.drewN n).drewN m = w') : Calls P f args (w.drewN n) fun e w'' => e = .returned v ∧ ∃ m, w'' = w.drewN m :=
  Calls.quiet_of (h.mono fun _ _ ⟨h1, m, h2⟩ => ⟨h1, m, h2.symm⟩)
section
variable {S : Nat → Prop} {w : World} {g p : Nat} {st : St} {L : Lg}
theorem lg_0 (h : Bk w g 175 (lgC p L)) : w.cell? ⟨g, 0, none⟩ = some (.int .u64 (L.gen : Int)) := (h.cell 0).trans rfl
theorem lg_1 (h : Bk w g 175 (lgC p L)) : w.cell? ⟨g, 1, none⟩ = some (.int .i64 (L.cap : Int)) := (h.cell 1).trans rfl
theorem lg_2 (h : Bk w g 175 (lgC p L)) : w.cell? ⟨g, 2, none⟩ = some (.int .i64 (L.slots : Int)) := (h.cell 2).trans rfl
theorem lg_3 (h : Bk w g 175 (lgC p L)) : w.cell? ⟨g, 3, none⟩ = some (.pointer (some ⟨p, 0, none⟩)) := (h.cell 3).trans rfl
theorem lg_4 (h : Bk w g 175 (lgC p L)) : w.cell? ⟨g, 4, none⟩ = some (.int .i64 (L.live : Int)) := (h.cell 4).trans rfl
theorem lg_5 (h : Bk w g 175 (lgC p L)) : w.cell? ⟨g, 5, none⟩ = some (.int .i64 (L.size : Int)) := (h.cell 5).trans rfl
theorem lg_6 (h : Bk w g 175 (lgC p L)) : w.cell? ⟨g, 6, none⟩ = some (.int .i64 (L.falls : Int)) := (h.cell 6).trans rfl

theorem lcap_any (hb : Bk w g 175 (lgC p L)) : Calls Try.prog 109 #[.pointer (some ⟨g, 0, none⟩)] w fun e w' => e = .returned (.int .i64 (L.cap : Int)) ∧ w = w' := by
  have c1 := lg_1 hb
  clear hb
  go_enter Try.func109, Try.ntmps109
  go_wp2
  go_ret
  exact ⟨rfl, rfl⟩
theorem lslots_any (hb : Bk w g 175 (lgC p L)) : Calls Try.prog 108 #[.pointer (some ⟨g, 0, none⟩)] w fun e w' => e = .returned (.int .i64 (L.slots : Int)) ∧ w = w' := by
  have c1 := lg_2 hb
  clear hb
  go_enter Try.func108, Try.ntmps108
  go_wp2
  go_ret
  exact ⟨rfl, rfl⟩
theorem lgen_any (hb : Bk w g 175 (lgC p L)) : Calls Try.prog 107 #[.pointer (some ⟨g, 0, none⟩)] w fun e w' => e = .returned (.int .u64 (L.gen : Int)) ∧ w = w' := by
  have c1 := lg_0 hb
  clear hb
  go_enter Try.func107, Try.ntmps107
  go_wp2
  go_ret
  exact ⟨rfl, rfl⟩
set_option maxHeartbeats 1000000 in
theorem ldead_any (hb : Bk w g 175 (lgC p L)) (h : PD S w p st) : Calls Try.prog 120 #[.pointer (some ⟨g, 0, none⟩)] w fun e w' => e = .returned (.bool (deadB st L)) ∧ ∃ m, w.drewN m = w' := by
  have c3 := lg_3 hb
  have c6 := lg_6 hb
  have hf := fun n => falls_any (h.made (mk_drewN w n))
  obtain ⟨b, hq⟩ : ∃ b, ((st.falls : Int) != (L.falls : Int)) = b := ⟨_, rfl⟩
  have hd : deadB st L = b := hq
  have Hf := Lib.hid hf; have Hb := Lib.hid hb; have H := Lib.hid h; have Hd := Lib.hid hd; clear hf hb h hd
  go_enter Try.func120, Try.ntmps120
  go_wp2
  go_quiet ((go_at_call 40; exact q_same (Hf.out _)))
  go_wp2
  go_ret
  rw [Hd.out]
  exact ⟨rfl, _, rfl⟩
set_option maxHeartbeats 1000000 in
theorem lbytes_any (hb : Bk w g 175 (lgC p L)) (h : PD S w p st) : Calls Try.prog 55 #[.pointer (some ⟨g, 0, none⟩)] w fun e w' => e = .returned (.int .i64 (sizeL st L : Int)) ∧ ∃ m, w.drewN m = w' := by
  have c5 := lg_5 hb
  have hf := ldead_any hb h
  obtain ⟨b, hd⟩ : ∃ b, deadB st L = b := ⟨_, rfl⟩
  rw [hd] at hf
  have hs : sizeL st L = if b then 0 else L.size := by unfold sizeL; rw [hd]
  cases b
  all_goals
    have Hf := Lib.hid hf; have Hb := Lib.hid hb; have H := Lib.hid h; have Hd := Lib.hid hd; have Hs := Lib.hid hs; clear hf hb h hd hs
    go_enter Try.func55, Try.ntmps55
    go_wp2_with fail
    refine Hf.out.mono ?_
    rintro e w' ⟨rfl, m, rfl⟩
    go_wp2
    go_ret
    rw [Hs.out]
    exact ⟨rfl, _, rfl⟩
def fitsB (st : St) (L : Lg) (n : Int) : Bool := decide (0 ≤ n) && decide (n ≤ 4194304) && decide ((sizeL st L : Int) + FrW.sizeF n ≤ (L.cap : Int))
set_option maxHeartbeats 1000000 in
theorem lfits_any (hb : Bk w g 175 (lgC p L)) (h : PD S w p st) (hs : L.size ≤ 1000000000) (n : Int) : Calls Try.prog 106 #[.pointer (some ⟨g, 0, none⟩), .int .i64 n] w fun e w' => e = .returned (.bool (fitsB st L n)) ∧ ∃ m, w.drewN m = w' := by
  have c1 := lg_1 hb
  have hf := fun n => lbytes_any (hb.drewN n) (h.made (mk_drewN w n))
  have hsz : sizeL st L ≤ 1000000000 := by unfold sizeL; split <;> omega
  obtain ⟨z, hz⟩ : ∃ z, sizeL st L = z := ⟨_, rfl⟩
  rw [hz] at hsz
  simp only [hz] at hf
  by_cases h1 : 0 ≤ n
  · by_cases h2 : n ≤ 4194304
    · have hsf : FrW.sizeF n = n + 9 := by unfold FrW.sizeF; rw [if_neg (by omega), if_neg (by omega)]
      have hF : fitsB st L n = decide ((z : Int) + (n + 9) ≤ (L.cap : Int)) := by unfold fitsB; rw [hz, hsf]; simp [h1, h2]
      have hs2 := FrW.size_any n
      rw [hsf] at hs2
      obtain ⟨b, hb2⟩ : ∃ b, decide ((z : Int) + (n + 9) ≤ (L.cap : Int)) = b := ⟨_, rfl⟩
      rw [hb2] at hF
      have d1 : decide (0 ≤ n) = true := by simpa using h1
      have d2 : decide (n ≤ 4194304) = true := by simpa using h2
      have hw : IntKind.i64.wrap ((z : Int) + (n + 9)) = (z : Int) + (n + 9) := IntWalk.i64_in _ (by omega)
      have Hf := Lib.hid hf; have Hb := Lib.hid hb; have H := Lib.hid h; have Hz := Lib.hid hz; have HF := Lib.hid hF; have Hs2 := Lib.hid hs2; have Hsf := Lib.hid hsf; clear hf hb h hz hF hs2 hsf
      go_enter Try.func106, Try.ntmps106
      go_wp2
      go_quiet (first | (go_at_call 55; exact q_drew (Hf.out _)) | (go_at_call 20; exact q_same (Hs2.out _)))
      go_wp2
      go_ret
      rw [HF.out]
      exact ⟨rfl, _, rfl⟩
    · have hF : fitsB st L n = false := by unfold fitsB; simp [h2]
      have d1 : decide (0 ≤ n) = true := by simpa using h1
      have d2 : decide (n ≤ 4194304) = false := by simpa using h2
      have Hf := Lib.hid hf; have Hb := Lib.hid hb; have H := Lib.hid h; have Hz := Lib.hid hz; have HF := Lib.hid hF; clear hf hb h hz hF
      go_enter Try.func106, Try.ntmps106
      go_wp2
      go_quiet (fail)
      go_wp2
      go_ret
      rw [HF.out]
      exact ⟨rfl, _, rfl⟩
  · have hF : fitsB st L n = false := by unfold fitsB; simp [h1]
    have d1 : decide (0 ≤ n) = false := by simpa using h1
    have Hf := Lib.hid hf; have Hb := Lib.hid hb; have H := Lib.hid h; have Hz := Lib.hid hz; have HF := Lib.hid hF; clear hf hb h hz hF
    go_enter Try.func106, Try.ntmps106
    go_wp2
    go_quiet (fail)
    go_wp2
    go_ret
    rw [HF.out]
    exact ⟨rfl, _, rfl⟩
end
end Go.Proofs.WlW

namespace Go.Proofs.WlW
open Go Go.RowKit Go.Tk Go.Dk Go.Sp Go.Proofs.DkW

def lapp (st : St) (L : Lg) (xs : List UInt8) : St × Lg × Int :=
  if deadB st L then (st, L, 40) else if fitsB st L xs.length = false then (st, L, 60) else
  ((St.write st L.live (FrW.frm 2 xs)).1, if (St.write st L.live (FrW.frm 2 xs)).2 = 0 then { L with size := L.size + (xs.length + 9) } else L, (St.write st L.live (FrW.frm 2 xs)).2)
/-- What a call leaves that writes into a disk and a log's block. -/
structure LPost (S : Nat → Prop) (w : World) (g p : Nat) (st : St) (L : Lg) (w' : World) : Prop where
  disk : PD (Gw S w) w' p st
  log : Bk w' g 175 (lgC p L)
  chg : Chg (fun k => S k ∨ k = g) w w'
theorem LPost.mk' {S : Nat → Prop} {w w' w'' : World} {g p : Nat} {st : St} {L : Lg} (h : LPost S w g p st L w') (hm : Mk w' w'') : LPost S w g p st L w'' := ⟨h.disk.made hm, h.log.mk hm, h.chg.thenMk hm⟩
theorem Gw_mono {S : Nat → Prop} {w w' : World} (h : w.heap.size ≤ w'.heap.size) : ∀ k, Gw S w' k → Gw S w k := fun k hk => hk.imp_right fun e => by omega
theorem LPost.same {S : Nat → Prop} {w w' : World} {g p : Nat} {st : St} {L : Lg} (hb : Bk w g 175 (lgC p L)) (h : PD S w p st) (hm : Mk w w') : LPost S w g p st L w' := ⟨(h.made hm).sub fun _ e => .inl e, hb.mk hm, Chg.of_mk hm⟩
theorem LPost.of {S : Nat → Prop} {w w1 w' : World} {g p : Nat} {st : St} {L : Lg} (hm : Mk w w1) (hb : Bk w1 g 175 (lgC p L)) (hg : ¬ S g) (h : PD (Gw S w1) w' p st) (hc : Chg S w1 w') : LPost S w g p st L w' :=
  ⟨h.sub (Gw_mono hm.size), hb.keep hc hg, Chg.trans (Chg.of_mk hm) hc (fun _ _ e => .inl e)⟩
theorem LPost.set5 {S : Nat → Prop} {w w' : World} {g p : Nat} {st : St} {L : Lg} (h : LPost S w g p st L w') (hS : ∀ k, S k → k < w.heap.size) (hg : ¬ S g) (n : Nat) (hl : g < w.heap.size) :
    LPost S w g p st { L with size := n } (w'.setCell ⟨g, 5, none⟩ (.int .i64 (n : Int))) :=
  ⟨h.disk.keep (Chg.set (fun k => k = g) _ ⟨g, 5, none⟩ _ rfl) (fun k _ hk e => by subst e; exact hk.elim hg (fun e => by omega)), h.log.set 5 _, h.chg.thenSet ⟨g, 5, none⟩ _ (.inl (.inr rfl))⟩
set_option maxHeartbeats 2000000 in
set_option maxRecDepth 100000 in
theorem lappend_any {S : Nat → Prop} {w : World} {g p M : Nat} {st : St} {L : Lg} (hb : Bk w g 175 (lgC p L)) (h : PD S w p st) (hok : st.Ok M) (hM : M < 1000000) (hS : ∀ k, S k → k < w.heap.size) (hg : ¬ S g) (hs : L.size ≤ 1000000000) (v : Value) (xs : List UInt8) (hv : Bs w v xs) (hlen : xs.length ≤ 140737488355328) :
    Calls Try.prog 56 #[.pointer (some ⟨g, 0, none⟩), v] w fun e w' => e = .returned (.int .i64 (lapp st L xs).2.2) ∧ LPost S w g p (lapp st L xs).1 (lapp st L xs).2.1 w' := by
  have hdead := ldead_any hb h
  have hfit := fun n => lfits_any (hb.drewN n) (h.made (mk_drewN w n)) hs (xs.length : Int)
  obtain ⟨va, vc, rfl, hvc, hvm⟩ := hv.form
  cases hd : deadB st L
  · cases hf : fitsB st L xs.length
    · have hl : lapp st L xs = (st, L, 60) := by unfold lapp; rw [hd, hf]; rfl
      rw [hd] at hdead
      simp only [hf] at hfit
      have Hdead := Lib.hid hdead; have Hfit := Lib.hid hfit; have Hl := Lib.hid hl; have Hb := Lib.hid hb; have H := Lib.hid h; have Hv := Lib.hid hv; have Hvc := Lib.hid hvc; have Hvm := Lib.hid hvm; have Hd := Lib.hid hd; have Hf := Lib.hid hf; clear hdead hfit hl hb h hv hvc hvm hd hf
      go_enter Try.func56, Try.ntmps56
      go_wp2_with fail
      refine Hdead.out.mono ?_
      rintro e w1 ⟨rfl, m, rfl⟩
      go_wp2_with fail
      refine (Hfit.out m).mono ?_
      rintro e w1 ⟨rfl, m2, rfl⟩
      go_wp2
      go_ret
      rw [Hl.out]
      exact ⟨rfl, LPost.same Hb.out H.out (mk_drewN _ _)⟩
    · have hl : lapp st L xs = ((St.write st L.live (FrW.frm 2 xs)).1, if (St.write st L.live (FrW.frm 2 xs)).2 = 0 then { L with size := L.size + (xs.length + 9) } else L, (St.write st L.live (FrW.frm 2 xs)).2) := by unfold lapp; rw [hd, hf]; rfl
      rw [hd] at hdead
      simp only [hf] at hfit
      have hxl : xs.length ≤ 4194304 := by unfold fitsB at hf; simp at hf; omega
      have hwr := fun (w1 : World) (h1 : PD S w1 p st) (v : Value) (hb1 : Bs w1 v (FrW.frm 2 xs)) (hd : ∀ k, k < w1.heap.size → v.ownBlock = some k → ¬ S k) => write_any h1 hok hM (L.live : Int) v (FrW.frm 2 xs) hb1 (by rw [FrW.frm_length]; omega) hd
      generalize hr : St.write st L.live (FrW.frm 2 xs) = r at *
      obtain ⟨st', er⟩ := r
      dsimp only at hl hwr
      have Hdead := Lib.hid hdead; have Hfit := Lib.hid hfit; have Hl := Lib.hid hl; have Hb := Lib.hid hb; have H := Lib.hid h; have Hv := Lib.hid hv; have Hvc := Lib.hid hvc; have Hvm := Lib.hid hvm; have Hd := Lib.hid hd; have Hf := Lib.hid hf; have Hwr := Lib.hid hwr; have Hr := Lib.hid hr; have Hxl := Lib.hid hxl; clear hdead hfit hl hb h hv hvc hvm hd hf hwr hr hxl
      go_enter Try.func56, Try.ntmps56
      go_wp2_with fail
      refine Hdead.out.mono ?_
      rintro e w1 ⟨rfl, m, rfl⟩
      go_wp2_with fail
      refine (Hfit.out m).mono ?_
      rintro e w1 ⟨rfl, m2, rfl⟩
      have hmk := mk_drewN w (m + m2)
      have Hmk := Lib.hid hmk; clear hmk
      go_wp2_with fail
      refine (FrW.Put_any _ _ _ [] xs 2 (FrW.nil_bs _) (Hv.out.mk Hmk.out) (by simp) (by omega)).mono ?_
      rintro e w2 ⟨hm2, hp⟩
      rw [if_neg (by have := Hxl.out; omega)] at hp
      obtain ⟨bv', rfl, hob⟩ := hp
      rw [List.nil_append] at hob
      obtain ⟨ba, bc, rfl, _, _⟩ := (own_sl hob).form
      have hm := mk_trans Hmk.out hm2
      have hb2 := Hb.out.mk hm
      have hpd := fun (w' : World) (hm' : Mk w2 w') => H.out.made (mk_trans hm hm')
      have hbs := fun (w' : World) (hm' : Mk w2 w') => (own_sl hob).mk hm'
      have hown : ∀ k, (Value.slice ba (FrW.frm 2 xs).length bc).ownBlock = some k → w.heap.size ≤ k := fun k hk => by have := (hob.lt k hk).1; have := Hmk.out.size; omega
      have hC3 : ∀ w', Bk w' g 175 (lgC p L) → w'.cell? ⟨g, 3, none⟩ = some (.pointer (some ⟨p, 0, none⟩)) := fun w' h => lg_3 h
      have hC4 : ∀ w', Bk w' g 175 (lgC p L) → w'.cell? ⟨g, 4, none⟩ = some (.int .i64 (L.live : Int)) := fun w' h => lg_4 h
      have Hm2 := Lib.hid hm2; have Hob := Lib.hid hob; have Hm := Lib.hid hm; have Hb2 := Lib.hid hb2; have Hpd := Lib.hid hpd; have Hbs := Lib.hid hbs; have Hown := Lib.hid hown; clear hm2 hob hm hb2 hpd hbs hown
      go_wp2_with fail
      refine wp_region_sp (fun j => j == 9) (fun w' => Bk w' g 175 (lgC p L)) (by kernel_rfl) (by kernel_rfl) Hb2.out (fun _ _ h k => h.mk k) ?_
      intro D' hD' hne
      have q1 := @qAt_value Try.prog
      iterate 9 (first | (refine spk (by rfl) (by rfl) (by rfl) (fun K hK => ?_); go_big_quiet_op; first | (refine hK _ ?_; clear hK K) | (apply Exists.intro; refine ⟨fun _ => ?_, hK _ ?_⟩; (exact fun _ => rfl); clear hK K)) | (refine spq (by rfl) (by rfl) (fun K hK => ?_); apply Exists.intro; refine ⟨fun w' hw' => ?_, ?_⟩; (go_simp; exact rfl); (go_simp; refine hK _ ?_; clear hK K)))
      refine sps (by rfl) (by rfl) (fun u w' => u = .int .i64 er ∧ LPost S w g p st' L w') (fun v w1 w2 ⟨h1, h2⟩ k => ⟨h1, h2.mk' k⟩) (fun v w' ⟨_, h⟩ => h.log) (fun w' hw' => ?_) (fun K dv hdv hK => ?_)
      · obtain ⟨hmk', hb'⟩ := hD'.out w' hw'
        have Hmk' := Lib.hid hmk'; have Hb' := Lib.hid hb'; clear hmk' hb'
        go_simp
        refine FrW.sAt_enter ?_
        refine (Hwr.out w' (Hpd.out w' Hmk'.out) _ (Hbs.out w' Hmk'.out) (fun k hk e hs => by have := Hown.out k e; have := hS k hs; omega)).mono ?_
        rintro e w3 ⟨rfl, h3, hc3⟩
        exact ⟨_, rfl, rfl, LPost.of (mk_trans Hm.out Hmk'.out) Hb'.out hg h3 hc3⟩
      obtain ⟨w0, rfl, h0⟩ := hdv
      clear h0 w0 hne
      go_simp
      refine hK _ ?_
      clear hK K
      iterate 1 (first | (refine spk (by rfl) (by rfl) (by rfl) (fun K hK => ?_); go_big_quiet_op; first | (refine hK _ ?_; clear hK K) | (apply Exists.intro; refine ⟨fun _ => ?_, hK _ ?_⟩; (exact fun _ => rfl); clear hK K)) | (refine spq (by rfl) (by rfl) (fun K hK => ?_); apply Exists.intro; refine ⟨fun w' hw' => ?_, ?_⟩; (go_simp; exact rfl); (go_simp; refine hK _ ?_; clear hK K)))
      refine sp_nil ?_
      rintro w3 ⟨_, hp3⟩
      clear hD' D' q1 hC3 hC4
      by_cases h0 : er = 0
      · subst h0
        have c5 := lg_5 hp3.log
        have f5 := hp3.log.frozen 5
        have hw5 : IntKind.i64.wrap ((L.size : Int) + ((FrW.frm 2 xs).length : Int)) = ((L.size + (xs.length + 9) : Nat) : Int) := by
          rw [FrW.frm_length, IntWalk.i64_in _ (by have := Hxl.out; omega)]; omega
        have Hp3 := Lib.hid hp3; clear hp3
        go_wp2
        go_ret
        rw [Hl.out]
        exact ⟨rfl, Hp3.out.set5 hS hg (L.size + (xs.length + 9)) (Hb.out.lt)⟩
      · have h1 : (er == 0) = false := by simpa using h0
        have Hp3 := Lib.hid hp3; clear hp3
        go_wp2
        go_ret
        rw [Hl.out]
        refine ⟨rfl, ?_⟩
        dsimp only
        rw [if_neg h0]
        exact Hp3.out
  · have hl : lapp st L xs = (st, L, 40) := by unfold lapp; rw [hd]; rfl
    rw [hd] at hdead
    have Hdead := Lib.hid hdead; have Hfit := Lib.hid hfit; have Hl := Lib.hid hl; have Hb := Lib.hid hb; have H := Lib.hid h; have Hv := Lib.hid hv; have Hvc := Lib.hid hvc; have Hvm := Lib.hid hvm; have Hd := Lib.hid hd; clear hdead hfit hl hb h hv hvc hvm hd
    go_enter Try.func56, Try.ntmps56
    go_wp2_with fail
    refine Hdead.out.mono ?_
    rintro e w1 ⟨rfl, m, rfl⟩
    go_wp2
    go_ret
    rw [Hl.out]
    exact ⟨rfl, LPost.same Hb.out H.out (mk_drewN _ _)⟩
end Go.Proofs.WlW

namespace Go.Proofs.FrW
open Go Go.RowKit Go.Tk Go.Sp Go.Rg Go.Lib Go.Shelf

theorem i64_of {n : Int} (h : (Lit.int .i64 n).wf = true) : -9223372036854775808 ≤ n ∧ n ≤ 9223372036854775807 := by
  simp only [Lit.wf, Bool.and_eq_true, decide_eq_true_eq] at h
  have e1 : IntKind.i64.min = -9223372036854775808 := by kernel_rfl
  have e2 : IntKind.i64.max = 9223372036854775807 := by kernel_rfl
  omega
theorem sAt_value {P : Program} {R : Value → World → Prop} {w' : World} {v : Value} : sAt P R (.ok (.value v) w') = R v w' := rfl
theorem sAt_skip {P : Program} {R : Value → World → Prop} {w' : World} : sAt P R (.ok .skip w') = R undef w' := rfl
theorem torn_iff (k : UInt8) (dat : List UInt8) (i : Nat) (t : UInt8) (h : dat.length ≤ 4194304) (hi : i < (frm k dat).length) :
    gN ((frm k dat).set i ((frm k dat)[i] ^^^ t)) = (frm k dat).length ↔ t = 0 := by
  have hl := frm_length k dat
  constructor
  · intro e
    unfold gN at e
    rcases hf : frameOf ((frm k dat).set i ((frm k dat)[i] ^^^ t)) with _ | ⟨k', d', n⟩
    · rw [hf] at e; simp only at e; omega
    · rw [hf] at e
      simp only at e
      have := torn_turned k dat i _ h hi hf (by omega)
      have h2 : (frm k dat)[i] ^^^ ((frm k dat)[i] ^^^ t) = (frm k dat)[i] ^^^ (frm k dat)[i] := by rw [this]
      rwa [← UInt8.xor_assoc, UInt8.xor_self, UInt8.zero_xor] at h2
  · rintro rfl
    have e : (frm k dat).set i ((frm k dat)[i] ^^^ 0) = frm k dat := by rw [UInt8.xor_zero]; exact List.set_getElem_self _
    have := frame_put k dat [] h
    rw [List.append_nil] at this
    unfold gN
    rw [e, this, hl]
theorem turn_cases (n : Int) : (n < 0 ∧ ∃ m : Nat, -(n + 1) = (m : Int)) ∨ (¬ n < 0 ∧ ∃ m : Nat, n = (m : Int)) := by
  by_cases h : n < 0
  · exact .inl ⟨h, (-(n + 1)).toNat, by omega⟩
  · exact .inr ⟨h, n.toNat, by omega⟩

set_option maxHeartbeats 400000 in
set_option maxRecDepth 100000 in
theorem frameTorn_any (w : World) (k : UInt8) (v : Value) (xs : List UInt8) (h : Bs w v xs) (hb : xs.length ≤ 1048576) (cut : Int) (hc : (Lit.int .i64 cut).wf = true) (at_ : Int) (ha : (Lit.int .i64 at_).wf = true) (tb : UInt8) :
    Calls Try.prog 7 #[.int .u8 (k.toNat : Int), v, .int .i64 cut, .int .i64 at_, .int .u8 (tb.toNat : Int)] w fun e w' => e = .returned (.bool true) ∧ Mk w w' := by
  obtain ⟨a, cap, rfl, hc1, hc2⟩ := h.form
  have H := Lib.hid h
  clear h hc1 hc2
  obtain ⟨hc1, hc2⟩ := i64_of hc
  obtain ⟨ha1, ha2⟩ := i64_of ha
  clear hc ha
  have hlF := Lib.hid (frm_length k xs)
  have h9 : 9 ≤ (frm k xs).length := by rw [hlF.out]; omega
  have hF2 : (frm k xs).length ≤ 2000000 := by rw [hlF.out]; omega
  rcases turn_cases cut with ⟨hcn, m, em⟩ | ⟨hcn, m, em⟩ <;> rcases turn_cases at_ with ⟨han, i, ei⟩ | ⟨han, i, ei⟩
  all_goals
    obtain ⟨j, hj⟩ : ∃ j, m % (frm k xs).length = j := ⟨_, rfl⟩
    obtain ⟨p, hp⟩ : ∃ p, i % (frm k xs).length = p := ⟨_, rfl⟩
    have ej : (m : Int).tmod ((frm k xs).length : Int) = (j : Int) := by rw [← hj, Int.ofNat_tmod]
    have ep : (i : Int).tmod ((frm k xs).length : Int) = (p : Int) := by rw [← hp, Int.ofNat_tmod]
    have hjl : j < (frm k xs).length := by rw [← hj]; exact Nat.mod_lt _ (by omega)
    have hpl : p < (frm k xs).length := by rw [← hp]; exact Nat.mod_lt _ (by omega)
    clear hj hp
    generalize hF : frm k xs = F at *
    have HF := Lib.hid hF
    clear hF
    go_enter Try.func7, Try.ntmps7
    go_wp2_with fail
    refine (shown_any _).mono ?_
    rintro e w1 ⟨rfl, hm⟩
    have HM1 := Lib.hid hm
    clear hm
    go_wp2_with fail
    refine (Put_any _ (.slice none 0 0) _ [] xs k (nil_bs _) (H.out.mk HM1.out) (by simp) (by omega)).mono ?_
    intro e w2 hp
    unfold PutPost at hp
    rw [if_neg (by omega), List.nil_append, HF.out] at hp
    obtain ⟨hm2, v1, rfl, ho1⟩ := hp
    obtain ⟨g1, c1, rfl, hc1', hc2', hg1, hg2⟩ := own_form ho1 (by omega)
    have HO1 := Lib.hid ho1
    have HM2 := Lib.hid (mk_trans HM1.out hm2)
    clear ho1 hm2 hg1 hg2 hc2'
    go_wp2_with fail
    refine (Get_any _ _ (F.take j) (Sl.taken (own_sl HO1.out) j (by omega)) (by simp; omega)).mono ?_
    intro e w3 hp
    unfold GetPost at hp
    rw [← HF.out, torn_short k xs j (by omega) (by rw [← hlF.out]; exact hjl)] at hp
    dsimp only at hp
    obtain ⟨hm3, dv, _, rfl⟩ := hp
    have HM3 := Lib.hid (mk_trans HM2.out hm3)
    have HM23 := Lib.hid hm3
    clear hm3
    go_wp2_with (at_builtin; refine wpList_append_bytes (P := Try.prog) Try.underlying22 info5 rfl (.tmp 64) (.tmp 65) rfl rfl (lit_own w3 #[] 5 (by simp [maxLen])) rfl ((own_sl HO1.out).mk (mk_trans HM23.out (mk_alloc _ _))) (bv_one _) (by simp; omega) (by simp) ?_; intro v2 w4 ho2 hg2 hn hf; have HO2 := Lib.hid (show w4.ownsRow w3.heap.size 5 1 v2 F.length (bv F) by simpa using ho2); have HM4 := Lib.hid (mk_trans HM3.out (mk_own (mk_alloc w3 _) (lit_own w3 #[] 5 (by simp [maxLen])) hg2)); clear ho2 hg2 hn hf)
    obtain ⟨g2, c2, rfl, hc2', hc2'', hg1, hg2⟩ := own_form HO2.out (by omega)
    have hx : bits BinOp.xor IntKind.u8 (F[p].toNat : Int) (tb.toNat : Int) = ((F[p] ^^^ tb).toNat : Int) := by
      rw [UInt8.toNat_xor]; exact u8_xor_nat _ _ (UInt8.toNat_lt _) (UInt8.toNat_lt _)
    have HX := Lib.hid hx
    clear hc2'' hg1 hg2 hx
    refine wp_region_sp (fun j => j == 11 || j == 15) (fun _ => True) (by kernel_rfl) (by kernel_rfl) trivial (fun _ _ _ _ => trivial) ?_
    intro D hD hne
    have q1 := @qAt_value Try.prog
    iterate 11 (first | (refine spk (by rfl) (by rfl) (by rfl) (fun K hK => ?_); go_big_quiet_op; first | (refine hK _ ?_; clear hK K) | (apply Exists.intro; refine ⟨fun _ => ?_, hK _ ?_⟩; (exact fun _ => rfl); clear hK K)) | (refine spq (by rfl) (by rfl) (fun K hK => ?_); apply Exists.intro; refine ⟨fun w' hw' => ?_, ?_⟩; (go_simp; exact rfl); (go_simp; refine hK _ ?_; clear hK K)))
    refine sps (by rfl) (by rfl) (fun v w' => v = .int .u8 (F[p].toNat : Int) ∧ Mk w w' ∧ w'.ownsRow w3.heap.size 5 1 (.slice (some ⟨g2, 0, none⟩) F.length c2) F.length (bv F)) (fun v w1 w2 h k => ⟨h.1, mk_trans h.2.1 k, own_mk h.2.2 k⟩) (fun v w' h => trivial) (fun w' hw' => ?_) (fun K dv hdv hK => ?_)
    · have HW := Lib.hid (hD.out w' hw').1
      have HOW := Lib.hid (own_mk HO2.out HW.out)
      have hcell := own_cell HOW.out p hpl rfl
      have sA := @sAt_value Try.prog
      go_simp
      exact ⟨mk_trans HM4.out HW.out, HOW.out⟩
    obtain ⟨w0, rfl, h0, h0'⟩ := hdv
    clear h0 h0' w0 hne
    go_simp
    refine hK _ ?_
    clear hK K
    iterate 3 (first | (refine spk (by rfl) (by rfl) (by rfl) (fun K hK => ?_); go_big_quiet_op; first | (refine hK _ ?_; clear hK K) | (apply Exists.intro; refine ⟨fun _ => ?_, hK _ ?_⟩; (exact fun _ => rfl); clear hK K)) | (refine spq (by rfl) (by rfl) (fun K hK => ?_); apply Exists.intro; refine ⟨fun w' hw' => ?_, ?_⟩; (go_simp; exact rfl); (go_simp; refine hK _ ?_; clear hK K)))
    refine sps (by rfl) (by rfl) (fun v w' => v = undef ∧ Mk w w' ∧ w'.ownsRow w3.heap.size 5 1 (.slice (some ⟨g2, 0, none⟩) F.length c2) F.length (bv (F.set p (F[p] ^^^ tb)))) (fun v w1 w2 h k => ⟨h.1, mk_trans h.2.1 k, own_mk h.2.2 k⟩) (fun v w' h => trivial) (fun w' hw' => ?_) (fun K dv hdv hK => ?_)
    · obtain ⟨_, hm, ho⟩ := hw'
      have HW := Lib.hid hm
      have HOW := Lib.hid ho
      have hcell := own_cell HOW.out p hpl rfl
      have hfr := HOW.out.frozenAt p
      clear hm ho
      have sA := @sAt_skip Try.prog
      rw [HX.out]
      go_simp
      have hst := HOW.out.stored p (.int .u8 ((F[p] ^^^ tb).toNat : Int))
      exact ⟨mk_own' HW.out (fun k e => by cases e; have h1 : w3.heap.size ≤ g2 := (HOW.out.lt g2 rfl).1; have h2 := HM3.out.size; show w.heap.size ≤ g2; omega) hst.2, own_store HOW.out p _⟩
    obtain ⟨w0, rfl, h0, h0'⟩ := hdv
    clear h0 h0' w0
    go_simp
    refine hK _ ?_
    clear hK K
    refine sp_nil ?_
    rintro w5 ⟨_, hm, ho⟩
    have HM5 := Lib.hid hm
    have HO5 := Lib.hid ho
    clear hm ho hD D q1
    have hN := torn_iff k xs p tb (by omega) (by rw [HF.out]; exact hpl)
    simp only [HF.out] at hN
    go_wp2_with fail
    refine (Get_any _ _ (F.set p (F[p] ^^^ tb)) (bs_of (own_sl HO5.out) (by simp)) (by simp; omega)).mono ?_
    intro e w6 hp
    obtain ⟨hm, dv2, _, rfl⟩ := get_out hp
    have HM6 := Lib.hid (mk_trans HM5.out hm)
    clear hm hp
    generalize gN (F.set p (F[p] ^^^ tb)) = N at *
    generalize gK (F.set p (F[p] ^^^ tb)) = K2 at *
    by_cases ht : tb = 0
    · have q2 : ((N : Int) == (F.length : Int)) = true := by have := hN.2 ht; simp; omega
      have q3 : ((tb.toNat : Int) == 0) = true := by rw [ht]; rfl
      clear hN ht
      go_wp2_with fail
      go_ret
      exact ⟨rfl, HM6.out⟩
    · have q2 : ((N : Int) == (F.length : Int)) = false := by have : ¬ N = F.length := fun h => ht (hN.1 h); simp; omega
      have q3 : ((tb.toNat : Int) == 0) = false := by
        have : tb.toNat ≠ 0 := fun h => ht (UInt8.toNat_inj.1 h)
        simp; omega
      clear hN ht
      go_wp2_with fail
      go_ret
      exact ⟨rfl, HM6.out⟩
end Go.Proofs.FrW

namespace Go.Sp
open Go Go.RowKit Go.Tk
variable {P : Program} {ops : Array Oper} {sp : Nat → Bool} {C : World → Prop} {md : Region.Mode}

/-- No operation of the region is a defer. -/
def noDefer (ops : Array Oper) : Bool := ops.all fun o => match o.op with | .defer _ => false | _ => true
theorem noDefer_spec (h : noDefer ops = true) {i : Nat} {o : Oper} (hi : ops[i]? = some o) : ∀ c, o.op ≠ .defer c := by
  intro c e
  simp only [noDefer, Array.all_eq_true] at h
  obtain ⟨hl, rfl⟩ := Array.getElem?_eq_some_iff.1 hi
  have := h i hl
  rw [e] at this
  simp at this

theorem wpOpIn_of_sp {l n i : Nat} {a : Act} {K : (World → Prop) → Act → Prop} {K' : Act → World → Prop} {Q' : Exit → Act → World → Prop} {D : World → Prop} (hnd : noDefer ops = true) (hD : Cls C D)
    {w : World} (hw : D w) (h : ∀ D' a w', Cls C D' → D' w' → K D' a → K' a w') (hh : spOp P ops sp C i K D a) : wpOpIn (Fence.wide.inRound l) n P ops Q' i K' a w := by
  unfold spOp at hh
  unfold wpOpIn
  split
  · rename_i ho; simp only [ho] at hh; exact h _ _ _ hD hw hh
  · rename_i o ho
    simp only [ho] at hh
    unfold spStep at hh
    by_cases hwt : Region.wanted o (yielded ops a.tmps) = true
    · rw [if_pos hwt] at hh ⊢
      refine ⟨fun _ _ => trivial, ?_⟩
      rw [Fence.inRound_round, Oper.semAt_some l _ _ (noDefer_spec hnd ho)]
      split at hh
      · obtain ⟨R, h1, h2, h3, h4⟩ := hh
        have h5 := h3 w hw
        have hR : ∀ v, Cls C (R v) := fun v => ⟨h1 v, h2 v⟩
        generalize (execOp a.eval o).run P w = r at *
        cases r with
        | ok n w' =>
          cases n <;> simp only [sAt] at h5 <;> simp only [Oper.uponIn]
          case value u => exact h _ _ _ (hR u) h5 (h4 u ⟨_, h5⟩)
          case skip => exact h _ _ _ (hR _) h5 (h4 _ ⟨_, h5⟩)
          case enter f args =>
            refine ⟨(fun h => by simp [Fence.inRound, Fence.wide] at h), CallsIn.inRound l (callsIn_wide.2 ?_)⟩
            exact h5.mono fun e w'' ⟨u, he, hr⟩ => by subst he; exact h _ _ _ (hR u) hr (h4 u ⟨_, hr⟩)
        | halt x w' => simp only [sAt] at h5
      · obtain ⟨v, h1, h2⟩ := hh
        have h5 := h1 w (hD.sub w hw)
        generalize (execOp a.eval o).run P w = r at *
        cases r with
        | ok n w' =>
          cases n <;> simp only [qAt] at h5 <;> simp only [Oper.uponIn]
          case value u => obtain ⟨rfl, rfl⟩ := h5; exact h _ _ _ hD hw h2
          case skip => obtain ⟨rfl, rfl⟩ := h5; exact h _ _ _ hD hw h2
          case enter f args =>
            obtain ⟨_, rfl, hc⟩ := h5
            refine ⟨(fun h => by simp [Fence.inRound, Fence.wide] at h), CallsIn.inRound l (callsIn_wide.2 ?_)⟩
            exact hc.mono fun e w'' ⟨he, hm⟩ => by subst he; exact h _ _ _ hD (hD.on _ _ hw hm) h2
        | halt x w' => simp only [qAt] at h5
    · rw [if_neg hwt] at hh ⊢
      exact ⟨fun _ _ => trivial, h _ _ _ hD hw hh⟩

theorem wpAnyIn_of_sp {l n : Nat} {Q : Act → World → Prop} {Q' : Exit → Act → World → Prop} (hnd : noDefer ops = true) (hQ : ∀ a w, Q a w → Q' .normal a w) : ∀ (fuel : Nat) (listed : Array Bool) (D : World → Prop) (a : Act) (w : World), Cls C D → D w →
    wpAnySp P md ops sp C Q fuel listed D a → wpAnyIn (Fence.wide.inRound l) n P md ops Q' fuel listed a w
  | 0, _, _, _, _, _, hw, h => ⟨h.1, hQ _ _ (h.2 _ hw)⟩
  | fuel + 1, _, _, _, _, hD, hw, h => ⟨fun h0 => hQ _ _ (h.1 h0 _ hw), fun i hi => wpOpIn_of_sp hnd hD hw (fun D' a' w' hD' hw' hk => wpAnyIn_of_sp hnd hQ fuel _ D' a' w' hD' hw' hk) (h.2 i hi)⟩

/-- ONE WALK IN THE ORDER OF THE TEXT SERVES EVERY ORDER, inside a round. -/
theorem wpIn_region_sp {rl n id : Nat} {Q : Exit → Act → World → Prop} {a : Act} {w : World} {l : List Oper} (sp : Nat → Bool) (C : World → Prop) (hm : P.follows .mixedOrders = true) (hB : spB .any l.toArray sp = true) (hnd : noDefer l.toArray = true)
    (hC : C w) (hCm : ∀ w' w'', C w' → Mk w' w'' → C w'')
    (h : ∀ D : World → Prop, Hid (∀ w', D w' → Mk w w' ∧ C w') → (∃ w', D w') → wpSp P l.toArray sp C (fun a' w' => Q .normal a' w') l 0 D a) : (Code.region id l.toArray true).wpIn (Fence.wide.inRound rl) n P Q a w := by
  simp only [spB, Bool.and_eq_true] at hB
  have hcls : Cls C (fun w' => Mk w w' ∧ C w') := ⟨fun w' w'' h k => ⟨mk_trans h.1 k, hCm _ _ h.2 k⟩, fun w' h => h.2⟩
  have hd : Mk w { w with drawn := w.drawn + 1 } := mk_drewN w 1
  have hne : ∃ w', (fun w' => Mk w w' ∧ C w') w' := ⟨w, mk_refl w, hC⟩
  refine wpIn_region_any hm (wpAnyIn_of_sp (sp := sp) (C := C) (D := fun w' => Mk w w' ∧ C w') (Q := fun a' w' => Q .normal a' w') hnd (fun _ _ h => h) _ _ _ _ hcls ⟨hd, hCm _ _ hC hd⟩ ?_)
  have := wpAnySp_lex (C := C) (md := .any) hB.1 l 0 (Array.replicate l.toArray.size false) (fun w' => Mk w w' ∧ C w') a hne (by simp) (by simpa using hB.2) (h _ (fun _ h => h) hne)
  simpa using this
end Go.Sp
