/- Layer 4, disk: a disk whose blocks are of a class; the examples. Layer 6, wal: numbers as bytes, of the program. Layer 6, wal: the walks of the program's small functions. Layer 4, disk: what may be stays what may be. No walk stands here. The walks of layer 5, frame: the statement FrameGets. -/
import Derived.Test.YtcfjdldlcdomgaaMWalPlays6
set_option linter.unusedVariables false
set_option linter.unusedSimpArgs false
namespace Go.Proofs.DkW
open Go Go.RowKit Go.Tk Go.Dk Go.Sp
attribute [local go_sem] Oper.semAt_some

theorem PD.trim {S : Nat → Prop} {w : World} {p : Nat} {st : St} (h : PD S w p st) : PD (fun k => S k ∧ k < w.heap.size) w p st := by
  obtain ⟨F, U, q, c, cs, vs, fu, h⟩ := h
  exact ⟨fun k => F k ∧ k < w.heap.size, fun k => U k ∧ k < w.heap.size, q, c, cs, vs, fu, h.head, h.files.sub fun k hk hf => ⟨hf, hk⟩, h.fuse.trim, ⟨h.sp, h.head.lt⟩,
    fun k hk => ⟨⟨(h.fs k hk.1).1, hk.2⟩, (h.fs k hk.1).2⟩, fun k hk => ⟨⟨(h.us k hk.1).1, hk.2⟩, (h.us k hk.1).2⟩, fun k hk hu => h.disj k hk.1 hu.1, h.hc⟩

/-- A disk whose blocks are of a class. -/
def DX (A : Nat → Prop) (w : World) (p : Nat) (st : St) : Prop := ∃ S, PD S w p st ∧ ∀ k, S k → A k ∧ k < w.heap.size
section
variable {A S : Nat → Prop} {w0 w w' : World} {p M : Nat} {st st' : St}
theorem DX.out (h : DX A w0 p st) (hm : Mk w0 w) : ∃ S, PD S w p st ∧ ∀ k, S k → A k ∧ k < w0.heap.size := by
  obtain ⟨S, h1, h2⟩ := h; exact ⟨S, h1.made hm, h2⟩
theorem DX.made (h : DX A w0 p st) (hm : Mk w0 w) : DX A w p st := by
  obtain ⟨S, h1, h2⟩ := h; exact ⟨S, h1.made hm, fun k hk => ⟨(h2 k hk).1, by have := (h2 k hk).2; have := hm.size; omega⟩⟩
theorem DX.back (hS : ∀ k, S k → A k ∧ k < w0.heap.size) (hA : ∀ k, w.heap.size ≤ k → A k) (hp : PD (Gw S w) w' p st') (hc : Chg S w w') : DX A w' p st' ∧ Chg A w w' :=
  ⟨⟨_, PD.trim hp, fun k hk => ⟨by rcases hk.1 with h | h; exact (hS k h).1; exact hA k h, hk.2⟩⟩, hc.sub fun k _ hk => (hS k hk).1⟩
theorem DX.keep (h : DX A w p st) {T : Nat → Prop} (hc : Chg T w w') (hn : ∀ k, k < w.heap.size → A k → ¬ T k) : DX A w' p st := by
  obtain ⟨S, h1, h2⟩ := h
  exact ⟨S, h1.keep hc fun k hk hs => hn k hk (h2 k hs).1, fun k hk => ⟨(h2 k hk).1, by have := (h2 k hk).2; have := hc.size; omega⟩⟩
/-- What has been made since is none of its. -/
theorem DX.avoid (h : DX A w0 p st) (hm : Mk w0 w) : DX (fun k => A k ∧ ¬ (w0.heap.size ≤ k ∧ k < w.heap.size)) w p st := by
  obtain ⟨S, h1, h2⟩ := h
  exact ⟨S, h1.made hm, fun k hk => ⟨⟨(h2 k hk).1, fun e => by have := (h2 k hk).2; omega⟩, by have := (h2 k hk).2; have := hm.size; omega⟩⟩
theorem new_own (w0 : World) {n c : Nat} : ∀ k, (Value.slice (some ⟨w0.heap.size, 0, none⟩) n c).ownBlock = some k → k < w0.heap.size → ¬ A k := by
  intro k hk hl
  simp only [Value.ownBlock, Option.some.injEq] at hk
  omega
theorem append_dx (h : DX A w0 p st) (hm : Mk w0 w) (hA : ∀ k, w.heap.size ≤ k → A k) (hok : st.Ok M) (hM : M ≤ 1000000) (f : Int) (v : Value) (xs : List UInt8) (hb : Bs w v xs) (hbx : xs.length ≤ 1073741824) (hd : ∀ k, v.ownBlock = some k → k < w0.heap.size → ¬ A k)
    (r : St × Int) (hr : st.append f xs = r) : Calls Try.prog 32 #[.pointer (some ⟨p, 0, none⟩), .int .i64 f, v] w fun e w' => e = .returned (.int .i64 r.2) ∧ DX A w' p r.1 ∧ Chg A w w' := by
  subst hr
  obtain ⟨S, h1, h2⟩ := h.out hm
  refine (append_any h1 hok hM f v xs hb hbx fun k _ hk hs => hd k hk (h2 k hs).2 (h2 k hs).1).mono ?_
  rintro e w' ⟨rfl, h3, h4⟩
  exact ⟨rfl, DX.back h2 hA h3 h4⟩
theorem sync_dx (h : DX A w0 p st) (hm : Mk w0 w) (hA : ∀ k, w.heap.size ≤ k → A k) (hok : st.Ok M) (hM : M ≤ 1000000) (f : Int) (r : St × Int) (hr : st.sync f = r) :
    Calls Try.prog 33 #[.pointer (some ⟨p, 0, none⟩), .int .i64 f] w fun e w' => e = .returned (.int .i64 r.2) ∧ DX A w' p r.1 ∧ Chg A w w' := by
  subst hr
  obtain ⟨S, h1, h2⟩ := h.out hm
  refine (sync_any h1 hok hM f).mono ?_
  rintro e w' ⟨rfl, h3, h4⟩
  exact ⟨rfl, DX.back h2 hA (h3.sub fun k hk => .inl hk) h4⟩
theorem truncate_dx (h : DX A w0 p st) (hm : Mk w0 w) (hA : ∀ k, w.heap.size ≤ k → A k) (hok : st.Ok M) (hM : M ≤ 1000000) (f n : Int) (r : St × Int) (hr : st.truncate f n = r) :
    Calls Try.prog 34 #[.pointer (some ⟨p, 0, none⟩), .int .i64 f, .int .i64 n] w fun e w' => e = .returned (.int .i64 r.2) ∧ DX A w' p r.1 ∧ Chg A w w' := by
  subst hr
  obtain ⟨S, h1, h2⟩ := h.out hm
  refine (truncate_any h1 hok hM f n).mono ?_
  rintro e w' ⟨rfl, h3, h4⟩
  exact ⟨rfl, DX.back h2 hA (h3.sub fun k hk => .inl hk) h4⟩
theorem fuse_dx (h : DX A w0 p st) (hm : Mk w0 w) (hA : ∀ k, w.heap.size ≤ k → A k) (ops : Int) (v : Value) (xs : List Int) (hb : Is w v xs) (hbx : xs.length ≤ 17592186044416) (r : St × Int) (hr : st.light ops xs = r) :
    Calls Try.prog 41 #[.pointer (some ⟨p, 0, none⟩), .int .i64 ops, v] w fun e w' => e = .returned (.int .i64 r.2) ∧ DX A w' p r.1 ∧ Chg A w w' := by
  subst hr
  obtain ⟨S, h1, h2⟩ := h.out hm
  refine (fuse_any h1 ops v xs hb hbx).mono ?_
  rintro e w' ⟨rfl, h3, h4⟩
  exact ⟨rfl, DX.back h2 hA h3 h4⟩
theorem crash_dx (h : DX A w0 p st) (hm : Mk w0 w) (hA : ∀ k, w.heap.size ≤ k → A k) (hok : st.Ok M) (hM : M ≤ 1000000) (v : Value) (xs : List Int) (hb : Is w v xs) (hd : ∀ k, v.ownBlock = some k → k < w0.heap.size → ¬ A k) (r : St) (hr : st.crash xs = r) :
    Calls Try.prog 35 #[.pointer (some ⟨p, 0, none⟩), v] w fun e w' => e = .returned (.tuple #[]) ∧ DX A w' p r ∧ Chg A w w' := by
  subst hr
  obtain ⟨S, h1, h2⟩ := h.out hm
  refine (crash_any h1 hok hM v xs hb fun k _ hk hs => hd k hk (h2 k hs).2 (h2 k hs).1).mono ?_
  rintro e w' ⟨rfl, h3, h4⟩
  exact ⟨rfl, DX.back h2 hA (h3.sub fun k hk => .inl hk) h4⟩
theorem restart_dx (h : DX A w0 p st) (hm : Mk w0 w) (hA : ∀ k, w.heap.size ≤ k → A k) (r : St) (hr : st.restart = r) : Calls Try.prog 38 #[.pointer (some ⟨p, 0, none⟩)] w fun e w' => e = .returned (.tuple #[]) ∧ DX A w' p r ∧ Chg A w w' := by
  subst hr
  obtain ⟨S, h1, h2⟩ := h.out hm
  refine (restart_any h1).mono ?_
  rintro e w' ⟨rfl, h3, h4⟩
  exact ⟨rfl, DX.back h2 hA (h3.sub fun k hk => .inl hk) h4⟩
theorem read_dx (h : DX A w0 p st) (hm : Mk w0 w) (hok : st.Ok M) (f at_ n : Int) (r : List UInt8 × Int) (hr : st.read f at_ n = r) : Calls Try.prog 36 #[.pointer (some ⟨p, 0, none⟩), .int .i64 f, .int .i64 at_, .int .i64 n] w (ReadPost w r) := by
  subst hr
  obtain ⟨S, h1, h2⟩ := h.out hm
  exact read_any h1 hok f at_ n
theorem size_dx (h : DX A w0 p st) (hm : Mk w0 w) (f : Int) (r : Int) (hr : st.size f = r) : Calls Try.prog 83 #[.pointer (some ⟨p, 0, none⟩), .int .i64 f] w fun e w' => e = .returned (.int .i64 r) ∧ w = w' := by
  subst hr
  obtain ⟨S, h1, h2⟩ := h.out hm
  exact size_any f h1
theorem lasts_dx (h : DX A w0 p st) (hm : Mk w0 w) (f : Int) (r : Int) (hr : st.lasts f = r) : Calls Try.prog 84 #[.pointer (some ⟨p, 0, none⟩), .int .i64 f] w fun e w' => e = .returned (.int .i64 r) ∧ w = w' := by
  subst hr
  obtain ⟨S, h1, h2⟩ := h.out hm
  exact lasts_any f h1
theorem alive_dx (h : DX A w0 p st) (hm : Mk w0 w) (r : Bool) (hr : (!st.off) = r) : Calls Try.prog 37 #[.pointer (some ⟨p, 0, none⟩)] w fun e w' => e = .returned (.bool r) ∧ w = w' := by
  subst hr
  obtain ⟨S, h1, h2⟩ := h.out hm
  exact alive_any h1
theorem falls_dx (h : DX A w0 p st) (hm : Mk w0 w) (r : Nat) (hr : st.falls = r) : Calls Try.prog 40 #[.pointer (some ⟨p, 0, none⟩)] w fun e w' => e = .returned (.int .i64 (r : Int)) ∧ w = w' := by
  subst hr
  obtain ⟨S, h1, h2⟩ := h.out hm
  exact falls_any h1
theorem new_dx (n : Nat) (h0 : 1 ≤ n) (h1 : n ≤ 8) (hA : ∀ k, w.heap.size ≤ k → A k) : Calls Try.prog 30 #[.int .i64 (n : Int)] w fun e w' => ∃ p, e = .returned (.tuple #[.pointer (some ⟨p, 0, none⟩), .int .i64 0]) ∧ DX A w' p (fresh n) ∧ Mk w w' := by
  refine (new_any w n h0 h1).mono ?_
  rintro e w' ⟨p, rfl, h2, h3⟩
  exact ⟨p, rfl, ⟨_, PD.trim h2, fun k hk => ⟨hA k hk.1, hk.2⟩⟩, h3⟩
end

def sh1 : St := ⟨[([97, 98, 99], 0), ([], 0)], false, 0, none⟩
def sh2 : St := ⟨[([97, 98, 99], 3), ([], 0)], false, 0, none⟩
def sh3 : St := ⟨[([97, 98, 99, 100, 101], 3), ([], 0)], false, 0, none⟩
def sh4 : St := ⟨[([97, 98, 99, 100], 4), ([], 0)], true, 1, none⟩
def sh5 : St := ⟨[([97, 98, 99, 100], 4), ([], 0)], false, 1, none⟩
def sh6 : St := ⟨[([97, 98, 99, 100], 4), ([], 0)], false, 1, some (0, [])⟩
def sh7 : St := ⟨[([97, 98, 99, 100], 4), ([], 0)], true, 2, none⟩
theorem sh_1 : (fresh 2).append 0 [97, 98, 99] = (sh1, 0) := by rfl
theorem sh_2 : sh1.sync 0 = (sh2, 0) := by rfl
theorem sh_3 : sh2.append 0 [100, 101] = (sh3, 0) := by rfl
theorem sh_4 : sh3.crash [1] = sh4 := by rfl
theorem sh_5 : sh4.restart = sh5 := by rfl
theorem sh_6 : sh5.light 0 [] = (sh6, 0) := by rfl
theorem sh_7 : sh6.sync 0 = (sh7, 40) := by rfl
theorem sh_r1 : sh4.read 0 0 1 = ([], 40) := by rfl
theorem sh_r2 : sh5.read 0 0 4 = ([97, 98, 99, 100], 0) := by rfl
theorem shOk (s : St) (h1 : s.files.length = 2) (h2 : (s.files.all fun x => decide (x.2 ≤ x.1.length) && decide (x.1.length ≤ 16777216)) = true) (h3 : s.falls ≤ 2) (h4 : s.fuse = none ∨ s.fuse = some (0, [])) : s.Ok 2 :=
  ⟨⟨by omega, by omega, fun x hx => by have := List.all_eq_true.1 h2 x hx; simpa using this, h3⟩, fun n k hk => by rcases h4 with h | h <;> rw [h] at hk <;> cases hk; decide⟩

set_option maxHeartbeats 1000000 in
set_option maxRecDepth 100000 in
theorem shown_any (w : World) : Calls Try.prog 29 #[] w fun e w' => e = .returned (.bool true) ∧ Mk w w' := by
  have kc := fun (w : World) (C : Array Value) (n c : Nat) => Lib.run_convert_bytes_const (P := Try.prog) w 22 5 C n c Try.underlying22 Try.underlying5
  have hA : Hid (∀ (w' : World), w.heap.size ≤ w'.heap.size → ∀ k, w'.heap.size ≤ k → w.heap.size ≤ k) := fun w' h k hk => by omega
  go_enter Try.func29, Try.ntmps29
  go_wp2_with fail
  refine (new_dx (A := fun k => w.heap.size ≤ k) 2 (by decide) (by decide) (fun k h => h)).mono ?_
  rintro e w1 ⟨p, rfl, hd1, hm1⟩
  have Hd1 := Lib.hid hd1; have Hm1 := Lib.hid hm1; clear hd1 hm1
  go_wp2_with fail
  refine (new_bad w1 9 (by decide)).mono ?_
  rintro e w' ⟨rfl, rfl⟩
  have hC1 : Chg (fun k => w.heap.size ≤ k) w w1 := Chg.of_mk Hm1.out
  have HC1 := Lib.hid hC1
  clear hC1
  go_wp2_with fail
  refine (append_dx Hd1.out (mk_alloc _ _) (fun k hk => by have := HC1.out.size; simp at hk; omega) (shOk _ rfl (by decide) (by decide) (.inl rfl)) (by decide) 0 _ [97, 98, 99] (FrW.new_bytes_m w1 [97, 98, 99] #[.int .u8 97, .int .u8 98, .int .u8 99] 5 3 (3, 4) rfl rfl (by simp [maxLen]) (by omega)) (by decide) (new_own _) _ sh_1).mono ?_
  rintro e w2 ⟨rfl, hd2, hc2⟩
  have hC2 := (HC1.out.thenAlloc (.cells #[.int .u8 97, .int .u8 98, .int .u8 99] 5 (3, 4))).trans hc2 fun _ _ e => e
  have Hd2 := Lib.hid hd2; have HC2 := Lib.hid hC2; clear hd2 hC2
  clear hc2
  dsimp only
  go_wp2_with fail
  refine (sync_dx Hd2.out (mk_refl _) (fun k hk => by have := HC2.out.size; omega) (shOk _ rfl (by decide) (by decide) (.inl rfl)) (by decide) 0 _ sh_2).mono ?_
  rintro e w3 ⟨rfl, hd3, hc3⟩
  have hC3 := HC2.out.trans hc3 fun _ _ e => e
  have Hd3 := Lib.hid hd3; have HC3 := Lib.hid hC3; clear hd3 hC3
  clear hc3
  dsimp only
  go_wp2_with fail
  refine (append_dx Hd3.out (mk_alloc _ _) (fun k hk => by have := HC3.out.size; simp at hk; omega) (shOk _ rfl (by decide) (by decide) (.inl rfl)) (by decide) 0 _ [100, 101] (FrW.new_bytes_m w3 [100, 101] #[.int .u8 100, .int .u8 101] 5 2 (2, 3) rfl rfl (by simp [maxLen]) (by omega)) (by decide) (new_own _) _ sh_3).mono ?_
  rintro e w4 ⟨rfl, hd4, hc4⟩
  have hC4 := (HC3.out.thenAlloc (.cells #[.int .u8 100, .int .u8 101] 5 (2, 3))).trans hc4 fun _ _ e => e
  have Hd4 := Lib.hid hd4; have HC4 := Lib.hid hC4; clear hd4 hC4
  clear hc4
  dsimp only
  go_wp2_with (first | (go_at_call 83; refine (size_dx Hd4.out (mk_refl _) 0 5 rfl).mono ?_; rintro e w' ⟨rfl, rfl⟩) | (go_at_call 84; refine (lasts_dx Hd4.out (mk_refl _) 0 3 rfl).mono ?_; rintro e w' ⟨rfl, rfl⟩) | fail)
  refine (crash_dx Hd4.out (mk_alloc _ _) (fun k hk => by have := HC4.out.size; simp at hk; omega) (shOk _ rfl (by decide) (by decide) (.inl rfl)) (by decide) _ [1] (own_sl (lit_own w4 #[.int .i64 1] 3 (by simp [maxLen]))) (new_own _) _ sh_4).mono ?_
  rintro e w5 ⟨rfl, hd5, hc5⟩
  have hC5 := (HC4.out.thenAlloc (.cells #[.int .i64 1] 3)).trans hc5 fun _ _ e => e
  have Hd5 := Lib.hid hd5; have HC5 := Lib.hid hC5; clear hd5 hC5
  clear hc5
  go_wp2_with fail
  refine (read_dx Hd5.out (mk_refl _) (shOk _ rfl (by decide) (by decide) (.inl rfl)) 0 0 1 _ sh_r1).mono ?_
  rintro e w6 ⟨v6, rfl, ho6, hm6⟩
  have hC6 := HC5.out.thenMk hm6
  have hd6 := Hd5.out.made hm6
  have Hd6 := Lib.hid hd6; have HC6 := Lib.hid hC6; clear hd6 hC6
  clear ho6 hm6
  dsimp only
  go_wp2_with fail
  refine (restart_dx Hd6.out (mk_refl _) (fun k hk => by have := HC6.out.size; omega) _ sh_5).mono ?_
  rintro e w7 ⟨rfl, hd7, hc7⟩
  have hC7 := HC6.out.trans hc7 fun _ _ e => e
  have Hd7 := Lib.hid hd7; have HC7 := Lib.hid hC7; clear hd7 hC7
  clear hc7
  go_wp2_with fail
  refine (read_dx Hd7.out (mk_refl _) (shOk _ rfl (by decide) (by decide) (.inl rfl)) 0 0 4 _ sh_r2).mono ?_
  rintro e w8 ⟨v8, rfl, ho8, hm8⟩
  obtain ⟨a8, c8, rfl, _, _⟩ := (own_sl ho8).form
  have hC8 := HC7.out.thenMk hm8
  have hd8 := DX.avoid Hd7.out hm8
  have hs8 := own_sl ho8
  have hb8 : ∀ k, (Value.slice a8 4 c8).ownBlock = some k → w7.heap.size ≤ k ∧ k < w8.heap.size := fun k hk => ho8.lt k hk
  have Hd8 := Lib.hid hd8; have HC8 := Lib.hid hC8; have Hs8 := Lib.hid hs8; have Hb8 := Lib.hid hb8; clear hd8 hC8 hs8 hb8
  clear ho8 hm8
  dsimp only
  go_wp2_with fail
  refine (fuse_dx Hd8.out (mk_refl _) (fun k hk => ⟨by have := HC8.out.size; omega, by omega⟩) 0 _ [] (own_sl (World.ownsRow_nil w8 0 3 1)) (by decide) _ sh_6).mono ?_
  rintro e w9 ⟨rfl, hd9, hc9⟩
  have hC9 := HC8.out.trans hc9 fun _ _ e => e.1
  have hs9 := sl_chg Hs8.out hc9 fun k hk _ h => h.2 (Hb8.out k hk)
  have hz9 := hc9.size
  have Hd9 := Lib.hid hd9; have HC9 := Lib.hid hC9; have Hs9 := Lib.hid hs9; clear hd9 hC9 hs9
  clear hc9
  dsimp only
  go_wp2_with fail
  refine (sync_dx Hd9.out (mk_refl _) (fun k hk => ⟨by have := HC9.out.size; omega, fun e => by omega⟩) (shOk _ rfl (by decide) (by decide) (.inr rfl)) (by decide) 0 _ sh_7).mono ?_
  rintro e w10 ⟨rfl, hd10, hc10⟩
  have hC10 := HC9.out.trans hc10 fun _ _ e => e.1
  have hs10 := sl_chg Hs9.out hc10 fun k hk _ h => h.2 (Hb8.out k hk)
  have k1 : (convert 22 9 (.slice a8 4 c8)).run Try.prog w10 = .ok (.string ⟨#[97, 98, 99, 100]⟩) w10 := FrW.str_of hs10
  have Hd10 := Lib.hid hd10; have HC10 := Lib.hid hC10; have Hs10 := Lib.hid hs10; clear hd10 hC10 hs10
  clear hc10
  dsimp only
  go_wp2_with (first | (go_at_call 40; refine (falls_dx Hd10.out (mk_refl _) 2 rfl).mono ?_; rintro e w' ⟨rfl, rfl⟩) | (go_at_call 37; refine (alive_dx Hd10.out (mk_refl _) false rfl).mono ?_; rintro e w' ⟨rfl, rfl⟩) | fail)
  go_ret
  exact ⟨rfl, HC10.out.to_mk fun k hk h => by omega⟩
end Go.Proofs.DkW

namespace Go.Proofs.WlW
open Go Go.RowKit Go.Tk Go.Dk Go.Sp

/-- A number's first so many bytes, the lowest first; and back. -/
def leB : Nat → Nat → List UInt8
  | _, 0 => []
  | n, m + 1 => UInt8.ofNat (n % 256) :: leB (n / 256) m
def numB : List UInt8 → Nat
  | [] => 0
  | c :: l => c.toNat + 256 * numB l
theorem leB_length (m : Nat) : ∀ n, (leB n m).length = m := by
  induction m with
  | zero => intro n; rfl
  | succ m ih => intro n; simp [leB, ih]
theorem u8_mod (n : Nat) : (UInt8.ofNat (n % 256)).toNat = n % 256 := by rw [UInt8.toNat_ofNat_of_lt']; show n % 256 < 256; omega
theorem leB_snoc (m : Nat) : ∀ n, leB n (m + 1) = leB n m ++ [UInt8.ofNat (n / 256 ^ m % 256)] := by
  induction m with
  | zero => intro n; simp [leB]
  | succ m ih =>
    intro n
    rw [show leB n (m + 1 + 1) = UInt8.ofNat (n % 256) :: leB (n / 256) (m + 1) from rfl, ih, show leB n (m + 1) = UInt8.ofNat (n % 256) :: leB (n / 256) m from rfl, Nat.div_div_eq_div_mul, List.cons_append, Nat.pow_succ, Nat.mul_comm 256]
theorem numB_lt : ∀ l : List UInt8, numB l < 256 ^ l.length
  | [] => by simp [numB]
  | c :: l => by
    have := numB_lt l
    have hc := c.toNat_lt
    simp only [numB, List.length_cons, Nat.pow_succ]
    omega
theorem numB_snoc : ∀ (l : List UInt8) (c : UInt8), numB (l ++ [c]) = numB l + c.toNat * 256 ^ l.length
  | [], c => by simp [numB]
  | d :: l, c => by
    simp only [List.cons_append, numB, numB_snoc l c, List.length_cons, Nat.pow_succ]
    rw [Nat.mul_add, ← Nat.mul_assoc, Nat.mul_comm 256 (c.toNat), Nat.mul_assoc, Nat.mul_comm 256 (256 ^ l.length), ← Nat.add_assoc]
theorem numB_leB (m : Nat) : ∀ n, n < 256 ^ m → numB (leB n m) = n := by
  induction m with
  | zero => intro n h; simp [leB, numB] at h ⊢; omega
  | succ m ih =>
    intro n h
    simp only [leB, numB, u8_mod]
    rw [ih _ (by rw [Nat.pow_succ] at h; omega)]
    omega

/-- append of one byte at least onto a full slice: a new row. -/
theorem wpList_append_full {P : Program} {w : World} {ops : Array Oper} {rest : List Oper} {o : Oper} {a : Act} {Q : Exit → Act → World → Prop} {t e : TypeId}
    (ht : P.underlying t = some (.slice e)) (hi : (P.info? e).map (fun i => (i.zero, i.size, i.bytes)) = some (some (.int .u8 0), 1, 1)) (hgd : o.guard = none) (s x : Operand)
    (ho : o.op = .call { callee := .builtin .append, args := #[s, x], argTypes := #[t, t] })
    {n : Nat} {v : Value} {b off : Nat} {xs : List Value} (hv : v = .slice (some ⟨b, off, none⟩) n n) (hs : a.eval s = v) (hown : Sl w 1 v n xs) (hn : 0 < n)
    {xv : Value} {m : Nat} {news : List Value} (hxe : a.eval x = xv) (hx : Sl w 1 xv m news) (hm : 0 < m)
    (hb : n + m ≤ 140737488355328)
    (h : ∀ v' w', w'.ownsRow w.heap.size e 1 v' (n + m) (xs ++ news) → Mk w w' → wpList P ops Q rest (a.put o.dst v') w') :
    wpList P ops Q (o :: rest) a w := by
  subst hv
  obtain ⟨i0, hi1, hz0, hz1, hz2⟩ := info_parts hi
  obtain ⟨hl, xa, cp, rfl, hmc, hcm, hnone, hc⟩ := hx
  obtain ⟨xb, xoff, rfl, hxd⟩ := hc hm
  obtain ⟨b', off', he, hd⟩ := hown.cellAt hn
  cases he
  have hadd : ∀ (b o j : Nat), (⟨b, o, none⟩ : Addr).add j = ⟨b, o + j, none⟩ := by intro b o j; unfold Addr.add; split <;> simp_all
  have hxl := hown.1
  have hr := run_append_grow (P := P) (w := w) t o.type e i0 (.int .u8 0) ht hi1 hz0 ⟨b, off, none⟩ n n xs (by rw [hz1]; exact hxl) (by intro j v hj; rw [hadd]; exact hd j v hj) ⟨xb, xoff, none⟩ m cp news (by rw [hz1]; exact hl) (by intro j v hj; rw [hadd]; exact hxd j v hj) (by omega) (by omega) (by rw [hz2]; exact growslice_fits (by omega) (by omega))
  refine wpList_plain hgd fun K hK => ?_
  unfold Oper.wp
  simp only [execOp, ho, resolve, invoke, builtin, Sem.run_bind, Sem.run_pure, Result.andThen_ok, List.map_toArray, List.map_cons, List.map_nil, hs, hxe, hr]
  refine hK _ _ (h _ _ ?_ ?_)
  · refine ⟨by simp [hxl, hl, Nat.add_mul], .inr ⟨w.heap.size, _, _, rfl, Nat.le_refl _, heap_alloc_new w.drew _, grownCap_ge _ _ _ _, grownCap_le_maxLen _ _ _ _ (by simp only [maxLen]; omega), ?_, ?_⟩⟩
    · have h1 := grownCap_ge w (n + m) n e
      rw [Array.size_append, Array.size_append, size_zeroCells, List.size_toArray, List.size_toArray, hxl, hl]
      show n * 1 + m * 1 + (grownCap w (n + m) n e - (n + m)) * 1 = _
      omega
    · have h2 : (xs ++ news).length = (n + m) * 1 := by simp [hxl, hl]
      rw [Array.toList_append, Array.toList_append, ← h2, List.take_left']
      simp
  · exact ⟨rfl, rfl, rfl, by simp, fun k hk => Below.heap_alloc w.drew _ k hk⟩
end Go.Proofs.WlW

namespace Go.Proofs.WlW
open Go Go.RowKit Go.Tk Go.Dk Go.Sp

theorem Chg.to_grown {w w' : World} {row : Option Nat} (h : Mk w w') : w.grownBy w' row := ⟨h.os, h.tape, h.output, h.size, fun k hk _ => h.block k hk⟩
/-- Bytes of the call's own: a row, or a full slice. -/
def Gr (base : Nat) (v : Value) (xs : List UInt8) (w : World) : Prop :=
  w.ownsRow base 5 1 v xs.length (bv xs) ∨ (∃ b off, v = .slice (some ⟨b, off, none⟩) xs.length xs.length ∧ Bs w v xs ∧ 0 < xs.length ∧ base ≤ b)
theorem Gr.sl {base : Nat} {v : Value} {xs : List UInt8} {w : World} (h : Gr base v xs w) : Bs w v xs := by
  rcases h with h | ⟨b, off, _, h, _⟩
  · exact own_sl h
  · exact h

set_option maxHeartbeats 1000000 in
set_option maxRecDepth 100000 in
theorem put_any (w : World) (base : Nat) (v : Value) (xs : List UInt8) (n m : Nat) (h : Gr base v xs w) (hbase : base ≤ w.heap.size) (hx : xs.length ≤ 1000000000) (hn : n < 18446744073709551616) (hm0 : 0 < m) (hm : m ≤ 8) :
    Calls Try.prog 149 #[v, .int .u64 (n : Int), .int .i64 (m : Int)] w fun e w' => ∃ v', e = .returned v' ∧ w'.ownsRow base 5 1 v' (xs.length + m) (bv (xs ++ leB n m)) ∧ w.grownBy w' v.ownBlock := by
  have H := Lib.hid h; clear h
  go_enter Try.func149, Try.ntmps149
  go_wp2
  go_loopw [0, 9] (fun b i wr => ∃ k : Nat, i = .int .i64 (k : Int) ∧ k ≤ m ∧ Gr base b (xs ++ leB n k) wr ∧ (0 < k → wr.ownsRow base 5 1 b (xs.length + k) (bv (xs ++ leB n k))) ∧ w.grownBy wr v.ownBlock ∧ w.heap.size ≤ wr.heap.size ∧ Fr w v b) (fun _ i _ => m - (intOf i).toNat)
  case atStart => exact ⟨0, rfl, Nat.zero_le _, by simpa [leB] using H.out, fun h => absurd h (by simp), ⟨rfl, rfl, rfl, Nat.le_refl _, fun _ _ _ => rfl⟩, Nat.le_refl _, Fr.refl _ _⟩
  case round =>
    obtain ⟨k, rfl, hk, hg, ho, hgr, hsz, hfr⟩ := hrel
    by_cases hlt : k < m
    · have h8 : IntKind.i64.wrap (8 * (k : Int)) = ((8 * k : Nat) : Int) := by
        have := IntWalk.i64_in (8 * (k : Int)) (by omega)
        omega
      obtain ⟨c, hc⟩ : ∃ c : UInt8, UInt8.ofNat (n / 256 ^ k % 256) = c := ⟨_, rfl⟩
      have hbyte : ((n : Int) / 2 ^ (8 * k) % 256) = ((c.toNat : Nat) : Int) := by
        have e : (2 : Int) ^ (8 * k) = ((256 ^ k : Nat) : Int) := by rw [show (256 : Nat) = 2 ^ 8 from rfl, ← Nat.pow_mul]; simp
        rw [← hc, u8_mod, e]
        rfl
      have hsn : xs ++ leB n (k + 1) = xs ++ leB n k ++ [c] := by rw [leB_snoc, hc, List.append_assoc]
      have hlk : (xs ++ leB n k).length = xs.length + k := by simp [leB_length]
      have hnew : ∀ W : World, Sl (W.alloc (.cells #[.int .u8 (c.toNat : Int)] 5)) 1 (.slice (some ⟨W.heap.size, 0, none⟩) 1 1) 1 (bv [c]) := fun W => own_sl (lit_own W #[.int .u8 (c.toNat : Int)] 5 (by simp [maxLen]))
      have hc8 := c.toNat_lt
      clear hc ho
      rcases hg with hg | ⟨b, off, rfl, hb, hb0, hbb⟩
      · have hg' := hg.alloc (.cells #[.int .u8 (c.toNat : Int)] 5)
        obtain ⟨a, cp, rfl, _, _⟩ := (own_sl hg).form
        have Hg := Lib.hid hg; have Hg' := Lib.hid hg'; have Hgr := Lib.hid hgr; have Hfr := Lib.hid hfr; have Hsn := Lib.hid hsn; have Hlk := Lib.hid hlk; have Hnew := Lib.hid hnew; clear hg hg' hgr hfr hsn hlk hnew
        go_wp2_with (first | (at_builtin; refine wpList_append_bytes (P := Try.prog) Try.underlying22 FrW.info5 rfl (.tmp 12) (.tmp 18) rfl rfl Hg'.out rfl (Hnew.out wr) (bv_one _) (by rw [Hlk.out]; omega) (by simp; omega) ?_; intro v2 w2 ho2 hg2 hn2 hf2; clear hn2; have Ho2 := Lib.hid ho2; have Hg2 := Lib.hid (alloc_grown hg2); have Hf2 := Lib.hid (own_fresh_alloc hf2); clear ho2 hg2 hf2) | fail)
        go_roundw
        case rel =>
          have h1 := Ho2.out
          rw [← bv_append, ← Hsn.out, Hlk.out] at h1
          have h2 : (xs ++ leB n (k + 1)).length = xs.length + (k + 1) := by simp [leB_length]
          have h3 : w2.ownsRow base 5 1 v2 (xs.length + (k + 1)) (bv (xs ++ leB n (k + 1))) := h1
          refine ⟨k + 1, by go_num, by omega, .inl (by rw [h2]; exact h3), fun _ => h3, grown_fr Hgr.out Hfr.out Hg2.out, by have := Hg2.out.size; omega, Hfr.out.trans Hf2.out hsz⟩
        case measure => simp [intOf]; omega
      · rw [hlk]
        rw [Bs, hlk] at hb
        have hb' := hb.mk (mk_alloc wr (.cells #[.int .u8 (c.toNat : Int)] 5))
        rw [hlk] at hb0
        have Hb := Lib.hid hb; have Hb' := Lib.hid hb'; have Hgr := Lib.hid hgr; have Hfr := Lib.hid hfr; have Hsn := Lib.hid hsn; have Hlk := Lib.hid hlk; have Hnew := Lib.hid hnew; clear hb hb' hgr hfr hsn hlk hnew
        go_wp2_with (first | (at_builtin; refine wpList_append_full (P := Try.prog) Try.underlying22 FrW.info5 rfl (.tmp 12) (.tmp 18) rfl rfl rfl Hb'.out hb0 rfl (Hnew.out wr) (by decide) (by omega) ?_; intro v2 w2 ho2 hm2; have Ho2 := Lib.hid ho2; have Hm2 := Lib.hid (mk_trans (mk_alloc _ _) hm2); clear ho2 hm2) | fail)
        go_roundw
        case rel =>
          have h1 := Ho2.out
          rw [← bv_append, ← Hsn.out] at h1
          have h2 : (xs ++ leB n (k + 1)).length = xs.length + (k + 1) := by simp [leB_length]
          have h3 : w2.ownsRow base 5 1 v2 (xs.length + (k + 1)) (bv (xs ++ leB n (k + 1))) := own_base h1 (by simp; omega)
          refine ⟨k + 1, by go_num, by omega, .inl (by rw [h2]; exact h3), fun _ => h3, grown_fr Hgr.out Hfr.out (Chg.to_grown Hm2.out), by have := Hm2.out.size; omega, Hfr.out.trans (.inr ?_) hsz⟩
          obtain ⟨g, cp, rfl, _, _, hg, _⟩ := own_form Ho2.out (by omega)
          exact ⟨g, rfl, by simp at hg; omega⟩
        case measure => simp [intOf]; omega
    · obtain rfl : k = m := by omega
      have Hg := Lib.hid hg; have Hgr := Lib.hid hgr; have Hfr := Lib.hid hfr; clear hg hgr hfr
      have ho' := ho hm0
      go_wp2
      go_ret
      exact ⟨_, rfl, ho', Hgr.out⟩

theorem wrap_u64 (n : Nat) (h : n < 18446744073709551616) : IntKind.u64.wrap (n : Int) = (n : Int) := IntWalk.u64_in _ (by omega)
theorem or_wrap (l : List UInt8) (c : UInt8) (hk : l.length < 8) : bits BinOp.or IntKind.u64 (numB l : Int) (IntKind.u64.wrap ((c.toNat : Int) * 2 ^ (8 * l.length))) = (numB (l ++ [c]) : Int) := by
  have hA := numB_lt l
  have hc := c.toNat_lt
  have e : (2 : Int) ^ (8 * l.length) = ((256 ^ l.length : Nat) : Int) := by rw [show (256 : Nat) = 2 ^ 8 from rfl, ← Nat.pow_mul]; simp
  have hp : 256 ^ (l.length + 1) ≤ 256 ^ 8 := Nat.pow_le_pow_right (by decide) (by omega)
  have hm : c.toNat * 256 ^ l.length < 18446744073709551616 := by
    have h1 : c.toNat * 256 ^ l.length < 256 * 256 ^ l.length := Nat.mul_lt_mul_of_pos_right hc (Nat.pow_pos (by decide))
    rw [Nat.pow_succ] at hp
    have h2 : (256 : Nat) ^ 8 = 18446744073709551616 := by decide
    omega
  have hA2 : numB l < 18446744073709551616 := by
    rw [Nat.pow_succ] at hp
    have h2 : (256 : Nat) ^ 8 = 18446744073709551616 := by decide
    omega
  have hw : IntKind.u64.wrap ((c.toNat : Int) * 2 ^ (8 * l.length)) = ((c.toNat * 256 ^ l.length : Nat) : Int) := by
    rw [e]
    have := wrap_u64 (c.toNat * 256 ^ l.length) hm
    rw [← this]; simp
  rw [hw, u64_or_nat _ _ hA2 hm, Nat.or_comm, show (256 : Nat) ^ l.length = 2 ^ (8 * l.length) by rw [Nat.pow_mul], nat_join (8 * l.length) _ _ (Nat.mul_mod_left _ _) (by rw [Nat.pow_mul]; exact hA), numB_snoc, Nat.add_comm, Nat.pow_mul]
set_option maxHeartbeats 1000000 in
set_option maxRecDepth 100000 in
theorem get_any (w : World) (v : Value) (xs : List UInt8) (h : Bs w v xs) (hx : xs.length ≤ 8) :
    Calls Try.prog 150 #[v] w fun e w' => e = .returned (.int .u64 (numB xs : Int)) ∧ w = w' := by
  obtain ⟨a, cp, rfl, _, _⟩ := h.form
  have H := Lib.hid h; clear h
  go_enter Try.func150, Try.ntmps150
  go_wp2
  go_loop [3, 8] (fun n i => ∃ k : Nat, i = .int .i64 (k : Int) ∧ k ≤ xs.length ∧ n = .int .u64 (numB (xs.take k) : Int)) (fun _ i => xs.length - (intOf i).toNat)
  case atStart => exact ⟨0, rfl, Nat.zero_le _, rfl⟩
  case round =>
    obtain ⟨k, rfl, hk, rfl⟩ := hrel
    by_cases hlt : k < xs.length
    · obtain ⟨b, off, rfl, hcell⟩ := FrW.bs_at H.out k hlt
      have hc8 := xs[k].toNat_lt
      have h8 : IntKind.i64.wrap (8 * (k : Int)) = ((8 * k : Nat) : Int) := by
        have := IntWalk.i64_in (8 * (k : Int)) (by omega)
        omega
      go_wp2_with fail
      go_round
      case rel =>
        refine ⟨k + 1, by go_num, by omega, ?_⟩
        have hl : (xs.take k).length = k := by simp; omega
        have := or_wrap (xs.take k) xs[k] (by omega)
        rw [hl] at this
        rw [this, List.take_succ_eq_append_getElem hlt]
      case measure => simp [intOf]; omega
    · obtain rfl : k = xs.length := by omega
      go_wp2
      go_ret
      exact ⟨rfl, rfl⟩
end Go.Proofs.WlW

namespace Go.Proofs.DkW
open Go Go.RowKit Go.Tk Go.Dk

section
variable {s : St} {M : Nat}
theorem fall_ok (h : s.Ok0 M) (kl : List Int) : (s.fall kl).Ok (M + 1) := by
  refine ⟨⟨by simpa [St.fall] using h.some, by simpa [St.fall] using h.many, fun x hx => ?_, by have := h.falls; simp only [St.fall]; omega⟩, fun n k hk => by cases hk⟩
  obtain ⟨i, hi, rfl⟩ := List.getElem_of_mem hx
  simp only [St.fall, List.getElem_mapIdx]
  have hi' : i < s.files.length := by simpa [St.fall] using hi
  have := h.file _ (List.getElem_mem hi')
  unfold fallFile
  have hk : (s.files[i]).2 + kept kl i (s.files[i]).1.length (s.files[i]).2 ≤ (s.files[i]).1.length := by unfold kept; omega
  refine ⟨by simp [hk], ?_⟩
  simp only [List.length_take]; omega
theorem lit_okk (h : s.Ok M) (hb : s.burnt = false) : s.lit.Ok M := by
  refine ⟨lit_ok h, fun n k hk => ?_⟩
  cases hf : s.fuse with
  | none => simp [St.lit, hf] at hk
  | some x =>
    obtain ⟨m, l⟩ := x
    have h1 := h.ops m l hf
    simp [St.burnt, hf] at hb
    simp [St.lit, hf] at hk
    omega
theorem put_okk (h : s.Ok M) {f : Nat} {x : List UInt8 × Nat} (hx : x.2 ≤ x.1.length ∧ x.1.length ≤ 16777216) : (s.put f x).Ok M := by
  have h1 := ok_put h.toOk0 (f := f) hx
  exact ⟨⟨by simpa [St.put] using h.some, h1.1, h1.2, h.falls⟩, h.ops⟩
theorem put_ok0 (h : s.Ok0 M) {f : Nat} {x : List UInt8 × Nat} (hx : x.2 ≤ x.1.length ∧ x.1.length ≤ 16777216) : (s.put f x).Ok0 M := by
  have h1 := ok_put h (f := f) hx
  exact ⟨by simpa [St.put] using h.some, h1.1, h1.2, h.falls⟩
theorem Ok_mono {M' : Nat} (h : s.Ok M) (hm : M ≤ M') : s.Ok M' := ⟨⟨h.some, h.many, h.file, Nat.le_trans h.falls hm⟩, h.ops⟩
theorem file_ok (h : s.Ok M) (f : Nat) : (s.file f).2 ≤ (s.file f).1.length ∧ (s.file f).1.length ≤ 16777216 := by
  by_cases hf : f < s.files.length
  · rw [← St.file_eq hf]; exact h.file _ (List.getElem_mem _)
  · simp [St.file, List.getD_eq_getElem?_getD, List.getElem?_eq_none (show s.files.length ≤ f by omega)]
theorem append_ok (h : s.Ok M) (f : Int) (b : List UInt8) : (s.append f b).1.Ok (M + 1) := by
  unfold St.append
  split
  · exact Ok_mono h (by omega)
  split
  · exact Ok_mono h (by omega)
  split
  · exact Ok_mono h (by omega)
  · rename_i hl
    have hf := file_ok h f.toNat
    have hx : (s.file f.toNat).2 ≤ ((s.file f.toNat).1 ++ b).length ∧ ((s.file f.toNat).1 ++ b).length ≤ 16777216 := by simp; omega
    cases hb : s.burnt
    · exact Ok_mono (put_okk (lit_okk h hb) hx) (by omega)
    · exact fall_ok (put_ok0 (lit_ok h) hx) _
theorem sync_ok (h : s.Ok M) (f : Int) : (s.sync f).1.Ok (M + 1) := by
  unfold St.sync
  split
  · exact Ok_mono h (by omega)
  split
  · exact Ok_mono h (by omega)
  · have hf := file_ok h f.toNat
    cases hb : s.burnt
    · exact Ok_mono (put_okk (lit_okk h hb) ⟨Nat.le_refl _, hf.2⟩) (by omega)
    · exact fall_ok (lit_ok h) _
theorem truncate_ok (h : s.Ok M) (f n : Int) : (s.truncate f n).1.Ok (M + 1) := by
  unfold St.truncate
  split
  · exact Ok_mono h (by omega)
  split
  · exact Ok_mono h (by omega)
  split
  · exact Ok_mono h (by omega)
  · have hf := file_ok h f.toNat
    cases hb : s.burnt
    · exact Ok_mono (put_okk (lit_okk h hb) ⟨by simp; omega, by simp; omega⟩) (by omega)
    · exact fall_ok (lit_ok h) _
theorem light_ok (h : s.Ok M) (ops : Int) (kl : List Int) (ho : ops ≤ 9223372036854775807) : (s.light ops kl).1.Ok M := by
  unfold St.light
  split
  · exact h
  split
  · exact h
  · exact ⟨⟨h.some, h.many, h.file, h.falls⟩, fun n k hk => by simp at hk; omega⟩
theorem crash_ok (h : s.Ok M) (kl : List Int) : (s.crash kl).Ok (M + 1) := by
  unfold St.crash
  split
  · exact Ok_mono h (by omega)
  · exact fall_ok h.toOk0 _
theorem restart_ok (h : s.Ok M) : s.restart.Ok M := ⟨⟨h.some, h.many, h.file, h.falls⟩, fun n k hk => by cases hk⟩
theorem fresh_ok (n : Nat) (h0 : 1 ≤ n) (h1 : n ≤ 8) : (Dk.fresh n).Ok 0 := by
  refine ⟨⟨by simp [Dk.fresh]; omega, by simp [Dk.fresh]; omega, fun x hx => ?_, Nat.le_refl _⟩, fun n k hk => by cases hk⟩
  have : x = ([], 0) := List.eq_of_mem_replicate hx
  subst this
  simp
end
end Go.Proofs.DkW

namespace Go.Proofs.FrW
open Go Go.RowKit Go.Tk Go.Sp Go.Rg Go.Lib Go.Shelf

def gK (xs : List UInt8) : UInt8 := match frameOf xs with | some (k, _, _) => k | none => 0
def gD (xs : List UInt8) : List UInt8 := match frameOf xs with | some (_, d, _) => d | none => []
def gN (xs : List UInt8) : Nat := match frameOf xs with | some (_, _, n) => n | none => 0
theorem gD_len (xs : List UInt8) : (gD xs).length ≤ 4194304 := by
  unfold gD
  rcases hf : frameOf xs with _ | ⟨k, d, n⟩
  · simp
  · exact (frame_len hf).2.2
theorem get_out {xs : List UInt8} {w w' : World} {e : Ending} (hp : GetPost xs w e w') :
    Mk w w' ∧ ∃ dv, w'.ownsRow w.heap.size 5 1 dv (gD xs).length (bv (gD xs)) ∧ e = .returned (.tuple #[.int .u8 ((gK xs).toNat : Int), dv, .int .i64 (gN xs : Int)]) := by
  unfold GetPost at hp
  unfold gD gK gN
  rcases hf : frameOf xs with _ | ⟨k, d, n⟩ <;> rw [hf] at hp <;> exact hp

theorem lent_taken (xs : List UInt8) : (xs ++ List.replicate 8 (201 : UInt8)).take xs.length = xs := by simp

theorem str_sl {w : World} {v : Value} {n : Nat} {xs : List UInt8} (h : Sl w 1 v n (bv xs)) : (convert 22 9 v).run Try.prog w = .ok (.string ⟨xs.toArray⟩) w := by
  obtain ⟨a, cap, rfl, _, _⟩ := h.form
  exact str_of h

theorem bs_of {w : World} {v : Value} {n : Nat} {xs : List UInt8} (h : Sl w 1 v n (bv xs)) (hl : xs.length = n) : Bs w v xs := by subst hl; exact h
theorem own_ne {w w' : World} {b1 b2 n1 n2 : Nat} {v1 v2 : Value} {xs ys : List Value} (h1 : w.ownsRow b1 5 1 v1 n1 xs) (h2 : w'.ownsRow b2 5 1 v2 n2 ys) (hb : w.heap.size ≤ b2) : v1.ownBlock = none ∨ v1.ownBlock ≠ v2.ownBlock := by
  rcases e : v1.ownBlock with _ | k
  · exact .inl rfl
  · refine .inr fun e2 => ?_
    have := (h1.lt k e).2
    have := (h2.lt k e2.symm).1
    omega
theorem ne_symm {a b : Option Nat} (h : a = none ∨ a ≠ b) : b = none ∨ b ≠ a := by
  rcases h with h | h
  · subst h
    cases b with
    | none => exact .inl rfl
    | some k => exact .inr (by simp)
  · exact .inr fun e => h e.symm
theorem fr_ne {w : World} {v v' u : Value} (hf : Tk.Fr w v v') (hn : v.ownBlock = none ∨ v.ownBlock ≠ u.ownBlock) (hu : ∀ k, u.ownBlock = some k → k < w.heap.size) : v'.ownBlock = none ∨ v'.ownBlock ≠ u.ownBlock := by
  rcases hf with e | ⟨g, e, hg⟩
  · rw [e]; exact hn
  · refine .inr fun e2 => ?_
    have := hu g (by rw [← e2, e])
    omega

set_option maxRecDepth 100000 in
theorem frameGets_any (w : World) (v : Value) (xs : List UInt8) (h : Bs w v xs) (hb : xs.length ≤ 1048576) :
    Calls Try.prog 4 #[v] w fun e w' => e = .returned (.bool true) ∧ Mk w w' := by
  obtain ⟨a, cap, rfl, hc1, hc2⟩ := h.form
  have H := Lib.hid h
  clear h hc1 hc2
  go_enter Try.func4, Try.ntmps4
  go_wp2_with fail
  refine (shown_any _).mono ?_
  rintro e w1 ⟨rfl, hm⟩
  have HM1 := Lib.hid hm
  clear hm
  go_wp2_with fail
  refine (lent_any w1 _ xs (H.out.mk HM1.out) (by omega)).mono ?_
  rintro e w2 ⟨g2, rfl, ho, hm⟩
  have HO2 := Lib.hid ho
  have HM2 := Lib.hid hm
  have HM02 := Lib.hid (mk_trans HM1.out hm)
  clear ho hm
  go_wp2_with fail
  have HXL := Lib.hid (show Bs w2 (.slice (some ⟨g2, 0, none⟩) (xs.length + 8) (xs.length + 8)) (xs ++ List.replicate 8 201) by
    have := own_sl HO2.out
    rw [Bs, show (xs ++ List.replicate 8 (201 : UInt8)).length = xs.length + 8 by simp]
    exact this)
  have HX := Lib.hid (show Bs w2 (.slice (some ⟨g2, 0, none⟩) xs.length (xs.length + 8)) xs by
    simpa using Sl.taken HXL.out xs.length (by simp))
  refine (Get_any _ _ xs HX.out (by omega)).mono ?_
  intro e w3 hp
  obtain ⟨hm, cv, ho, rfl⟩ := get_out hp
  have HM3 := Lib.hid hm
  have HOC := Lib.hid ho
  clear hp hm ho
  go_wp2_with fail
  refine (Get_any _ _ xs (HX.out.mk HM3.out) (by omega)).mono ?_
  intro e w4 hp
  obtain ⟨hm, dv, ho, rfl⟩ := get_out hp
  have HM4 := Lib.hid hm
  have HM24 := Lib.hid (mk_trans HM3.out hm)
  have HOD := Lib.hid ho
  clear hp hm ho
  go_wp2_with fail
  refine (getR_any _ _ xs (H.out.mk (mk_trans HM02.out HM24.out)) (by omega)).mono ?_
  intro e w5 hp
  obtain ⟨hm, rv, ho, rfl⟩ := get_out hp
  have HM5 := Lib.hid hm
  have HM25 := Lib.hid (mk_trans HM24.out hm)
  have HOR := Lib.hid ho
  clear hp hm ho
  have hD := gD_len xs
  generalize gD xs = D at *
  generalize (gK xs) = K at *
  generalize (gN xs) = N at *
  go_wp2_with fail
  refine (still_any _ _ _ (xs ++ List.replicate 8 201) xs (HXL.out.mk HM25.out) (H.out.mk (mk_trans HM02.out HM25.out)) (by simp; omega) (by omega) rfl).mono ?_
  rintro e w6 ⟨rfl, hm⟩
  have HM6 := Lib.hid hm
  have HM26 := Lib.hid (mk_trans HM25.out hm)
  clear hm
  have HOC6 := Lib.hid (own_mk HOC.out (mk_trans HM4.out (mk_trans HM5.out HM6.out)))
  have HOD6 := Lib.hid (own_mk HOD.out (mk_trans HM5.out HM6.out))
  have HOR6 := Lib.hid (own_mk HOR.out HM6.out)
  have k1 := str_sl (own_sl HOC6.out)
  have k2 := str_sl (own_sl HOD6.out)
  have k3 := str_sl (own_sl HOR6.out)
  go_wp2_with fail
  clear k1 k2 k3
  refine (full_any w6 _ cv D 1 HOC6.out (by omega) HM26.out.size).mono ?_
  rintro e w7 ⟨u, rfl, ho, hg, hf⟩
  have HOU := Lib.hid ho
  have HM27 := Lib.hid (mk_own HM26.out HOC6.out hg)
  have HFU := Lib.hid hf
  have HOD7 := Lib.hid (HOD6.out.kept hg (ne_symm (own_ne HOC.out HOD.out (Nat.le_refl _))))
  have HOR7 := Lib.hid (HOR6.out.kept hg (ne_symm (own_ne HOC.out HOR.out HM4.out.size)))
  have HS7 := Lib.hid hg.size
  clear ho hg hf
  have k2 := str_sl (own_sl HOD7.out)
  have k3 := str_sl (own_sl HOR7.out)
  go_wp2_with fail
  clear k2 k3
  have hs := And.intro HM3.out.size (And.intro HM4.out.size (And.intro HM5.out.size (And.intro HM6.out.size HS7.out)))
  have hsd : ∀ k, dv.ownBlock = some k → k < w4.heap.size := fun k hk => (HOD.out.lt k hk).2
  refine (full_any w7 _ dv D 2 HOD7.out (by omega) (by omega)).mono ?_
  rintro e w8 ⟨u2, rfl, ho, hg, hf⟩
  have HOU2 := Lib.hid ho
  have HM28 := Lib.hid (mk_own HM27.out (own_base HOD7.out HM3.out.size) hg)
  have HOU8 := Lib.hid (HOU.out.kept hg (fr_ne HFU.out (own_ne HOC.out HOD.out (Nat.le_refl _)) (fun k hk => by have := hsd k hk; omega)))
  clear ho hg hf hs hsd
  go_wp2_with fail
  refine (all_any w8 u (List.replicate (D.length + 64) 1) 1 (bs_of (own_sl HOU8.out) (by simp)) (by simp; omega) (by simp)).mono ?_
  rintro e w9 ⟨rfl, rfl⟩
  go_wp2_with fail
  refine (all_any _ u2 (List.replicate (D.length + 64) 2) 2 (bs_of (own_sl HOU2.out) (by simp)) (by simp; omega) (by simp)).mono ?_
  rintro e w9 ⟨rfl, rfl⟩
  go_wp2_with fail
  refine (still_any _ _ _ (xs ++ List.replicate 8 201) xs (HXL.out.mk HM28.out) (H.out.mk (mk_trans HM02.out HM28.out)) (by simp; omega) (by omega) rfl).mono ?_
  rintro e w10 ⟨rfl, hm⟩
  have HM10 := Lib.hid hm
  clear hm
  go_wp2_with fail
  go_ret
  exact ⟨rfl, mk_trans HM02.out (mk_trans HM28.out HM10.out)⟩
end Go.Proofs.FrW
