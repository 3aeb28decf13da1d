/- Layer 4, disk: a disk whose blocks are of a class; the examples. -/
import Derived.Test.YtcfjdldlcdomgaaDkG
namespace Go.Proofs.DkW
open Go Go.RowKit Go.Tk Go.Dk Go.Sp
attribute [local go_sem] Oper.semAt_some

theorem PD.trim {S : Nat → Prop} {w : World} {p : Nat} {st : St} (h : PD S w p st) : PD (fun k => S k ∧ k < w.heap.size) w p st := by
  obtain ⟨F, U, q, c, cs, vs, fu, h⟩ := h
  exact ⟨fun k => F k ∧ k < w.heap.size, fun k => U k ∧ k < w.heap.size, q, c, cs, vs, fu, h.head, h.files.sub fun k hk hf => ⟨hf, hk⟩, h.fuse.trim, ⟨h.sp, h.head.lt⟩,
    fun k hk => ⟨⟨(h.fs k hk.1).1, hk.2⟩, (h.fs k hk.1).2⟩, fun k hk => ⟨⟨(h.us k hk.1).1, hk.2⟩, (h.us k hk.1).2⟩, fun k hk hu => h.disj k hk.1 hu.1, h.hc⟩

/-- A disk whose blocks are of a class. -/
def DX (A : Nat → Prop) (w : World) (p : Nat) (st : St) : Prop := ∃ S, PD S w p st ∧ ∀ k, S k → A k ∧ k < w.heap.size
section
variable {A S : Nat → Prop} {w0 w w' : World} {p M : Nat} {st st' : St}
theorem DX.out (h : DX A w0 p st) (hm : Mk w0 w) : ∃ S, PD S w p st ∧ ∀ k, S k → A k ∧ k < w0.heap.size := by
  obtain ⟨S, h1, h2⟩ := h; exact ⟨S, h1.made hm, h2⟩
theorem DX.made (h : DX A w0 p st) (hm : Mk w0 w) : DX A w p st := by
  obtain ⟨S, h1, h2⟩ := h; exact ⟨S, h1.made hm, fun k hk => ⟨(h2 k hk).1, by have := (h2 k hk).2; have := hm.size; omega⟩⟩
theorem DX.back (hS : ∀ k, S k → A k ∧ k < w0.heap.size) (hA : ∀ k, w.heap.size ≤ k → A k) (hp : PD (Gw S w) w' p st') (hc : Chg S w w') : DX A w' p st' ∧ Chg A w w' :=
  ⟨⟨_, PD.trim hp, fun k hk => ⟨by rcases hk.1 with h | h; exact (hS k h).1; exact hA k h, hk.2⟩⟩, hc.sub fun k _ hk => (hS k hk).1⟩
theorem DX.keep (h : DX A w p st) {T : Nat → Prop} (hc : Chg T w w') (hn : ∀ k, k < w.heap.size → A k → ¬ T k) : DX A w' p st := by
  obtain ⟨S, h1, h2⟩ := h
  exact ⟨S, h1.keep hc fun k hk hs => hn k hk (h2 k hs).1, fun k hk => ⟨(h2 k hk).1, by have := (h2 k hk).2; have := hc.size; omega⟩⟩
/-- What has been made since is none of its. -/
theorem DX.avoid (h : DX A w0 p st) (hm : Mk w0 w) : DX (fun k => A k ∧ ¬ (w0.heap.size ≤ k ∧ k < w.heap.size)) w p st := by
  obtain ⟨S, h1, h2⟩ := h
  exact ⟨S, h1.made hm, fun k hk => ⟨⟨(h2 k hk).1, fun e => by have := (h2 k hk).2; omega⟩, by have := (h2 k hk).2; have := hm.size; omega⟩⟩
theorem new_own (w0 : World) {n c : Nat} : ∀ k, (Value.slice (some ⟨w0.heap.size, 0, none⟩) n c).ownBlock = some k → k < w0.heap.size → ¬ A k := by
  intro k hk hl
  simp only [Value.ownBlock, Option.some.injEq] at hk
  omega
theorem append_dx (h : DX A w0 p st) (hm : Mk w0 w) (hA : ∀ k, w.heap.size ≤ k → A k) (hok : st.Ok M) (hM : M ≤ 1000000) (f : Int) (v : Value) (xs : List UInt8) (hb : Bs w v xs) (hbx : xs.length ≤ 1073741824) (hd : ∀ k, v.ownBlock = some k → k < w0.heap.size → ¬ A k)
    (r : St × Int) (hr : st.append f xs = r) : Calls Try.prog 32 #[.pointer (some ⟨p, 0, none⟩), .int .i64 f, v] w fun e w' => e = .returned (.int .i64 r.2) ∧ DX A w' p r.1 ∧ Chg A w w' := by
  subst hr
  obtain ⟨S, h1, h2⟩ := h.out hm
  refine (append_any h1 hok hM f v xs hb hbx fun k _ hk hs => hd k hk (h2 k hs).2 (h2 k hs).1).mono ?_
  rintro e w' ⟨rfl, h3, h4⟩
  exact ⟨rfl, DX.back h2 hA h3 h4⟩
theorem sync_dx (h : DX A w0 p st) (hm : Mk w0 w) (hA : ∀ k, w.heap.size ≤ k → A k) (hok : st.Ok M) (hM : M ≤ 1000000) (f : Int) (r : St × Int) (hr : st.sync f = r) :
    Calls Try.prog 33 #[.pointer (some ⟨p, 0, none⟩), .int .i64 f] w fun e w' => e = .returned (.int .i64 r.2) ∧ DX A w' p r.1 ∧ Chg A w w' := by
  subst hr
  obtain ⟨S, h1, h2⟩ := h.out hm
  refine (sync_any h1 hok hM f).mono ?_
  rintro e w' ⟨rfl, h3, h4⟩
  exact ⟨rfl, DX.back h2 hA (h3.sub fun k hk => .inl hk) h4⟩
theorem truncate_dx (h : DX A w0 p st) (hm : Mk w0 w) (hA : ∀ k, w.heap.size ≤ k → A k) (hok : st.Ok M) (hM : M ≤ 1000000) (f n : Int) (r : St × Int) (hr : st.truncate f n = r) :
    Calls Try.prog 34 #[.pointer (some ⟨p, 0, none⟩), .int .i64 f, .int .i64 n] w fun e w' => e = .returned (.int .i64 r.2) ∧ DX A w' p r.1 ∧ Chg A w w' := by
  subst hr
  obtain ⟨S, h1, h2⟩ := h.out hm
  refine (truncate_any h1 hok hM f n).mono ?_
  rintro e w' ⟨rfl, h3, h4⟩
  exact ⟨rfl, DX.back h2 hA (h3.sub fun k hk => .inl hk) h4⟩
theorem fuse_dx (h : DX A w0 p st) (hm : Mk w0 w) (hA : ∀ k, w.heap.size ≤ k → A k) (ops : Int) (v : Value) (xs : List Int) (hb : Is w v xs) (hbx : xs.length ≤ 17592186044416) (r : St × Int) (hr : st.light ops xs = r) :
    Calls Try.prog 41 #[.pointer (some ⟨p, 0, none⟩), .int .i64 ops, v] w fun e w' => e = .returned (.int .i64 r.2) ∧ DX A w' p r.1 ∧ Chg A w w' := by
  subst hr
  obtain ⟨S, h1, h2⟩ := h.out hm
  refine (fuse_any h1 ops v xs hb hbx).mono ?_
  rintro e w' ⟨rfl, h3, h4⟩
  exact ⟨rfl, DX.back h2 hA h3 h4⟩
theorem crash_dx (h : DX A w0 p st) (hm : Mk w0 w) (hA : ∀ k, w.heap.size ≤ k → A k) (hok : st.Ok M) (hM : M ≤ 1000000) (v : Value) (xs : List Int) (hb : Is w v xs) (hd : ∀ k, v.ownBlock = some k → k < w0.heap.size → ¬ A k) (r : St) (hr : st.crash xs = r) :
    Calls Try.prog 35 #[.pointer (some ⟨p, 0, none⟩), v] w fun e w' => e = .returned (.tuple #[]) ∧ DX A w' p r ∧ Chg A w w' := by
  subst hr
  obtain ⟨S, h1, h2⟩ := h.out hm
  refine (crash_any h1 hok hM v xs hb fun k _ hk hs => hd k hk (h2 k hs).2 (h2 k hs).1).mono ?_
  rintro e w' ⟨rfl, h3, h4⟩
  exact ⟨rfl, DX.back h2 hA (h3.sub fun k hk => .inl hk) h4⟩
theorem restart_dx (h : DX A w0 p st) (hm : Mk w0 w) (hA : ∀ k, w.heap.size ≤ k → A k) (r : St) (hr : st.restart = r) : Calls Try.prog 38 #[.pointer (some ⟨p, 0, none⟩)] w fun e w' => e = .returned (.tuple #[]) ∧ DX A w' p r ∧ Chg A w w' := by
  subst hr
  obtain ⟨S, h1, h2⟩ := h.out hm
  refine (restart_any h1).mono ?_
  rintro e w' ⟨rfl, h3, h4⟩
  exact ⟨rfl, DX.back h2 hA (h3.sub fun k hk => .inl hk) h4⟩
theorem read_dx (h : DX A w0 p st) (hm : Mk w0 w) (hok : st.Ok M) (f at_ n : Int) (r : List UInt8 × Int) (hr : st.read f at_ n = r) : Calls Try.prog 36 #[.pointer (some ⟨p, 0, none⟩), .int .i64 f, .int .i64 at_, .int .i64 n] w (ReadPost w r) := by
  subst hr
  obtain ⟨S, h1, h2⟩ := h.out hm
  exact read_any h1 hok f at_ n
theorem size_dx (h : DX A w0 p st) (hm : Mk w0 w) (f : Int) (r : Int) (hr : st.size f = r) : Calls Try.prog 83 #[.pointer (some ⟨p, 0, none⟩), .int .i64 f] w fun e w' => e = .returned (.int .i64 r) ∧ w = w' := by
  subst hr
  obtain ⟨S, h1, h2⟩ := h.out hm
  exact size_any f h1
theorem lasts_dx (h : DX A w0 p st) (hm : Mk w0 w) (f : Int) (r : Int) (hr : st.lasts f = r) : Calls Try.prog 84 #[.pointer (some ⟨p, 0, none⟩), .int .i64 f] w fun e w' => e = .returned (.int .i64 r) ∧ w = w' := by
  subst hr
  obtain ⟨S, h1, h2⟩ := h.out hm
  exact lasts_any f h1
theorem alive_dx (h : DX A w0 p st) (hm : Mk w0 w) (r : Bool) (hr : (!st.off) = r) : Calls Try.prog 37 #[.pointer (some ⟨p, 0, none⟩)] w fun e w' => e = .returned (.bool r) ∧ w = w' := by
  subst hr
  obtain ⟨S, h1, h2⟩ := h.out hm
  exact alive_any h1
theorem falls_dx (h : DX A w0 p st) (hm : Mk w0 w) (r : Nat) (hr : st.falls = r) : Calls Try.prog 40 #[.pointer (some ⟨p, 0, none⟩)] w fun e w' => e = .returned (.int .i64 (r : Int)) ∧ w = w' := by
  subst hr
  obtain ⟨S, h1, h2⟩ := h.out hm
  exact falls_any h1
theorem new_dx (n : Nat) (h0 : 1 ≤ n) (h1 : n ≤ 8) (hA : ∀ k, w.heap.size ≤ k → A k) : Calls Try.prog 30 #[.int .i64 (n : Int)] w fun e w' => ∃ p, e = .returned (.tuple #[.pointer (some ⟨p, 0, none⟩), .int .i64 0]) ∧ DX A w' p (fresh n) ∧ Mk w w' := by
  refine (new_any w n h0 h1).mono ?_
  rintro e w' ⟨p, rfl, h2, h3⟩
  exact ⟨p, rfl, ⟨_, PD.trim h2, fun k hk => ⟨hA k hk.1, hk.2⟩⟩, h3⟩
end

def sh1 : St := ⟨[([97, 98, 99], 0), ([], 0)], false, 0, none⟩
def sh2 : St := ⟨[([97, 98, 99], 3), ([], 0)], false, 0, none⟩
def sh3 : St := ⟨[([97, 98, 99, 100, 101], 3), ([], 0)], false, 0, none⟩
def sh4 : St := ⟨[([97, 98, 99, 100], 4), ([], 0)], true, 1, none⟩
def sh5 : St := ⟨[([97, 98, 99, 100], 4), ([], 0)], false, 1, none⟩
def sh6 : St := ⟨[([97, 98, 99, 100], 4), ([], 0)], false, 1, some (0, [])⟩
def sh7 : St := ⟨[([97, 98, 99, 100], 4), ([], 0)], true, 2, none⟩
theorem sh_1 : (fresh 2).append 0 [97, 98, 99] = (sh1, 0) := by rfl
theorem sh_2 : sh1.sync 0 = (sh2, 0) := by rfl
theorem sh_3 : sh2.append 0 [100, 101] = (sh3, 0) := by rfl
theorem sh_4 : sh3.crash [1] = sh4 := by rfl
theorem sh_5 : sh4.restart = sh5 := by rfl
theorem sh_6 : sh5.light 0 [] = (sh6, 0) := by rfl
theorem sh_7 : sh6.sync 0 = (sh7, 40) := by rfl
theorem sh_r1 : sh4.read 0 0 1 = ([], 40) := by rfl
theorem sh_r2 : sh5.read 0 0 4 = ([97, 98, 99, 100], 0) := by rfl
theorem shOk (s : St) (h1 : s.files.length = 2) (h2 : (s.files.all fun x => decide (x.2 ≤ x.1.length) && decide (x.1.length ≤ 16777216)) = true) (h3 : s.falls ≤ 2) (h4 : s.fuse = none ∨ s.fuse = some (0, [])) : s.Ok 2 :=
  ⟨⟨by omega, by omega, fun x hx => by have := List.all_eq_true.1 h2 x hx; simpa using this, h3⟩, fun n k hk => by rcases h4 with h | h <;> rw [h] at hk <;> cases hk; decide⟩

set_option maxHeartbeats 1000000 in
set_option maxRecDepth 100000 in
theorem shown_any (w : World) : Calls Try.prog 29 #[] w fun e w' => e = .returned (.bool true) ∧ Mk w w' := by
  have kc := fun (w : World) (C : Array Value) (n c : Nat) => Lib.run_convert_bytes_const (P := Try.prog) w 22 5 C n c Try.underlying22 Try.underlying5
  have hA : Hid (∀ (w' : World), w.heap.size ≤ w'.heap.size → ∀ k, w'.heap.size ≤ k → w.heap.size ≤ k) := fun w' h k hk => by omega
  go_enter Try.func29, Try.ntmps29
  go_wp2_with fail
  refine (new_dx (A := fun k => w.heap.size ≤ k) 2 (by decide) (by decide) (fun k h => h)).mono ?_
  rintro e w1 ⟨p, rfl, hd1, hm1⟩
  have Hd1 := Lib.hid hd1; have Hm1 := Lib.hid hm1; clear hd1 hm1
  go_wp2_with fail
  refine (new_bad w1 9 (by decide)).mono ?_
  rintro e w' ⟨rfl, rfl⟩
  have hC1 : Chg (fun k => w.heap.size ≤ k) w w1 := Chg.of_mk Hm1.out
  have HC1 := Lib.hid hC1
  clear hC1
  go_wp2_with fail
  refine (append_dx Hd1.out (mk_alloc _ _) (fun k hk => by have := HC1.out.size; simp at hk; omega) (shOk _ rfl (by decide) (by decide) (.inl rfl)) (by decide) 0 _ [97, 98, 99] (FrW.new_bytes_m w1 [97, 98, 99] #[.int .u8 97, .int .u8 98, .int .u8 99] 5 3 (3, 4) rfl rfl (by simp [maxLen]) (by omega)) (by decide) (new_own _) _ sh_1).mono ?_
  rintro e w2 ⟨rfl, hd2, hc2⟩
  have hC2 := (HC1.out.thenAlloc (.cells #[.int .u8 97, .int .u8 98, .int .u8 99] 5 (3, 4))).trans hc2 fun _ _ e => e
  have Hd2 := Lib.hid hd2; have HC2 := Lib.hid hC2; clear hd2 hC2
  clear hc2
  dsimp only
  go_wp2_with fail
  refine (sync_dx Hd2.out (mk_refl _) (fun k hk => by have := HC2.out.size; omega) (shOk _ rfl (by decide) (by decide) (.inl rfl)) (by decide) 0 _ sh_2).mono ?_
  rintro e w3 ⟨rfl, hd3, hc3⟩
  have hC3 := HC2.out.trans hc3 fun _ _ e => e
  have Hd3 := Lib.hid hd3; have HC3 := Lib.hid hC3; clear hd3 hC3
  clear hc3
  dsimp only
  go_wp2_with fail
  refine (append_dx Hd3.out (mk_alloc _ _) (fun k hk => by have := HC3.out.size; simp at hk; omega) (shOk _ rfl (by decide) (by decide) (.inl rfl)) (by decide) 0 _ [100, 101] (FrW.new_bytes_m w3 [100, 101] #[.int .u8 100, .int .u8 101] 5 2 (2, 3) rfl rfl (by simp [maxLen]) (by omega)) (by decide) (new_own _) _ sh_3).mono ?_
  rintro e w4 ⟨rfl, hd4, hc4⟩
  have hC4 := (HC3.out.thenAlloc (.cells #[.int .u8 100, .int .u8 101] 5 (2, 3))).trans hc4 fun _ _ e => e
  have Hd4 := Lib.hid hd4; have HC4 := Lib.hid hC4; clear hd4 hC4
  clear hc4
  dsimp only
  go_wp2_with (first | (go_at_call 83; refine (size_dx Hd4.out (mk_refl _) 0 5 rfl).mono ?_; rintro e w' ⟨rfl, rfl⟩) | (go_at_call 84; refine (lasts_dx Hd4.out (mk_refl _) 0 3 rfl).mono ?_; rintro e w' ⟨rfl, rfl⟩) | fail)
  refine (crash_dx Hd4.out (mk_alloc _ _) (fun k hk => by have := HC4.out.size; simp at hk; omega) (shOk _ rfl (by decide) (by decide) (.inl rfl)) (by decide) _ [1] (own_sl (lit_own w4 #[.int .i64 1] 3 (by simp [maxLen]))) (new_own _) _ sh_4).mono ?_
  rintro e w5 ⟨rfl, hd5, hc5⟩
  have hC5 := (HC4.out.thenAlloc (.cells #[.int .i64 1] 3)).trans hc5 fun _ _ e => e
  have Hd5 := Lib.hid hd5; have HC5 := Lib.hid hC5; clear hd5 hC5
  clear hc5
  go_wp2_with fail
  refine (read_dx Hd5.out (mk_refl _) (shOk _ rfl (by decide) (by decide) (.inl rfl)) 0 0 1 _ sh_r1).mono ?_
  rintro e w6 ⟨v6, rfl, ho6, hm6⟩
  have hC6 := HC5.out.thenMk hm6
  have hd6 := Hd5.out.made hm6
  have Hd6 := Lib.hid hd6; have HC6 := Lib.hid hC6; clear hd6 hC6
  clear ho6 hm6
  dsimp only
  go_wp2_with fail
  refine (restart_dx Hd6.out (mk_refl _) (fun k hk => by have := HC6.out.size; omega) _ sh_5).mono ?_
  rintro e w7 ⟨rfl, hd7, hc7⟩
  have hC7 := HC6.out.trans hc7 fun _ _ e => e
  have Hd7 := Lib.hid hd7; have HC7 := Lib.hid hC7; clear hd7 hC7
  clear hc7
  go_wp2_with fail
  refine (read_dx Hd7.out (mk_refl _) (shOk _ rfl (by decide) (by decide) (.inl rfl)) 0 0 4 _ sh_r2).mono ?_
  rintro e w8 ⟨v8, rfl, ho8, hm8⟩
  obtain ⟨a8, c8, rfl, _, _⟩ := (own_sl ho8).form
  have hC8 := HC7.out.thenMk hm8
  have hd8 := DX.avoid Hd7.out hm8
  have hs8 := own_sl ho8
  have hb8 : ∀ k, (Value.slice a8 4 c8).ownBlock = some k → w7.heap.size ≤ k ∧ k < w8.heap.size := fun k hk => ho8.lt k hk
  have Hd8 := Lib.hid hd8; have HC8 := Lib.hid hC8; have Hs8 := Lib.hid hs8; have Hb8 := Lib.hid hb8; clear hd8 hC8 hs8 hb8
  clear ho8 hm8
  dsimp only
  go_wp2_with fail
  refine (fuse_dx Hd8.out (mk_refl _) (fun k hk => ⟨by have := HC8.out.size; omega, by omega⟩) 0 _ [] (own_sl (World.ownsRow_nil w8 0 3 1)) (by decide) _ sh_6).mono ?_
  rintro e w9 ⟨rfl, hd9, hc9⟩
  have hC9 := HC8.out.trans hc9 fun _ _ e => e.1
  have hs9 := sl_chg Hs8.out hc9 fun k hk _ h => h.2 (Hb8.out k hk)
  have hz9 := hc9.size
  have Hd9 := Lib.hid hd9; have HC9 := Lib.hid hC9; have Hs9 := Lib.hid hs9; clear hd9 hC9 hs9
  clear hc9
  dsimp only
  go_wp2_with fail
  refine (sync_dx Hd9.out (mk_refl _) (fun k hk => ⟨by have := HC9.out.size; omega, fun e => by omega⟩) (shOk _ rfl (by decide) (by decide) (.inr rfl)) (by decide) 0 _ sh_7).mono ?_
  rintro e w10 ⟨rfl, hd10, hc10⟩
  have hC10 := HC9.out.trans hc10 fun _ _ e => e.1
  have hs10 := sl_chg Hs9.out hc10 fun k hk _ h => h.2 (Hb8.out k hk)
  have k1 : (convert 22 9 (.slice a8 4 c8)).run Try.prog w10 = .ok (.string ⟨#[97, 98, 99, 100]⟩) w10 := FrW.str_of hs10
  have Hd10 := Lib.hid hd10; have HC10 := Lib.hid hC10; have Hs10 := Lib.hid hs10; clear hd10 hC10 hs10
  clear hc10
  dsimp only
  go_wp2_with (first | (go_at_call 40; refine (falls_dx Hd10.out (mk_refl _) 2 rfl).mono ?_; rintro e w' ⟨rfl, rfl⟩) | (go_at_call 37; refine (alive_dx Hd10.out (mk_refl _) false rfl).mono ?_; rintro e w' ⟨rfl, rfl⟩) | fail)
  go_ret
  exact ⟨rfl, HC10.out.to_mk fun k hk h => by omega⟩
end Go.Proofs.DkW
