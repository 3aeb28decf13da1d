/- Layer 6, wal: what Open tells; plain laws. -/
import Derived.Test.YtcfjdldlcdomgaaMWalPlays9
import Derived.Test.YtcfjdldlcdomgaaMWalPlays8
set_option linter.unusedVariables false
set_option linter.unusedSimpArgs false
namespace Go.Proofs.FrW
open Go Go.RowKit Go.Tk
theorem le4_takeN (l : List UInt8) (j : Nat) (h : 4 ≤ j) : le4? (l.take j) = le4? l := by
  obtain ⟨i, rfl⟩ : ∃ i, j = i + 4 := ⟨j - 4, by omega⟩
  match l with
  | [] => rfl
  | [_] => rfl
  | [_, _] => rfl
  | [_, _, _] => rfl
  | a :: b :: c :: d :: r => rfl
theorem frame_take {xs : List UInt8} {k : UInt8} {d : List UInt8} {n : Nat} (h : frameOf xs = some (k, d, n)) (m : Nat) (hm : n ≤ m) : frameOf (xs.take m) = frameOf xs := by
  obtain ⟨h1, h2, h3⟩ := frame_len h
  have h0 := h
  unfold frameOf at h
  rw [if_neg (by omega)] at h
  split at h
  · cases h
  rename_i h4
  split at h
  · cases h
  rename_i h5
  split at h
  rotate_left
  · cases h
  rename_i h6
  simp only [Option.some.injEq, Prod.mk.injEq] at h
  obtain ⟨e1, e2, e3⟩ := h
  rw [h0]
  have hl : le4? ((xs.take m).drop 1) = le4? (xs.drop 1) := by rw [List.drop_take]; exact le4_takeN _ _ (by omega)
  unfold frameOf
  rw [hl, if_neg (by rw [List.length_take]; omega), if_neg h4, if_neg (by rw [List.length_take]; omega), List.drop_take, le4_takeN _ _ (by omega), List.take_take, Nat.min_eq_left (by omega), if_pos h6]
  rw [e2, e3, ← e1]
  match xs, m with
  | [], _ => simp
  | _ :: _, 0 => omega
  | _ :: _, _ + 1 => rfl
theorem frames_take (n : Nat) : ∀ xs : List UInt8, xs.length ≤ n → framesOf (xs.take (wholeOf (framesOf xs))) = framesOf xs := by
  induction n with
  | zero =>
    intro xs h
    obtain rfl := List.length_eq_zero_iff.1 (Nat.le_zero.1 h)
    simp
  | succ n ih =>
    intro xs h
    rcases hf : frameOf xs with _ | ⟨k, d, m⟩
    · rw [framesOf_none hf]
      simp only [wholeOf, List.take_zero]
      exact framesOf_none (by unfold frameOf; rw [if_pos (by decide)])
    · obtain ⟨h1, h2, h3⟩ := frame_len hf
      rw [framesOf_some hf]
      simp only [wholeOf]
      have h4 := frame_take hf (d.length + 9 + wholeOf (framesOf (xs.drop m))) (by omega)
      rw [hf] at h4
      rw [framesOf_some h4, List.drop_take, show d.length + 9 + wholeOf (framesOf (xs.drop m)) - m = wholeOf (framesOf (xs.drop m)) by omega, ih _ (by simp; omega)]
theorem frames_behind {xs : List UInt8} {k : UInt8} {d : List UInt8} {n : Nat} (h : frameOf xs = some (k, d, n)) : framesOf xs = (k, d) :: framesOf (xs.drop n) ∧ n ≤ wholeOf (framesOf xs) ∧ framesOf ((xs.take (wholeOf (framesOf xs))).drop n) = framesOf (xs.drop n) := by
  obtain ⟨h1, h2, h3⟩ := frame_len h
  refine ⟨framesOf_some h, ?_, ?_⟩
  · rw [framesOf_some h]; simp only [wholeOf]; omega
  · rw [framesOf_some h, List.drop_take]
    simp only [wholeOf]
    rw [show d.length + 9 + wholeOf (framesOf (xs.drop n)) - n = wholeOf (framesOf (xs.drop n)) by omega, frames_take _ _ (Nat.le_refl _)]
end Go.Proofs.FrW
namespace Go.Proofs.WlW
open Go Go.RowKit Go.Tk Go.Dk Go.Sp Go.Proofs.DkW
abbrev Hp := Nat × Nat × Nat × List UInt8 × Nat
/-- Which file is the live one. -/
def chooseP (two : Bool) (a b : Option Hp) : Int ⊕ (Nat × Hp) :=
  if two = false then .inl 61 else match a, b with
  | none, none => .inl 61
  | some x, none => .inr (0, x)
  | none, some y => .inr (1, y)
  | some x, some y => if x.1 = y.1 then .inl 62 else if x.1 < y.1 then .inr (1, y) else .inr (0, x)
structure Opened where
  live : Nat
  gen : Nat
  cap : Nat
  slots : Nat
  state : List UInt8
  recs : List (List UInt8)
  whole : Nat
/-- What is no whole frame goes, and the other file's bytes. -/
def cutP (st : St) (live wh : Nat) : St × Int :=
  let t1 := if wh < (st.file live).1.length then st.truncate live wh else (st, 0)
  if t1.2 ≠ 0 then (t1.1, 40) else
  if 0 < t1.1.size (1 - (live : Int)) then ((t1.1.truncate (1 - (live : Int)) 0).1, if (t1.1.truncate (1 - (live : Int)) 0).2 = 0 then 0 else 40)
  else (t1.1, 0)
theorem cutP_a {st : St} {live wh : Nat} (h : wh < (st.file live).1.length) (h2 : (st.truncate live wh).2 ≠ 0) : cutP st live wh = ((st.truncate live wh).1, 40) := by
  unfold cutP; simp only [if_pos h]; rw [if_pos h2]
theorem cutP_b {st s1 : St} {live wh : Nat} (h : (if wh < (st.file live).1.length then st.truncate live wh else (st, 0)) = (s1, 0)) (h2 : ¬ 0 < s1.size (1 - (live : Int))) : cutP st live wh = (s1, 0) := by
  unfold cutP; simp only [h]; rw [if_neg (by simp), if_neg h2]
theorem cutP_c {st s1 : St} {live wh : Nat} (h : (if wh < (st.file live).1.length then st.truncate live wh else (st, 0)) = (s1, 0)) (h2 : 0 < s1.size (1 - (live : Int))) : cutP st live wh = ((s1.truncate (1 - (live : Int)) 0).1, if (s1.truncate (1 - (live : Int)) 0).2 = 0 then 0 else 40) := by
  unfold cutP; simp only [h]; rw [if_neg (by simp), if_pos h2]
theorem cutP_err (st : St) (live wh : Nat) : (cutP st live wh).2 = 0 ∨ (cutP st live wh).2 = 40 := by
  unfold cutP
  simp only
  generalize (if wh < (st.file live).1.length then st.truncate live wh else (st, 0)) = t1
  split
  · exact .inr rfl
  · split
    · dsimp only; split
      · exact .inl rfl
      · exact .inr rfl
    · exact .inl rfl
def brokenP (gen cap : Nat) (fr : List (UInt8 × List UInt8)) : Bool :=
  decide (9223372036854775808 ≤ gen) || decide (cap < FrW.wholeOf fr) || fr.tail.any (fun f => f.1 != 2)
def openP (st : St) : St × (Int ⊕ Opened) :=
  if st.off then (st, .inl 40) else
  match chooseP (st.is 1) (lookP (st.file 0).1) (lookP (st.file 1).1) with
  | .inl n => (st, .inl n)
  | .inr (live, g, c, s, state, _) =>
    let fr := FrW.framesOf (st.file live).1
    if brokenP g c fr then (st, .inl 62) else
    if (cutP st live (FrW.wholeOf fr)).2 ≠ 0 then ((cutP st live (FrW.wholeOf fr)).1, .inl (cutP st live (FrW.wholeOf fr)).2) else
    ((cutP st live (FrW.wholeOf fr)).1, .inr ⟨live, g, c, s, state, fr.tail.map (·.2), FrW.wholeOf fr⟩)
/-- Records as they lie in a list of lists: each in a block of its own. -/
def EncR (W : World) (base : Nat) (ds : List (List UInt8)) (vs : List Value) : Prop :=
  vs.length = ds.length ∧ (∀ (i : Nat) (d : List UInt8), ds[i]? = some d → ∃ dv, vs[i]? = some dv ∧ W.ownsRow base 5 1 dv d.length (bv d)) ∧ vs.Pairwise (fun u v => ∀ k, u.ownBlock = some k → v.ownBlock ≠ some k)
theorem EncR.nil (W : World) (base : Nat) : EncR W base [] [] := ⟨rfl, fun i d h => by simp at h, List.Pairwise.nil⟩
theorem EncR.keep {W W' : World} {base : Nat} {ds : List (List UInt8)} {vs : List Value} (h : EncR W base ds vs) (hk : ∀ v n xs, W.ownsRow base 5 1 v n xs → W'.ownsRow base 5 1 v n xs) : EncR W' base ds vs :=
  ⟨h.1, fun i d hi => by obtain ⟨dv, h1, h2⟩ := h.2.1 i d hi; exact ⟨dv, h1, hk _ _ _ h2⟩, h.2.2⟩
theorem EncR.snoc {W : World} {base : Nat} {ds : List (List UInt8)} {vs : List Value} (h : EncR W base ds vs) {d : List UInt8} {dv : Value} (h2 : W.ownsRow base 5 1 dv d.length (bv d)) (hd : ∀ u ∈ vs, ∀ k, u.ownBlock = some k → dv.ownBlock ≠ some k) : EncR W base (ds ++ [d]) (vs ++ [dv]) := by
  refine ⟨by simp [h.1], fun i e hi => ?_, List.pairwise_append.2 ⟨h.2.2, List.pairwise_singleton _ _, fun u hu v hv => by cases List.mem_singleton.1 hv; exact hd u hu⟩⟩
  by_cases hl : i < ds.length
  · rw [List.getElem?_append_left hl] at hi
    obtain ⟨dv', h3, h4⟩ := h.2.1 i e hi
    exact ⟨dv', by rw [List.getElem?_append_left (by rw [h.1]; exact hl)]; exact h3, h4⟩
  · have hi' := hi
    have hl2 : i < (ds ++ [d]).length := (List.getElem?_eq_some_iff.1 hi).1
    simp at hl2
    obtain rfl : i = ds.length := by omega
    simp at hi
    subst hi
    exact ⟨dv, by rw [← h.1]; simp, h2⟩
def OpenPost (S : Nat → Prop) (w : World) (p : Nat) (st : St) (e : Ending) (w' : World) : Prop :=
  PD S w' p (openP st).1 ∧ Chg S w w' ∧ match (openP st).2 with
  | .inl n => e = .returned (.tuple #[.pointer none, .slice none 0 0, .slice none 0 0, .int .i64 n])
  | .inr o => ∃ gl sv rv rvs, e = .returned (.tuple #[.pointer (some ⟨gl, 0, none⟩), sv, rv, .int .i64 0]) ∧ w.heap.size ≤ gl ∧
      Bk w' gl 175 #[.int .u64 (o.gen : Int), .int .i64 (o.cap : Int), .int .i64 (o.slots : Int), .pointer (some ⟨p, 0, none⟩), .int .i64 (o.live : Int), .int .i64 (o.whole : Int), .int .i64 ((openP st).1.falls : Int)] ∧
      Wr w.heap.size sv o.state w' ∧ w'.ownsRow w.heap.size 22 1 rv o.recs.length rvs ∧ EncR w' w.heap.size o.recs rvs ∧ (∀ dv ∈ rvs, ∀ k, dv.ownBlock = some k → sv.ownBlock ≠ some k)
theorem choose_live {two : Bool} {a b : List UInt8} {live : Nat} {hd : Hp} (h : chooseP two (lookP a) (lookP b) = .inr (live, hd)) : two = true ∧ ((live = 0 ∧ lookP a = some hd) ∨ (live = 1 ∧ lookP b = some hd)) := by
  unfold chooseP at h
  split at h
  · cases h
  rename_i ht
  refine ⟨by simpa using ht, ?_⟩
  split at h
  · cases h
  · rename_i x ha hb; cases h; exact .inl ⟨rfl, ha⟩
  · rename_i y ha hb; cases h; exact .inr ⟨rfl, hb⟩
  · rename_i x y ha hb
    split at h
    · cases h
    · split at h
      · cases h; exact .inr ⟨rfl, hb⟩
      · cases h; exact .inl ⟨rfl, ha⟩
theorem look_some {xs : List UInt8} {g c s n : Nat} {state : List UInt8} (h : lookP xs = some (g, c, s, state, n)) : ∃ dat, FrW.frameOf xs = some (1, dat, n) ∧ 24 ≤ dat.length ∧ state = dat.drop 24 ∧ 0 < g ∧ g < 18446744073709551616 ∧ 1024 ≤ c ∧ c ≤ 4194304 ∧ 1 ≤ s ∧ s ≤ 65536 := by
  unfold lookP at h
  split at h
  · cases h
  · rename_i k dat m hf
    split at h
    · rename_i hc
      obtain ⟨rfl, h1, h2, h3, h4⟩ := hc
      cases h
      refine ⟨dat, hf, h1, rfl, h3, Nat.lt_of_lt_of_le (numB_lt _) (by rw [show ((dat.take 16).drop 8).length = 8 by simp; omega]; decide), ?_⟩
      simp [rightB] at h4
      omega
    · cases h
/-- What look leaves, in one form. -/
def Hd (base : Nat) (xs : List UInt8) (cs : Array Value) (w' : World) : Prop := match lookP xs with
  | none => True
  | some (g, c, s, state, n) => ∃ u v, cs = #[.int .u64 (g : Int), .int .i64 (c : Int), .int .i64 (s : Int), u, v, .int .i64 (n : Int)] ∧
      w'.ownsRow base 5 1 u xs.length (bv xs) ∧ Wr base v state w' ∧ ∀ k, u.ownBlock = some k → v.ownBlock = some k → False
theorem wr_one {base : Nat} {v : Value} {xs : List UInt8} {w : World} (h : Wr base v xs w) : v.oneCell' = true := by
  obtain ⟨n, _, ⟨rfl, _⟩ | ⟨g, off, c, cur, rfl, _⟩⟩ := h <;> rfl
theorem Lk.nf {w w' : World} {xs : List UInt8} {e : Ending} (h : Lk w xs e w') : ∃ cs, e = .returned (.tuple #[.agg cs, .bool (lookP xs).isSome]) ∧ Mk w w' ∧ cs.size = 6 ∧ (∀ v ∈ cs, v.oneCell' = true) ∧ Hd w.heap.size xs cs w' := by
  obtain ⟨hm, h⟩ := h
  unfold Hd
  revert h
  cases lookP xs with
  | none =>
    rintro ⟨g, c, s, n, u, v, rfl, h1, h2⟩
    refine ⟨_, rfl, hm, rfl, ?_, trivial⟩
    intro x hx
    simp at hx
    rcases hx with rfl | rfl | rfl | rfl | rfl | rfl <;> first | rfl | assumption
  | some q =>
    obtain ⟨g, c, s, state, n⟩ := q
    rintro ⟨u, v, rfl, h1, h2, h3⟩
    refine ⟨_, rfl, hm, rfl, ?_, u, v, rfl, h1, h2, h3⟩
    intro x hx
    simp at hx
    rcases hx with rfl | rfl | rfl | rfl | rfl | rfl <;> first | rfl | exact FrW.own_one h1 | exact wr_one h2
end Go.Proofs.WlW
