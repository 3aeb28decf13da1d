/- Layer 4, disk: how a disk lies in memory, the program's and the document's. No walk stands here. Layer 4, disk: the walks of what asks the program's disk. Layer 4, disk: the walk of the program's fall. -/
import Derived.Test.YtcfjdldlcdomgaaMWalPlays0
import Derived.Test.YtcfjdldlcdomgaaProg
import Derived.StillTailTactics
set_option linter.unusedVariables false
set_option linter.unusedSimpArgs false
namespace Go.Dk
open Go Go.RowKit Go.Tk

/-- Whole numbers as values. -/
def iv (xs : List Int) : List Value := xs.map (Value.int .i64)
theorem iv_length (xs : List Int) : (iv xs).length = xs.length := by simp [iv]
theorem iv_one (xs : List Int) : ∀ u ∈ iv xs, u.oneCell' = true := by
  intro u hu; simp [iv] at hu; obtain ⟨c, _, rfl⟩ := hu; rfl
theorem iv_get (xs : List Int) (j : Nat) (h : j < xs.length) : (iv xs)[j]? = some (.int .i64 xs[j]) := by simp [iv, h]
abbrev Is (w : World) (v : Value) (xs : List Int) : Prop := Sl w 1 v xs.length (iv xs)

/-- A row of files. -/
structure Files (F : Nat → Prop) (w : World) (q : Nat) (te : TypeId) (cs : Array Value) (vs : Nat → Value) (l : List (List UInt8 × Nat)) : Prop where
  row : Bk w q te cs
  size : 2 * l.length ≤ cs.size
  sl : ∀ i, i < l.length → cs[i * 2]? = some (vs i)
  last : ∀ i (h : i < l.length), cs[i * 2 + 1]? = some (.int .i64 (((l[i]'h).2 : Nat) : Int))
  own : ∀ i (h : i < l.length), w.ownsRow 0 5 1 (vs i) (l[i]'h).1.length (bv (l[i]'h).1)
  blk : ∀ i k, i < l.length → (vs i).ownBlock = some k → F k ∧ k ≠ q
  inj : ∀ i j k, i < l.length → j < l.length → (vs i).ownBlock = some k → (vs j).ownBlock = some k → i = j
  at_ : F q

section
variable {F G T : Nat → Prop} {w w' : World} {q : Nat} {te : TypeId} {cs cs' : Array Value} {vs : Nat → Value} {l : List (List UInt8 × Nat)}
theorem Files.keep (h : Files F w q te cs vs l) (hc : Chg T w w') (hn : ∀ k, k < w.heap.size → F k → ¬ T k) : Files F w' q te cs vs l :=
  ⟨h.row.keep hc (hn q h.row.lt h.at_), h.size, h.sl, h.last, fun i hi => row_keep (h.own i hi) hc fun k hk => hn k ((h.own i hi).lt k hk).2 (h.blk i k hi hk).1, h.blk, h.inj, h.at_⟩
theorem Files.sub (h : Files F w q te cs vs l) (hs : ∀ k, k < w.heap.size → F k → G k) : Files G w q te cs vs l :=
  ⟨h.row, h.size, h.sl, h.last, h.own, fun i k hi hk => ⟨hs k ((h.own i hi).lt k hk).2 (h.blk i k hi hk).1, (h.blk i k hi hk).2⟩, h.inj, hs q h.row.lt h.at_⟩
theorem Files.made (h : Files F w q te cs vs l) (hm : Mk w w') : Files F w' q te cs vs l := h.keep (Chg.of_mk (S := fun _ => False) hm) fun _ _ _ h => h

/-- One file is another; the row of files has been written at its places. -/
theorem Files.put (h : Files F w q te cs vs l) {f : Nat} (hf : f < l.length) {v' : Value} {b' : List UInt8} {n' : Nat}
    (hc : Chg (fun k => k = q ∨ (vs f).ownBlock = some k) w w') (hr : Bk w' q te cs') (hs : cs'.size = cs.size)
    (h1 : cs'[f * 2]? = some v') (h2 : cs'[f * 2 + 1]? = some (.int .i64 (n' : Int))) (h3 : ∀ j, j ≠ f * 2 → j ≠ f * 2 + 1 → cs'[j]? = cs[j]?)
    (ho : w'.ownsRow 0 5 1 v' b'.length (bv b')) (hG : ∀ k, F k → G k) (hb : ∀ k, v'.ownBlock = some k → (vs f).ownBlock = some k ∨ (w.heap.size ≤ k ∧ G k)) :
    Files G w' q te cs' (fun i => if i = f then v' else vs i) (l.set f (b', n')) := by
  have hq := h.row.lt
  refine ⟨hr, by simpa [hs] using h.size, ?_, ?_, ?_, ?_, ?_, hG _ h.at_⟩
  · intro i hi
    rw [List.length_set] at hi
    by_cases e : i = f
    · subst e; simp [h1]
    · rw [if_neg e, h3 _ (by omega) (by omega)]; exact h.sl i hi
  · intro i hi
    rw [List.length_set] at hi
    by_cases e : i = f
    · subst e; simp [h2]
    · rw [List.getElem_set_ne (Ne.symm e), h3 _ (by omega) (by omega)]; exact h.last i hi
  · intro i hi
    rw [List.length_set] at hi
    by_cases e : i = f
    · subst e; simpa using ho
    · rw [List.getElem_set_ne (Ne.symm e)]
      rw [if_neg e]
      refine row_keep (h.own i hi) hc fun k hk hbad => ?_
      rcases hbad with hbad | hbad
      · exact (h.blk i k hi hk).2 hbad
      · exact e (h.inj i f k hi hf hk hbad)
  · intro i k hi hk
    rw [List.length_set] at hi
    by_cases e : i = f
    · subst e
      rw [if_pos rfl] at hk
      rcases hb k hk with h4 | h4
      · exact ⟨hG _ (h.blk i k hi h4).1, (h.blk i k hi h4).2⟩
      · exact ⟨h4.2, by omega⟩
    · rw [if_neg e] at hk
      exact ⟨hG _ (h.blk i k hi hk).1, (h.blk i k hi hk).2⟩
  · intro i j k hi hj hik hjk
    rw [List.length_set] at hi hj
    by_cases e : i = f
    · by_cases e2 : j = f
      · omega
      · rw [if_pos e] at hik
        rw [if_neg e2] at hjk
        rcases hb k hik with h4 | h4
        · exact e.trans (h.inj j f k hj hf hjk h4).symm
        · have := ((h.own j hj).lt k hjk).2; omega
    · rw [if_neg e] at hik
      by_cases e2 : j = f
      · rw [if_pos e2] at hjk
        rcases hb k hjk with h4 | h4
        · exact (h.inj i f k hi hf hik h4).trans e2.symm
        · have := ((h.own i hi).lt k hik).2; omega
      · rw [if_neg e2] at hjk
        exact h.inj i j k hi hj hik hjk
theorem bv_take (xs : List UInt8) (n : Nat) : bv (xs.take n) = (bv xs).take n := by simp [bv, List.map_take]
/-- A file's first bytes, where the row of files alone has been written. -/
theorem Files.own_cut (h : Files F w q te cs vs l) {f : Nat} (hf : f < l.length) {x : List UInt8 × Nat} (hx : l[f] = x) {a : Option Addr} {n m T : Nat} (hv : vs f = .slice a n m) (hT : T ≤ x.1.length) (hc : Chg (fun k => k = q) w w') :
    w'.ownsRow 0 5 1 (.slice a T m) (x.1.take T).length (bv (x.1.take T)) := by
  subst hx
  have ho := row_keep (h.own f hf) hc fun k hk e => (h.blk f k hf hk).2 e
  rw [hv] at ho
  have hn : n = l[f].1.length := by
    obtain ⟨_, a', c', he, _⟩ := own_sl ho
    cases he; rfl
  subst hn
  have := row_cut ho (m := T) (by omega)
  rw [Nat.mul_one, ← bv_take] at this
  rw [List.length_take, Nat.min_eq_left hT]
  exact this
end

/-- The fuse of the program's disk. -/
def FuseAt (U : Nat → Prop) (w : World) (fu : Value) : Option (Int × List Int) → Prop
  | none => fu = .pointer none
  | some (n, keep) => ∃ g kv, fu = .pointer (some ⟨g, 0, none⟩) ∧ Bk w g 148 #[.int .i64 n, kv] ∧ U g ∧ Is w kv keep ∧ ∀ k, 0 < keep.length → kv.ownBlock = some k → U k ∧ k ≠ g
theorem is_lt {w : World} {v : Value} {xs : List Int} (h : Is w v xs) (hl : 0 < xs.length) {k : Nat} (hk : v.ownBlock = some k) : k < w.heap.size := by
  obtain ⟨_, a, cap, rfl, _, _, _, h4⟩ := h
  obtain ⟨b, off, rfl, hd⟩ := h4 hl
  cases hk
  exact World.block_lt_of_cell? w _ (hd 0 _ (iv_get xs 0 hl))
theorem is_keep {T : Nat → Prop} {w w' : World} {v : Value} {xs : List Int} (h : Is w v xs) (hc : Chg T w w') (hn : ∀ k, k < w.heap.size → 0 < xs.length → v.ownBlock = some k → ¬ T k) : Is w' v xs := by
  rcases Nat.eq_zero_or_pos xs.length with h0 | h0
  · obtain ⟨hl, a, cap, rfl, h1, h2, h3, h4⟩ := h
    exact ⟨hl, a, cap, rfl, h1, h2, h3, fun hp => by omega⟩
  · exact sl_chg h hc fun k hk hl => hn k hl h0 hk
theorem FuseAt.keep {U T : Nat → Prop} {w w' : World} {fu : Value} {o : Option (Int × List Int)} (h : FuseAt U w fu o) (hc : Chg T w w') (hn : ∀ k, k < w.heap.size → U k → ¬ T k) : FuseAt U w' fu o := by
  cases o with
  | none => exact h
  | some x =>
    obtain ⟨g, kv, h1, h2, h3, h4, h5⟩ := h
    exact ⟨g, kv, h1, h2.keep hc (hn g h2.lt h3), h3, is_keep h4 hc (fun k hl hp hk => hn k hl (h5 k hp hk).1), h5⟩

/-- The program's disk. -/
structure PDw (S F U : Nat → Prop) (w : World) (p q c : Nat) (cs : Array Value) (vs : Nat → Value) (fu : Value) (st : St) : Prop where
  head : Bk w p 144 #[.slice (some ⟨q, 0, none⟩) st.files.length c, .bool st.off, .int .i64 (st.falls : Int), fu]
  files : Files F w q 146 cs vs st.files
  fuse : FuseAt U w fu st.fuse
  sp : S p
  fs : ∀ k, F k → S k ∧ k ≠ p
  us : ∀ k, U k → S k ∧ k ≠ p
  disj : ∀ k, F k → ¬ U k
  hc : st.files.length ≤ c ∧ c ≤ maxLen
def PD (S : Nat → Prop) (w : World) (p : Nat) (st : St) : Prop := ∃ F U q c cs vs fu, PDw S F U w p q c cs vs fu st

/-- The document's disk. -/
structure RDw (S F U : Nat → Prop) (w : World) (p q c : Nat) (cs : Array Value) (vs : Nat → Value) (bn : Bool) (ops : Int) (kv : Value) (keep : List Int) (st : St) : Prop where
  head : Bk w p 159 #[.slice (some ⟨q, 0, none⟩) st.files.length c, .bool !st.off, .int .i64 (st.falls : Int), .bool bn, .int .i64 ops, kv]
  files : Files F w q 163 cs vs st.files
  keeps : Is w kv keep
  kvb : ∀ k, 0 < keep.length → kv.ownBlock = some k → U k
  fuse : st.fuse = if bn then some (ops, keep) else none
  sp : S p
  fs : ∀ k, F k → S k ∧ k ≠ p
  us : ∀ k, U k → S k ∧ k ≠ p
  disj : ∀ k, F k → ¬ U k
  hc : st.files.length ≤ c ∧ c ≤ maxLen
def RD (S : Nat → Prop) (w : World) (p : Nat) (st : St) : Prop := ∃ F U q c cs vs bn ops kv keep, RDw S F U w p q c cs vs bn ops kv keep st

section
variable {S T S' F U : Nat → Prop} {w w' : World} {p q c : Nat} {cs : Array Value} {vs : Nat → Value} {fu kv : Value} {bn : Bool} {ops : Int} {kl : List Int} {st : St}
theorem PDw.keep (h : PDw S F U w p q c cs vs fu st) (hc : Chg T w w') (hn : ∀ k, k < w.heap.size → S k → ¬ T k) : PDw S F U w' p q c cs vs fu st :=
  ⟨h.head.keep hc (hn p h.head.lt h.sp), h.files.keep hc (fun k hk hf => hn k hk (h.fs k hf).1), h.fuse.keep hc (fun k hk hu => hn k hk (h.us k hu).1), h.sp, h.fs, h.us, h.disj, h.hc⟩
theorem RDw.keep (h : RDw S F U w p q c cs vs bn ops kv kl st) (hc : Chg T w w') (hn : ∀ k, k < w.heap.size → S k → ¬ T k) : RDw S F U w' p q c cs vs bn ops kv kl st :=
  ⟨h.head.keep hc (hn p h.head.lt h.sp), h.files.keep hc (fun k hk hf => hn k hk (h.fs k hf).1), is_keep h.keeps hc (fun k hk hp hu => hn k hk (h.us k (h.kvb k hp hu)).1), h.kvb, h.fuse, h.sp, h.fs, h.us, h.disj, h.hc⟩
theorem PD.keep (h : PD S w p st) (hc : Chg T w w') (hn : ∀ k, k < w.heap.size → S k → ¬ T k) : PD S w' p st := by
  obtain ⟨F, U, q, c, cs, vs, fu, h⟩ := h; exact ⟨F, U, q, c, cs, vs, fu, h.keep hc hn⟩
theorem RD.keep (h : RD S w p st) (hc : Chg T w w') (hn : ∀ k, k < w.heap.size → S k → ¬ T k) : RD S w' p st := by
  obtain ⟨F, U, q, c, cs, vs, bn, ops, kv, keep, h⟩ := h; exact ⟨F, U, q, c, cs, vs, bn, ops, kv, keep, h.keep hc hn⟩
/-- The set may be greater; what it has of what is not there yet counts for nothing. -/
theorem PD.sub (h : PD S w p st) (hs : ∀ k, S k → S' k) : PD S' w p st := by
  obtain ⟨F, U, q, c, cs, vs, fu, h⟩ := h
  exact ⟨F, U, q, c, cs, vs, fu, h.head, h.files, h.fuse, hs _ h.sp, fun k hk => ⟨hs k (h.fs k hk).1, (h.fs k hk).2⟩, fun k hk => ⟨hs k (h.us k hk).1, (h.us k hk).2⟩, h.disj, h.hc⟩
theorem RD.sub (h : RD S w p st) (hs : ∀ k, S k → S' k) : RD S' w p st := by
  obtain ⟨F, U, q, c, cs, vs, bn, ops, kv, keep, h⟩ := h
  exact ⟨F, U, q, c, cs, vs, bn, ops, kv, keep, h.head, h.files, h.keeps, h.kvb, h.fuse, hs _ h.sp, fun k hk => ⟨hs k (h.fs k hk).1, (h.fs k hk).2⟩, fun k hk => ⟨hs k (h.us k hk).1, (h.us k hk).2⟩, h.disj, h.hc⟩
theorem PD.made (h : PD S w p st) (hm : Mk w w') : PD S w' p st := h.keep (Chg.of_mk (S := fun _ => False) hm) fun _ _ _ h => h
theorem RD.made (h : RD S w p st) (hm : Mk w w') : RD S w' p st := h.keep (Chg.of_mk (S := fun _ => False) hm) fun _ _ _ h => h
theorem FuseAt.trim {U : Nat → Prop} {w : World} {fu : Value} {o : Option (Int × List Int)} (h : FuseAt U w fu o) : FuseAt (fun k => U k ∧ k < w.heap.size) w fu o := by
  cases o with
  | none => exact h
  | some x =>
    obtain ⟨g, kv, h1, h2, h3, h4, h5⟩ := h
    exact ⟨g, kv, h1, h2, ⟨h3, h2.lt⟩, h4, fun k hp hk => ⟨⟨(h5 k hp hk).1, is_lt h4 hp hk⟩, (h5 k hp hk).2⟩⟩
/-- One file of the program's disk is another. -/
theorem PDw.put (h : PDw S F U w p q c cs vs fu st) {f : Nat} (hf : f < st.files.length) {cs' : Array Value} {v' : Value} {b' : List UInt8} {n' : Nat}
    (hc : Chg (fun k => k = q ∨ (vs f).ownBlock = some k) w w') (hr : Bk w' q 146 cs') (hs : cs'.size = cs.size)
    (h1 : cs'[f * 2]? = some v') (h2 : cs'[f * 2 + 1]? = some (.int .i64 (n' : Int))) (h3 : ∀ j, j ≠ f * 2 → j ≠ f * 2 + 1 → cs'[j]? = cs[j]?)
    (ho : w'.ownsRow 0 5 1 v' b'.length (bv b')) (hb : ∀ k, v'.ownBlock = some k → (vs f).ownBlock = some k ∨ w.heap.size ≤ k) :
    PDw (Gw S w) (Gw F w) (fun k => U k ∧ k < w.heap.size) w' p q c cs' (fun i => if i = f then v' else vs i) fu (st.put f (b', n')) := by
  have hn : ∀ k, F k → k ≠ p := fun k hk => (h.fs k hk).2
  have hF : ∀ k, k = q ∨ (vs f).ownBlock = some k → F k := by
    rintro k (rfl | hk)
    · exact h.files.at_
    · exact (h.files.blk f k hf hk).1
  have hp := h.head.lt
  refine ⟨?_, h.files.put hf hc hr hs h1 h2 h3 ho (fun k hk => .inl hk) (fun k hk => (hb k hk).imp_right fun e => ⟨e, .inr e⟩), ?_, .inl h.sp, ?_, ?_, ?_, ?_⟩
  · have := h.head.keep hc fun e => hn p (hF p e) rfl
    simpa [St.put] using this
  · exact h.fuse.trim.keep hc fun k _ hu e => h.disj k (hF k e) hu.1
  · rintro k (hk | hk)
    · exact ⟨.inl (h.fs k hk).1, (h.fs k hk).2⟩
    · exact ⟨.inr hk, by omega⟩
  · exact fun k hk => ⟨.inl (h.us k hk.1).1, (h.us k hk.1).2⟩
  · rintro k (hk | hk) hu
    · exact h.disj k hk hu.1
    · have := hu.2; omega
  · simpa [St.put] using h.hc
/-- Without a new block. -/
theorem PDw.cut (h : PDw S F U w p q c cs vs fu st) {f : Nat} (hf : f < st.files.length) {cs' : Array Value} {v' : Value} {b' : List UInt8} {n' : Nat}
    (hc : Chg (fun k => k = q) w w') (hr : Bk w' q 146 cs') (hs : cs'.size = cs.size)
    (h1 : cs'[f * 2]? = some v') (h2 : cs'[f * 2 + 1]? = some (.int .i64 (n' : Int))) (h3 : ∀ j, j ≠ f * 2 → j ≠ f * 2 + 1 → cs'[j]? = cs[j]?)
    (ho : w'.ownsRow 0 5 1 v' b'.length (bv b')) (hb : ∀ k, v'.ownBlock = some k → (vs f).ownBlock = some k) :
    PDw S F U w' p q c cs' (fun i => if i = f then v' else vs i) fu (st.put f (b', n')) := by
  have hp := h.head.lt
  have hqp : p ≠ q := fun e => (h.fs q h.files.at_).2 e.symm
  refine ⟨?_, h.files.put hf (hc.sub fun k _ e => .inl e) hr hs h1 h2 h3 ho (fun k hk => hk) (fun k hk => .inl (hb k hk)), ?_, h.sp, h.fs, h.us, h.disj, ?_⟩
  · have := h.head.keep hc hqp
    simpa [St.put] using this
  · exact h.fuse.keep hc fun k _ hu e => h.disj k (e ▸ h.files.at_) hu
  · simpa [St.put] using h.hc
theorem RDw.put (h : RDw S F U w p q c cs vs bn ops kv kl st) {f : Nat} (hf : f < st.files.length) {cs' : Array Value} {v' : Value} {b' : List UInt8} {n' : Nat}
    (hc : Chg (fun k => k = q ∨ (vs f).ownBlock = some k) w w') (hr : Bk w' q 163 cs') (hs : cs'.size = cs.size)
    (h1 : cs'[f * 2]? = some v') (h2 : cs'[f * 2 + 1]? = some (.int .i64 (n' : Int))) (h3 : ∀ j, j ≠ f * 2 → j ≠ f * 2 + 1 → cs'[j]? = cs[j]?)
    (ho : w'.ownsRow 0 5 1 v' b'.length (bv b')) (hb : ∀ k, v'.ownBlock = some k → (vs f).ownBlock = some k ∨ w.heap.size ≤ k) :
    RDw (Gw S w) (Gw F w) (fun k => U k ∧ k < w.heap.size) w' p q c cs' (fun i => if i = f then v' else vs i) bn ops kv kl (st.put f (b', n')) := by
  have hn : ∀ k, F k → k ≠ p := fun k hk => (h.fs k hk).2
  have hF : ∀ k, k = q ∨ (vs f).ownBlock = some k → F k := by
    rintro k (rfl | hk)
    · exact h.files.at_
    · exact (h.files.blk f k hf hk).1
  have hp := h.head.lt
  refine ⟨?_, h.files.put hf hc hr hs h1 h2 h3 ho (fun k hk => .inl hk) (fun k hk => (hb k hk).imp_right fun e => ⟨e, .inr e⟩), ?_, ?_, h.fuse, .inl h.sp, ?_, ?_, ?_, ?_⟩
  · have := h.head.keep hc fun e => hn p (hF p e) rfl
    simpa [St.put] using this
  · exact is_keep h.keeps hc fun k _ hp hu e => h.disj k (hF k e) (h.kvb k hp hu)
  · exact fun k hp hu => ⟨h.kvb k hp hu, is_lt h.keeps hp hu⟩
  · rintro k (hk | hk)
    · exact ⟨.inl (h.fs k hk).1, (h.fs k hk).2⟩
    · exact ⟨.inr hk, by omega⟩
  · exact fun k hk => ⟨.inl (h.us k hk.1).1, (h.us k hk.1).2⟩
  · rintro k (hk | hk) hu
    · exact h.disj k hk hu.1
    · have := hu.2; omega
  · simpa [St.put] using h.hc
theorem RDw.cut (h : RDw S F U w p q c cs vs bn ops kv kl st) {f : Nat} (hf : f < st.files.length) {cs' : Array Value} {v' : Value} {b' : List UInt8} {n' : Nat}
    (hc : Chg (fun k => k = q) w w') (hr : Bk w' q 163 cs') (hs : cs'.size = cs.size)
    (h1 : cs'[f * 2]? = some v') (h2 : cs'[f * 2 + 1]? = some (.int .i64 (n' : Int))) (h3 : ∀ j, j ≠ f * 2 → j ≠ f * 2 + 1 → cs'[j]? = cs[j]?)
    (ho : w'.ownsRow 0 5 1 v' b'.length (bv b')) (hb : ∀ k, v'.ownBlock = some k → (vs f).ownBlock = some k) :
    RDw S F U w' p q c cs' (fun i => if i = f then v' else vs i) bn ops kv kl (st.put f (b', n')) := by
  have hp := h.head.lt
  have hqp : p ≠ q := fun e => (h.fs q h.files.at_).2 e.symm
  refine ⟨?_, h.files.put hf (hc.sub fun k _ e => .inl e) hr hs h1 h2 h3 ho (fun k hk => hk) (fun k hk => .inl (hb k hk)), ?_, h.kvb, h.fuse, h.sp, h.fs, h.us, h.disj, ?_⟩
  · have := h.head.keep hc hqp
    simpa [St.put] using this
  · exact is_keep h.keeps hc fun k _ hp hu e => h.disj k (e ▸ h.files.at_) (h.kvb k hp hu)
  · simpa [St.put] using h.hc
end
end Go.Dk

namespace Go.Proofs.DkW
open Go Go.RowKit Go.Tk Go.Dk

section
variable {S F U : Nat → Prop} {w : World} {p q c : Nat} {cs : Array Value} {vs : Nat → Value} {fu : Value} {st : St}
theorem PDw.c0 (h : PDw S F U w p q c cs vs fu st) : w.cell? ⟨p, 0, none⟩ = some (.slice (some ⟨q, 0, none⟩) st.files.length c) := (h.head.cell 0).trans rfl
theorem PDw.c1 (h : PDw S F U w p q c cs vs fu st) : w.cell? ⟨p, 1, none⟩ = some (.bool st.off) := (h.head.cell 1).trans rfl
theorem PDw.c2 (h : PDw S F U w p q c cs vs fu st) : w.cell? ⟨p, 2, none⟩ = some (.int .i64 (st.falls : Int)) := (h.head.cell 2).trans rfl
theorem PDw.c3 (h : PDw S F U w p q c cs vs fu st) : w.cell? ⟨p, 3, none⟩ = some fu := (h.head.cell 3).trans rfl

theorem alive_any (h : PD S w p st) : Calls Try.prog 37 #[.pointer (some ⟨p, 0, none⟩)] w fun e w' => e = .returned (.bool (!st.off)) ∧ w = w' := by
  obtain ⟨F, U, q, c, cs, vs, fu, h⟩ := h
  have h1 := PDw.c1 h
  clear h
  go_enter Try.func37, Try.ntmps37
  go_wp2
  go_ret
  exact ⟨rfl, rfl⟩
theorem falls_any (h : PD S w p st) : Calls Try.prog 40 #[.pointer (some ⟨p, 0, none⟩)] w fun e w' => e = .returned (.int .i64 (st.falls : Int)) ∧ w = w' := by
  obtain ⟨F, U, q, c, cs, vs, fu, h⟩ := h
  have h1 := PDw.c2 h
  clear h
  go_enter Try.func40, Try.ntmps40
  go_wp2
  go_ret
  exact ⟨rfl, rfl⟩
theorem is_any (f : Int) (h : PD S w p st) : Calls Try.prog 144 #[.pointer (some ⟨p, 0, none⟩), .int .i64 f] w fun e w' => e = .returned (.bool (st.is f)) ∧ w = w' := by
  obtain ⟨F, U, q, c, cs, vs, fu, h⟩ := h
  have h1 := PDw.c0 h
  clear h
  by_cases h0 : 0 ≤ f
  · go_enter Try.func144, Try.ntmps144
    go_wp2
    go_ret
    exact ⟨by simp [St.is, h0], rfl⟩
  · have h2 : decide (0 ≤ f) = false := by simpa using h0
    go_enter Try.func144, Try.ntmps144
    go_wp2
    go_ret
    exact ⟨by simp [St.is, h2], rfl⟩
theorem refused_any (f : Int) (h : PD S w p st) : Calls Try.prog 85 #[.pointer (some ⟨p, 0, none⟩), .int .i64 f] w fun e w' => e = .returned (.int .i64 (if st.off then 40 else if st.is f then 0 else 1)) ∧ w = w' := by
  have hi := is_any f h
  have HI := Lib.hid hi
  clear hi
  obtain ⟨F, U, q, c, cs, vs, fu, h⟩ := h
  have h1 := PDw.c1 h
  clear h
  cases ho : st.off
  · rw [ho] at h1
    cases hq : st.is f
    all_goals
      go_enter Try.func85, Try.ntmps85
      go_wp2_with (go_at_call 144; refine HI.out.mono ?_; rintro e w' ⟨rfl, rfl⟩)
      go_ret
      exact ⟨by simp, rfl⟩
  · rw [ho] at h1
    go_enter Try.func85, Try.ntmps85
    go_wp2
    go_ret
    exact ⟨by simp, rfl⟩
/-- A file's two cells. -/
theorem PDw.at_ (h : PDw S F U w p q c cs vs fu st) (f : Nat) (hf : f < st.files.length) :
    ∃ a m, vs f = .slice a (st.file f).1.length m ∧ (st.file f).1.length ≤ m ∧ m ≤ maxLen ∧ w.cell? ⟨q, f * 2, none⟩ = some (.slice a (st.file f).1.length m) ∧ w.cell? ⟨q, f * 2 + 1, none⟩ = some (.int .i64 ((st.file f).2 : Int)) := by
  have e : st.file f = st.files[f] := by simp [St.file, hf]
  rw [e]
  have ho := h.files.own f hf
  obtain ⟨a, m, hv, h1, h2⟩ := (own_sl ho).form
  refine ⟨a, m, hv, h1, h2, ?_, ?_⟩
  · rw [h.files.row.cell, h.files.sl f hf, hv]
  · rw [h.files.row.cell, h.files.last f hf]
theorem size_any (f : Int) (h : PD S w p st) : Calls Try.prog 83 #[.pointer (some ⟨p, 0, none⟩), .int .i64 f] w fun e w' => e = .returned (.int .i64 (st.size f)) ∧ w = w' := by
  have hi := is_any f h
  have HI := Lib.hid hi
  clear hi
  obtain ⟨F, U, q, c, cs, vs, fu, h⟩ := h
  have h1 := PDw.c0 h
  cases hq : st.is f
  · clear h
    rw [hq] at HI
    go_enter Try.func83, Try.ntmps83
    go_wp2_with (go_at_call 144; refine HI.out.mono ?_; rintro e w' ⟨rfl, rfl⟩)
    go_ret
    exact ⟨by simp [St.size, hq], rfl⟩
  · rw [hq] at HI
    have hq' := hq
    simp only [St.is, Bool.and_eq_true, decide_eq_true_eq] at hq'
    obtain ⟨f, rfl⟩ := Int.eq_ofNat_of_zero_le hq'.1
    obtain ⟨a, m, hv, hm1, hm2, hs1, hs2⟩ := PDw.at_ h f (by omega)
    have hlt := hq'.2
    clear hq' h hv hs2
    go_enter Try.func83, Try.ntmps83
    go_wp2_with (go_at_call 144; refine HI.out.mono ?_; rintro e w' ⟨rfl, rfl⟩)
    go_ret
    exact ⟨by simp [St.size, hq], rfl⟩
theorem lasts_any (f : Int) (h : PD S w p st) : Calls Try.prog 84 #[.pointer (some ⟨p, 0, none⟩), .int .i64 f] w fun e w' => e = .returned (.int .i64 (st.lasts f)) ∧ w = w' := by
  have hi := is_any f h
  have HI := Lib.hid hi
  clear hi
  obtain ⟨F, U, q, c, cs, vs, fu, h⟩ := h
  have h1 := PDw.c0 h
  cases hq : st.is f
  · clear h
    rw [hq] at HI
    go_enter Try.func84, Try.ntmps84
    go_wp2_with (go_at_call 144; refine HI.out.mono ?_; rintro e w' ⟨rfl, rfl⟩)
    go_ret
    exact ⟨by simp [St.lasts, hq], rfl⟩
  · rw [hq] at HI
    have hq' := hq
    simp only [St.is, Bool.and_eq_true, decide_eq_true_eq] at hq'
    obtain ⟨f, rfl⟩ := Int.eq_ofNat_of_zero_le hq'.1
    obtain ⟨a, m, hv, hm1, hm2, hs1, hs2⟩ := PDw.at_ h f (by omega)
    have hlt := hq'.2
    clear hq' h hv hs1
    go_enter Try.func84, Try.ntmps84
    go_wp2_with (go_at_call 144; refine HI.out.mono ?_; rintro e w' ⟨rfl, rfl⟩)
    go_ret
    exact ⟨by simp [St.lasts, hq], rfl⟩
/-- The head has been written. -/
theorem PDw.headed {w' : World} (h : PDw S F U w p q c cs vs fu st) {off : Bool} {falls : Nat} {fu' : Value} {fuse : Option (Int × List Int)}
    (hb : Bk w' p 144 #[.slice (some ⟨q, 0, none⟩) st.files.length c, .bool off, .int .i64 (falls : Int), fu']) (hc : Chg (fun k => k = p) w w') (hfu : FuseAt U w fu' fuse) :
    PDw S F U w' p q c cs vs fu' { files := st.files, off := off, falls := falls, fuse := fuse } :=
  ⟨hb, h.files.keep hc fun k _ hk e => (h.fs k hk).2 e, hfu.keep hc fun k _ hk e => (h.us k hk).2 e, h.sp, h.fs, h.us, h.disj, h.hc⟩
theorem burns_none (h : PDw S F U w p q c cs vs fu st) (hf : st.fuse = none) : Calls Try.prog 86 #[.pointer (some ⟨p, 0, none⟩)] w fun e w' => e = .returned (.bool false) ∧ w = w' := by
  have h1 := PDw.c3 h
  have h2 := h.fuse
  rw [hf] at h2
  obtain rfl : fu = .pointer none := h2
  clear h hf
  go_enter Try.func86, Try.ntmps86
  go_wp2
  go_ret
  exact ⟨rfl, rfl⟩
theorem burns_some {n : Int} {kl : List Int} (h : PDw S F U w p q c cs vs fu st) (hf : st.fuse = some (n, kl)) (hn : 0 ≤ n) (hm : n ≤ 9223372036854775807) :
    Calls Try.prog 86 #[.pointer (some ⟨p, 0, none⟩)] w fun e w' => e = .returned (.bool (decide (n < 1))) ∧ PDw S F U w' p q c cs vs fu { st with fuse := some (n - 1, kl) } ∧ Chg (fun k => S k ∧ ¬ F k ∧ k ≠ p) w w' := by
  have h1 := PDw.c3 h
  have h2 := h.fuse
  rw [hf] at h2
  obtain ⟨g, kv, rfl, hb, hu, hk, hkb⟩ := h2
  have h3 : w.cell? ⟨g, 0, none⟩ = some (.int .i64 n) := (hb.cell 0).trans rfl
  have h4 := hb.frozen 0
  have h5 : w.cell? ⟨p, 3, none⟩ = some (.pointer (some ⟨g, 0, none⟩)) := h1
  have hgp : ¬ g = p := (h.us g hu).2
  have HH := Lib.hid h
  have HB := Lib.hid hb
  have HU := Lib.hid hu
  have HK := Lib.hid hk
  have HKB := Lib.hid hkb
  have HF := Lib.hid hf
  clear h hb hu hk hkb hf h1
  have hP : PDw S F U (w.setCell ⟨g, 0, none⟩ (.int .i64 (n - 1))) p q c cs vs (.pointer (some ⟨g, 0, none⟩)) { st with fuse := some (n - 1, kl) } := by
    have h := HH.out
    have hc : Chg (fun k => k = g) w (w.setCell ⟨g, 0, none⟩ (.int .i64 (n - 1))) := Chg.set _ _ _ _ rfl
    refine ⟨h.head.keep hc fun e => hgp e.symm, h.files.keep hc fun k _ hk e => h.disj k hk (e ▸ HU.out), ?_, h.sp, h.fs, h.us, h.disj, h.hc⟩
    refine ⟨g, kv, rfl, ?_, HU.out, is_keep HK.out hc fun k _ hp hk e => (HKB.out k hp hk).2 e, HKB.out⟩
    simpa using HB.out.set 0 (.int .i64 (n - 1))
  have HP := Lib.hid hP
  clear hP
  by_cases hz : n < 1
  · have hz2 : n - 1 < 0 := by omega
    go_enter Try.func86, Try.ntmps86
    go_wp2
    go_ret
    exact ⟨by simp [hz], HP.out, Chg.set _ _ _ _ ⟨(HH.out.us g HU.out).1, fun hF => HH.out.disj _ hF HU.out, hgp⟩⟩
  · have hz2 : ¬ n - 1 < 0 := by omega
    go_enter Try.func86, Try.ntmps86
    go_wp2
    go_ret
    exact ⟨by simp [hz], HP.out, Chg.set _ _ _ _ ⟨(HH.out.us g HU.out).1, fun hF => HH.out.disj _ hF HU.out, hgp⟩⟩
theorem restart_any (h : PD S w p st) : Calls Try.prog 38 #[.pointer (some ⟨p, 0, none⟩)] w fun e w' => e = .returned (.tuple #[]) ∧ PD S w' p st.restart ∧ Chg S w w' := by
  obtain ⟨F, U, q, c, cs, vs, fu, h⟩ := h
  have h1 := PDw.c1 h
  have h2 := PDw.c3 h
  have f1 := h.head.frozen 1
  have f3 := h.head.frozen 3
  have HH := Lib.hid h
  clear h
  go_enter Try.func38, Try.ntmps38
  go_wp2
  go_end0
  refine ⟨rfl, ⟨F, U, q, c, cs, vs, _, PDw.headed HH.out (off := false) (falls := st.falls) (fuse := none) (fu' := .pointer none) ?_ ?_ rfl⟩, ?_⟩
  · simpa using (HH.out.head.set 1 (.bool false)).set 3 (.pointer none)
  · exact ((Chg.refl (fun k => k = p) w).thenSet _ _ (.inl rfl)).thenSet _ _ (.inl rfl)
  · exact ((Chg.refl _ _).thenSet _ _ (.inl HH.out.sp)).thenSet _ _ (.inl HH.out.sp)
theorem burns_any {M : Nat} (h : PDw S F U w p q c cs vs fu st) (hok : st.Ok M) : Calls Try.prog 86 #[.pointer (some ⟨p, 0, none⟩)] w fun e w' => e = .returned (.bool st.burnt) ∧ PDw S F U w' p q c cs vs fu st.lit ∧ Chg (fun k => S k ∧ ¬ F k ∧ k ≠ p) w w' := by
  cases hf : st.fuse with
  | none =>
    refine (burns_none h hf).mono ?_
    rintro e w' ⟨rfl, rfl⟩
    have e : st.lit = st := by cases st; simp_all [St.lit]
    exact ⟨by simp [St.burnt, hf], by rw [e]; exact h, Chg.refl _ _⟩
  | some x =>
    obtain ⟨n, kl⟩ := x
    obtain ⟨h1, h2⟩ := hok.ops n kl hf
    refine (burns_some h hf h1 h2).mono ?_
    rintro e w' ⟨rfl, hp, hc⟩
    refine ⟨by simp [St.burnt, hf], ?_, hc⟩
    simpa [St.lit, hf] using hp
end
end Go.Proofs.DkW

namespace Go.Proofs.DkW
open Go Go.RowKit Go.Tk Go.Dk

/-- The first so many files have fallen. -/
def part (st : St) (kl : List Int) (k : Nat) : St := { st with files := st.files.mapIdx fun j x => if j < k then fallFile kl j x else x }
theorem part_zero (st : St) (kl : List Int) : part st kl 0 = st := by
  simp [part, List.mapIdx_eq_zipIdx_map]
theorem part_all (st : St) (kl : List Int) : { part st kl st.files.length with off := true, falls := st.falls + 1, fuse := none } = st.fall kl := by
  simp only [part, St.fall, St.mk.injEq, and_true]
  apply List.ext_getElem
  · simp
  · intro i h1 h2
    simp at h1
    simp [h1]
theorem part_file (st : St) (kl : List Int) (k : Nat) : (part st kl k).file k = st.file k := by
  simp [part, St.file, List.getD_eq_getElem?_getD]
theorem part_succ (st : St) (kl : List Int) (k : Nat) (hk : k < st.files.length) : part st kl (k + 1) = (part st kl k).put k (fallFile kl k (st.file k)) := by
  simp only [part, St.put, St.mk.injEq, and_true]
  apply List.ext_getElem
  · simp
  · intro i h1 h2
    simp at h1
    by_cases e : i = k
    · subst e; simp [St.file, h1, hk]
    · rw [List.getElem_set_ne (Ne.symm e)]
      simp only [List.getElem_mapIdx]
      by_cases h : i < k
      · rw [if_pos h, if_pos (by omega)]
      · rw [if_neg h, if_neg (by omega)]

set_option maxHeartbeats 1000000 in
set_option maxRecDepth 100000 in
theorem fall_any {S F U : Nat → Prop} {w : World} {p q c : Nat} {cs : Array Value} {vs : Nat → Value} {fu : Value} {st : St} (h : PDw S F U w p q c cs vs fu st) {M : Nat} (hok : st.Ok0 M) (hM : M ≤ 1000000)
    (kv : Value) (kl : List Int) (hk : Is w kv kl) (hkb : ∀ k, 0 < kl.length → kv.ownBlock = some k → k ≠ q ∧ k ≠ p) :
    Calls Try.prog 87 #[.pointer (some ⟨p, 0, none⟩), kv] w fun e w' => e = .returned (.tuple #[]) ∧ (∃ cs vs, PDw S F U w' p q c cs vs (.pointer none) (st.fall kl)) ∧ Chg (fun k => k = q ∨ k = p) w w' := by
  obtain ⟨ka, kc, rfl, hkc1, hkc2⟩ := hk.form
  have h0 := PDw.c0 h
  have HK := Lib.hid hk
  have HKB := Lib.hid hkb
  have HOK := Lib.hid hok
  have HH := Lib.hid h
  clear h hk hkb hok
  go_enter Try.func87, Try.ntmps87
  go_wp2
  go_loopw [11] (fun i wr => ∃ k : Nat, i = .int .i64 (k : Int) ∧ k ≤ st.files.length ∧ (∃ cs vs, PDw S F U wr p q c cs vs fu (part st kl k)) ∧ Chg (fun k => k = q) w wr) (fun i _ => st.files.length - (intOf i).toNat)
  case atStart => exact ⟨0, rfl, Nat.zero_le _, by rw [part_zero]; exact ⟨cs, vs, HH.out⟩, Chg.refl _ _⟩
  case round =>
    obtain ⟨k, rfl, hk, ⟨cs1, vs1, h⟩, hc⟩ := hrel
    have HC := Lib.hid hc
    clear hc
    by_cases hlt : k < st.files.length
    · have hlen : (part st kl k).files.length = st.files.length := by simp [part]
      have g0 := PDw.c0 h
      rw [hlen] at g0
      obtain ⟨a, m, hv, hm1, hm2, s1, s2⟩ := PDw.at_ h k (by omega)
      rw [part_file] at hv hm1 s1 s2
      have hb := HOK.out.file (st.file k) (by simp [St.file, hlt])
      have f1 := h.files.row.frozen (k * 2)
      have f2 := h.files.row.frozen (k * 2 + 1)
      have H1 := Lib.hid h
      have HV := Lib.hid hv
      clear h hv hlen
      have hk8 := HOK.out.many
      have hb1 : ((st.file k).2 : Int) ≤ ((st.file k).1.length : Int) := by omega
      have hb2 : ((st.file k).1.length : Int) ≤ 16777216 := by omega
      have hb3 : (0 : Int) ≤ ((st.file k).2 : Int) := by omega
      have HFK : Hid (fallFile kl k (st.file k) = ((st.file k).1.take ((st.file k).2 + kept kl k (st.file k).1.length (st.file k).2), (st.file k).2 + kept kl k (st.file k).1.length (st.file k).2)) := rfl
      obtain ⟨E, hE⟩ : ∃ E, kept kl k (st.file k).1.length (st.file k).2 = E := ⟨_, rfl⟩
      obtain ⟨n, hn⟩ : ∃ n, (st.file k).1.length = n := ⟨_, rfl⟩
      obtain ⟨t, ht⟩ : ∃ t, (st.file k).2 = t := ⟨_, rfl⟩
      rw [hn] at hm1 s1 hb hb1 hb2 hE
      rw [ht] at s2 hb hb1 hb3 hE
      have HN := Lib.hid hn
      have HT := Lib.hid ht
      have hEE := hE
      clear hn ht
      unfold kept at hE
      by_cases hkl : k < kl.length
      · have hkr : Is wr (.slice ka kl.length kc) kl := is_keep HK.out HC.out fun k _ hp hk e => (HKB.out k hp hk).1 e
        obtain ⟨kb, koff, rfl, hkd⟩ := hkr.cellAt (by omega)
        have hck := hkd k _ (iv_get kl k hkl)
        have hki : (k : Int) < (kl.length : Int) := by omega
        obtain ⟨y, hy⟩ : ∃ y, kl[k] = y := ⟨_, rfl⟩
        have hyd : kl.getD k 0 = y := by rw [← hy]; simp [hkl]
        rw [hyd] at hE
        rw [hy] at hck
        obtain ⟨y1, hy1⟩ : ∃ y1, (if ((n - t : Nat) : Int) < y then ((n - t : Nat) : Int) else y) = y1 := ⟨_, rfl⟩
        have e1 : IntKind.i64.wrap ((n : Int) - (t : Int)) = ((n - t : Nat) : Int) := by
          have := IntWalk.i64_in ((n : Int) - (t : Int)) (by omega)
          omega
        have e3 : (if 0 < y1 then y1 else 0) = (E : Int) := by split at hy1 <;> split <;> omega
        have e4 : IntKind.i64.wrap ((t : Int) + (E : Int)) = ((t + E : Nat) : Int) := by
          have := IntWalk.i64_in ((t : Int) + (E : Int)) (by split at hy1 <;> omega)
          omega
        have hT : t + E ≤ n := by split at hy1 <;> omega
        have HE := Lib.hid hEE
        clear hkr hkd hy hyd hE hEE
        generalize n - t = D at *
        obtain ⟨T, hTT⟩ : ∃ T, t + E = T := ⟨_, rfl⟩
        rw [hTT] at e4 hT
        have HTT := Lib.hid hTT
        clear hTT
        have hT2 : (T : Int) ≤ (m : Int) := by omega
        have hT3 : T ≤ m := by omega
        go_wp2
        go_still_tail 23, (by kernel_rfl)
        have k1 : (wr.setCell ⟨q, k * 2 + 1, none⟩ (.int .i64 (T : Int))).drew.cell? ⟨q, k * 2, none⟩ = some (.slice a n m) := by go_simp
        have k2 : (wr.setCell ⟨q, k * 2 + 1, none⟩ (.int .i64 (T : Int))).drew.cell? ⟨q, k * 2 + 1, none⟩ = some (.int .i64 (T : Int)) := by go_simp
        have k3 : (wr.setCell ⟨q, k * 2 + 1, none⟩ (.int .i64 (T : Int))).drew.frozen? ⟨q, k * 2, none⟩ = false := by go_simp
        have k4 : Chg (fun k => k = q) wr (wr.setCell ⟨q, k * 2 + 1, none⟩ (.int .i64 (T : Int))).drew := ((Chg.refl (fun k => k = q) wr).thenSet _ _ (.inl rfl)).drew
        have k5 : Bk (wr.setCell ⟨q, k * 2 + 1, none⟩ (.int .i64 (T : Int))).drew q 146 (cs1.setIfInBounds (k * 2 + 1) (.int .i64 (T : Int))) := H1.out.files.row.set _ _
        have K4 := Lib.hid k4
        have K5 := Lib.hid k5
        go_wp2_with fail
        clear k4 k5 s1 s2 f1 f2 e1 e3 e4 hck g0
        generalize (wr.setCell ⟨q, k * 2 + 1, none⟩ (.int .i64 (T : Int))).drew = w2 at *
        go_still_tail 12, (by kernel_rfl)
        go_wp2
        go_roundw
        case rel =>
          have hpk : k < (part st kl k).files.length := by simp [part]; omega
          have hpf : (part st kl k).files[k] = st.file k := by rw [← part_file st kl k]; simp [St.file, hpk]
          have hcc : Chg (fun k => k = q) wr (w2.setCell ⟨q, k * 2, none⟩ (.slice a T m)).drew := (K4.out.thenSet _ _ (.inl rfl)).drew
          refine ⟨k + 1, by go_num, by omega, ⟨(cs1.setIfInBounds (k * 2 + 1) (.int .i64 (T : Int))).setIfInBounds (k * 2) (.slice a T m), fun i => if i = k then .slice a T m else vs1 i, ?_⟩, HC.out.trans hcc fun _ _ e => e⟩
          have hz := H1.out.files.size
          rw [part_succ _ _ _ hlt, HFK.out, HN.out, HT.out, HE.out, HTT.out]
          refine PDw.cut H1.out hpk hcc (K5.out.set _ _) ?_ ?_ ?_ ?_ (Files.own_cut H1.out.files hpk hpf HV.out (by have := HN.out; omega) hcc) (fun k' hk' => by rw [HV.out]; cases a <;> exact hk')
          · rw [Array.size_setIfInBounds, Array.size_setIfInBounds]
          · rw [Array.getElem?_setIfInBounds_self_of_lt (by rw [Array.size_setIfInBounds]; omega)]
          · rw [Array.getElem?_setIfInBounds_ne (by omega), Array.getElem?_setIfInBounds_self_of_lt (by omega)]
          · exact fun j h1 h2 => by rw [Array.getElem?_setIfInBounds_ne (by omega), Array.getElem?_setIfInBounds_ne (by omega)]
        case measure => simp [intOf]; omega
      · have hyd : kl.getD k 0 = 0 := by simp [hkl]
        rw [hyd] at hE
        obtain rfl : E = 0 := by omega
        have hkf : decide ((k : Int) < (kl.length : Int)) = false := by simp; omega
        have hT : t ≤ n := hb.1
        have hT2 : (t : Int) ≤ (m : Int) := by omega
        have hT3 : t ≤ m := by omega
        have HE := Lib.hid hEE
        have HTT : Hid (t + 0 = t) := rfl
        have K4 := Lib.hid (Chg.refl (fun k => k = q) wr)
        have K5 := Lib.hid H1.out.files.row
        clear hyd hE hEE
        go_wp2
        clear f2
        go_still_tail 12, (by kernel_rfl)
        go_wp2
        go_roundw
        case rel =>
          have hpk : k < (part st kl k).files.length := by simp [part]; omega
          have hpf : (part st kl k).files[k] = st.file k := by rw [← part_file st kl k]; simp [St.file, hpk]
          have hcc : Chg (fun k => k = q) wr (wr.setCell ⟨q, k * 2, none⟩ (.slice a t m)).drew := (K4.out.thenSet _ _ (.inl rfl)).drew
          refine ⟨k + 1, by go_num, by omega, ⟨cs1.setIfInBounds (k * 2) (.slice a t m), fun i => if i = k then .slice a t m else vs1 i, ?_⟩, HC.out.trans hcc fun _ _ e => e⟩
          have hz := H1.out.files.size
          have hl := H1.out.files.last k hpk
          rw [hpf, HT.out] at hl
          rw [part_succ _ _ _ hlt, HFK.out, HN.out, HT.out, HE.out, HTT.out]
          refine PDw.cut H1.out hpk hcc (K5.out.set _ _) ?_ ?_ ?_ ?_ (Files.own_cut H1.out.files hpk hpf HV.out (by have := HN.out; omega) hcc) (fun k' hk' => by rw [HV.out]; cases a <;> exact hk')
          · rw [Array.size_setIfInBounds]
          · rw [Array.getElem?_setIfInBounds_self_of_lt (by omega)]
          · rw [Array.getElem?_setIfInBounds_ne (by omega)]; exact hl
          · exact fun j h1 h2 => by rw [Array.getElem?_setIfInBounds_ne (by omega)]
        case measure => simp [intOf]; omega
    · obtain rfl : k = st.files.length := by omega
      have hlen : (part st kl st.files.length).files.length = st.files.length := by simp [part]
      have g1 := PDw.c1 h
      have g2 := PDw.c2 h
      have g3 := PDw.c3 h
      have f1 := h.head.frozen 1
      have f2 := h.head.frozen 2
      have f3 := h.head.frozen 3
      have hfl := HOK.out.falls
      have hfs : (part st kl st.files.length).falls = st.falls := rfl
      rw [hfs] at g2
      have H1 := Lib.hid h
      clear h hlen hfs
      go_wp2
      go_end0
      refine ⟨rfl, ⟨cs1, vs1, ?_⟩, ((((HC.out.sub (fun k _ e => .inl e)).thenSet _ _ (.inl (.inr rfl))).thenSet _ _ (.inl (.inr rfl))).thenSet _ _ (.inl (.inr rfl)))⟩
      rw [← part_all]
      refine PDw.headed H1.out (off := true) (falls := st.falls + 1) (fuse := none) (fu' := .pointer none) ?_ ?_ rfl
      · simpa using ((H1.out.head.set 1 (.bool true)).set 3 (.pointer none)).set 2 (.int .i64 (st.falls + 1))
      · exact (((Chg.refl (fun k => k = p) wr).thenSet _ _ (.inl rfl)).thenSet _ _ (.inl rfl)).thenSet _ _ (.inl rfl)
end Go.Proofs.DkW
