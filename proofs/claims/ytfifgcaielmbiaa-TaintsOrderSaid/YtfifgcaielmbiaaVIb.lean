/- What abstract values, blocks and states say of the model's memory; a step's effect on what is said. -/
import Derived.Test.YtfifgcaielmbiaaVIa
import Derived.WalkKit
namespace Go.VI
set_option linter.unusedVariables false

/-- Typed data, in cells, and in memory that is not written (blocks F). -/
def RelT (F : Nat → Prop) (w : World) : (t : Ty) → t.den → List Value → Prop
  | .int k, n, cs => cs = [.int k n]
  | .bool, b, cs => cs = [.bool b]
  | .str, s, cs => cs = [.string s]
  | .slice t, l, cs => ∃ a cap, cs = [.slice a l.length cap] ∧ l.length ≤ cap ∧
      ∀ i x, l[i]? = some x → ∃ ad, a = some ad ∧ F ad.block ∧ ∃ c, RelT F w t x c ∧ ∀ j v, c[j]? = some v → w.cell? (ad.add (i * t.size + j)) = some v
  | .pair a b, x, cs => ∃ c d, cs = c ++ d ∧ RelT F w a x.1 c ∧ RelT F w b x.2 d
  | .agg t, x, cs => RelT F w t x cs
  | .nil, _, cs => cs = []

theorem RelT.len {F : Nat → Prop} {w : World} : ∀ {t : Ty} {x : t.den} {cs : List Value}, RelT F w t x cs → cs.length = t.size
  | .int _, _, _, h => by rw [show _ = _ from h]; rfl
  | .bool, _, _, h => by rw [show _ = _ from h]; rfl
  | .str, _, _, h => by rw [show _ = _ from h]; rfl
  | .slice _, _, _, h => by obtain ⟨a, cap, rfl, _⟩ := h; rfl
  | .pair a b, _, _, h => by
    obtain ⟨c, d, rfl, h1, h2⟩ := h
    rw [List.length_append, RelT.len h1, RelT.len h2]; rfl
  | .agg t, x, cs, h => RelT.len (t := t) h
  | .nil, _, _, h => by rw [show _ = _ from h]; rfl

theorem cell?_congr {w w' : World} {a : Addr} (h : w'.heap[a.block]? = w.heap[a.block]?) : w'.cell? a = w.cell? a := by
  unfold World.cell?; rw [h]
theorem frozen?_congr {w w' : World} {a : Addr} (h : w'.heap[a.block]? = w.heap[a.block]?) : w'.frozen? a = w.frozen? a := by
  unfold World.frozen?; rw [h]
theorem add_block (a : Addr) (n : Nat) : (a.add n).block = a.block := by unfold Addr.add; split <;> rfl

theorem RelT.mono {F F' : Nat → Prop} {w w' : World} (hF : ∀ r, F r → F' r) (hw : ∀ r, F r → w'.heap[r]? = w.heap[r]?) :
    ∀ {t : Ty} {x : t.den} {cs : List Value}, RelT F w t x cs → RelT F' w' t x cs
  | .int _, _, _, h => h
  | .bool, _, _, h => h
  | .str, _, _, h => h
  | .slice t, l, cs, h => by
    obtain ⟨a, cap, e, hl, hc⟩ := h
    refine ⟨a, cap, e, hl, fun i x hx => ?_⟩
    obtain ⟨ad, ha, hb, c, hr, hcs⟩ := hc i x hx
    exact ⟨ad, ha, hF _ hb, c, RelT.mono hF hw hr, fun j v hj => by rw [← hcs j v hj]; exact cell?_congr (by rw [add_block]; exact hw _ hb)⟩
  | .pair a b, _, _, h => by
    obtain ⟨c, d, e, h1, h2⟩ := h
    exact ⟨c, d, e, RelT.mono hF hw h1, RelT.mono hF hw h2⟩
  | .agg t, x, cs, h => RelT.mono (t := t) hF hw h
  | .nil, _, _, h => h

/-- What kind of a block a number stands for. -/
inductive Kd where
  | none | dead
  | box
  | arr (t : Ty) (g len : Nat)
  | map (kt vt : Ty) (g : Nat)
  | siter
def kindOf : Blk → Kd
  | .gone => .dead
  | .box _ => .box
  | .arr t l g => .arr t g l.length
  | .map kt vt _ g => .map kt vt g
  | .siter _ _ => .siter

theorem kindOf_dead {b : Blk} (h : kindOf b = .dead) : b = .gone := by cases b <;> first | rfl | cases h
theorem kindOf_none {b : Blk} : kindOf b ≠ .none := by cases b <;> exact fun h => by cases h

/-- What is known of where memory lies: F: blocks that are not written any more; i: the block of a number (and its capacity); G: the numbers' kinds. -/
structure Gh where
  F : Nat → Prop
  i : Nat → Option (Nat × Nat)
  G : Nat → Kd

/-- An abstract value, and a value. -/
inductive RelV (g : Gh) (w : World) : AV → Value → Prop
  | undef (v) : RelV g w .undef v
  | int (k n) : RelV g w (.int k n) (.int k n)
  | bool (b) : RelV g w (.bool b) (.bool b)
  | str (s) : RelV g w (.str s) (.string s)
  | vals (t l v) : RelT g.F w (.slice t) l [v] → RelV g w (.vals t l) v
  | nils : RelV g w .nils (.slice none 0 0)
  | lits (n sz cs a cap) (f : Nat → Value) : n ≤ cap → (n ≠ 0 → ∃ ad, a = some ad) → (∀ j c, cs[j]? = some c → ∃ ad, a = some ad ∧ g.F ad.block ∧ w.cell? (ad.add j) = some (f j)) →
      (∀ j c, cs[j]? = some c → RelV g w c (f j)) → RelV g w (.lits n sz cs) (.slice a n cap)
  | own (b k v) : g.G b ≠ .none → (∃ a n c, v = .slice a n c) → (∀ t k' n, g.G b = .arr t k' n → k ≤ k' ∧ (k = k' → ∃ a cap, v = .slice a n cap ∧ n ≤ cap ∧
      ((g.i b = none ∧ a = none ∧ cap = 0) ∨ (∃ r, g.i b = some (r, cap) ∧ a = some ⟨r, 0, none⟩)))) → RelV g w (.own b k) v
  | sref (b off len k lim v) : g.G b ≠ .none → (∃ a cap, v = .slice a len cap) → (∀ t k' n, g.G b = .arr t k' n → k ≤ k' ∧ (k = k' → off + len ≤ n ∧ ∃ a cap, v = .slice a len cap ∧ len ≤ cap ∧ (lim = true → cap = len) ∧
      (len ≠ 0 → ∃ r c, g.i b = some (r, c) ∧ a = some ⟨r, off * t.size, none⟩))) → RelV g w (.sref b off len k lim) v
  | ptr (b i o k v) : g.G b ≠ .none → (∃ ad, v = .pointer (some ad)) → (∀ t k' n, g.G b = .arr t k' n → k ≤ k' ∧ (k = k' → ∃ r c, g.i b = some (r, c) ∧ v = .pointer (some ⟨r, i * t.size + o, none⟩))) →
      (g.G b = .box → i = 0 → ∃ r c, g.i b = some (r, c) ∧ v = .pointer (some ⟨r, o, none⟩)) →
      (g.G b = .siter → o = 0 → ∃ r c, g.i b = some (r, c) ∧ v = .pointer (some ⟨r, 0, none⟩)) → RelV g w (.ptr b i o k) v
  | cptr (cs ad) (f : Nat → Value) : (∀ j c, cs[j]? = some c → g.F ad.block ∧ w.cell? (ad.add j) = some (f j)) → (∀ j c, cs[j]? = some c → RelV g w c (f j)) → RelV g w (.cptr cs) (.pointer (some ad))
  | nilp : RelV g w .nilp (.pointer none)
  | map (b v) : g.G b ≠ .none → (∃ r, v = .map (some r)) → (∀ kt vt k, g.G b = .map kt vt k → ∃ r c, g.i b = some (r, c) ∧ v = .map (some r)) → RelV g w (.map b) v
  | nilmap : RelV g w .nilmap (.map none)
  | stamp (b i k v) : g.G b ≠ .none → (∃ n, v = .int .i64 n) → (∀ kt vt k', g.G b = .map kt vt k' → k ≤ k' ∧ (k = k' → ∃ r c es clock e, g.i b = some (r, c) ∧ w.heap[r]? = some (.map es clock) ∧ es[i]? = some e ∧ v = .int .i64 e.born)) → RelV g w (.stamp b i k) v
  | fn (f xs ys vs us) (fx fy : Nat → Value) : vs.size = xs.length → us.size = ys.length → (∀ j c, xs[j]? = some c → vs[j]? = some (fx j)) → (∀ j c, xs[j]? = some c → RelV g w c (fx j)) →
      (∀ j c, ys[j]? = some c → us[j]? = some (fy j)) → (∀ j c, ys[j]? = some c → RelV g w c (fy j)) → RelV g w (.fn f xs ys) (.func f vs us)
  | nilfn : RelV g w .nilfn .nilFunc
  | iface (t c v) : RelV g w c v → RelV g w (.iface t c) (.iface t v)
  | nili : RelV g w .nili .nilIface
  | agg (cs vs) (f : Nat → Value) : vs.size = cs.length → (∀ j c, cs[j]? = some c → vs[j]? = some (f j)) → (∀ j c, cs[j]? = some c → RelV g w c (f j)) → RelV g w (.agg cs) (.agg vs)
  | tup (cs vs) (f : Nat → Value) : vs.size = cs.length → (∀ j c, cs[j]? = some c → vs[j]? = some (f j)) → (∀ j c, cs[j]? = some c → RelV g w c (f j)) → RelV g w (.tup cs) (.tuple vs)

/-- Cells, one by one. -/
def RelC (g : Gh) (w : World) (cs : List AV) (vs : List Value) : Prop := vs.length = cs.length ∧ ∀ (j : Nat) (c : AV) (v : Value), cs[j]? = some c → vs[j]? = some v → RelV g w c v

/-- A block's contents. -/
def RelB (g : Gh) (w : World) (b : Nat) : Blk → Prop
  | .gone => True
  | .box cs => ∃ r c vs e, g.i b = some (r, c) ∧ w.heap[r]? = some (.cells vs e (0, 0)) ∧ RelC g w cs vs.toList
  | .arr t l _ => (g.i b = none ∧ l = []) ∨ ∃ r cap vs e, g.i b = some (r, cap) ∧ w.heap[r]? = some (.cells vs e (0, 0)) ∧ l.length ≤ cap ∧ cap * t.size ≤ vs.size ∧
      ∀ i x, l[i]? = some x → ∃ c, RelT g.F w t x c ∧ ∀ j v, c[j]? = some v → vs[i * t.size + j]? = some v
  | .map kt vt es _ => ∃ (r c : Nat) (ms : Array MapEntry) (clock : Nat), g.i b = some (r, c) ∧ w.heap[r]? = some (.map ms clock) ∧ ms.size = es.length ∧
      (∀ (i : Nat) (e : kt.den × vt.den) (m : MapEntry), es[i]? = some e → ms[i]? = some m → RelT g.F w kt e.1 m.key.cells.toList ∧ RelT g.F w vt e.2 m.val.cells.toList ∧ (kt.isAgg = false → m.key.cells = #[m.key]) ∧ (kt.isAgg = true → m.key = .agg m.key.cells) ∧ (vt.isAgg = false → m.val.cells = #[m.val]) ∧ (vt.isAgg = true → m.val = .agg m.val.cells) ∧ m.born < clock) ∧
      (∀ (i j : Nat) (m m' : MapEntry), ms[i]? = some m → ms[j]? = some m' → m.born = m'.born → i = j)
  | .siter s pos => ∃ r c, g.i b = some (r, c) ∧ w.heap[r]? = some (.stringIter s pos)

/-- The heap. -/
structure HRel (g : Gh) (H : Hp) (w : World) : Prop where
  blk : ∀ b, RelB g w b (H b)
  kd : ∀ b, (∀ h : H b = .gone, False) → g.G b = kindOf (H b)
  inj : ∀ b b' r c c', g.i b = some (r, c) → g.i b' = some (r, c') → g.G b ≠ .none → g.G b ≠ .dead → g.G b' ≠ .none → g.G b' ≠ .dead → b = b'
  disj : ∀ b r c, g.i b = some (r, c) → g.G b ≠ .none → g.G b ≠ .dead → ¬ g.F r ∧ r < w.heap.size
  ex : ∀ r, g.F r → r < w.heap.size

/-- What is not memory is as it was. -/
structure Env (w w' : World) : Prop where
  os : w'.os = w.os
  tape : w'.tape = w.tape
  output : w'.output = w.output
theorem Env.refl (w : World) : Env w w := ⟨rfl, rfl, rfl⟩
theorem Env.trans {a b c : World} (h : Env a b) (h' : Env b c) : Env a c := ⟨h'.os.trans h.os, h'.tape.trans h.tape, h'.output.trans h.output⟩

/-- What a step does to what is known: blocks D may be written (they are seen), new ones may come. -/
structure Ext (g : Gh) (H : Hp) (w : World) (D : List Nat) (g' : Gh) (H' : Hp) (w' : World) : Prop where
  mono : ∀ r, g.F r → g'.F r
  more : ∀ r, g'.F r → g.F r ∨ (∃ b ∈ D, g.G b ≠ .none ∧ ∃ c, g.i b = some (r, c)) ∨ w.heap.size ≤ r
  size : w.heap.size ≤ w'.heap.size
  frame : ∀ r, r < w.heap.size → (∀ b ∈ D, g.G b ≠ .none → ∀ c, g.i b ≠ some (r, c)) → w'.heap[r]? = w.heap[r]?
  seen : ∀ b ∈ D, g.G b ≠ .none → H b ≠ .gone
  same : ∀ b, g.G b ≠ .none → b ∉ D → g'.G b = g.G b ∧ g'.i b = g.i b ∧ H' b = H b
  moved : ∀ b ∈ D, g.G b ≠ .none → ∀ r c, g'.i b = some (r, c) → (∃ c', g.i b = some (r, c')) ∨ w.heap.size ≤ r
  turn : ∀ b ∈ D, g.G b ≠ .none → g'.G b = .dead ∨ (g.G b = .box ∧ g'.G b = .box ∧ g'.i b = g.i b) ∨ (g.G b = .siter ∧ g'.G b = .siter ∧ g'.i b = g.i b) ∨
    (∃ t k n, g.G b = .arr t k n ∧ g'.G b = .arr t k n ∧ g'.i b = g.i b) ∨ (∃ t k n k' n', g.G b = .arr t k n ∧ g'.G b = .arr t k' n' ∧ k < k') ∨
    (∃ kt vt k k', g.G b = .map kt vt k ∧ g'.G b = .map kt vt k' ∧ k < k' ∧ g'.i b = g.i b)
  fresh : ∀ b r c, g.G b = .none → g'.G b ≠ .none → g'.i b = some (r, c) → w.heap.size ≤ r
  env : Env w w'

theorem Ext.refl (g : Gh) (H : Hp) (w : World) : Ext g H w [] g H w :=
  ⟨fun _ h => h, fun _ h => .inl h, Nat.le_refl _, fun _ _ _ => rfl, (fun _ h => by cases h), fun _ _ _ => ⟨rfl, rfl, rfl⟩, (fun _ h => by cases h), (fun _ h => by cases h), fun b r c h h' _ => absurd h h', .refl w⟩

theorem Ext.live {g g' : Gh} {H H' : Hp} {w w' : World} {D : List Nat} (h : Ext g H w D g' H' w') {b : Nat} (hb : g.G b ≠ .none) : g'.G b ≠ .none := by
  by_cases hd : b ∈ D
  · rcases h.turn b hd hb with h | ⟨_, h, _⟩ | ⟨_, h, _⟩ | ⟨t, k, n, _, h, _⟩ | ⟨t, k, n, k', n', _, h, _⟩ | ⟨kt, vt, k, k', _, h, _⟩ <;> rw [h] <;> exact fun h => by cases h
  · rw [(h.same b hb hd).1]; exact hb

theorem Ext.keepF {g g' : Gh} {H H' : Hp} {w w' : World} {D : List Nat} (h : Ext g H w D g' H' w') (hr : HRel g H w) : ∀ r, g.F r → w'.heap[r]? = w.heap[r]? := by
  intro r hF
  refine h.frame r (hr.ex r hF) fun b hb h1 c hi => ?_
  have hs := h.seen b hb h1
  have hk := hr.kd b (fun e => hs e)
  have h2 : g.G b ≠ .dead := by rw [hk]; exact fun e => hs (kindOf_dead e)
  exact (hr.disj b r c hi h1 h2).1 hF

theorem RelV.step {g g' : Gh} {H H' : Hp} {w w' : World} {D : List Nat} (h : Ext g H w D g' H' w') (hr : HRel g H w) {x : AV} {v : Value} (hx : RelV g w x v) : RelV g' w' x v := by
  have hF := h.keepF hr
  induction hx with
  | undef v => exact .undef v
  | int k n => exact .int k n
  | bool b => exact .bool b
  | str s => exact .str s
  | vals t l v ht => exact .vals t l v (ht.mono h.mono hF)
  | nils => exact .nils
  | lits n sz cs a cap f hn hz hc _ ih =>
    exact .lits n sz cs a cap f hn hz (fun j c hj => by
      obtain ⟨ad, ha, hb, hw⟩ := hc j c hj
      exact ⟨ad, ha, h.mono _ hb, by rw [← hw]; exact cell?_congr (by rw [add_block]; exact hF _ hb)⟩) ih
  | own b k v hn hs ha =>
    refine .own b k v (h.live hn) hs fun t k' n hG => ?_
    by_cases hd : b ∈ D
    · rcases h.turn b hd hn with e | ⟨_, e, _⟩ | ⟨_, e, _⟩ | ⟨t', k2, n', e0, e, ei⟩ | ⟨t', k2, n', k3, n3, e0, e, hlt⟩ | ⟨kt, vt, k, k', _, e, _⟩ <;> rw [e] at hG <;> cases hG
      · rw [ei]; exact ha _ _ _ e0
      · have := (ha _ _ _ e0).1
        exact ⟨by omega, fun e => by omega⟩
    · obtain ⟨e1, e2, _⟩ := h.same b hn hd
      rw [e1] at hG; rw [e2]; exact ha _ _ _ hG
  | sref b off len k lim v hn hs ha =>
    refine .sref b off len k lim v (h.live hn) hs fun t k' n hG => ?_
    by_cases hd : b ∈ D
    · rcases h.turn b hd hn with e | ⟨_, e, _⟩ | ⟨_, e, _⟩ | ⟨t', k2, n', e0, e, ei⟩ | ⟨t', k2, n', k3, n3, e0, e, hlt⟩ | ⟨kt, vt, k, k', _, e, _⟩ <;> rw [e] at hG <;> cases hG
      · rw [ei]; exact ha _ _ _ e0
      · have := (ha _ _ _ e0).1
        exact ⟨by omega, fun e => by omega⟩
    · obtain ⟨e1, e2, _⟩ := h.same b hn hd
      rw [e1] at hG; rw [e2]; exact ha _ _ _ hG
  | ptr b i o k v hn hp ha hb hi =>
    by_cases hd : b ∈ D
    · rcases h.turn b hd hn with e | ⟨e0, e, ei⟩ | ⟨e0, e, ei⟩ | ⟨t', k2, n', e0, e, ei⟩ | ⟨t', k2, n', k3, n3, e0, e, hlt⟩ | ⟨kt, vt, k4, k5, _, e, _⟩ <;> refine .ptr b i o k v (h.live hn) hp (fun t k' n hG => ?_) (fun hG => ?_) (fun hG => ?_) <;> rw [e] at hG <;> first | cases hG | skip
      · rw [ei]; exact hb e0
      · rw [ei]; exact hi e0
      · rw [ei]; exact ha _ _ _ e0
      · have := (ha _ _ _ e0).1
        exact ⟨by omega, fun e => by omega⟩
    · obtain ⟨e1, e2, _⟩ := h.same b hn hd
      refine .ptr b i o k v (h.live hn) hp (fun t k' n hG => ?_) (fun hG => ?_) (fun hG => ?_) <;> rw [e1] at hG <;> rw [e2]
      · exact ha _ _ _ hG
      · exact hb hG
      · exact hi hG
  | cptr cs ad f hc _ ih =>
    exact .cptr cs ad f (fun j c hj => by
      obtain ⟨hb, hw⟩ := hc j c hj
      exact ⟨h.mono _ hb, by rw [← hw]; exact cell?_congr (by rw [add_block]; exact hF _ hb)⟩) ih
  | nilp => exact .nilp
  | map b v hn hp ha =>
    refine .map b v (h.live hn) hp fun kt vt k hG => ?_
    by_cases hd : b ∈ D
    · rcases h.turn b hd hn with e | ⟨_, e, _⟩ | ⟨_, e, _⟩ | ⟨t', k2, n', e0, e, ei⟩ | ⟨t', k2, n', k3, n3, e0, e, hlt⟩ | ⟨kt', vt', k1, k', e0, e, _, ei⟩ <;> rw [e] at hG <;> cases hG
      rw [ei]; exact ha _ _ _ e0
    · obtain ⟨e1, e2, _⟩ := h.same b hn hd
      rw [e1] at hG; rw [e2]; exact ha _ _ _ hG
  | nilmap => exact .nilmap
  | stamp b i k v hn hp ha =>
    refine .stamp b i k v (h.live hn) hp fun kt vt k' hG => ?_
    by_cases hd : b ∈ D
    · rcases h.turn b hd hn with e | ⟨_, e, _⟩ | ⟨_, e, _⟩ | ⟨t', k2, n', e0, e, ei⟩ | ⟨t', k2, n', k3, n3, e0, e, hlt⟩ | ⟨kt', vt', k1, k2, e0, e, hlt, ei⟩ <;> rw [e] at hG <;> cases hG
      have := (ha _ _ _ e0).1
      exact ⟨by omega, fun e => by omega⟩
    · obtain ⟨e1, e2, _⟩ := h.same b hn hd
      rw [e1] at hG; rw [e2]
      obtain ⟨h1, h2⟩ := ha _ _ _ hG
      refine ⟨h1, fun e => ?_⟩
      obtain ⟨r, c, es, clock, m, hi, hw, hm, hv⟩ := h2 e
      refine ⟨r, c, es, clock, m, hi, ?_, hm, hv⟩
      rw [← hw]
      have hd1 := hr.disj b r c hi hn (by rw [hG]; exact fun h => by cases h)
      refine h.frame r hd1.2 fun b' hb' h3 c' hi' => ?_
      have hs := h.seen b' hb' h3
      have hk := hr.kd b' (fun e => hs e)
      have h4 : g.G b' ≠ .dead := by rw [hk]; exact fun e => hs (kindOf_dead e)
      have := hr.inj b b' r c c' hi hi' hn (by rw [hG]; exact fun h => by cases h) h3 h4
      exact hd (this ▸ hb')
  | fn f xs ys vs us fx fy h1 h2 h3 _ h5 _ ih1 ih2 => exact .fn f xs ys vs us fx fy h1 h2 h3 ih1 h5 ih2
  | nilfn => exact .nilfn
  | iface t c v _ ih => exact .iface t c v ih
  | nili => exact .nili
  | agg cs vs f h1 h2 _ ih => exact .agg cs vs f h1 h2 ih
  | tup cs vs f h1 h2 _ ih => exact .tup cs vs f h1 h2 ih

end Go.VI
