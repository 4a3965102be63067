/- This text proves, for any program, that an argument which can be read as data has cells of the kind that its type has: whole numbers, bools, strings, slices and structs of these. -/
import Derived.Test.YtplgkdfmpbkfpaaWWords
import Derived.ChangeArms
import Derived.SizedLaws
import Derived.ChangeSlices
import Derived.DataElems
namespace Go.Proofs.Ytplgkdfmpbkfpaa.Open
open Go.Proofs.YtplgkdfmpbkfpaaW.PrintWords Go.ChangeShapes

/-- What can be read of type t has cells of kind k, and its value meets B (its numbers are of their kinds, its lengths are within the reach). -/
structure Opens {α : Type} (P : Program) (t : TypeId) (k : Kd α) (B : α → Prop) : Prop where
  sz : P.cellsOf t = k.sz
  op : ∀ {H : Type} {enc : TypeId × Value → H} {W : World} {base : Nat} {spare : Nat → Bool} {held : Bool} {fuel : Nat} {cs : List Value} {x : DataW H × List MemPlace},
    DataW.trod enc P W base spare held fuel t cs = some x → (∀ n ∈ x.1.weights P t, n ≤ reachBytes) → ∃ y, k.K W y cs ∧ B y

variable {P : Program} {t : TypeId}

theorem opens_int {k : IntKind} (ht : P.underlying t = some (.int k)) (hc : P.cellsOf t = 1) : Opens P t (Kd.int k) (fun x => (Lit.int k x).wf = true) :=
  ⟨hc, fun h _ => by
    obtain ⟨n, rfl, rfl, hw⟩ := DataW.trod_int ht h
    exact ⟨n, rfl, hw⟩⟩
theorem opens_bool (ht : P.underlying t = some .bool) (hc : P.cellsOf t = 1) : Opens P t Kd.bool (fun _ => True) :=
  ⟨hc, fun h _ => by
    obtain ⟨b, rfl, rfl⟩ := DataW.trod_bool ht h
    exact ⟨b, rfl, trivial⟩⟩
theorem opens_string (ht : P.underlying t = some .string) (hc : P.cellsOf t = 1) : Opens P t Kd.string (fun s => s.size ≤ 140737488351232) :=
  ⟨hc, fun h hw => by
    obtain ⟨s, rfl, rfl, _⟩ := DataW.trod_string ht h
    refine ⟨s, rfl, ?_⟩
    have := hw s.data.toList.length (by simp [DataW.weights])
    rw [Array.length_toList] at this
    exact this⟩

theorem choose_list {α : Type} {Q : Nat → α → Prop} : ∀ n : Nat, (∀ i, i < n → ∃ y, Q i y) → ∃ l : List α, l.length = n ∧ ∀ i y, l[i]? = some y → Q i y
  | 0, _ => ⟨[], rfl, fun i y h => by simp at h⟩
  | n + 1, h => by
    obtain ⟨l, hl, hq⟩ := choose_list n (fun i hi => h i (by omega))
    obtain ⟨y, hy⟩ := h n (by omega)
    refine ⟨l ++ [y], by simp [hl], fun i z hz => ?_⟩
    rcases Nat.lt_or_ge i l.length with hi | hi
    · rw [List.getElem?_append_left hi] at hz
      exact hq i z hz
    · have hi' : i = l.length := by
        have := (List.getElem?_eq_some_iff.1 hz).1
        simp at this
        omega
      subst hi'
      have : y = z := by simpa using hz
      subst this
      rw [hl]
      exact hy

theorem weights_mem_all {H : Type} {e : TypeId} : ∀ {ds : List (DataW H)} {d : DataW H}, d ∈ ds → ∀ n ∈ d.weights P e, n ∈ DataW.weightsAll P e ds
  | d0 :: ds, d, h, n, hn => by
    simp only [DataW.weightsAll, List.mem_append]
    rcases List.mem_cons.1 h with rfl | h
    · exact .inl hn
    · exact .inr (weights_mem_all h n hn)

theorem opens_slice {α : Type} {e : TypeId} {k : Kd α} {B : α → Prop} (m : Nat) (hn : P.bytesOf e = m) (ht : P.underlying t = some (.slice e)) (hc : P.cellsOf t = 1) (he : Opens P e k B) :
    Opens P t (Kd.slice e k) (fun l => l.length * m ≤ 140737488351232 ∧ ∀ x ∈ l, B x) :=
  ⟨hc, fun {H enc W base spare held fuel cs x} h hw => by
    rcases DataW.trod_slice ht h with ⟨rfl, rfl⟩ | ⟨a, len, cap, elems, rest, n, _, rfl, rfl, hb, hl, hm, hlen, hel, hsp, hns⟩
    · exact ⟨[], ⟨none, 0, rfl, Nat.le_refl _, rfl, by simp, fun h => absurd h (by simp)⟩, by simp, by simp⟩
    · have one : ∀ i, i < len → ∃ y, ∃ c, c.length = k.sz ∧ k.K W y c ∧ B y ∧ ∀ j u, c[j]? = some u → W.cell? (a.add (i * k.sz + j)) = some u := by
        intro i hi
        have h1 := hel i hi
        have h2 : i < elems.length := by omega
        rw [List.getElem?_eq_getElem h2, Option.bind_eq_some_iff] at h1
        obtain ⟨c, hcs, hy⟩ := h1
        have hwz : ∀ m ∈ (elems[i].1).weights P e, m ≤ reachBytes := by
          intro m hm'
          refine hw m ?_
          simp only [DataW.weights, ht, List.mem_cons, List.mem_append]
          exact .inr (.inl (weights_mem_all (List.mem_map.2 ⟨_, List.getElem_mem h2, rfl⟩) m hm'))
        obtain ⟨y, hK, hB⟩ := he.op hy hwz
        obtain ⟨_, hcl, hcell⟩ := World.cells?_some hcs
        refine ⟨y, c, k.K_len hK, hK, hB, fun j u hu => ?_⟩
        have hj : j < P.cellsOf e := by
          have := (List.getElem?_eq_some_iff.1 hu).1
          omega
        have := hcell j hj
        rw [Addr.add_add, he.sz] at this
        rw [this, hu]
      obtain ⟨l, hll, hq⟩ := choose_list len one
      refine ⟨l, ⟨some a, cap, by rw [hll], by omega, rfl, ?_, fun _ => ⟨a, rfl, fun j p hj => ?_⟩⟩, ?_, ?_⟩
      · have : maxLen = 9223372036854775807 := rfl
        omega
      · obtain ⟨c, h1, h2, _, h3⟩ := hq j p hj
        exact ⟨c, h1, h2, h3⟩
      · have h1 := hw ((elems.length + rest.length) * P.bytesOf e) (by simp [DataW.weights, ht])
        rw [hll, ← hlen, ← hn]
        exact Nat.le_trans (Nat.mul_le_mul_right _ (Nat.le_add_right _ _)) h1
      · intro y hy
        obtain ⟨i, hi⟩ := List.getElem?_of_mem hy
        obtain ⟨_, _, _, h3, _⟩ := hq i y hi
        exact h3⟩

/-- Fields fs from offset off on, one behind the other, are of kind k. -/
structure OpensFs {α : Type} (P : Program) (fs : List Field) (off : Nat) (k : Kd α) (B : α → Prop) : Prop where
  op : ∀ {H : Type} {enc : TypeId × Value → H} {W : World} {base : Nat} {spare : Nat → Bool} {held : Bool} {fuel : Nat} {cs : List Value} {xs : List (DataW H × List MemPlace)},
    cs.length = off + k.sz → xs.length = fs.length → (∀ (i : Nat) (f : Field), fs[i]? = some f → DataW.trod enc P W base spare held fuel f.type ((cs.drop f.offset).take (P.cellsOf f.type)) = xs[i]?) →
    (∀ n ∈ DataW.weightsEach P (fs.map (·.type)) (xs.map (·.1)), n ≤ reachBytes) → ∃ y, k.K W y (cs.drop off) ∧ B y

theorem opensFs_one {α : Type} {f : Field} {off : Nat} {k : Kd α} {B : α → Prop} (hf : f.offset = off) (h : Opens P f.type k B) : OpensFs P [f] off k B :=
  ⟨fun {H enc W base spare held fuel cs xs} hl hx h1 hw => by
    obtain ⟨x, rfl⟩ : ∃ x, xs = [x] := by
      match xs, hx with
      | [x], _ => exact ⟨x, rfl⟩
    have h2 := h1 0 f rfl
    rw [hf, h.sz, List.take_of_length_le (by rw [List.length_drop]; omega)] at h2
    exact h.op h2 (fun n hn => hw n (by simp only [List.map_cons, List.map_nil, DataW.weightsEach, List.append_nil]; exact hn))⟩

theorem opensFs_cons {α β : Type} {f : Field} {fs : List Field} {off : Nat} {k : Kd α} {B : α → Prop} {k' : Kd β} {B' : β → Prop} (hf : f.offset = off) (h : Opens P f.type k B) (h' : OpensFs P fs (off + k.sz) k' B') :
    OpensFs P (f :: fs) off (Kd.pair k k') (fun x => B x.1 ∧ B' x.2) :=
  ⟨fun {H enc W base spare held fuel cs xs} hl hx h1 hw => by
    obtain ⟨x, ys, rfl⟩ : ∃ x ys, xs = x :: ys := by
      match xs, hx with
      | x :: ys, _ => exact ⟨x, ys, rfl⟩
    have hl' : cs.length = off + (k.sz + k'.sz) := hl
    have h2 := h1 0 f rfl
    rw [hf, h.sz] at h2
    obtain ⟨y, hK, hB⟩ := h.op h2 (fun n hn => hw n (by simp only [List.map_cons, DataW.weightsEach, List.mem_append]; exact .inl hn))
    obtain ⟨z, hK', hB'⟩ := h'.op (cs := cs) (xs := ys) (by omega) (by simpa using hx) (fun i g hg => h1 (i + 1) g hg) (fun n hn => hw n (by simp only [List.map_cons, DataW.weightsEach, List.mem_append]; exact .inr hn))
    refine ⟨(y, z), ⟨_, _, ?_, hK, hK'⟩, hB, hB'⟩
    rw [← List.drop_drop, List.take_append_drop]⟩

theorem opens_struct {α β : Type} {fs : Array Field} {k : Kd α} {B : α → Prop} (f : β → α) (g : α → β) (hfg : ∀ x, f (g x) = x) (ht : P.underlying t = some (.struct fs)) (hc : P.cellsOf t = k.sz) (h : OpensFs P fs.toList 0 k B) : Opens P t (Kd.iso k f) (fun x => B (f x)) :=
  ⟨hc, fun {H enc W base spare held fuel cs x} hx hw => by
    obtain ⟨xs, n, _, rfl, hl, hxl, hi⟩ := DataW.trod_struct ht hx
    obtain ⟨y, hK, hB⟩ := h.op (cs := cs) (xs := xs) (by omega) (by simpa using hxl) (fun i f hf => hi i f (by simpa using hf)) (fun n hn => hw n (by simp only [DataW.weights, ht]; exact hn))
    refine ⟨g y, ?_, ?_⟩
    · show k.K W (f (g y)) cs
      rw [hfg]
      exact hK
    · rw [hfg]
      exact hB⟩

/-- An argument of a row. -/
theorem opens_arg {H : Type} {enc : TypeId × Value → H} {W : World} {base : Nat} {spare : Nat → Bool} {held : Bool} {ts : List TypeId} {ds : List (DataW H)} {α : Type} {k : Kd α} {B : α → Prop} (ho : Opens P t k B)
    (hsz : (DataW.weightsEach P ts ds).all (· ≤ reachBytes) = true) {j : Nat} {v : Value} {d : DataW H} {ps : List MemPlace} (ht : ts[j]? = some t) (hd : ds[j]? = some d) (h : DataW.Trod enc P W base spare held t v d ps) :
    ∃ y, k.K W y v.cells.toList ∧ B y := by
  obtain ⟨fuel, hf⟩ := h
  exact ho.op hf (fun n hn => by simpa using List.all_eq_true.1 hsz _ (DataW.weights_mem_each ht hd n hn))

end Go.Proofs.Ytplgkdfmpbkfpaa.Open
