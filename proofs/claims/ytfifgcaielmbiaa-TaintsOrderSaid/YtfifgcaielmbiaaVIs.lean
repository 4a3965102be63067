/- What can be read of a type has typed cells; rows. -/
import Derived.OpenShut
import Derived.Test.YtfifgcaielmbiaaVIr
import Derived.ChangeArms
import Derived.SizedLaws
import Derived.ChangeSlices
import Derived.DataElems
import Derived.ChangeOld
import Derived.Carry
namespace Go.VI
open Go.RowKit Go.ChangeShapes
set_option linter.unusedVariables false
set_option linter.unusedSimpArgs false
variable {P : Program} {t : TypeId}

/-- Numbers are of their kinds, lengths within the reach. -/
def Ty.wf : (t : Ty) → t.den → Prop
  | .int k, n => (Lit.int k n).wf = true
  | .bool, _ => True
  | .str, s => s.size ≤ reachBytes
  | .slice t, l => l.length ≤ reachBytes ∧ ∀ x ∈ l, t.wf x
  | .pair a b, x => a.wf x.1 ∧ b.wf x.2
  | .agg t, x => t.wf x
  | .nil, _ => True

mutual
/-- A type of the program is typed data. -/
def tyOk (P : Program) : Nat → TypeId → Ty → Bool
  | 0, _, _ => false
  | d + 1, t, ty => match P.underlying t with
    | some .bool => ty.beq .bool && Nat.beq (P.cellsOf t) 1
    | some (.int k) => ty.beq (.int k) && Nat.beq (P.cellsOf t) 1
    | some .string => ty.beq .str && Nat.beq (P.cellsOf t) 1
    | some (.slice e) => match ty with
      | .slice u => Nat.beq (P.cellsOf t) 1 && (Nat.ble 1 u.size && (Nat.ble 1 (P.bytesOf e) && tyOk P d e u))
      | _ => false
    | some (.struct fs) => match ty with
      | .agg u => Nat.beq (P.cellsOf t) u.size && fsOk P d fs.toList 0 u
      | _ => false
    | some (.array n e) => match ty with
      | .agg u => Nat.beq (P.cellsOf t) u.size && elsOk P d e n u
      | _ => false
    | _ => false
termination_by structural d => d
def fsOk (P : Program) : Nat → List Field → Nat → Ty → Bool
  | 0, _, _, _ => false
  | d + 1, [f], off, u => Nat.beq f.offset off && tyOk P d f.type u
  | d + 1, f :: fs, off, .pair a b => Nat.beq f.offset off && (tyOk P d f.type a && fsOk P d fs (off + a.size) b)
  | _ + 1, _, _, _ => false
termination_by structural d => d
def elsOk (P : Program) : Nat → TypeId → Nat → Ty → Bool
  | 0, _, _, _ => false
  | d + 1, e, 1, u => tyOk P d e u
  | d + 1, e, n + 2, .pair a b => tyOk P d e a && elsOk P d e (n + 1) b
  | _ + 1, _, _, _ => false
termination_by structural d => d
end

/-- What can be read of type t is of ty. -/
structure OpensT (P : Program) (t : TypeId) (ty : Ty) : Prop where
  sz : P.cellsOf t = ty.size
  op : ∀ {H : Type} {enc : TypeId × Value → H} {W : World} {base : Nat} {spare : Nat → Bool} {held : Bool} {fuel : Nat} {cs : List Value} {x : DataW H × List MemPlace},
    DataW.trod enc P W base spare held fuel t cs = some x → (∀ n ∈ x.1.weights P t, n ≤ reachBytes) → ∃ y : ty.den, RelT (fun r => r < W.heap.size) W ty y cs ∧ ty.wf y
structure OpensFsT (P : Program) (fs : List Field) (off : Nat) (ty : Ty) : Prop where
  op : ∀ {H : Type} {enc : TypeId × Value → H} {W : World} {base : Nat} {spare : Nat → Bool} {held : Bool} {fuel : Nat} {cs : List Value} {xs : List (DataW H × List MemPlace)},
    cs.length = off + ty.size → xs.length = fs.length → (∀ (i : Nat) (f : Field), fs[i]? = some f → DataW.trod enc P W base spare held fuel f.type ((cs.drop f.offset).take (P.cellsOf f.type)) = xs[i]?) →
    (∀ n ∈ DataW.weightsEach P (fs.map (·.type)) (xs.map (·.1)), n ≤ reachBytes) → ∃ y : ty.den, RelT (fun r => r < W.heap.size) W ty y (cs.drop off) ∧ ty.wf y

structure OpensElT (P : Program) (e : TypeId) (n : Nat) (ty : Ty) : Prop where
  op : ∀ {H : Type} {enc : TypeId × Value → H} {W : World} {base : Nat} {spare : Nat → Bool} {held : Bool} {fuel : Nat} {cs : List Value} {xs : List (DataW H × List MemPlace)},
    cs.length = ty.size → xs.length = n → (∀ (i : Nat), i < n → DataW.trod enc P W base spare held fuel e ((cs.drop (i * P.cellsOf e)).take (P.cellsOf e)) = xs[i]?) →
    (∀ n ∈ DataW.weightsAll P e (xs.map (·.1)), n ≤ reachBytes) → ∃ y : ty.den, RelT (fun r => r < W.heap.size) W ty y cs ∧ ty.wf y

theorem choose_listT {α : Type} {Q : Nat → α → Prop} : ∀ n : Nat, (∀ i, i < n → ∃ y, Q i y) → ∃ l : List α, l.length = n ∧ ∀ i y, l[i]? = some y → Q i y
  | 0, _ => ⟨[], rfl, fun i y h => by simp at h⟩
  | n + 1, h => by
    obtain ⟨l, hl, hq⟩ := choose_listT n (fun i hi => h i (by omega))
    obtain ⟨y, hy⟩ := h n (by omega)
    refine ⟨l ++ [y], by simp [hl], fun i z hz => ?_⟩
    rcases Nat.lt_or_ge i l.length with hi | hi
    · rw [List.getElem?_append_left hi] at hz
      exact hq i z hz
    · have hi' : i = l.length := by
        have := (List.getElem?_eq_some_iff.1 hz).1
        simp at this
        omega
      subst hi'
      have : y = z := by simpa using hz
      subst this
      rw [hl]
      exact hy
theorem weights_mem_allT {H : Type} {e : TypeId} : ∀ {ds : List (DataW H)} {d : DataW H}, d ∈ ds → ∀ n ∈ d.weights P e, n ∈ DataW.weightsAll P e ds
  | d0 :: ds, d, h, n, hn => by
    simp only [DataW.weightsAll, List.mem_append]
    rcases List.mem_cons.1 h with rfl | h
    · exact .inl hn
    · exact .inr (weights_mem_allT h n hn)
theorem cell_lt {W : World} {a : Addr} {v : Value} (h : W.cell? a = some v) : a.block < W.heap.size := by
  unfold World.cell? at h
  cases e : W.heap[a.block]? with
  | none => rw [e] at h; cases h
  | some o => exact (Array.getElem?_eq_some_iff.1 e).1

mutual
theorem tyOk_opens : ∀ (d : Nat) (t : TypeId) (ty : Ty), tyOk P d t ty = true → OpensT P t ty
  | 0, t, ty, h => by simp [tyOk] at h
  | d + 1, t, ty, h => by
    unfold tyOk at h
    split at h
    · rename_i ht
      obtain ⟨h1, h2⟩ := and_spec h
      cases Ty.eq_of_beq h1
      exact ⟨Nat.eq_of_beq_eq_true h2, fun h _ => by
        obtain ⟨b, rfl, rfl⟩ := DataW.trod_bool ht h
        exact ⟨b, rfl, trivial⟩⟩
    · rename_i k ht
      obtain ⟨h1, h2⟩ := and_spec h
      cases Ty.eq_of_beq h1
      exact ⟨Nat.eq_of_beq_eq_true h2, fun h _ => by
        obtain ⟨n, rfl, rfl, hw⟩ := DataW.trod_int ht h
        exact ⟨n, rfl, hw⟩⟩
    · rename_i ht
      obtain ⟨h1, h2⟩ := and_spec h
      cases Ty.eq_of_beq h1
      exact ⟨Nat.eq_of_beq_eq_true h2, fun h hw => by
        obtain ⟨s, rfl, rfl, _⟩ := DataW.trod_string ht h
        refine ⟨s, rfl, ?_⟩
        have := hw s.data.toList.length (by simp [DataW.weights])
        rw [Array.length_toList] at this
        exact this⟩
    · rename_i e ht
      split at h <;> try (cases h; done)
      rename_i u
      obtain ⟨h1, h⟩ := and_spec h
      obtain ⟨h2, h⟩ := and_spec h
      obtain ⟨h3, h⟩ := and_spec h
      have he := tyOk_opens d e u h
      have h2 := Nat.le_of_ble_eq_true h2
      have h3 := Nat.le_of_ble_eq_true h3
      refine ⟨Nat.eq_of_beq_eq_true h1, fun {H enc W base spare held fuel cs x} h hw => ?_⟩
      rcases DataW.trod_slice ht h with ⟨rfl, rfl⟩ | ⟨a, len, cap, elems, rest, n, _, rfl, rfl, hb, hl, hm, hlen, hel, hsp, hns⟩
      · exact ⟨[], ⟨none, 0, rfl, Nat.le_refl _, fun i x hx => by simp at hx⟩, by show (0 : Nat) ≤ _ ∧ _; exact ⟨Nat.zero_le _, fun x hx => by cases hx⟩⟩
      · have one : ∀ i, i < len → ∃ y : u.den, ∃ c, c.length = u.size ∧ RelT (fun r => r < W.heap.size) W u y c ∧ u.wf y ∧ ∀ j v, c[j]? = some v → W.cell? (a.add (i * u.size + j)) = some v := by
          intro i hi
          have h1 := hel i hi
          have h2 : i < elems.length := by omega
          rw [List.getElem?_eq_getElem h2, Option.bind_eq_some_iff] at h1
          obtain ⟨c, hcs, hy⟩ := h1
          have hwz : ∀ m ∈ (elems[i].1).weights P e, m ≤ reachBytes := by
            intro m hm'
            refine hw m ?_
            simp only [DataW.weights, ht, List.mem_cons, List.mem_append]
            exact .inr (.inl (weights_mem_allT (List.mem_map.2 ⟨_, List.getElem_mem h2, rfl⟩) m hm'))
          obtain ⟨y, hK, hB⟩ := he.op hy hwz
          obtain ⟨_, hcl, hcell⟩ := World.cells?_some hcs
          refine ⟨y, c, hK.len, hK, hB, fun j v hv => ?_⟩
          have hj : j < P.cellsOf e := by
            have := (List.getElem?_eq_some_iff.1 hv).1
            omega
          have := hcell j hj
          rw [Addr.add_add, he.sz] at this
          rw [this, hv]
        obtain ⟨l, hll, hq⟩ := choose_listT len one
        refine ⟨l, ⟨some a, cap, by rw [hll], by omega, fun i y hy => ?_⟩, ?_, fun y hy => ?_⟩
        · obtain ⟨c, h1, h2', _, h3'⟩ := hq i y hy
          refine ⟨a, rfl, ?_, c, h2', h3'⟩
          have hc0 : c[0]? = some c[0] := List.getElem?_eq_getElem (by omega)
          have := cell_lt (h3' 0 _ hc0)
          rw [add_block] at this
          exact this
        · have h1 := hw ((elems.length + rest.length) * P.bytesOf e) (by simp [DataW.weights, ht])
          rw [hll, ← hlen]
          refine Nat.le_trans ?_ h1
          exact Nat.le_trans (Nat.le_add_right _ _) (Nat.le_mul_of_pos_right _ h3)
        · obtain ⟨i, hi⟩ := List.getElem?_of_mem hy
          obtain ⟨_, _, _, h3', _⟩ := hq i y hi
          exact h3'
    · rename_i fs ht
      split at h <;> try (cases h; done)
      rename_i u
      obtain ⟨h1, h⟩ := and_spec h
      have hf := fsOk_opens d fs.toList 0 u h
      have h1 := Nat.eq_of_beq_eq_true h1
      refine ⟨h1, fun {H enc W base spare held fuel cs x} hx hw => ?_⟩
      obtain ⟨xs, n, _, rfl, hl, hxl, hi⟩ := DataW.trod_struct ht hx
      obtain ⟨y, hK, hB⟩ := hf.op (cs := cs) (xs := xs) (by omega) (by simpa using hxl) (fun i f hf => hi i f (by simpa using hf)) (fun n hn => hw n (by simp only [DataW.weights, ht]; exact hn))
      exact ⟨y, hK, hB⟩
    · rename_i m e ht
      split at h <;> try (cases h; done)
      rename_i u
      obtain ⟨h1, h⟩ := and_spec h
      have hf := elsOk_opens d e m u h
      have h1 := Nat.eq_of_beq_eq_true h1
      refine ⟨h1, fun {H enc W base spare held fuel cs x} hx hw => ?_⟩
      obtain ⟨xs, n, _, rfl, hl, hxl, hi⟩ := DataW.trod_array ht hx
      obtain ⟨y, hK, hB⟩ := hf.op (cs := cs) (xs := xs) (by rw [hl, h1]) hxl hi (fun n hn => hw n (by simp only [DataW.weights, ht]; exact hn))
      exact ⟨y, hK, hB⟩
    · cases h
theorem fsOk_opens : ∀ (d : Nat) (fs : List Field) (off : Nat) (ty : Ty), fsOk P d fs off ty = true → OpensFsT P fs off ty
  | 0, fs, off, ty, h => by simp [fsOk] at h
  | d + 1, [], off, ty, h => by simp [fsOk] at h
  | d + 1, [f], off, u, h => by
    have h : (Nat.beq f.offset off && tyOk P d f.type u) = true := by simpa [fsOk] using h
    obtain ⟨h1, h2⟩ := and_spec h
    have ho := tyOk_opens d f.type u h2
    have hf : f.offset = off := Nat.eq_of_beq_eq_true h1
    refine ⟨fun {H enc W base spare held fuel cs xs} hl hx h1 hw => ?_⟩
    obtain ⟨x, rfl⟩ : ∃ x, xs = [x] := by
      match xs, hx with
      | [x], _ => exact ⟨x, rfl⟩
    have h2 := h1 0 f rfl
    rw [hf, ho.sz, List.take_of_length_le (by rw [List.length_drop]; omega)] at h2
    exact ho.op h2 (fun n hn => hw n (by simp only [List.map_cons, List.map_nil, DataW.weightsEach, List.append_nil]; exact hn))
  | d + 1, f :: f' :: fs', off, .pair a b, h => by
    have h : (Nat.beq f.offset off && (tyOk P d f.type a && fsOk P d (f' :: fs') (off + a.size) b)) = true := by simpa [fsOk] using h
    obtain ⟨h1, h⟩ := and_spec h
    obtain ⟨h2, h3⟩ := and_spec h
    have ho := tyOk_opens d f.type a h2
    have ho' := fsOk_opens d (f' :: fs') (off + a.size) b h3
    have hf : f.offset = off := Nat.eq_of_beq_eq_true h1
    refine ⟨fun {H enc W base spare held fuel cs xs} hl hx h1 hw => ?_⟩
    obtain ⟨x, ys, rfl⟩ : ∃ x ys, xs = x :: ys := by
      match xs, hx with
      | x :: ys, _ => exact ⟨x, ys, rfl⟩
    have hl' : cs.length = off + (a.size + b.size) := hl
    have h2 := h1 0 f rfl
    rw [hf, ho.sz] at h2
    obtain ⟨y, hK, hB⟩ := ho.op h2 (fun n hn => hw n (by simp only [List.map_cons, DataW.weightsEach, List.mem_append]; exact .inl hn))
    obtain ⟨z, hK', hB'⟩ := ho'.op (cs := cs) (xs := ys) (by omega) (by simpa using hx) (fun i g hg => h1 (i + 1) g hg) (fun n hn => hw n (by simp only [List.map_cons, DataW.weightsEach, List.mem_append]; exact .inr (by simpa using hn)))
    refine ⟨(y, z), ⟨_, _, ?_, hK, hK'⟩, hB, hB'⟩
    rw [← List.drop_drop, List.take_append_drop]
  | d + 1, _ :: _ :: _, off, .int _, h => by simp [fsOk] at h
  | d + 1, _ :: _ :: _, off, .bool, h => by simp [fsOk] at h
  | d + 1, _ :: _ :: _, off, .str, h => by simp [fsOk] at h
  | d + 1, _ :: _ :: _, off, .slice _, h => by simp [fsOk] at h
  | d + 1, _ :: _ :: _, off, .agg _, h => by simp [fsOk] at h
  | d + 1, _ :: _ :: _, off, .nil, h => by simp [fsOk] at h
theorem elsOk_opens : ∀ (d : Nat) (e : TypeId) (n : Nat) (ty : Ty), elsOk P d e n ty = true → OpensElT P e n ty
  | 0, e, n, ty, h => by simp [elsOk] at h
  | d + 1, e, 0, ty, h => by simp [elsOk] at h
  | d + 1, e, 1, u, h => by
    have h : tyOk P d e u = true := by simpa [elsOk] using h
    have ho := tyOk_opens d e u h
    refine ⟨fun {H enc W base spare held fuel cs xs} hl hx h1 hw => ?_⟩
    obtain ⟨x, rfl⟩ : ∃ x, xs = [x] := by
      match xs, hx with
      | [x], _ => exact ⟨x, rfl⟩
    have h2 := h1 0 (by omega)
    rw [Nat.zero_mul, List.drop_zero, ho.sz, List.take_of_length_le (by omega)] at h2
    exact ho.op h2 (fun n hn => hw n (by simp only [List.map_cons, List.map_nil, DataW.weightsAll, List.append_nil]; exact hn))
  | d + 1, e, n + 2, .pair a b, h => by
    have h : (tyOk P d e a && elsOk P d e (n + 1) b) = true := by simpa [elsOk] using h
    obtain ⟨h2, h3⟩ := and_spec h
    have ho := tyOk_opens d e a h2
    have ho' := elsOk_opens d e (n + 1) b h3
    refine ⟨fun {H enc W base spare held fuel cs xs} hl hx h1 hw => ?_⟩
    obtain ⟨x, ys, rfl⟩ : ∃ x ys, xs = x :: ys := by
      match xs, hx with
      | x :: ys, _ => exact ⟨x, ys, rfl⟩
    have hl' : cs.length = a.size + b.size := hl
    have h2 := h1 0 (by omega)
    rw [Nat.zero_mul, List.drop_zero, ho.sz] at h2
    obtain ⟨y, hK, hB⟩ := ho.op h2 (fun n hn => hw n (by simp only [List.map_cons, DataW.weightsAll, List.mem_append]; exact .inl hn))
    obtain ⟨z, hK', hB'⟩ := ho'.op (cs := cs.drop a.size) (xs := ys) (by rw [List.length_drop]; omega) (by simpa using hx) (fun i hi => by
      have := h1 (i + 1) (by omega)
      rw [Nat.succ_mul, Nat.add_comm, ← List.drop_drop, ho.sz] at this
      rw [ho.sz]
      simpa using this) (fun n hn => hw n (by simp only [List.map_cons, DataW.weightsAll, List.mem_append]; exact .inr (by simpa using hn)))
    exact ⟨(y, z), ⟨cs.take a.size, cs.drop a.size, (List.take_append_drop _ _).symm, hK, hK'⟩, hB, hB'⟩
  | d + 1, _, _ + 2, .int _, h => by simp [elsOk] at h
  | d + 1, _, _ + 2, .bool, h => by simp [elsOk] at h
  | d + 1, _, _ + 2, .str, h => by simp [elsOk] at h
  | d + 1, _, _ + 2, .slice _, h => by simp [elsOk] at h
  | d + 1, _, _ + 2, .agg _, h => by simp [elsOk] at h
  | d + 1, _, _ + 2, .nil, h => by simp [elsOk] at h
end

/-! ### Arguments -/

/-- Well-formed arguments. -/
def wfs : (ts : List Ty) → Tup ts → Prop
  | [], _ => True
  | t :: ts, x => t.wf x.1 ∧ wfs ts x.2
def argsOk (P : Program) (d : Nat) : List TypeId → List Ty → Bool
  | [], [] => true
  | t :: ts, u :: us => tyOk P d t u && argsOk P d ts us
  | _, _ => false
def rowsOk (P : Program) (ts : List TypeId) : Bool := ts.all fun t => P.readableRec t && Nat.blt t P.types.size

theorem relTV_of {F : Nat → Prop} {W : World} {d base : Nat} {r : Reach} {ty : Ty} {x : ty.den} {v : Value} (hok : tyOk P d t ty = true) (hv : Value.okWide P W r base t v) (h : RelT F W ty x v.cells.toList) : RelTV F W ty x v := by
  have one : ∀ {w : Value}, (∀ cs, w ≠ .agg cs) → w.cells = #[w] := fun {w} h => by cases w <;> first | rfl | exact absurd rfl (h _)
  cases d with
  | zero => simp [tyOk] at hok
  | succ d =>
    unfold tyOk at hok
    split at hok
    · rename_i ht
      obtain ⟨h1, _⟩ := and_spec hok
      cases Ty.eq_of_beq h1
      obtain ⟨b, rfl⟩ := Go.WideShapes.okWide_bool ht hv
      exact ⟨h, fun _ => rfl, fun h => by cases h⟩
    · rename_i k ht
      obtain ⟨h1, _⟩ := and_spec hok
      cases Ty.eq_of_beq h1
      obtain ⟨b, rfl⟩ := Go.WideShapes.okWide_int ht hv
      exact ⟨h, fun _ => rfl, fun h => by cases h⟩
    · rename_i ht
      obtain ⟨h1, _⟩ := and_spec hok
      cases Ty.eq_of_beq h1
      obtain ⟨b, rfl⟩ := Go.WideShapes.okWide_string ht hv
      exact ⟨h, fun _ => rfl, fun h => by cases h⟩
    · rename_i e ht
      split at hok <;> try (cases hok; done)
      obtain ⟨a, len, cap, rfl⟩ := Go.WideShapes.okWide_slice ht hv
      exact ⟨h, fun _ => rfl, fun h => by cases h⟩
    · rename_i fs ht
      split at hok <;> try (cases hok; done)
      simp only [Value.okWide, ht] at hv
      obtain ⟨cs, rfl, _⟩ := hv
      exact ⟨h, (fun h => by cases h), fun _ => rfl⟩
    · rename_i n e ht
      split at hok <;> try (cases hok; done)
      simp only [Value.okWide, ht] at hv
      obtain ⟨cs, rfl, _⟩ := hv
      exact ⟨h, (fun h => by cases h), fun _ => rfl⟩
    · cases hok

theorem weights_mem_eachT {H : Type} : ∀ {ts : List TypeId} {t : TypeId} {ds : List (DataW H)} {d : DataW H}, (DataW.weightsEach P (t :: ts) (d :: ds)) = d.weights P t ++ DataW.weightsEach P ts ds := fun {ts t ds d} => rfl

/-- Arguments that can be read are typed data. -/
theorem args_open {H : Type} {enc : TypeId × Value → H} {W : World} {base base' d : Nat} {r : Reach} {spare : Nat → Bool} {held : Bool} : ∀ {ts : List TypeId} {tys : List Ty} {vs : List Value} {ds : List (DataW H)} {ps : List MemPlace},
    argsOk P d ts tys = true → DataW.TrodAll enc P W base spare held ts vs ds ps → (∀ (j : Nat) t v, ts[j]? = some t → vs[j]? = some v → Value.okWide P W r base' t v) → (∀ n ∈ DataW.weightsEach P ts ds, n ≤ reachBytes) →
    ∃ x : Tup tys, RelTs (fun r => r < W.heap.size) W tys x vs ∧ wfs tys x
  | [], [], vs, ds, ps, h, hA, _, _ => by
    cases vs <;> cases ds <;> first | exact hA.elim | exact ⟨(), .nil, trivial⟩
  | t :: ts, u :: us, vs, ds, ps, h, hA, hv, hw => by
    obtain ⟨h1, h2⟩ := and_spec h
    obtain ⟨v, vs', d', ds', p, q, rfl, rfl, rfl, h0, r0⟩ := trodAll_cons hA
    obtain ⟨x, hx, hxw⟩ := args_open h2 r0 (fun j t v a b => hv (j + 1) t v (by simpa using a) (by simpa using b)) (fun n hn => hw n (by rw [weights_mem_eachT]; exact List.mem_append_right _ hn))
    obtain ⟨m, hm⟩ := h0
    obtain ⟨y, hy, hyw⟩ := (tyOk_opens d t u h1).op hm (fun n hn => hw n (by rw [weights_mem_eachT]; exact List.mem_append_left _ hn))
    exact ⟨(y, x), .cons (relTV_of h1 (hv 0 t v rfl rfl) hy) hx, hyw, hxw⟩
  | [], _ :: _, _, _, _, h, _, _, _ => by cases h
  | _ :: _, [], _, _, _, h, _, _, _ => by cases h

/-- Arguments read behind the call as they did. -/
theorem args_below {H : Type} {enc : TypeId × Value → H} {W W' : World} (hl : laidOutB P = true) (hb : Below W.heap.size W W') : ∀ {ts : List TypeId} {vs : List Value} {ds : List (DataW H)} {ps : List MemPlace}, rowsOk P ts = true →
    DataW.TrodAll enc P W 0 (fun _ => true) true ts vs ds ps → DataW.TrodAll enc P W' 0 (fun b => decide (b < W.heap.size)) true ts vs ds ps
  | [], vs, ds, ps, _, hA => by cases vs <;> cases ds <;> first | exact hA.elim | exact hA
  | t :: ts, vs, ds, ps, h, hA => by
    obtain ⟨h1, h2⟩ := and_spec (show ((P.readableRec t && Nat.blt t P.types.size) && rowsOk P ts) = true from h)
    obtain ⟨h3, h4⟩ := and_spec h1
    obtain ⟨v, vs', d, ds', p, q, rfl, rfl, rfl, h0, r0⟩ := trodAll_cons hA
    have lt : ∀ x ∈ p, x.block < W.heap.size := by obtain ⟨m, hm⟩ := h0; exact DataW.trod_lt m _ _ _ hm
    exact ⟨p, q, Below.trod hl h3 (Nat.le_of_ble_eq_true h4) h0 hb lt, args_below hl hb h2 r0, rfl⟩

/-- A law of which the contract says true. -/
theorem law_calls {f : FuncId} {tys : List Ty} {F : Tup tys → Option (Tup [.bool])} (h : Holds P f ⟨tys, [.bool], F⟩) {W : World} {vs : List Value} {x : Tup tys} (hx : RelTs (fun r => r < W.heap.size) W tys x vs) (hy : F x = some (true, ())) :
    Calls P f vs.toArray W fun en w' => en = .returned (.bool true) ∧ Below W.heap.size W w' := by
  refine (h (fun r => r < W.heap.size) W vs x (true, ()) (fun r h => h) hx hy).mono fun en w' hres => ?_
  obtain ⟨F', us, e1, _, _, _, e5, e6, e7, e8⟩ := hres
  refine ⟨?_, e7.os, e7.tape, e7.output, e5, e6⟩
  rw [e1]
  cases e8 with
  | cons h1 h2 =>
    cases h2
    rename_i u
    have ho := h1.one rfl
    have hr := h1.rel
    rw [ho] at hr
    cases (show [u] = [.bool true] from hr)
    rfl
end Go.VI
