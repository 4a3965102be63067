/- The document: a pod as text is always told. -/
import Derived.Test.YtncfllndmjjljaaRgtFBt
import Derived.Test.YtncfllndmjjljaaQntDBt
namespace Go.VI
theorem Tot.ble {α : Type} {a K : Nat} {x : Option α} {Q : α → Prop} (h : a ≤ K) (k : Tot x Q) : Tot (VI.br (Nat.ble a K) x none) Q := by
  rw [Nat.ble_eq_true_of_le h, VI.br_true]; exact k
theorem szl (l : List UInt8) : (ByteArray.mk (List.toArray l)).size = l.length := by rw [← ba_size]
end Go.VI
namespace Go.Proofs.Ytncfllndmjjljaa.Bt
open Go Go.VI
set_option linter.unusedVariables false
set_option linter.unusedSimpArgs false
set_option maxRecDepth 100000

theorem eta2s {α β : Type} (p : α × β) : (p.1, p.2) = p := rfl
theorem atom_sz (N : Nat) (s : ByteArray) : ∃ v, G_ref07_atom N (s, ()) = some (v, ()) ∧ v.size ≤ s.size + 2 := by
  unfold G_ref07_atom S_ref07_atom
  dsimp only
  rw [br_dec]
  split
  · exact ⟨_, rfl, by rw [szl]; simp only [List.length_cons, List.length_nil]; omega⟩
  · exact ⟨_, rfl, by omega⟩
theorem flag_sz (N : Nat) (s : ByteArray) (hs : s.size ≤ 1000) (b : Bool) : ∃ v, G_ref07_flag N (s, b, ()) = some (v, ()) ∧ v.size ≤ 1001 := by
  unfold G_ref07_flag S_ref07_flag
  have hb : Nat.ble ((ByteArray.mk (List.toArray [32])).size + s.size) 140737488355328 = true := Nat.ble_eq_true_of_le (by rw [szl]; simp only [List.length_cons, List.length_nil]; omega)
  cases b
  · exact ⟨_, rfl, Nat.zero_le _⟩
  · simp only [br_true, hb]
    exact ⟨_, rfl, by rw [ByteArray.size_append, szl]; simp only [List.length_cons, List.length_nil]; omega⟩
theorem number_sz (N : Nat) (hN : Big N) (s : ByteArray) (hs : s.size ≤ 1000) {n : Int} (h0 : 0 ≤ n) (h1 : n ≤ 1125899906842624) : ∃ v, G_ref07_number N (s, n, ()) = some (v, ()) ∧ v.size ≤ 1100 := by
  obtain ⟨d, ed, hd⟩ := Digits_sz N hN h0 h1
  have T : Tot (G_ref07_number N (s, n, ())) fun v => v.1.size ≤ 1100 := by
    unfold G_ref07_number S_ref07_number
    simp only [ed, Option.bind_some]
    refine Tot.brD (fun _ => Tot.some (Nat.zero_le _)) fun _ => ?_
    repeat refine Tot.ble (by first | omega | (simp only [ByteArray.size_append, szl, List.length_cons, List.length_nil]; omega)) ?_
    exact Tot.some (by simp only [ByteArray.size_append, szl, List.length_cons, List.length_nil]; omega)
  obtain ⟨⟨v, ⟨⟩⟩, e, h⟩ := T
  exact ⟨v, e, h⟩
theorem pairs_sz (N : Nat) (hN : Big N) (nm : ByteArray) (hn : nm.size ≤ 1000) {l : Labels} (hl : ltL l) : ∃ v, G_ref07_pairs N (nm, l, ()) = some (v, ()) ∧ v.size ≤ 100000 := by
  have hN' := hN
  unfold Big at hN'
  obtain ⟨hlen, hsz⟩ := hl
  have loop : ∀ m (i : Nat) x, i ≤ l.length → (∃ acc : ByteArray, x = ((nm, l, acc, (i : Int), ()), ()) ∧ acc.size ≤ i * 2000) → l.length - i < m → Tot (g_ref07_pairs_3 N m x) fun o => ∃ acc y, o = .inl ((acc, ()), y) ∧ ByteArray.size acc ≤ 100000 := by
    refine Tot.range l.length fun m i x hx hi rec => ?_
    obtain ⟨acc, rfl, hacc⟩ := hx
    rw [g_ref07_pairs_3_succ]
    unfold s_ref07_pairs_3
    by_cases hlt : i < l.length
    · have d0 : decide ((0 : Int) ≤ (i : Int)) = true := decide_eq_true (by omega)
      have d1 : decide ((i : Int) < ((l.length : Nat) : Int)) = true := decide_eq_true (by omega)
      obtain ⟨h1, h2⟩ := hsz _ (List.getElem_mem hlt)
      obtain ⟨a, ea, ha⟩ := atom_sz N l[i].2
      simp only [d0, d1, br_true, Int.toNat_natCast, at_lt hlt, Option.bind_some, ea, wi (i := i) (by omega)]
      repeat refine Tot.ble (by first | omega | (simp only [ByteArray.size_append, szl, List.length_cons, List.length_nil]; omega)) ?_
      exact rec (i + 1) _ (by omega) (by omega) ⟨_, rfl, by simp only [ByteArray.size_append, szl, List.length_cons, List.length_nil]; omega⟩
    · have d1 : decide ((i : Int) < ((l.length : Nat) : Int)) = false := decide_eq_false (by omega)
      simp only [d1, br_false]
      exact Tot.some ⟨_, _, rfl, by omega⟩
  obtain ⟨o, e, acc, y, rfl, h⟩ := loop N 0 _ (by omega) ⟨ByteArray.mk (List.toArray []), rfl, by rw [szl]; simp⟩ (by omega)
  have e : g_ref07_pairs_3 N N ((nm, l, ByteArray.mk (List.toArray []), 0, ()), ()) = _ := e
  unfold G_ref07_pairs S_ref07_pairs
  simp only [e, Option.bind_some, Sum.elim_inl]
  exact ⟨_, rfl, h⟩
def opsB : List ByteArray := [ByteArray.mk (List.toArray []), ByteArray.mk (List.toArray [105, 110]), ByteArray.mk (List.toArray [110, 111, 116, 105, 110]), ByteArray.mk (List.toArray [101, 120, 105, 115, 116, 115]), ByteArray.mk (List.toArray [109, 105, 115, 115, 105, 110, 103]), ByteArray.mk (List.toArray [97, 98, 111, 118, 101]), ByteArray.mk (List.toArray [98, 101, 108, 111, 119])]
def effB : List ByteArray := [ByteArray.mk (List.toArray [97, 110, 121]), ByteArray.mk (List.toArray [110, 111]), ByteArray.mk (List.toArray [112, 114, 101, 102, 101, 114]), ByteArray.mk (List.toArray [111, 117, 116])]
theorem ops_is (N : Nat) : G_ref07_ops N () = some (opsB, ()) := rfl
theorem eff_is (N : Nat) : G_ref07_effects N () = some (effB, ()) := rfl
theorem ops_at {n : Int} (h0 : 0 ≤ n) (h : n ≤ 6) : ∃ s, opsB[n.toNat]? = some s ∧ s.size ≤ 10 := by
  have : n = 0 ∨ n = 1 ∨ n = 2 ∨ n = 3 ∨ n = 4 ∨ n = 5 ∨ n = 6 := by omega
  rcases this with rfl | rfl | rfl | rfl | rfl | rfl | rfl <;> exact ⟨_, rfl, by rw [szl]; simp⟩
theorem eff_at {n : Int} (h0 : 0 ≤ n) (h : n ≤ 3) : ∃ s, effB[n.toNat]? = some s ∧ s.size ≤ 10 := by
  have : n = 0 ∨ n = 1 ∨ n = 2 ∨ n = 3 := by omega
  rcases this with rfl | rfl | rfl | rfl <;> exact ⟨_, rfl, by rw [szl]; simp⟩
theorem show11 (N : Nat) (hN : Big N) (p : Pod) (t : Term) (hl : ltTm t) (io : Int) (B : Nat) (hB : B ≤ 10000000000) : ∀ acc : ByteArray, acc.size ≤ B →
    Tot (g_ref07_ShowPod_11 N N ((acc, io, 0, ()), (p, ()), (t, ()), ())) fun o => ∃ acc y, o = .inl ((acc, io, ()), (p, ()), y) ∧ ByteArray.size acc ≤ B + 20000 := by
  have hN' := hN
  unfold Big at hN'
  obtain ⟨-, hlen, hsz⟩ := hl
  intro acc hacc
  have loop : ∀ m (i : Nat) x, i ≤ t.2.2.length → (∃ acc : ByteArray, x = ((acc, io, (i : Int), ()), (p, ()), (t, ()), ()) ∧ acc.size ≤ B + i * 400) → t.2.2.length - i < m → Tot (g_ref07_ShowPod_11 N m x) fun o => ∃ acc y, o = .inl ((acc, io, ()), (p, ()), y) ∧ ByteArray.size acc ≤ B + 20000 := by
    refine Tot.range t.2.2.length fun m i x hx hi rec => ?_
    obtain ⟨acc, rfl, hacc⟩ := hx
    rw [g_ref07_ShowPod_11_succ]
    unfold s_ref07_ShowPod_11
    by_cases hlt : i < t.2.2.length
    · have d0 : decide ((0 : Int) ≤ (i : Int)) = true := decide_eq_true (by omega)
      have d1 : decide ((i : Int) < ((t.2.2.length : Nat) : Int)) = true := decide_eq_true (by omega)
      have h1 := hsz _ (List.getElem_mem hlt)
      obtain ⟨a, ea, ha⟩ := atom_sz N t.2.2[i]
      simp only [d0, d1, br_true, Int.toNat_natCast, at_lt hlt, Option.bind_some, ea, eta2s, wi (i := i) (by omega)]
      repeat refine Tot.ble (by first | omega | (simp only [ByteArray.size_append, szl, List.length_cons, List.length_nil]; omega)) ?_
      exact rec (i + 1) _ (by omega) (by omega) ⟨_, rfl, by simp only [ByteArray.size_append, szl, List.length_cons, List.length_nil]; omega⟩
    · have d1 : decide ((i : Int) < ((t.2.2.length : Nat) : Int)) = false := decide_eq_false (by omega)
      simp only [d1, br_false]
      exact Tot.some ⟨_, _, rfl, by omega⟩
  exact loop N 0 _ (by omega) ⟨acc, rfl, by omega⟩ (by omega)
theorem show6 (N : Nat) (hN : Big N) (p : Pod) (hl : ltP p) (hr : rtP p) (B : Nat) (hB : B ≤ 1000000000) : ∀ acc : ByteArray, acc.size ≤ B →
    Tot (g_ref07_ShowPod_6 N N ((acc, 0, ()), (p, ()), ())) fun o => ∃ acc y, o = .inl ((acc, ()), (p, ()), y) ∧ ByteArray.size acc ≤ B + 1000000 := by
  have hN' := hN
  unfold Big at hN'
  intro acc hacc
  obtain ⟨hlen, hlt_⟩ := hl.terms
  have loop : ∀ m (i : Nat) x, i ≤ p.2.2.2.2.1.length → (∃ acc : ByteArray, x = ((acc, (i : Int), ()), (p, ()), ()) ∧ acc.size ≤ B + i * 30000) → p.2.2.2.2.1.length - i < m → Tot (g_ref07_ShowPod_6 N m x) fun o => ∃ acc y, o = .inl ((acc, ()), (p, ()), y) ∧ ByteArray.size acc ≤ B + 1000000 := by
    refine Tot.range p.2.2.2.2.1.length fun m i x hx hi rec => ?_
    obtain ⟨acc, rfl, hacc⟩ := hx
    rw [g_ref07_ShowPod_6_succ]
    unfold s_ref07_ShowPod_6
    by_cases hlt : i < p.2.2.2.2.1.length
    · have d0 : decide ((0 : Int) ≤ (i : Int)) = true := decide_eq_true (by omega)
      have d1 : decide ((i : Int) < ((p.2.2.2.2.1.length : Nat) : Int)) = true := decide_eq_true (by omega)
      have ht := hlt_ _ (List.getElem_mem hlt)
      obtain ⟨o0, o1⟩ := hr.ops _ (List.getElem_mem hlt)
      obtain ⟨op, eo, ho⟩ := ops_at o0 o1
      have d2 : decide ((0 : Int) ≤ p.2.2.2.2.1[i].2.1) = true := decide_eq_true o0
      have hk := ht.1
      simp only [d0, d1, d2, br_true, Int.toNat_natCast, at_lt hlt, Option.bind_some, ops_is, eo, eta2s, wi (i := i) (by omega)]
      repeat refine Tot.ble (by first | omega | (simp only [ByteArray.size_append, szl, List.length_cons, List.length_nil]; omega)) ?_
      refine Tot.bind (show11 N hN p _ ht (i : Int) (B + i * 30000 + 1000) (by omega) _ (by simp only [ByteArray.size_append, szl, List.length_cons, List.length_nil]; omega)) fun o ho => ?_
      obtain ⟨acc', y, rfl, ha'⟩ := ho
      simp only [Sum.elim_inl, wi (i := i) (by omega)]
      repeat refine Tot.ble (by first | omega | (simp only [ByteArray.size_append, szl, List.length_cons, List.length_nil]; omega)) ?_
      exact rec (i + 1) _ (by omega) (by omega) ⟨_, rfl, by simp only [ByteArray.size_append, szl, List.length_cons, List.length_nil]; omega⟩
    · have d1 : decide ((i : Int) < ((p.2.2.2.2.1.length : Nat) : Int)) = false := decide_eq_false (by omega)
      simp only [d1, br_false]
      exact Tot.some ⟨_, _, rfl, by omega⟩
  exact loop N 0 _ (by omega) ⟨acc, rfl, by omega⟩ (by omega)
theorem show16 (N : Nat) (hN : Big N) (p : Pod) (hl : ltP p) (hr : rtP p) (B : Nat) (hB : B ≤ 1000000000) : ∀ acc : ByteArray, acc.size ≤ B →
    Tot (g_ref07_ShowPod_16 N N ((acc, 0, ()), (p, ()), ())) fun o => ∃ acc y, o = .inl ((acc, ()), (p, ()), y) ∧ ByteArray.size acc ≤ B + 100000 := by
  have hN' := hN
  unfold Big at hN'
  intro acc hacc
  obtain ⟨hlen, hlt_⟩ := hl.bears
  have loop : ∀ m (i : Nat) x, i ≤ p.2.2.2.2.2.1.length → (∃ acc : ByteArray, x = ((acc, (i : Int), ()), (p, ()), ()) ∧ acc.size ≤ B + i * 1000) → p.2.2.2.2.2.1.length - i < m → Tot (g_ref07_ShowPod_16 N m x) fun o => ∃ acc y, o = .inl ((acc, ()), (p, ()), y) ∧ ByteArray.size acc ≤ B + 100000 := by
    refine Tot.range p.2.2.2.2.2.1.length fun m i x hx hi rec => ?_
    obtain ⟨acc, rfl, hacc⟩ := hx
    rw [g_ref07_ShowPod_16_succ]
    unfold s_ref07_ShowPod_16
    by_cases hlt : i < p.2.2.2.2.2.1.length
    · have d0 : decide ((0 : Int) ≤ (i : Int)) = true := decide_eq_true (by omega)
      have d1 : decide ((i : Int) < ((p.2.2.2.2.2.1.length : Nat) : Int)) = true := decide_eq_true (by omega)
      obtain ⟨h1, h2⟩ := hlt_ _ (List.getElem_mem hlt)
      obtain ⟨o0, o1⟩ := hr.effs _ (List.getElem_mem hlt)
      obtain ⟨ef, eo, ho⟩ := eff_at o0 o1
      obtain ⟨a1, ea1, ha1⟩ := atom_sz N p.2.2.2.2.2.1[i].1
      obtain ⟨a2, ea2, ha2⟩ := atom_sz N p.2.2.2.2.2.1[i].2.1
      have d2 : decide ((0 : Int) ≤ p.2.2.2.2.2.1[i].2.2.2) = true := decide_eq_true o0
      simp only [d0, d1, d2, br_true, Int.toNat_natCast, at_lt hlt, Option.bind_some, eff_is, eo, ea1, ea2, eta2s, wi (i := i) (by omega)]
      refine Tot.br (fun _ => ?_) fun _ => ?_
      · repeat refine Tot.ble (by first | omega | (simp only [ByteArray.size_append, szl, List.length_cons, List.length_nil]; omega)) ?_
        exact rec (i + 1) _ (by omega) (by omega) ⟨_, rfl, by simp only [ByteArray.size_append, szl, List.length_cons, List.length_nil]; omega⟩
      · repeat refine Tot.ble (by first | omega | (simp only [ByteArray.size_append, szl, List.length_cons, List.length_nil]; omega)) ?_
        exact rec (i + 1) _ (by omega) (by omega) ⟨_, rfl, by simp only [ByteArray.size_append, szl, List.length_cons, List.length_nil]; omega⟩
    · have d1 : decide ((i : Int) < ((p.2.2.2.2.2.1.length : Nat) : Int)) = false := decide_eq_false (by omega)
      simp only [d1, br_false]
      exact Tot.some ⟨_, _, rfl, by omega⟩
  exact loop N 0 _ (by omega) ⟨acc, rfl, by omega⟩ (by omega)
theorem show23 (N : Nat) (hN : Big N) (p : Pod) (hl : ltP p) (hr : rtP p) (B : Nat) (hB : B ≤ 1000000000) : ∀ acc : ByteArray, acc.size ≤ B →
    Tot (g_ref07_ShowPod_23 N N ((acc, 0, ()), (p, ()), ())) fun o => ∃ acc y, o = .inl ((acc, ()), (p, ()), y) ∧ ByteArray.size acc ≤ B + 100000 := by
  have hN' := hN
  unfold Big at hN'
  intro acc hacc
  have hlen := hl.ports
  have loop : ∀ m (i : Nat) x, i ≤ p.2.2.2.2.2.2.1.length → (∃ acc : ByteArray, x = ((acc, (i : Int), ()), (p, ()), ()) ∧ acc.size ≤ B + i * 2000) → p.2.2.2.2.2.2.1.length - i < m → Tot (g_ref07_ShowPod_23 N m x) fun o => ∃ acc y, o = .inl ((acc, ()), (p, ()), y) ∧ ByteArray.size acc ≤ B + 100000 := by
    refine Tot.range p.2.2.2.2.2.2.1.length fun m i x hx hi rec => ?_
    obtain ⟨acc, rfl, hacc⟩ := hx
    rw [g_ref07_ShowPod_23_succ]
    unfold s_ref07_ShowPod_23
    by_cases hlt : i < p.2.2.2.2.2.2.1.length
    · have d0 : decide ((0 : Int) ≤ (i : Int)) = true := decide_eq_true (by omega)
      have d1 : decide ((i : Int) < ((p.2.2.2.2.2.2.1.length : Nat) : Int)) = true := decide_eq_true (by omega)
      obtain ⟨o0, o1⟩ := hr.ports _ (List.getElem_mem hlt)
      obtain ⟨a, ea, ha⟩ := number_sz N hN (ByteArray.mk (List.toArray [112, 111, 114, 116])) (by rw [szl]; simp) o0 (show p.2.2.2.2.2.2.1[i] ≤ 1125899906842624 by omega)
      simp only [d0, d1, br_true, Int.toNat_natCast, at_lt hlt, Option.bind_some, ea, eta2s, wi (i := i) (by omega)]
      repeat refine Tot.ble (by first | omega | (simp only [ByteArray.size_append, szl, List.length_cons, List.length_nil]; omega)) ?_
      exact rec (i + 1) _ (by omega) (by omega) ⟨_, rfl, by simp only [ByteArray.size_append, szl, List.length_cons, List.length_nil]; omega⟩
    · have d1 : decide ((i : Int) < ((p.2.2.2.2.2.2.1.length : Nat) : Int)) = false := decide_eq_false (by omega)
      simp only [d1, br_false]
      exact Tot.some ⟨_, _, rfl, by omega⟩
  exact loop N 0 _ (by omega) ⟨acc, rfl, by omega⟩ (by omega)
theorem ShowPod_tot (N : Nat) (hN : Big N) {p : Pod} (hp : okP p) (hl : ltP p) : Tot (G_ref07_ShowPod N (p, ())) fun _ => True := by
  obtain ⟨⟨b, ⟨⟩⟩, eb, kb⟩ := ref07_RightPod_all N hN hp
  unfold G_ref07_ShowPod S_ref07_ShowPod
  simp only [eta2s, eb, Option.bind_some]
  cases b
  · exact Tot.some trivial
  have hr := kb rfl
  have hres := hr.need
  have dev : 0 ≤ p.2.1.2.2.2.2 ∧ p.2.1.2.2.2.2 ≤ 1125899906842624 := by
    unfold resB okB at hres
    simp only [Bool.and_eq_true, decide_eq_true_eq] at hres
    exact hres.2.2.2.2
  obtain ⟨v1, e1, s1⟩ := ShowMilli_sz N hN p.2.1.1
  obtain ⟨v2, e2, s2⟩ := Show_sz N hN p.2.1.2.1
  obtain ⟨v3, e3, s3⟩ := Show_sz N hN p.2.1.2.2.1
  obtain ⟨v4, e4, s4⟩ := Digits_sz N hN dev.1 dev.2
  obtain ⟨v5, e5, s5⟩ := pairs_sz N hN (ByteArray.mk (List.toArray [108, 97, 98, 101, 108])) (by rw [szl]; simp) hl.labels
  obtain ⟨v6, e6, s6⟩ := pairs_sz N hN (ByteArray.mk (List.toArray [115, 101, 108, 101, 99, 116])) (by rw [szl]; simp) hl.select
  obtain ⟨v7, e7, s7⟩ := pairs_sz N hN (ByteArray.mk (List.toArray [97, 112, 97, 114, 116])) (by rw [szl]; simp) hl.apart
  obtain ⟨v8, e8, s8⟩ := number_sz N hN (ByteArray.mk (List.toArray [115, 112, 114, 101, 97, 100])) (by rw [szl]; simp) hr.skew.1 (show p.2.2.2.2.2.2.2.2.2.2.1 ≤ 1125899906842624 by have := hr.skew.2; omega)
  obtain ⟨v9, e9, s9⟩ := pairs_sz N hN (ByteArray.mk (List.toArray [111, 118, 101, 114])) (by rw [szl]; simp) hl.spread
  obtain ⟨v10, e10, s10⟩ := number_sz N hN (ByteArray.mk (List.toArray [114, 97, 110, 107])) (by rw [szl]; simp) hr.rank.1 (show p.2.2.2.2.2.2.2.2.2.2.2.1 ≤ 1125899906842624 by have := hr.rank.2; omega)
  obtain ⟨v11, e11, s11⟩ := flag_sz N (ByteArray.mk (List.toArray [119, 105, 100, 101])) (by rw [szl]; simp) p.2.2.2.2.2.2.2.2.1
  obtain ⟨v12, e12, s12⟩ := flag_sz N (ByteArray.mk (List.toArray [100, 97, 101, 109, 111, 110])) (by rw [szl]; simp) p.2.2.2.2.2.2.2.2.2.2.2.2.2.1
  obtain ⟨v13, e13, s13⟩ := flag_sz N (ByteArray.mk (List.toArray [112, 105, 110, 110, 101, 100])) (by rw [szl]; simp) p.2.2.2.2.2.2.2.2.2.2.2.2.2.2.1
  obtain ⟨v14, e14, s14⟩ := flag_sz N (ByteArray.mk (List.toArray [108, 111, 99, 97, 108])) (by rw [szl]; simp) p.2.2.2.2.2.2.2.2.2.2.2.2.2.2.2
  have hn := hl.name
  have ho := hl.owner
  simp only [Bool.not_true, br_false, e1, e2, e3, e4, e5, e6, e7, Option.bind_some]
  repeat refine Tot.ble (by first | omega | (simp only [ByteArray.size_append, szl, List.length_cons, List.length_nil]; omega)) ?_
  refine Tot.bind (show6 N hN p hl hr 400000 (by omega) _ (by simp only [ByteArray.size_append, szl, List.length_cons, List.length_nil]; omega)) fun o ho6 => ?_
  obtain ⟨a6, y6, rfl, h6⟩ := ho6
  simp only [Sum.elim_inl]
  refine Tot.bind (show16 N hN p hl hr 1400000 (by omega) _ h6) fun o ho16 => ?_
  obtain ⟨a16, y16, rfl, h16⟩ := ho16
  simp only [Sum.elim_inl]
  refine Tot.bind (show23 N hN p hl hr 1500000 (by omega) _ h16) fun o ho23 => ?_
  obtain ⟨a23, y23, rfl, h23⟩ := ho23
  simp only [Sum.elim_inl, e8, e9, e10, e11, e12, e13, e14, Option.bind_some]
  repeat refine Tot.ble (by first | omega | (simp only [ByteArray.size_append, szl, List.length_cons, List.length_nil]; omega)) ?_
  refine Tot.br (fun _ => ?_) fun _ => ?_
  · repeat refine Tot.ble (by first | omega | (simp only [ByteArray.size_append, szl, List.length_cons, List.length_nil]; omega)) ?_
    exact Tot.some trivial
  · repeat refine Tot.ble (by first | omega | (simp only [ByteArray.size_append, szl, List.length_cons, List.length_nil]; omega)) ?_
    exact Tot.some trivial
theorem SamePod_same (N : Nat) (hN : Big N) {p : Pod} (hp : okP p) (hl : ltP p) : G_ref07_SamePod N (p, p, ()) = some (true, ()) := by
  obtain ⟨⟨v, ⟨⟩⟩, e, _⟩ := ShowPod_tot N hN hp hl
  unfold G_ref07_SamePod S_ref07_SamePod
  simp only [eta2s, e, Option.bind_some, decide_true, br_true, Bool.and_self, Bool.and_true]
end Go.Proofs.Ytncfllndmjjljaa.Bt
