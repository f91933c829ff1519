/- New graph of the program: it is one just if it may be. -/
import Derived.Test.YtjjcalkeodfokaaR5
set_option linter.unusedVariables false
namespace Go.Proofs.Ytjjcalkeodfokaa
open Go Go.Ab
theorem inB_true {n lo hi : Int} (h : inB n lo hi = true) : lo ≤ n ∧ n ≤ hi := by
  simpa [inB] using h
theorem mayG_edge {g : Gra} (h : mayG g = true) {j : Nat} (hj : j < g.es.length) : 0 ≤ g.es[j].1 ∧ g.es[j].1 ≤ g.ns.length - 1 ∧ 0 ≤ g.es[j].2.1 ∧ g.es[j].2.1 ≤ g.ns.length - 1 ∧ 1 ≤ g.es[j].2.2 ∧ g.es[j].2.2 ≤ 65535 := by
  simp only [mayG, Bool.and_eq_true, List.all_eq_true] at h
  have := h.2.2.1 _ (List.getElem_mem hj)
  simp only [edgeOk, Bool.and_eq_true] at this
  have h1 := inB_true this.1
  have h2 := inB_true this.2.1
  have h3 := inB_true this.2.2
  exact ⟨h1.1, h1.2, h2.1, h2.2, h3.1, h3.2⟩
theorem mayG_size {g : Gra} (h : mayG g = true) : 1 ≤ g.ns.length ∧ g.ns.length ≤ 256 ∧ g.es.length ≤ 512 ∧ g.bs.length ≤ 1024 := by
  simp only [mayG, sizesOk, Bool.and_eq_true, decide_eq_true_eq] at h
  have := inB_true h.1.1
  exact ⟨by omega, by omega, h.1.2.1, h.1.2.2⟩
theorem rows_out {h : H} {g : Gra} (ok : g.ok h) (hm : mayG g = true) : ACalls Try.prog 37 [.agg g.cells, .fn 38] h (fun r h' => (∃ q n q' n', r = .tup [.sl q n, .sl q' n']) ∧ Ab.Mod none_ h h') :=
  rows37 g ok (key := fun e => e.1) (fun hh e => key38 hh e) (fun j => (g.es.getD j (0, 0, 0)).1.toNat) fun j hj => by
    have := mayG_edge hm hj
    rw [List.getD_eq_getElem?_getD, List.getElem?_eq_getElem hj]
    show g.es[j].1 = (g.es[j].1.toNat : Int) ∧ _
    simp only [Option.getD_some]
    omega
theorem rows_in {h : H} {g : Gra} (ok : g.ok h) (hm : mayG g = true) : ACalls Try.prog 37 [.agg g.cells, .fn 39] h (fun r h' => (∃ q n q' n', r = .tup [.sl q n, .sl q' n']) ∧ Ab.Mod none_ h h') :=
  rows37 g ok (key := fun e => e.2.1) (fun hh e => key39 hh e) (fun j => (g.es.getD j (0, 0, 0)).2.1.toNat) fun j hj => by
    have := mayG_edge hm hj
    rw [List.getD_eq_getElem?_getD, List.getElem?_eq_getElem hj]
    show g.es[j].2.1 = (g.es[j].2.1.toNat : Int) ∧ _
    simp only [Option.getD_some]
    omega
set_option maxHeartbeats 1000000 in
theorem new16 {h : H} (g : Gra) (ok : g.ok h) : ACalls Try.prog 16 [.agg g.cells] h (fun r h' => (∃ q, r = .tup [.ptr q, i64 (if mayG g then 0 else 1)]) ∧ Ab.Mod none_ h h') := by
  have ln := ok.ln
  have le := ok.le
  have lb := ok.lb
  refine call_ Try.func16 rfl rfl (by kernel_rfl) ?_
  conv => whnf
  have mm := Mod.push none_ h (.row true 3 g.cells)
  have gb : (h.push (.row true 3 g.cells)).obj h.next = some (.row true 3 g.cells) := H.obj_push_new _ _
  refine ⟨_, Cells.mk gb (Nat.le_of_ble_eq_true rfl) rfl, ?_⟩
  conv => whnf
  refine (may33 g (ok.old mm (fun _ _ k => k))).mono ?_
  rintro _ h1 ⟨rfl, m1⟩
  have gb := m1.get gb (.inl (fun k => k))
  have mm := mod_none mm m1
  clear m1
  conv => whnf
  refine br_mk (fun hb => ?_) (fun hb => ?_)
  · conv => whnf
    have hb : mayG g = false := by simpa using hb
    exact ⟨⟨none, by rw [hb]; rfl⟩, mm⟩
  conv => whnf
  have hb : mayG g = true := by simpa using hb
  rw [hb]
  have rdN {hh : H} (gb : hh.obj h.next = some (.row true 3 g.cells)) : Cell hh h.next 0 (.sl g.np g.ns.length) := Cell.mk gb rfl
  have rdE {hh : H} (gb : hh.obj h.next = some (.row true 3 g.cells)) : Cell hh h.next 1 (.sl g.ep g.es.length) := Cell.mk gb rfl
  have rdB {hh : H} (gb : hh.obj h.next = some (.row true 3 g.cells)) : Cell hh h.next 2 (.sl g.bp g.bs.length) := Cell.mk gb rfl
  refine ⟨[0, 1, 3, 4, 6, 7, 2, 5, 8, 9, 10, 11, 12], [0, 1, 3, 0, 8, 31, 0, 64, 255, 511, 1023, 2047, 4095], by kernel_rfl, ?_⟩
  conv => whnf
  refine ⟨_, rdN gb, ?_⟩
  conv => whnf
  refine ⟨_, rdE gb, ?_⟩
  conv => whnf
  refine ⟨_, rdB gb, ?_⟩
  conv => whnf
  refine (clone34 (ok.old mm (fun _ _ k => k)).n (by omega)).mono ?_
  rintro _ h2 ⟨q2, rfl, -, m2⟩
  have gb := m2.get gb (.inl (fun k => k))
  have mm := mod_none mm m2
  clear m2
  conv => whnf
  refine ⟨?_, ?_⟩
  · conv => whnf
    exact ⟨_, rdB gb, rfl⟩
  refine ⟨?_, ?_⟩
  · conv => whnf
    exact ⟨_, rdE gb, rfl⟩
  conv => whnf
  refine (clone35 (ok.old mm (fun _ _ k => k)).e (by omega)).mono ?_
  rintro _ h3 ⟨q3, rfl, -, m3⟩
  have gb := m3.get gb (.inl (fun k => k))
  have mm := mod_none mm m3
  clear m3
  conv => whnf
  refine ⟨?_, ?_⟩
  · conv => whnf
    exact ⟨_, rdB gb, rfl⟩
  conv => whnf
  refine (clone36 (ok.old mm (fun _ _ k => k)).b (by omega)).mono ?_
  rintro _ h4 ⟨q4, rfl, -, m4⟩
  have gb := m4.get gb (.inl (fun k => k))
  have mm := mod_none mm m4
  clear m4
  conv => whnf
  have m5 := Mod.push none_ h4 (.row true 7 [.sl q2 g.ns.length, .sl q3 g.es.length, .sl q4 g.bs.length, .sl none 0, .sl none 0, .sl none 0, .sl none 0])
  have gx : (h4.push (.row true 7 [.sl q2 g.ns.length, .sl q3 g.es.length, .sl q4 g.bs.length, .sl none 0, .sl none 0, .sl none 0, .sl none 0])).obj h4.next = some (.row true 7 [.sl q2 g.ns.length, .sl q3 g.es.length, .sl q4 g.bs.length, .sl none 0, .sl none 0, .sl none 0, .sl none 0]) := H.obj_push_new _ _
  have gb5 := m5.get gb (.inl (fun k => k))
  refine ⟨_, Cells.mk gb5 (Nat.le_of_ble_eq_true rfl) rfl, ?_⟩
  conv => whnf
  have hn4 := h4.lt _ _ gb
  refine (rows_out (ok.old (mod_none mm m5) (fun _ _ k => k)) hb).mono ?_
  rintro _ h6 ⟨⟨r1, n1, r2, n2, rfl⟩, m6⟩
  have gx := m6.get gx (.inl (fun k => k))
  have gb6 := m6.get gb5 (.inl (fun k => k))
  have m6 := mod_none m5 m6
  clear m5 gb5
  conv => whnf
  refine ⟨_, rfl, ?_⟩
  conv => whnf
  refine ⟨_, rfl, ?_⟩
  conv => whnf
  refine ⟨_, _, gx, Nat.le_of_ble_eq_true rfl, ?_⟩
  have ms := Mod.set (S := one h4.next) (ob := .row true 7 [.sl q2 g.ns.length, .sl q3 g.es.length, .sl q4 g.bs.length, .sl r1 n1, .sl none 0, .sl none 0, .sl none 0]) rfl gx rfl
  have gx := H.obj_set_same gx (ob' := .row true 7 [.sl q2 g.ns.length, .sl q3 g.es.length, .sl q4 g.bs.length, .sl r1 n1, .sl none 0, .sl none 0, .sl none 0])
  have gb6 := ms.get gb6 (.inl (by unfold one; omega))
  have m6 := m6.trans' ms (S2 := none_) (fun _ _ k => k) (fun i hi k => absurd hi (by unfold one at k; omega))
  clear ms
  conv => whnf
  refine ⟨_, _, gx, Nat.le_of_ble_eq_true rfl, ?_⟩
  have ms := Mod.set (S := one h4.next) (ob := .row true 7 [.sl q2 g.ns.length, .sl q3 g.es.length, .sl q4 g.bs.length, .sl r1 n1, .sl none 0, .sl r2 n2, .sl none 0]) rfl gx rfl
  have gx := H.obj_set_same gx (ob' := .row true 7 [.sl q2 g.ns.length, .sl q3 g.es.length, .sl q4 g.bs.length, .sl r1 n1, .sl none 0, .sl r2 n2, .sl none 0])
  have gb6 := ms.get gb6 (.inl (by unfold one; omega))
  have m6 := m6.trans' ms (S2 := none_) (fun _ _ k => k) (fun i hi k => absurd hi (by unfold one at k; omega))
  clear ms
  conv => whnf
  refine ⟨_, Cells.mk gb6 (Nat.le_of_ble_eq_true rfl) rfl, ?_⟩
  conv => whnf
  refine (rows_in (ok.old (mod_none mm m6) (fun _ _ k => k)) hb).mono ?_
  rintro _ h7 ⟨⟨r3, n3, r4, n4, rfl⟩, m7⟩
  have gx := m7.get gx (.inl (fun k => k))
  have m6 := mod_none m6 m7
  clear m7
  conv => whnf
  refine ⟨_, rfl, ?_⟩
  conv => whnf
  refine ⟨_, rfl, ?_⟩
  conv => whnf
  refine ⟨_, _, gx, Nat.le_of_ble_eq_true rfl, ?_⟩
  have ms := Mod.set (S := one h4.next) (ob := .row true 7 [.sl q2 g.ns.length, .sl q3 g.es.length, .sl q4 g.bs.length, .sl r1 n1, .sl r3 n3, .sl r2 n2, .sl none 0]) rfl gx rfl
  have gx := H.obj_set_same gx (ob' := .row true 7 [.sl q2 g.ns.length, .sl q3 g.es.length, .sl q4 g.bs.length, .sl r1 n1, .sl r3 n3, .sl r2 n2, .sl none 0])
  have m6 := m6.trans' ms (S2 := none_) (fun _ _ k => k) (fun i hi k => absurd hi (by unfold one at k; omega))
  clear ms
  conv => whnf
  refine ⟨_, _, gx, Nat.le_of_ble_eq_true rfl, ?_⟩
  have ms := Mod.set (S := one h4.next) (ob := .row true 7 [.sl q2 g.ns.length, .sl q3 g.es.length, .sl q4 g.bs.length, .sl r1 n1, .sl r3 n3, .sl r2 n2, .sl r4 n4]) rfl gx rfl
  have m6 := m6.trans' ms (S2 := none_) (fun _ _ k => k) (fun i hi k => absurd hi (by unfold one at k; omega))
  conv => whnf
  exact ⟨⟨_, rfl⟩, mod_none mm m6⟩
end Go.Proofs.Ytjjcalkeodfokaa
