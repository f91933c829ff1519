/- Ways in a graph, plain: from where an end is reached; what a search from behind holds. -/
import Derived.Test.YteapijoibimfnaaGreatH1
set_option linter.unusedVariables false
namespace Go.Proofs.YteapijoibimfnaaGreat
open Go Go.Ab
/-- edges, turns, weights, where it ends, what is closed -/
structure Rd where
  N : Nat
  tn : Nat → Nat → Bool
  w : Nat → Int
  fin : Nat → Bool
  cl : Nat → Bool
structure Rd.ok (G : Rd) : Prop where
  w1 : ∀ e, e < G.N → 1 ≤ G.w e
  w2 : ∀ e, e < G.N → G.w e ≤ 65535
  le : G.N ≤ 512
inductive Rch (G : Rd) : Nat → Prop
  | base {e : Nat} : e < G.N → G.fin e = true → Rch G e
  | step {e n : Nat} : e < G.N → n < G.N → G.tn e n = true → G.cl n = false → Rch G n → Rch G e
/-- what distances tell -/
structure FarOk (G : Rd) (d : List Int) : Prop where
  len : d.length = G.N
  rch : ∀ e, e < G.N → (0 ≤ d.getD e 0 ↔ Rch G e)
  zero : ∀ e, e < G.N → (d.getD e 0 = 0 ↔ G.fin e = true)
/-- .. and where the next one is -/
def FarNext (G : Rd) (d : List Int) : Prop := ∀ e, e < G.N → 0 < d.getD e 0 → ∃ n, n < G.N ∧ G.tn e n = true ∧ G.cl n = false ∧ 0 ≤ d.getD n 0 ∧ d.getD n 0 = d.getD e 0 - G.w n
/-! ## Numbers with keys -/
def HPush (L : List (Int × Int)) (id key : Int) (L' : List (Int × Int)) : Prop :=
  ((∃ k0, (id, k0) ∈ L ∧ k0 ≤ key) ∧ ∀ y, y ∈ L' ↔ y ∈ L) ∨ ((∀ k0, (id, k0) ∈ L → key < k0) ∧ ∀ y, y ∈ L' ↔ (y = (id, key) ∨ (y ∈ L ∧ y.1 ≠ id)))
def HPop (L : List (Int × Int)) (x : Int × Int) (L' : List (Int × Int)) : Prop := x ∈ L ∧ ∀ y, y ∈ L' ↔ (y ∈ L ∧ y.1 ≠ x.1)
/-! ## The search from behind -/
def negs (d : List Int) : Nat := d.countP fun x => decide (x < 0)
theorem negs_le (d : List Int) : negs d ≤ d.length := List.countP_le_length
theorem getD_set' {d : List Int} {i j : Nat} (hj : j < d.length) (x : Int) : (d.set i x).getD j 0 = if i = j then x else d.getD j 0 := by
  rw [List.getD_eq_getElem?_getD, List.getElem?_set, List.getD_eq_getElem?_getD]
  split
  · rename_i e
    subst e
    rw [if_pos hj]
    rfl
  · rfl
theorem negs_set {d : List Int} {i : Nat} (hi : i < d.length) (h0 : d.getD i 0 < 0) {x : Int} (hx : 0 ≤ x) : negs (d.set i x) + 1 = negs d := by
  have : d.getD i 0 = d[i] := by simp [List.getD_eq_getElem?_getD, List.getElem?_eq_getElem hi]
  rw [this] at h0
  unfold negs
  have e : (d.countP fun x => decide (x < 0)) > 0 := List.countP_pos_iff.2 ⟨d[i], List.getElem_mem hi, by simpa using h0⟩
  rw [List.countP_set hi]
  rw [if_pos (by simpa using h0), if_neg (by simpa using hx)]
  omega
def Just (G : Rd) (d : List Int) (e : Nat) (k : Int) : Prop := (G.fin e = true ∧ k = 0) ∨ (G.fin e = false ∧ 0 < k ∧ ∃ n, n < G.N ∧ G.tn e n = true ∧ G.cl n = false ∧ 0 ≤ d.getD n 0 ∧ d.getD n 0 = k - G.w n)
/-- ex: what is not gone on from yet -/
structure DI (G : Rd) (d : List Int) (L : List (Int × Int)) (ex : Nat → Nat → Prop) : Prop where
  len : d.length = G.N
  heap : ∀ y ∈ L, ∃ e : Nat, e < G.N ∧ y.1 = (e : Int) ∧ d.getD e 0 < 0 ∧ Just G d e y.2 ∧ y.2 ≤ 65535 * ((G.N - negs d : Nat) : Int)
  set : ∀ e, e < G.N → 0 ≤ d.getD e 0 → Just G d e (d.getD e 0) ∧ d.getD e 0 ≤ 65535 * ((G.N - negs d : Nat) : Int)
  fin : ∀ e, e < G.N → G.fin e = true → d.getD e 0 = 0 ∨ ((e : Int), (0 : Int)) ∈ L
  cls : ∀ e, e < G.N → 0 ≤ d.getD e 0 → G.cl e = false → ∀ p, p < G.N → G.tn p e = true → ¬ ex e p → 0 ≤ d.getD p 0 ∨ ∃ k, ((p : Int), k) ∈ L
  rch : ∀ e, e < G.N → 0 ≤ d.getD e 0 → Rch G e
theorem DI.begin {G : Rd} {L : List (Int × Int)} (h1 : ∀ y ∈ L, ∃ e : Nat, e < G.N ∧ y = ((e : Int), 0) ∧ G.fin e = true) (h2 : ∀ e, e < G.N → G.fin e = true → ((e : Int), (0 : Int)) ∈ L) : DI G (List.replicate G.N (-1)) L fun _ _ => False := by
  have hd : ∀ e, e < G.N → (List.replicate G.N (-1 : Int)).getD e 0 = -1 := fun e he => by
    rw [List.getD_eq_getElem?_getD, List.getElem?_replicate, if_pos he]
    rfl
  refine ⟨List.length_replicate, fun y hy => ?_, fun e he h => ?_, fun e he h => .inr (h2 e he h), fun e he h => ?_, fun e he h => ?_⟩
  · obtain ⟨e, he, rfl, hf⟩ := h1 y hy
    exact ⟨e, he, rfl, by rw [hd e he]; decide, .inl ⟨hf, rfl⟩, by omega⟩
  · rw [hd e he] at h
    exact absurd h (by decide)
  · rw [hd e he] at h
    exact absurd h (by decide)
  · rw [hd e he] at h
    exact absurd h (by decide)
theorem Just.keep {G : Rd} {d : List Int} {i : Nat} {x : Int} {e : Nat} {k : Int} (hi : i < d.length) (hN : d.length = G.N) (h0 : d.getD i 0 < 0) (j : Just G d e k) : Just G (d.set i x) e k := by
  rcases j with j | ⟨a, b, n, c1, c2, c3, c4, c5⟩
  · exact .inl j
  · refine .inr ⟨a, b, n, c1, c2, c3, ?_⟩
    rw [getD_set' (by omega), if_neg (fun e => by subst e; omega)]
    exact ⟨c4, c5⟩
/-- the first one is taken out -/
theorem DI.pop {G : Rd} {d : List Int} {L L' : List (Int × Int)} {x : Int × Int} (D : DI G d L fun _ _ => False) (hp : HPop L x L') :
    ∃ e : Nat, e < G.N ∧ x.1 = (e : Int) ∧ 0 ≤ x.2 ∧ negs (d.set e x.2) + 1 = negs d ∧ x.2 ≤ 65535 * ((G.N - negs d : Nat) : Int) ∧ DI G (d.set e x.2) L' fun a _ => a = e := by
  obtain ⟨hx, hy⟩ := hp
  obtain ⟨e, he, e1, e2, e3, e4⟩ := D.heap x hx
  have hl : e < d.length := by rw [D.len]; exact he
  have x0 : 0 ≤ x.2 := by
    rcases e3 with ⟨_, e3⟩ | ⟨_, e3, _⟩ <;> omega
  have hn := negs_set hl e2 x0
  have hN := negs_le d
  have hN2 := D.len
  have up : (65535 : Int) * ((G.N - negs d : Nat) : Int) ≤ 65535 * ((G.N - negs (d.set e x.2) : Nat) : Int) := by omega
  have gd : ∀ j, j < G.N → (d.set e x.2).getD j 0 = if e = j then x.2 else d.getD j 0 := fun j hj => getD_set' (by omega) _
  refine ⟨e, he, e1, x0, hn, e4, by rw [List.length_set]; exact D.len, fun y k => ?_, fun j hj h => ?_, fun j hj hf => ?_, fun j hj h hc p hp ht hx' => ?_, fun j hj h => ?_⟩
  · obtain ⟨k1, k2⟩ := (hy y).1 k
    obtain ⟨j, hj, j1, j2, j3, j4⟩ := D.heap y k1
    have hne : e ≠ j := fun q => k2 (by rw [j1, e1, q])
    refine ⟨j, hj, j1, ?_, j3.keep hl D.len e2, by omega⟩
    rw [gd j hj, if_neg hne]
    exact j2
  · rw [gd j hj] at h ⊢
    by_cases q : e = j
    · subst q
      rw [if_pos rfl]
      exact ⟨e3.keep hl D.len e2, by omega⟩
    · rw [if_neg q] at h ⊢
      exact ⟨(D.set j hj h).1.keep hl D.len e2, by have := (D.set j hj h).2; omega⟩
  · rw [gd j hj]
    by_cases q : e = j
    · subst q
      rw [if_pos rfl]
      rcases e3 with ⟨_, e3⟩ | ⟨e3, _⟩
      · exact .inl e3
      · rw [hf] at e3
        cases e3
    · rw [if_neg q]
      rcases D.fin j hj hf with k | k
      · exact .inl k
      · exact .inr ((hy _).2 ⟨k, fun r => q (by rw [e1] at r; exact (Int.ofNat.inj r).symm)⟩)
  · rw [gd j hj, if_neg (fun q => hx' q.symm)] at h
    rw [gd p hp]
    by_cases q : e = p
    · rw [if_pos q]
      exact .inl x0
    · rw [if_neg q]
      rcases D.cls j hj h hc p hp ht (fun k => k) with k | ⟨k, hk⟩
      · exact .inl k
      · exact .inr ⟨k, (hy _).2 ⟨hk, fun r => q (by rw [e1] at r; exact (Int.ofNat.inj r).symm)⟩⟩
  · rw [gd j hj] at h
    by_cases q : e = j
    · subst q
      rcases e3 with ⟨f1, _⟩ | ⟨_, _, n, n1, n2, n3, n4, _⟩
      · exact .base he f1
      · exact .step he n1 n2 n3 (D.rch n n1 n4)
    · rw [if_neg q] at h
      exact D.rch j hj h
theorem DI.wide {G : Rd} {d : List Int} {L : List (Int × Int)} {ex ex' : Nat → Nat → Prop} (D : DI G d L ex) (h : ∀ e p, e < G.N → p < G.N → G.tn p e = true → G.cl e = false → 0 ≤ d.getD e 0 → ex e p → ex' e p ∨ 0 ≤ d.getD p 0 ∨ ∃ k, ((p : Int), k) ∈ L) : DI G d L ex' :=
  ⟨D.len, D.heap, D.set, D.fin, fun e he h0 hc p hp ht hx => by
    by_cases q : ex e p
    · rcases h e p he hp ht hc h0 q with r | r
      · exact absurd r hx
      · exact r
    · exact D.cls e he h0 hc p hp ht q, D.rch⟩
/-- one more is put there -/
theorem DI.push {G : Rd} (ok : G.ok) {d : List Int} {L L' : List (Int × Int)} {ex : Nat → Nat → Prop} (D : DI G d L ex) {e p : Nat} (he : e < G.N) (hp : p < G.N) (ht : G.tn p e = true) (hc : G.cl e = false) (h0 : 0 ≤ d.getD e 0) (hb : d.getD e 0 + 65535 ≤ 65535 * ((G.N - negs d : Nat) : Int)) (hd : d.getD p 0 < 0)
    (hh : HPush L p (d.getD e 0 + G.w e) L') : DI G d L' ex ∧ ∃ k, ((p : Int), k) ∈ L' := by
  have w1 := ok.w1 e he
  have w2 := ok.w2 e he
  have mem : ∀ (e' : Nat) (k : Int), ((e' : Int), k) ∈ L → ∃ k', ((e' : Int), k') ∈ L' := fun e' k hk => by
    rcases hh with ⟨_, h⟩ | ⟨_, h⟩
    · exact ⟨k, (h _).2 hk⟩
    · by_cases q : e' = p
      · exact ⟨d.getD e 0 + G.w e, (h _).2 (.inl (by rw [q]))⟩
      · exact ⟨k, (h _).2 (.inr ⟨hk, fun r => q (Int.ofNat.inj r)⟩)⟩
  refine ⟨⟨D.len, fun y hy => ?_, D.set, fun j hj hf => ?_, fun j hj hj0 hjc q hq hqt hx => (D.cls j hj hj0 hjc q hq hqt hx).imp id fun ⟨k, hk⟩ => mem q k hk, D.rch⟩, ?_⟩
  · rcases hh with ⟨_, h⟩ | ⟨h1, h⟩
    · exact D.heap y ((h y).1 hy)
    · rcases (h y).1 hy with rfl | hy
      · refine ⟨p, hp, rfl, hd, ?_, by show d.getD e 0 + G.w e ≤ _; omega⟩
        cases hf : G.fin p with
        | true =>
          rcases D.fin p hp hf with k | k
          · omega
          · have := h1 _ k
            omega
        | false => exact .inr ⟨hf, by show 0 < d.getD e 0 + G.w e; omega, e, he, ht, hc, h0, by show _ = d.getD e 0 + G.w e - G.w e; omega⟩
      · exact D.heap y hy.1
  · rcases D.fin j hj hf with k | k
    · exact .inl k
    · refine .inr ?_
      rcases hh with ⟨_, h⟩ | ⟨h1, h⟩
      · exact (h _).2 k
      · refine (h _).2 (.inr ⟨k, fun r => ?_⟩)
        have := h1 0 (by rw [← r]; exact k)
        omega
  · rcases hh with ⟨⟨k, hk, _⟩, h⟩ | ⟨_, h⟩
    · exact ⟨k, (h _).2 hk⟩
    · exact ⟨_, (h _).2 (.inl rfl)⟩
theorem DI.end {G : Rd} {d : List Int} (D : DI G d [] fun _ _ => False) : FarOk G d ∧ FarNext G d := by
  refine ⟨⟨D.len, fun e he => ⟨D.rch e he, fun r => ?_⟩, fun e he => ⟨fun z => ?_, fun hf => ?_⟩⟩, fun e he h0 => ?_⟩
  · clear he
    induction r with
    | base he hf =>
      rcases D.fin _ he hf with k | k
      · omega
      · cases k
    | step he hn ht hc _ ih =>
      rcases D.cls _ hn ih hc _ he ht (fun k => k) with k | ⟨_, k⟩
      · exact k
      · cases k
  · rcases (D.set e he (by omega)).1 with ⟨k, _⟩ | ⟨_, k, _⟩
    · exact k
    · omega
  · rcases D.fin e he hf with k | k
    · exact k
    · cases k
  · rcases (D.set e he (by omega)).1 with ⟨_, k⟩ | ⟨_, _, n, c⟩
    · omega
    · exact ⟨n, c⟩
end Go.Proofs.YteapijoibimfnaaGreat
