/- Messages: Encode of the program; rows that are alike; messages that are alike. -/
import Derived.Test.YtnpfdppmpmnhbaaS31
set_option linter.unusedVariables false
namespace Go.Proofs.Ytnpfdppmpmnhbaa
open Go Go.Ab
theorem Msg.ok.old {S : Nat → Prop} {h h' : H} {m : Msg} (o : m.ok h) (k : Ab.Mod S h h') (hS : ∀ i, i < h.next → ¬ S i) : m.ok h' := ⟨SlIs.old o.1 k hS, o.2⟩
def EncQ (m : Msg) (h : H) (r : V) (h' : H) : Prop := ∃ q, r = .tup [.sl q (encB m).length, i64 (if encOk m then 0 else 1)] ∧ Oct h' q (encB m).length (encB m) ∧ Ab.Mod none_ h h'
theorem enc41 {h : H} (m : Msg) (ok : m.ok h) : ACalls Try.prog 41 [.agg m.cells] h (EncQ m h) := by
  refine call_ Try.func41 rfl rfl (by kernel_rfl) ?_
  conv => whnf
  have mb := Mod.push none_ h (.row true 9 m.cells)
  have ok1 : m.ok (h.push (.row true 9 m.cells)) := ok.old mb (fun _ _ k => k)
  have gb : (h.push (.row true 9 m.cells)).obj h.next = some (.row true 9 m.cells) := H.obj_push_new _ _
  have w := NewW.new (h.push (.row true 9 m.cells))
  have gb2 := w.2.2.get gb (.inl (fun k => k))
  refine ⟨m.cells, Cells.mk gb2 (by simp [Msg.cells]; decide) rfl, ?_⟩
  conv => whnf
  refine (writes57 w m ok1).mono ?_
  rintro _ h2 ⟨rfl, p2, xs, sp, w2, st⟩
  conv => whnf
  have m2 := mod_none mb w2.2.2
  refine br_mk (fun hb => ?_) (fun hb => ?_)
  · conv => whnf
    have hk : knd m = false := by simpa using hb
    have he : encOk m = false := by rw [encOk, hk, Bool.false_and]
    have hB : encB m = [] := by rw [encB, he]; rfl
    show EncQ m h (.tup [.sl none 0, i64 1]) _
    unfold EncQ
    rw [he, hB]
    exact ⟨none, rfl, Oct.nil _ _, m2⟩
  conv => whnf
  have hk : knd m = true := by simpa using hb
  have st := st hk
  have hl := st.len
  have hp := parts_len m
  have ho := ok.2.2.2
  refine (bytes23 w2.1 (by omega)).mono ?_
  rintro _ h3 ⟨q, n, rfl, o3, m3⟩
  rw [st.done] at o3
  have he : encOk m = fitP (parts m) := by rw [encOk, hk, Bool.true_and]
  have hB : encB m = if fitP (parts m) = true then bytesP (parts m) else [] := by rw [encB, he]
  rw [← hB] at o3
  have hn := o3.len
  subst hn
  conv => whnf
  refine ⟨_, rfl, ?_⟩
  conv => whnf
  refine ⟨_, rfl, ?_⟩
  conv => whnf
  refine ⟨q, ?_, o3, mod_none m2 m3⟩
  rw [he, st.hsp]
  cases fitP (parts m) <;> rfl
theorem equal58 {h : H} {p q : Option (Nat × Nat)} {n m : Nat} {xs ys : List Int} (o1 : SlIs h p n false 1 (ints .u8 xs)) (b1 : Bts xs) (o2 : SlIs h q m false 1 (ints .u8 ys)) (b2 : Bts ys) : ACalls Try.prog 58 [.sl p n, .sl q m] h (fun r h' => h' = h ∧ r = .bool (xs == ys)) := by
  refine call_ Try.func58 rfl rfl (by kernel_rfl) ?_
  conv => whnf
  refine ⟨_, o1, b1, ?_⟩
  conv => whnf
  refine ⟨_, o2, b2, ?_⟩
  conv => whnf
  exact ⟨rfl, rfl⟩
theorem beq_len_ne {xs ys : List Int} (h : xs.length ≠ ys.length) : (xs == ys) = false := by
  cases e : xs == ys with
  | false => rfl
  | true => exact absurd (congrArg List.length (beq_iff_eq.1 e)) h
theorem beq_get_ne {xs ys : List Int} {j : Nat} (h : xs.getD j 0 ≠ ys.getD j 0) : (xs == ys) = false := by
  cases e : xs == ys with
  | false => rfl
  | true => exact absurd (by rw [beq_iff_eq.1 e]) h
theorem take_succ_eq {xs ys : List Int} {j : Nat} (hx : j < xs.length) (hy : j < ys.length) (h : xs.take j = ys.take j) (e : xs.getD j 0 = ys.getD j 0) : xs.take (j + 1) = ys.take (j + 1) := by
  rw [List.take_add_one, List.take_add_one, h, get_getD hx, get_getD hy, e]
theorem equal59 {h : H} {p q : Option (Nat × Nat)} {n m : Nat} {xs ys : List Int} (o1 : SlIs h p n false 1 (ints .i64 xs)) (o2 : SlIs h q m false 1 (ints .i64 ys)) (hn : n ≤ 70368744177664) : ACalls Try.prog 59 [.sl p n, .sl q m] h (fun r h' => h' = h ∧ r = .bool (xs == ys)) := by
  have h1 := slo_len o1
  have h2 := slo_len o2
  subst h1 h2
  refine call_ Try.func59 rfl rfl (by kernel_rfl) ?_
  conv => whnf
  refine br_mk (fun hb => ?_) (fun hb => ?_)
  · conv => whnf
    simp at hb
    rw [beq_len_ne (xs := xs) (ys := ys) (by omega)]
    exact ⟨rfl, rfl⟩
  conv => whnf
  simp at hb
  refine ⟨fun env hh => hh = h ∧ ∃ (j : Nat) (z : Int), j ≤ xs.length ∧ z = j ∧ xs.take j = ys.take j ∧ env = [(13, i64 z), (12, i64 xs.length), (1, .sl q ys.length), (0, .sl p xs.length)],
    fun env _ => match get env 13 with
      | .int _ z => (xs.length - z).toNat
      | _ => 0, ⟨_, Forget.cons rfl (Forget.cons rfl (Forget.cons rfl (Forget.cons rfl (Forget.nil _)))), rfl, 0, _, Nat.zero_le _, rfl, rfl, rfl⟩, ?_⟩
  rintro _ _ ⟨rfl, j, z, hj, rfl, ht, rfl⟩
  conv => whnf
  refine br_mk (fun hc => ?_) (fun hc => ?_)
  rotate_left
  · conv => whnf
    simp at hc
    obtain rfl : j = xs.length := by omega
    have : xs = ys := by
      rw [List.take_length] at ht
      rw [ht, List.take_of_length_le (by omega)]
    subst this
    exact ⟨rfl, by rw [beq_self_eq_true]⟩
  conv => whnf
  simp at hc
  refine ⟨[0, 1, 2, 3, 4, 5, 6, 7, 8], [0, 0, 3, 7, 0, 0, 48, 112, 255], by kernel_rfl, ?_⟩
  conv => whnf
  obtain ⟨i, c, rfl, k1⟩ := slo_get o1 hc
  refine ⟨_, _, j, rfl, rfl, hc, ?_⟩
  conv => whnf
  refine ⟨_, k1, ?_⟩
  conv => whnf
  obtain ⟨i', c', rfl, k2⟩ := slo_get o2 (j := j) (by omega)
  refine ⟨_, _, j, rfl, rfl, by omega, ?_⟩
  conv => whnf
  refine ⟨_, k2, ?_⟩
  conv => whnf
  refine br_mk (fun hd => ?_) (fun hd => ?_)
  · conv => whnf
    rw [beq_get_ne (xs := xs) (ys := ys) (j := j) (by simpa using hd)]
    exact ⟨rfl, rfl⟩
  conv => whnf
  have hs2 := succ_i64 (j := j) (n := xs.length) hc hn
  refine ⟨_, Forget.cons rfl (Forget.cons rfl (Forget.cons rfl (Forget.cons rfl (Forget.nil _)))), ⟨rfl, j + 1, _, by omega, hs2, take_succ_eq hc (by omega) ht (by simpa using hd), rfl⟩, ?_⟩
  show (xs.length - IntKind.i64.wrap ((j : Int) + 1)).toNat < (xs.length - (j : Int)).toNat
  rw [hs2]
  omega
theorem ints47 {h : H} {p q : Option (Nat × Nat)} {n m : Nat} {xs ys : List Int} (o1 : SlIs h p n false 1 (ints .i64 xs)) (o2 : SlIs h q m false 1 (ints .i64 ys)) (hn : n ≤ 70368744177664) : ACalls Try.prog 47 [.sl p n, .sl q m] h (fun r h' => h' = h ∧ r = .bool (xs == ys)) := by
  have h1 := slo_len o1
  have h2 := slo_len o2
  subst h1 h2
  refine call_ Try.func47 rfl rfl (by kernel_rfl) ?_
  conv => whnf
  refine br_mk (fun hb => ?_) (fun hb => ?_)
  · conv => whnf
    simp at hb
    rw [beq_len_ne (xs := xs) (ys := ys) (by omega)]
    exact ⟨rfl, rfl⟩
  conv => whnf
  simp at hb
  refine ⟨fun env hh => hh = h ∧ ∃ (j : Nat) (z : Int), j ≤ xs.length ∧ z = j ∧ xs.take j = ys.take j ∧ env = [(5, i64 z), (1, .sl q ys.length), (0, .sl p xs.length)],
    fun env _ => match get env 5 with
      | .int _ z => (xs.length - z).toNat
      | _ => 0, ⟨_, Forget.cons rfl (Forget.cons rfl (Forget.cons rfl (Forget.nil _))), rfl, 0, _, Nat.zero_le _, rfl, rfl, rfl⟩, ?_⟩
  rintro _ _ ⟨rfl, j, z, hj, rfl, ht, rfl⟩
  conv => whnf
  refine br_mk (fun hc => ?_) (fun hc => ?_)
  rotate_left
  · conv => whnf
    simp at hc
    obtain rfl : j = xs.length := by omega
    have : xs = ys := by
      rw [List.take_length] at ht
      rw [ht, List.take_of_length_le (by omega)]
    subst this
    exact ⟨rfl, by rw [beq_self_eq_true]⟩
  conv => whnf
  simp at hc
  refine ⟨[0, 1, 2, 3, 4, 5, 6, 7, 8], [0, 0, 3, 7, 0, 0, 48, 112, 255], by kernel_rfl, ?_⟩
  conv => whnf
  obtain ⟨i, c, rfl, k1⟩ := slo_get o1 hc
  refine ⟨_, _, j, rfl, rfl, hc, ?_⟩
  conv => whnf
  refine ⟨_, k1, ?_⟩
  conv => whnf
  obtain ⟨i', c', rfl, k2⟩ := slo_get o2 (j := j) (by omega)
  refine ⟨_, _, j, rfl, rfl, by omega, ?_⟩
  conv => whnf
  refine ⟨_, k2, ?_⟩
  conv => whnf
  refine br_mk (fun hd => ?_) (fun hd => ?_)
  · conv => whnf
    rw [beq_get_ne (xs := xs) (ys := ys) (j := j) (by simpa using hd)]
    exact ⟨rfl, rfl⟩
  conv => whnf
  have hs2 := succ_i64 (j := j) (n := xs.length) hc hn
  refine ⟨_, Forget.cons rfl (Forget.cons rfl (Forget.cons rfl (Forget.nil _))), ⟨rfl, j + 1, _, by omega, hs2, take_succ_eq hc (by omega) ht (by simpa using hd), rfl⟩, ?_⟩
  show (xs.length - IntKind.i64.wrap ((j : Int) + 1)).toNat < (xs.length - (j : Int)).toNat
  rw [hs2]
  omega
end Go.Proofs.Ytnpfdppmpmnhbaa
