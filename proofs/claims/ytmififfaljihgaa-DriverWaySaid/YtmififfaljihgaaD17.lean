/- The driver: what is not live; how much goes out. -/
import Derived.Test.YtmififfaljihgaaD16
set_option linter.unusedVariables false
namespace Go.Proofs.Ytmififfaljihgaa
open Go Go.Ab
theorem paysV_len (now : Int) : ∀ (O : List (List Int)) (s : SV), (paysV now s O).1.length ≤ O.length
  | [], s => Nat.le_refl _
  | b :: O, s => by
    rw [paysV]
    split
    · have := paysV_len now O (sendV s now b).2
      simpa using this
    · exact Nat.zero_le _
theorem push_len {cv : CV} (o : COk cv) (now : Int) (b : List Int) : (pushV cv now b).1.1.length ≤ 100000 := by
  have h1 := o.o
  unfold pushV
  split
  · exact Nat.zero_le _
  · split
    · exact Nat.zero_le _
    · have := paysV_len now (cv.O ++ [b]) cv.s
      rw [List.length_append] at this
      show ((paysV now cv.s (cv.O ++ [b])).1.map (pg cv)).length ≤ _
      rw [List.length_map]
      have e : [b].length = 1 := rfl
      omega
theorem pass_len {cv : CV} (o : COk cv) (now : Int) : (passV cv now).1.1.length ≤ 100000 := by
  have h1 := o.o
  have h2 := again_len o.s now
  unfold passV
  split
  · have := paysV_len now cv.O (passM cv now).s
    show (List.map _ _ ++ List.map _ _).length ≤ _
    rw [List.length_append, List.length_map, List.length_map]
    omega
  · exact Nat.zero_le _
theorem recv_len {cv : CV} (o : COk cv) (now : Int) (g : GV) : (recvV cv now g).1.2.length ≤ 100000 := by
  have h1 := o.o
  unfold recvV
  split
  · exact Nat.zero_le _
  · have := paysV_len now cv.O (recvM cv g).s
    show ((if g.kind = 1 then _ else _) ++ List.map _ _).length ≤ _
    rw [List.length_append, List.length_map]
    split
    · show 1 + _ ≤ _
      omega
    · show 0 + _ ≤ _
      omega
section
variable {h : H} {di : Nat} {v : DV}
theorem dFollow0 (s : DrB h di v) (el : v.live = false) (now : Int) : ACalls Try.prog 23 [.ptr (some (di, 0)), i64 now] h (fun r h' => r = .tup [.sl none 0, i64 4] ∧ h' = h) := by
  refine call_ Try.func23 rfl rfl (by kernel_rfl) ?_
  conv => whnf
  refine (dLive s).mono ?_
  rintro _ h1 ⟨eh, rfl⟩
  subst eh
  rw [el]
  conv => whnf
  exact ⟨rfl, rfl⟩
theorem dReport0 (s : DrB h di v) (el : v.live = false) (now p : Int) : ACalls Try.prog 19 [.ptr (some (di, 0)), i64 now, i64 p] h (fun r h' => r = .tup [.sl none 0, i64 4] ∧ h' = h) := by
  refine call_ Try.func19 rfl rfl (by kernel_rfl) ?_
  conv => whnf
  refine (dLive s).mono ?_
  rintro _ h1 ⟨eh, rfl⟩
  subst eh
  rw [el]
  conv => whnf
  exact ⟨rfl, rfl⟩
theorem dTick0 (s : DrB h di v) (el : v.live = false) (now : Int) : ACalls Try.prog 24 [.ptr (some (di, 0)), i64 now] h (fun r h' => r = .sl none 0 ∧ h' = h) := by
  refine call_ Try.func24 rfl rfl (by kernel_rfl) ?_
  conv => whnf
  refine (dLive s).mono ?_
  rintro _ h1 ⟨eh, rfl⟩
  subst eh
  rw [el]
  conv => whnf
  exact ⟨rfl, rfl⟩
theorem dStart0 (h : H) (now a n : Int) : ACalls Try.prog 10 [.ptr none, i64 now, i64 a, i64 n] h (fun r h' => r = .tup [.sl none 0, i64 4] ∧ h' = h) := by
  refine call_ Try.func10 rfl rfl (by kernel_rfl) ?_
  conv => whnf
  exact ⟨rfl, rfl⟩
theorem DrB.old {h' : H} (s : DrB h di v) (m : Ab.Mod none_ h h') : DrB h' di v := by
  obtain ⟨ch, pw, h1, h2⟩ := s
  exact ⟨ch, pw, m.get h1 (.inl (fun k => k)), h2.get m⟩
theorem dRecv0 (s : DrB h di v) (el : v.live = false) (now : Int) {p : Option (Nat × Nat)} {n : Nat} {b : List Int} (ob : SlIs h p n false 1 (ints .u8 b)) (bb : Bts b) (hn : n ≤ 800000) : ACalls Try.prog 17 [.ptr (some (di, 0)), i64 now, .sl p n] h (fun r h' => r = .tup [.sl none 0, .sl none 0] ∧ Ab.Mod none_ h h') := by
  refine call_ Try.func17 rfl rfl (by kernel_rfl) ?_
  conv => whnf
  refine (gdec51 ob bb hn).mono ?_
  rintro _ h1 ⟨m1, e, rfl, ok1, mg, gd, rob⟩
  conv => whnf
  refine ⟨_, rfl, ?_⟩
  conv => whnf
  refine ⟨_, rfl, ?_⟩
  conv => whnf
  obtain ⟨g0, gx, mx⟩ := lay_row (h := h1) (sz := 6) [i64 0, i64 0, i64 0, i64 0, i64 0, .sl none 0] m1.cells
  refine ⟨_, _, g0, Nat.le_of_ble_eq_true rfl, ?_⟩
  conv => whnf
  have sx := (s.old mg).old mx
  have mo := mod_none mg mx
  refine ⟨[0, 1, 2, 3, 4, 5, 6, 7, 8, 9, 10, 11, 12, 13, 14, 15], [0, 1, 3, 7, 15, 31, 63, 127, 255, 511, 255, 1279, 3327, 7423, 16383, 32767], by kernel_rfl, ?_⟩
  rcases gd.of with ⟨rfl, eo, enc⟩ | ⟨he, eo⟩
  rotate_left
  · rcases he with rfl | rfl
    · conv => whnf
      exact ⟨rfl, mo⟩
    · conv => whnf
      exact ⟨rfl, mo⟩
  conv => whnf
  refine (dLive sx).mono ?_
  rintro _ h2 ⟨eh, rfl⟩
  have eh : h2 = _ := eh
  rw [← eh] at mo
  clear eh
  rw [el]
  conv => whnf
  exact ⟨rfl, mo⟩
end
end Go.Proofs.Ytmififfaljihgaa
