/- TakerOnce: its walk. -/
import Derived.Test.YtpefdmidfllhoaaQ43
set_option linter.unusedVariables false
namespace Go.Proofs.Ytpefdmidfllhoaa
open Go Go.Ab
theorem wrap_u8_eq (x : Int) : IntKind.u8.wrap x = x % 256 := by simp [IntKind.wrap, IntKind.bits, IntKind.signed]
/-- each body is its number, and a seven; all are below n -/
def Sev (n : Int) (C : Hd) : Prop := ∀ x ∈ C, x.2 = [x.1, 7] ∧ 0 ≤ x.1 ∧ x.1 < n
theorem Sev.ins {n : Int} {C : Hd} (s : Sev n C) {k : Int} (h0 : 0 ≤ k) (h1 : k < n) : Sev n (insS C k [k, 7]) := fun x hx => by
  rw [insS, List.mem_append, List.mem_cons] at hx
  rcases hx with hx | rfl | hx
  · exact s x (List.mem_filter.1 hx).1
  · exact ⟨rfl, h0, h1⟩
  · exact s x (List.mem_filter.1 hx).1
theorem chn_sev {n : Int} : ∀ {C : Hd} (N : Int), Sev n C → N ≤ n → (∀ j (hj : j < (chn N C).1.length), (chn N C).1[j] = [N + (j : Int), 7]) ∧ (chn N C).2.1 ≤ n ∧ Sev n (chn N C).2.2
  | [], N, s, h => ⟨fun j hj => absurd hj (by simp [chn]), h, fun x hx => absurd hx (by simp [chn])⟩
  | p :: C, N, s, h => by
    have sp := s p (by simp)
    have hc : chn N (p :: C) = if p.1 = N then (p.2 :: (chn (N + 1) C).1, (chn (N + 1) C).2) else ([], N, p :: C) := rfl
    by_cases e : p.1 = N
    · rw [if_pos e] at hc
      obtain ⟨h1, h2, h3⟩ := chn_sev (C := C) (N + 1) (fun x hx => s x (List.mem_cons_of_mem _ hx)) (by omega)
      rw [hc]
      refine ⟨fun j hj => ?_, h2, h3⟩
      cases j with
      | zero =>
        show p.2 = _
        rw [sp.1, e]
        simp
      | succ j =>
        have hj : j + 1 < (p.2 :: (chn (N + 1) C).1).length := hj
        have := h1 j (by simpa using hj)
        show ((p.2 :: (chn (N + 1) C).1))[j + 1] = _
        rw [List.getElem_cons_succ, this]
        have : N + 1 + (j : Int) = N + ((j + 1 : Nat) : Int) := by omega
        rw [this]
    · rw [if_neg e] at hc
      rw [hc]
      exact ⟨fun j hj => absurd hj (by simp), h, s⟩
theorem tk_sev {W N n : Int} {C : Hd} (s : Sev n C) (hN : N ≤ n) {k : Int} (h0 : 0 ≤ k) (h1 : k < n) :
    (∀ j (hj : j < (tkV W N C k [k, 7]).2.1.length), (tkV W N C k [k, 7]).2.1[j] = [N + (j : Int), 7]) ∧ (tkV W N C k [k, 7]).2.2.1 ≤ n ∧ Sev n (tkV W N C k [k, 7]).2.2.2 := by
  unfold tkV
  by_cases hm : mayC W N k C = true
  · rw [if_pos hm]
    exact chn_sev N (s.ins h0 h1) hN
  · rw [if_neg hm]
    exact ⟨fun j hj => absurd hj (by simp), hN, s⟩
theorem tk_far {W N : Int} {C : Hd} (o : OkH W N C) (hW : 1 ≤ W) {k : Int} (hk : k ≤ N) (b : List Int) : k + 1 ≤ (tkV W N C k b).2.2.1 := by
  have hm0 := (o.take hW k b).2.1
  by_cases e : k = N
  · subst e
    have hz : sget C k = none := sget_none.2 (fun hm => by have := (o.key k hm).1; omega)
    have hm : mayC W k k C = true := by rw [mayC, hz, decide_eq_true (Int.le_refl k), decide_eq_true (show k < k + W by omega)]; rfl
    unfold tkV
    rw [if_pos hm]
    obtain ⟨R, hR⟩ := head_yes (insS_asc o.asc k b) (insS_keys (P := fun x => k ≤ x) (fun x hx => by have := (o.key x hx).1; omega) (Int.le_refl k) b) (v := b) (by rw [insS_get o.asc, if_pos rfl])
    rw [hR, chn_yes]
    show k + 1 ≤ (chn (k + 1) R).2.1
    have := (chn_len (k + 1) R).2.1
    omega
  · omega
set_option maxHeartbeats 1000000 in
theorem once7 {h : H} {po : Option (Nat × Nat)} {m : Nat} {xs : List Int} (ro : RoSl h po m 1 (ints .i64 xs)) (W n : Int) : ACalls Try.prog 7 [i64 W, i64 n, .sl po m] h (fun r _ => r = .bool true) := by
  have hm := slo_len ro.is
  refine call_ Try.func7 rfl rfl (by kernel_rfl) ?_
  conv => whnf
  refine br_mk (fun ha => ?_) (fun ha => ?_)
  · conv => whnf
    refine (awake26 h).mono ?_
    rintro _ h1 rfl
    conv => whnf
  conv => whnf
  have ha : ¬ W < 1 := by simpa using ha
  refine br_mk (fun hb => ?_) (fun hb => ?_)
  · conv => whnf
    refine (awake26 h).mono ?_
    rintro _ h1 rfl
    conv => whnf
  conv => whnf
  have hb : ¬ W > 16 := by simpa using hb
  refine br_mk (fun hc => ?_) (fun hc => ?_)
  · conv => whnf
    refine (awake26 h).mono ?_
    rintro _ h1 rfl
    conv => whnf
  conv => whnf
  have hc : ¬ n < 0 := by simpa using hc
  refine br_mk (fun hd => ?_) (fun hd => ?_)
  · conv => whnf
    refine (awake26 h).mono ?_
    rintro _ h1 rfl
    conv => whnf
  conv => whnf
  have hd : ¬ n > 40 := by simpa using hd
  refine br_mk (fun he => ?_) (fun he => ?_)
  · conv => whnf
    refine (awake26 h).mono ?_
    rintro _ h1 rfl
    conv => whnf
  conv => whnf
  have he : m ≤ 200 := by
    have : ¬ (m : Int) > 200 := by simpa using he
    omega
  have hW : 1 ≤ W ∧ W ≤ 16 := by omega
  have ok : okW W = true := by rw [okW, decide_eq_true hW.1, decide_eq_true hW.2]; rfl
  refine (new27 h W).mono ?_
  rintro _ h1 q
  obtain ⟨g, mi, rfl, s1, _, _, m1⟩ := newK_yes q ok
  clear q
  have tk : TkC h1 g mi W 0 [] := ⟨[], s1, rfl⟩
  have ro := ro.get m1
  conv => whnf
  refine ⟨_, rfl, ?_⟩
  conv => whnf
  refine ⟨_, rfl, ?_⟩
  conv => whnf
  refine ⟨fun env hh => ∃ (i : Nat) (zi N : Int) (C : Hd), (i : Int) ≤ m + n ∧ zi = i ∧ TkC hh g mi W N C ∧ OkH W N C ∧ 0 ≤ N ∧ N ≤ n ∧ Sev n C ∧ (i : Int) - m ≤ N ∧ RoSl hh po m 1 (ints .i64 xs) ∧ env = [(10, i64 zi), (9, i64 N), (2, .sl po m), (1, i64 n), (7, .ptr (some (g, 0))), (0, i64 W)],
    fun env _ => match get env 10 with
      | .int _ z => ((m : Int) + n - z).toNat
      | _ => 0, ⟨_, Forget.cons rfl (Forget.cons rfl (Forget.cons rfl (Forget.cons rfl (Forget.cons rfl (Forget.cons rfl (Forget.nil _)))))), 0, _, 0, [], by omega, rfl, tk, OkH.nil _ _, by omega, by omega, (fun x hx => by cases hx), by omega, ro, rfl⟩, ?_⟩
  clear tk ro s1 m1
  rintro _ hh ⟨i, zi, N, C, hi, rfl, tk, oh, hN0, hNn, sv, hph, ro, rfl⟩
  conv => whnf
  have hmn : IntKind.i64.wrap ((m : Int) + n) = (m : Int) + n := wrap_i64 (by omega) (by omega)
  have hwi : IntKind.i64.wrap ((i : Int) + 1) = (i : Int) + 1 := wrap_i64 (by omega) (by omega)
  have hws : IntKind.i64.wrap ((i : Int) - m) = (i : Int) - m := wrap_i64 (by omega) (by omega)
  have hwn : IntKind.i64.wrap (n + 1) = n + 1 := wrap_i64 (by omega) (by omega)
  have hfar2 : ∀ N2 : Int, (i : Int) + 1 - m ≤ N2 → ((i + 1 : Nat) : Int) - m ≤ N2 := fun N2 h => by omega
  rw [hmn]
  refine br_mk (fun hx => ?_) (fun hx => ?_)
  · conv => whnf
    have hx : (i : Int) < m + n := by simpa using hx
    rw [hws]
    refine br_mk (fun hL => ?_) (fun hL => ?_)
    · conv => whnf
      have hL : i < m := by
        have : (i : Int) < m := by simpa using hL
        omega
      obtain ⟨i1, c1, f1, f2⟩ := slo_get ro.is hL
      refine ⟨i1, c1, i, f1, rfl, hL, ?_⟩
      conv => whnf
      refine ⟨_, f2, ?_⟩
      conv => whnf
      rw [hwn]
      refine (round19 (m := n + 1) (by omega) (by omega) (xs.getD i 0) _).mono ?_
      rintro _ hR ⟨eh, rfl⟩
      subst eh
      have k0 := Int.emod_nonneg (xs.getD i 0) (show n + 1 ≠ 0 by omega)
      have k1 := Int.emod_lt_of_pos (xs.getD i 0) (show 0 < n + 1 by omega)
      obtain ⟨kk, hkk⟩ : ∃ kk, kk = xs.getD i 0 % (n + 1) := ⟨_, rfl⟩
      rw [← hkk] at k0 k1 ⊢
      conv => whnf
      refine br_mk (fun hq => ?_) (fun hq => ?_)
      · conv => whnf
        refine ⟨_, Forget.cons rfl (Forget.cons rfl (Forget.cons rfl (Forget.cons rfl (Forget.cons rfl (Forget.cons rfl (Forget.nil _)))))), ⟨i + 1, _, N, C, by omega, by rw [hwi]; omega, tk, oh, hN0, hNn, sv, by omega, ro, rfl⟩, ?_⟩
        show ((m : Int) + n - IntKind.i64.wrap ((i : Int) + 1)).toNat < ((m : Int) + n - (i : Int)).toNat
        rw [hwi]
        omega
      have hk1 : kk < n := by
        have : kk ≠ n := by
          intro x
          rw [x] at hq
          simp at hq
        omega
      have hk0 := k0
      conv => whnf
      have hu8 : IntKind.u8.wrap kk = kk := by rw [wrap_u8_eq]; omega
      rw [hu8]
      obtain ⟨lr, nr⟩ := laid_oct hR [kk, 7]
      refine (take29c (tk.old nr) ok oh (by omega) (by omega) (seq := kk) (i64_in (by omega) (by omega)) lr (by simp)).mono ?_
      rintro _ h4 ⟨q4, rfl, rw4, tk, m4⟩
      have ro := (ro.get nr).get m4
      obtain ⟨oh2, on1, on2, on3⟩ := oh.take hW.1 kk [kk, 7]
      obtain ⟨bd, bn, sv⟩ := tk_sev (W := W) (N := N) sv hNn hk0 hk1
      have hfar : (i : Int) + 1 - m ≤ (tkV W N C kk [kk, 7]).2.2.1 := by omega
      generalize tkV W N C kk [kk, 7] = tv at rw4 tk oh2 on1 on2 on3 bd bn sv hfar ⊢
      obtain ⟨tb, tl, N2, C2⟩ := tv
      have on1 : N ≤ N2 := on1
      have on2 : N2 = N + tl.length := on2
      have on3 : (tl.length : Int) ≤ W := on3
      have bn : N2 ≤ n := bn
      have hfar : (i : Int) + 1 - m ≤ N2 := hfar
      have oh2 : OkH W N2 C2 := oh2
      have sv : Sev n C2 := sv
      have rw4 : Rws h4 q4 tl := rw4
      have tk : TkC h4 g mi W N2 C2 := tk
      conv => whnf
      refine ⟨_, rfl, ?_⟩
      conv => whnf
      refine ⟨_, rfl, ?_⟩
      conv => whnf
      refine ⟨fun env hk => ∃ (j : Nat) (zj zg : Int), j ≤ tl.length ∧ zj = j ∧ zg = N + j ∧ TkC hk g mi W N2 C2 ∧ Rws hk q4 tl ∧ RoSl hk po m 1 (ints .i64 xs) ∧ env = [(14, i64 zj), (9, i64 zg), (12, .sl q4 tl.length), (10, i64 (i : Int)), (2, .sl po m), (1, i64 n), (7, .ptr (some (g, 0))), (0, i64 W)],
        fun env _ => match get env 14 with
          | .int _ z => (tl.length - z).toNat
          | _ => 0, ⟨_, Forget.cons rfl (Forget.cons rfl (Forget.cons rfl (Forget.cons rfl (Forget.cons rfl (Forget.cons rfl (Forget.cons rfl (Forget.cons rfl (Forget.nil _)))))))), 0, _, _, Nat.zero_le _, rfl, (Int.add_zero N).symm, tk, rw4, ro, rfl⟩, ?_⟩
      clear tk rw4 ro m4
      rintro _ hK ⟨j, zj, zg, hj, rfl, rfl, tk, rw4, ro, rfl⟩
      conv => whnf
      refine br_mk (fun hy => ?_) (fun hy => ?_)
      · conv => whnf
        have hy : j < tl.length := by simpa using hy
        obtain ⟨i1, c1, p1, f1, f2, f3⟩ := rw4.cell hy
        have hb : tl[j] = [N + (j : Int), 7] := bd j hy
        rw [hb] at f2 f3
        refine ⟨i1, c1, j, f1, rfl, hy, ?_⟩
        conv => whnf
        refine ⟨_, f2, ?_⟩
        conv => whnf
        refine ⟨i1, c1, j, f1, rfl, hy, ?_⟩
        conv => whnf
        refine ⟨_, f2, ?_⟩
        conv => whnf
        obtain ⟨i2, c2, u1, u2⟩ := slo_get f3.is (j := 0) (by simp)
        obtain ⟨i3, c3, u3, u4⟩ := slo_get f3.is (j := 1) (by simp)
        refine ⟨i2, c2, 0, u1, rfl, by simp, ?_⟩
        conv => whnf
        refine ⟨_, u2, ?_⟩
        conv => whnf
        have hw1 : IntKind.i64.wrap (N + (j : Int)) = N + (j : Int) := wrap_i64 (by omega) (by omega)
        rw [show IntKind.i64.wrap ([N + (j : Int), 7].getD 0 0) = N + (j : Int) from hw1]
        refine br_mk (fun hz => ?_) (fun hz => ?_)
        · exact absurd hz (by simp)
        conv => whnf
        refine ⟨i1, c1, j, f1, rfl, hy, ?_⟩
        conv => whnf
        refine ⟨_, f2, ?_⟩
        conv => whnf
        refine ⟨i3, c3, 1, u3, rfl, by simp, ?_⟩
        conv => whnf
        refine ⟨_, u4, ?_⟩
        conv => whnf
        have hw2 : IntKind.i64.wrap (N + (j : Int) + 1) = N + ((j + 1 : Nat) : Int) := by rw [wrap_i64 (by omega) (by omega)]; omega
        rw [hw2]
        exact ⟨_, Forget.cons rfl (Forget.cons rfl (Forget.cons rfl (Forget.cons rfl (Forget.cons rfl (Forget.cons rfl (Forget.cons rfl (Forget.cons rfl (Forget.nil _)))))))), ⟨j + 1, _, _, hy, succ_i64 hy (by omega), rfl, tk, rw4, ro, rfl⟩, mu_lt hy (by omega)⟩
      conv => whnf
      have hy : j = tl.length := by
        have : ¬ j < tl.length := by simpa using hy
        omega
      subst hy
      refine (next32c tk).mono ?_
      rintro _ hL ⟨eh, rfl⟩
      subst eh
      conv => whnf
      refine br_mk (fun hz => ?_) (fun hz => ?_)
      · exact absurd hz (by simp; omega)
      conv => whnf
      have hcl := oh2.len hW.1
      refine (held34c tk ok oh2 (by omega) (by omega)).mono ?_
      rintro _ hM ⟨qm, rfl, rm, mM⟩
      conv => whnf
      rw [keys_length]
      refine br_mk (fun hz2 => ?_) (fun hz2 => ?_)
      · have hz2 : (C2.length : Int) ≥ W := by simpa using hz2
        omega
      conv => whnf
      rw [← on2]
      refine ⟨_, Forget.cons rfl (Forget.cons rfl (Forget.cons rfl (Forget.cons rfl (Forget.cons rfl (Forget.cons rfl (Forget.nil _)))))), ⟨i + 1, _, N2, C2, by omega, by omega, tk.old mM, oh2, by omega, bn, sv, hfar2 N2 hfar, ro.get mM, rfl⟩, ?_⟩
      show ((m : Int) + n - IntKind.i64.wrap ((i : Int) + 1)).toNat < ((m : Int) + n - (i : Int)).toNat
      rw [hwi]
      omega
    · have hL : ¬ (i : Int) < m := by simpa using hL
      obtain ⟨kk, hkk⟩ : ∃ kk, kk = (i : Int) - m := ⟨_, rfl⟩
      have hk0 : 0 ≤ kk := by omega
      have hk1 : kk < n := by omega
      conv => whnf
      rw [← hkk]
      conv => whnf
      have hu8 : IntKind.u8.wrap kk = kk := by rw [wrap_u8_eq]; omega
      rw [hu8]
      obtain ⟨lr, nr⟩ := laid_oct hh [kk, 7]
      refine (take29c (tk.old nr) ok oh (by omega) (by omega) (seq := kk) (i64_in (by omega) (by omega)) lr (by simp)).mono ?_
      rintro _ h4 ⟨q4, rfl, rw4, tk, m4⟩
      have ro := (ro.get nr).get m4
      obtain ⟨oh2, on1, on2, on3⟩ := oh.take hW.1 kk [kk, 7]
      obtain ⟨bd, bn, sv⟩ := tk_sev (W := W) (N := N) sv hNn hk0 hk1
      have hfar : (i : Int) + 1 - m ≤ (tkV W N C kk [kk, 7]).2.2.1 := by
        have := tk_far oh hW.1 (k := kk) (by omega) [kk, 7]
        omega
      generalize tkV W N C kk [kk, 7] = tv at rw4 tk oh2 on1 on2 on3 bd bn sv hfar ⊢
      obtain ⟨tb, tl, N2, C2⟩ := tv
      have on1 : N ≤ N2 := on1
      have on2 : N2 = N + tl.length := on2
      have on3 : (tl.length : Int) ≤ W := on3
      have bn : N2 ≤ n := bn
      have hfar : (i : Int) + 1 - m ≤ N2 := hfar
      have oh2 : OkH W N2 C2 := oh2
      have sv : Sev n C2 := sv
      have rw4 : Rws h4 q4 tl := rw4
      have tk : TkC h4 g mi W N2 C2 := tk
      conv => whnf
      refine ⟨_, rfl, ?_⟩
      conv => whnf
      refine ⟨_, rfl, ?_⟩
      conv => whnf
      refine ⟨fun env hk => ∃ (j : Nat) (zj zg : Int), j ≤ tl.length ∧ zj = j ∧ zg = N + j ∧ TkC hk g mi W N2 C2 ∧ Rws hk q4 tl ∧ RoSl hk po m 1 (ints .i64 xs) ∧ env = [(14, i64 zj), (9, i64 zg), (12, .sl q4 tl.length), (10, i64 (i : Int)), (2, .sl po m), (1, i64 n), (7, .ptr (some (g, 0))), (0, i64 W)],
        fun env _ => match get env 14 with
          | .int _ z => (tl.length - z).toNat
          | _ => 0, ⟨_, Forget.cons rfl (Forget.cons rfl (Forget.cons rfl (Forget.cons rfl (Forget.cons rfl (Forget.cons rfl (Forget.cons rfl (Forget.cons rfl (Forget.nil _)))))))), 0, _, _, Nat.zero_le _, rfl, (Int.add_zero N).symm, tk, rw4, ro, rfl⟩, ?_⟩
      clear tk rw4 ro m4
      rintro _ hK ⟨j, zj, zg, hj, rfl, rfl, tk, rw4, ro, rfl⟩
      conv => whnf
      refine br_mk (fun hy => ?_) (fun hy => ?_)
      · conv => whnf
        have hy : j < tl.length := by simpa using hy
        obtain ⟨i1, c1, p1, f1, f2, f3⟩ := rw4.cell hy
        have hb : tl[j] = [N + (j : Int), 7] := bd j hy
        rw [hb] at f2 f3
        refine ⟨i1, c1, j, f1, rfl, hy, ?_⟩
        conv => whnf
        refine ⟨_, f2, ?_⟩
        conv => whnf
        refine ⟨i1, c1, j, f1, rfl, hy, ?_⟩
        conv => whnf
        refine ⟨_, f2, ?_⟩
        conv => whnf
        obtain ⟨i2, c2, u1, u2⟩ := slo_get f3.is (j := 0) (by simp)
        obtain ⟨i3, c3, u3, u4⟩ := slo_get f3.is (j := 1) (by simp)
        refine ⟨i2, c2, 0, u1, rfl, by simp, ?_⟩
        conv => whnf
        refine ⟨_, u2, ?_⟩
        conv => whnf
        have hw1 : IntKind.i64.wrap (N + (j : Int)) = N + (j : Int) := wrap_i64 (by omega) (by omega)
        rw [show IntKind.i64.wrap ([N + (j : Int), 7].getD 0 0) = N + (j : Int) from hw1]
        refine br_mk (fun hz => ?_) (fun hz => ?_)
        · exact absurd hz (by simp)
        conv => whnf
        refine ⟨i1, c1, j, f1, rfl, hy, ?_⟩
        conv => whnf
        refine ⟨_, f2, ?_⟩
        conv => whnf
        refine ⟨i3, c3, 1, u3, rfl, by simp, ?_⟩
        conv => whnf
        refine ⟨_, u4, ?_⟩
        conv => whnf
        have hw2 : IntKind.i64.wrap (N + (j : Int) + 1) = N + ((j + 1 : Nat) : Int) := by rw [wrap_i64 (by omega) (by omega)]; omega
        rw [hw2]
        exact ⟨_, Forget.cons rfl (Forget.cons rfl (Forget.cons rfl (Forget.cons rfl (Forget.cons rfl (Forget.cons rfl (Forget.cons rfl (Forget.cons rfl (Forget.nil _)))))))), ⟨j + 1, _, _, hy, succ_i64 hy (by omega), rfl, tk, rw4, ro, rfl⟩, mu_lt hy (by omega)⟩
      conv => whnf
      have hy : j = tl.length := by
        have : ¬ j < tl.length := by simpa using hy
        omega
      subst hy
      refine (next32c tk).mono ?_
      rintro _ hL ⟨eh, rfl⟩
      subst eh
      conv => whnf
      refine br_mk (fun hz => ?_) (fun hz => ?_)
      · exact absurd hz (by simp; omega)
      conv => whnf
      have hcl := oh2.len hW.1
      refine (held34c tk ok oh2 (by omega) (by omega)).mono ?_
      rintro _ hM ⟨qm, rfl, rm, mM⟩
      conv => whnf
      rw [keys_length]
      refine br_mk (fun hz2 => ?_) (fun hz2 => ?_)
      · have hz2 : (C2.length : Int) ≥ W := by simpa using hz2
        omega
      conv => whnf
      rw [← on2]
      refine ⟨_, Forget.cons rfl (Forget.cons rfl (Forget.cons rfl (Forget.cons rfl (Forget.cons rfl (Forget.cons rfl (Forget.nil _)))))), ⟨i + 1, _, N2, C2, by omega, by omega, tk.old mM, oh2, by omega, bn, sv, hfar2 N2 hfar, ro.get mM, rfl⟩, ?_⟩
      show ((m : Int) + n - IntKind.i64.wrap ((i : Int) + 1)).toNat < ((m : Int) + n - (i : Int)).toNat
      rw [hwi]
      omega
  · conv => whnf
    have hx : ¬ (i : Int) < m + n := by simpa using hx
    have hNe : N = n := by omega
    have hC : C = [] := by
      cases C with
      | nil => rfl
      | cons x C =>
        have h1 := (oh.key x.1 (by simp [keys])).1
        have h2 := (sv x (by simp)).2.2
        omega
    subst hC
    refine br_mk (fun hz => ?_) (fun hz => ?_)
    rotate_left
    · exact absurd hz (by simp; exact hNe)
    conv => whnf
    refine (held34c tk ok oh (by omega) (by omega)).mono ?_
    rintro _ hM ⟨qm, rfl, rm, mM⟩
    conv => whnf
    refine (awake26 _).mono ?_
    rintro _ h3 rfl
    conv => whnf
end Go.Proofs.Ytpefdmidfllhoaa
