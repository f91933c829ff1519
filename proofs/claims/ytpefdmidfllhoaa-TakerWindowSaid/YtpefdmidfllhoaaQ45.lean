/- TakerWindow: its walk. -/
import Derived.Test.YtpefdmidfllhoaaQ43
set_option linter.unusedVariables false
namespace Go.Proofs.Ytpefdmidfllhoaa
open Go Go.Ab
theorem wrap_u8_eq (x : Int) : IntKind.u8.wrap x = x % 256 := by simp [IntKind.wrap, IntKind.bits, IntKind.signed]
/-- how many of them come ahead of e -/
def cntL (A : List Int) (e : Int) : Nat := (A.filter fun x => decide (x < e)).length
theorem asc_split {A : List Int} (h : A.Pairwise (· < ·)) (e : Int) : A = (A.filter fun x => decide (x < e)) ++ (A.filter fun x => !decide (x < e)) := by
  induction A with
  | nil => rfl
  | cons a A ih =>
    rw [List.pairwise_cons] at h
    by_cases c : a < e
    · rw [List.filter_cons_of_pos (by simpa using c), List.filter_cons_of_neg (by simpa using c)]
      conv => lhs; rw [ih h.2]
      rfl
    · rw [List.filter_cons_of_neg (by simpa using c), List.filter_cons_of_pos (by simpa using c)]
      have : (A.filter fun x => decide (x < e)) = [] := List.filter_eq_nil_iff.2 (fun x hx => by
        have := h.1 x hx
        simp
        omega)
      have h2 : (A.filter fun x => !decide (x < e)) = A := List.filter_eq_self.2 (fun x hx => by
        have := h.1 x hx
        simp
        omega)
      rw [this, h2]
      rfl
theorem asc_head {A : List Int} (h : A.Pairwise (· < ·)) {e : Int} (he : e ∈ A) : (A.filter fun x => !decide (x < e)) = e :: (A.filter fun x => !decide (x < e + 1)) := by
  refine asc_ext (h.sublist List.filter_sublist) ?_ (fun x => ?_)
  · rw [List.pairwise_cons]
    refine ⟨fun x hx => ?_, h.sublist List.filter_sublist⟩
    have := (List.mem_filter.1 hx).2
    simp at this
    omega
  · simp only [List.mem_filter, List.mem_cons, Bool.not_eq_true', decide_eq_false_iff_not]
    constructor
    · rintro ⟨a, b⟩
      by_cases c : x = e
      · exact .inl c
      · exact .inr ⟨a, by omega⟩
    · rintro (rfl | ⟨a, b⟩)
      · exact ⟨he, by omega⟩
      · exact ⟨a, by omega⟩
theorem asc_miss {A : List Int} {e : Int} (he : e ∉ A) : (A.filter fun x => !decide (x < e)) = (A.filter fun x => !decide (x < e + 1)) :=
  List.filter_congr (fun x hx => by
    have : x ≠ e := fun k => he (k ▸ hx)
    congr 1
    exact decide_eq_decide.2 (by omega))
theorem drop_cnt {A : List Int} (h : A.Pairwise (· < ·)) (e : Int) : A.drop (cntL A e) = A.filter fun x => !decide (x < e) := by
  conv => lhs; rw [asc_split h e]
  rw [cntL, List.drop_left' (by rw [← asc_split h e])]
theorem cnt_in {A : List Int} (h : A.Pairwise (· < ·)) {e : Int} (he : e ∈ A) : cntL A e < A.length ∧ A.getD (cntL A e) 0 = e ∧ cntL A (e + 1) = cntL A e + 1 := by
  have hd := drop_cnt h e
  rw [asc_head h he] at hd
  have hlt : cntL A e < A.length := by
    have := congrArg List.length hd
    rw [List.length_drop, List.length_cons] at this
    omega
  have hd2 := drop_cons' 0 hlt
  rw [hd] at hd2
  injection hd2 with q1 q2
  refine ⟨hlt, q1.symm, ?_⟩
  have hd3 := drop_cnt h (e + 1)
  rw [q2] at hd3
  have hl := congrArg List.length hd3
  rw [List.length_drop, List.length_drop] at hl
  have : cntL A (e + 1) ≤ A.length := List.length_filter_le _ _
  omega
theorem cnt_out {A : List Int} (h : A.Pairwise (· < ·)) {e : Int} (he : e ∉ A) : cntL A (e + 1) = cntL A e := by
  unfold cntL
  rw [List.filter_congr (fun x hx => ?_)]
  have : x ≠ e := fun k => he (k ▸ hx)
  exact decide_eq_decide.2 (by omega)
theorem cnt_all {A : List Int} {e : Int} (h : ∀ x ∈ A, x < e) : cntL A e = A.length := by
  unfold cntL
  rw [List.filter_eq_self.2 (fun x hx => by simpa using h x hx)]
theorem cnt_none {A : List Int} {e : Int} (h : ∀ x ∈ A, e ≤ x) : cntL A e = 0 := by
  unfold cntL
  rw [List.filter_eq_nil_iff.2 (fun x hx => by have := h x hx; simp; omega)]
  rfl
def cm (cms : List (Int × Bool)) (x : Int) : Bool := (sget cms x).getD false
theorem cm_put (cms : List (Int × Bool)) (k x : Int) : cm (sput cms k true) x = if x = k then true else cm cms x := by
  unfold cm
  rw [sput_get]
  by_cases e : x = k
  · rw [if_pos e, if_pos e]; rfl
  · rw [if_neg e, if_neg e]
theorem chn_in {β : Type} : ∀ (N : Int) (C : List (Int × β)), (∀ x, N ≤ x → x < (chn N C).2.1 → x ∈ keys C) ∧ (∀ x, (chn N C).2.1 ≤ x → (x ∈ keys C ↔ x ∈ keys (chn N C).2.2))
  | N, [] => ⟨fun x h1 h2 => by simp [chn] at h2; omega, fun x _ => Iff.rfl⟩
  | N, p :: C => by
    by_cases h : p.1 = N
    · have hc : chn N (p :: C) = (p.2 :: (chn (N + 1) C).1, (chn (N + 1) C).2) := by rw [chn, if_pos h]
      have hl := (chn_len (N + 1) C).2.1
      obtain ⟨i1, i2⟩ := chn_in (N + 1) C
      rw [hc]
      have hk : ∀ x, x ∈ keys (p :: C) ↔ x = p.1 ∨ x ∈ keys C := fun x => by unfold keys; rw [List.map_cons, List.mem_cons]
      refine ⟨fun x h1 h2 => ?_, fun x h1 => ?_⟩
      · rw [hk]
        by_cases e : x = N
        · exact .inl (by omega)
        · exact .inr (i1 x (by omega) h2)
      · rw [hk]
        have h1 : (chn (N + 1) C).2.1 ≤ x := h1
        have := i2 x h1
        refine ⟨fun q => ?_, fun q => .inr (this.2 q)⟩
        rcases q with q | q
        · omega
        · exact this.1 q
    · have hc : chn N (p :: C) = ([], N, p :: C) := by rw [chn, if_neg h]
      rw [hc]
      exact ⟨fun x h1 h2 => by have h2 : x < N := h2; omega, fun x _ => Iff.rfl⟩
theorem tk_came {W N : Int} {C : Hd} (o : OkH W N C) {cms : List (Int × Bool)} (hc : ∀ x, N ≤ x → cm cms x = decide (x ∈ keys C)) (k : Int) (body : List Int) :
    (∀ x, N ≤ x → x < (tkV W N C k body).2.2.1 → cm (if mayC W N k C then sput cms k true else cms) x = true) ∧ (∀ x, (tkV W N C k body).2.2.1 ≤ x → cm (if mayC W N k C then sput cms k true else cms) x = decide (x ∈ keys (tkV W N C k body).2.2.2)) := by
  unfold tkV
  by_cases hm : mayC W N k C = true
  · rw [if_pos hm, if_pos hm]
    simp only [mayC, Bool.and_eq_true, decide_eq_true_eq] at hm
    obtain ⟨i1, i2⟩ := chn_in N (insS C k body)
    have hl := (chn_len N (insS C k body)).2.1
    have hk : ∀ x, N ≤ x → cm (sput cms k true) x = decide (x ∈ keys (insS C k body)) := fun x hx => by
      rw [cm_put]
      have g := insS_get o.asc k body x
      by_cases e : x = k
      · rw [if_pos e] at g ⊢
        have : x ∈ keys (insS C k body) := Decidable.by_contra (fun q => by rw [sget_none.2 q] at g; cases g)
        exact (decide_eq_true this).symm
      · rw [if_neg e] at g ⊢
        rw [hc x hx]
        refine decide_eq_decide.2 ?_
        refine Decidable.not_iff_not.1 ?_
        rw [← sget_none, ← sget_none, g]
    refine ⟨fun x h1 h2 => ?_, fun x h1 => ?_⟩
    · rw [hk x h1]
      exact decide_eq_true (i1 x h1 h2)
    · have h1 : (chn N (insS C k body)).2.1 ≤ x := h1
      rw [hk x (by omega)]
      exact decide_eq_decide.2 (i2 x h1)
  · rw [if_neg hm, if_neg hm]
    exact ⟨fun x h1 h2 => by have h2 : x < N := h2; omega, hc⟩
theorem may_cm {W N : Int} {C : Hd} {cms : List (Int × Bool)} (hc : ∀ x, N ≤ x → cm cms x = decide (x ∈ keys C)) {k : Int} (h1 : N ≤ k) (h2 : k < N + W) : mayC W N k C = !cm cms k := by
  rw [mayC, decide_eq_true h1, decide_eq_true h2, hc k h1]
  cases e : sget C k with
  | none => rw [decide_eq_false (sget_none.1 e)]; rfl
  | some v =>
    have : k ∈ keys C := Decidable.by_contra (fun q => by rw [sget_none.2 q] at e; cases e)
    rw [decide_eq_true this]
    rfl
theorem may_lo {W N k : Int} {C : Hd} (h : ¬ N ≤ k) : mayC W N k C = false := by rw [mayC, decide_eq_false h]; rfl
theorem may_hi {W N k : Int} {C : Hd} (h : ¬ k < N + W) : mayC W N k C = false := by rw [mayC, decide_eq_false h, Bool.and_false]; rfl
def CmB (h : H) (ci : Nat) (cms : List (Int × Bool)) : Prop := h.obj ci = some (.map true (mpE .i64 (encM V.bool cms)))
theorem cm_get (cms : List (Int × Bool)) (x : Int) : (mget (encM V.bool cms) x).getD (.bool false) = .bool (cm cms x) := by
  rw [mget_enc, cm]
  cases sget cms x <;> rfl
theorem cm_look (cms : List (Int × Bool)) (x : Int) : lookV false ((mget (encM V.bool cms) x).getD (T.at_ 4).zero) (mget (encM V.bool cms) x).isSome = .bool (cm cms x) := cm_get cms x
set_option maxHeartbeats 1000000 in
theorem window8 {h : H} {po : Option (Nat × Nat)} {m : Nat} {xs : List Int} (ro : RoSl h po m 1 (ints .i64 xs)) (W : Int) : ACalls Try.prog 8 [i64 W, .sl po m] h (fun r _ => r = .bool true) := by
  have hm := slo_len ro.is
  refine call_ Try.func8 rfl rfl (by kernel_rfl) ?_
  conv => whnf
  refine br_mk (fun ha => ?_) (fun ha => ?_)
  · conv => whnf
    refine (awake26 h).mono ?_
    rintro _ h1 rfl
    conv => whnf
  conv => whnf
  have ha : ¬ W < 1 := by simpa using ha
  refine br_mk (fun hb => ?_) (fun hb => ?_)
  · conv => whnf
    refine (awake26 h).mono ?_
    rintro _ h1 rfl
    conv => whnf
  conv => whnf
  have hb : ¬ W > 16 := by simpa using hb
  refine br_mk (fun he => ?_) (fun he => ?_)
  · conv => whnf
    refine (awake26 h).mono ?_
    rintro _ h1 rfl
    conv => whnf
  conv => whnf
  have he : m ≤ 100 := by
    have : ¬ (m : Int) > 100 := by simpa using he
    omega
  have hW : 1 ≤ W ∧ W ≤ 16 := by omega
  have ok : okW W = true := by rw [okW, decide_eq_true hW.1, decide_eq_true hW.2]; rfl
  refine (new27 h W).mono ?_
  rintro _ h1 q
  obtain ⟨g, mi, rfl, s1, _, _, m1⟩ := newK_yes q ok
  clear q
  have tk : TkC h1 g mi W 0 [] := ⟨[], s1, rfl⟩
  have ro := ro.get m1
  conv => whnf
  refine ⟨_, rfl, ?_⟩
  conv => whnf
  refine ⟨_, rfl, ?_⟩
  conv => whnf
  refine ⟨fun env hh => ∃ (i : Nat) (zi N : Int) (C : Hd) (cms : List (Int × Bool)), i ≤ m ∧ zi = i ∧ TkC hh g mi W N C ∧ OkH W N C ∧ 0 ≤ N ∧ N ≤ 16 * i ∧ CmB hh h1.next cms ∧ (∀ x, N ≤ x → cm cms x = decide (x ∈ keys C)) ∧ RoSl hh po m 1 (ints .i64 xs) ∧ env = [(8, i64 zi), (7, .mp (some h1.next)), (1, .sl po m), (5, .ptr (some (g, 0))), (0, i64 W)],
    fun env _ => match get env 8 with
      | .int _ z => (m - z).toNat
      | _ => 0, ⟨_, Forget.cons rfl (Forget.cons rfl (Forget.cons rfl (Forget.cons rfl (Forget.cons rfl (Forget.nil _))))), 0, _, 0, [], [], Nat.zero_le _, rfl, tk.old (Mod.push none_ h1 _), OkH.nil _ _, by omega, by omega, H.obj_push_new _ _, (fun x _ => rfl), ro.get (Mod.push none_ h1 _), rfl⟩, ?_⟩
  have hg := tk.lt.1
  have hmi := tk.lt.2
  generalize h1.next = ci at hg hmi ⊢
  clear tk ro s1 m1
  rintro _ hh ⟨i, zi, N, C, cms, hi, rfl, tk, oh, hN0, hN1, cb, hc, ro, rfl⟩
  conv => whnf
  refine br_mk (fun hx => ?_) (fun hx => ?_)
  rotate_left
  · conv => whnf
    refine (awake26 _).mono ?_
    rintro _ h3 rfl
    conv => whnf
  conv => whnf
  have hx : i < m := by simpa using hx
  refine (next32c tk).mono ?_
  rintro _ hR ⟨eh, rfl⟩
  subst eh
  conv => whnf
  obtain ⟨i1, c1, f1, f2⟩ := slo_get ro.is hx
  refine ⟨i1, c1, i, f1, rfl, hx, ?_⟩
  conv => whnf
  refine ⟨_, f2, ?_⟩
  conv => whnf
  have hw4 : IntKind.i64.wrap (W + 4) = W + 4 := wrap_i64 (by omega) (by omega)
  rw [hw4]
  refine (round19 (m := W + 4) (by omega) (by omega) (xs.getD i 0) _).mono ?_
  rintro _ hR2 ⟨eh, rfl⟩
  subst eh
  have k0 := Int.emod_nonneg (xs.getD i 0) (show W + 4 ≠ 0 by omega)
  have k1 := Int.emod_lt_of_pos (xs.getD i 0) (show 0 < W + 4 by omega)
  obtain ⟨kk, hkk⟩ : ∃ kk, kk = N - 2 + xs.getD i 0 % (W + 4) := ⟨_, rfl⟩
  conv => whnf
  have hww : IntKind.i64.wrap (IntKind.i64.wrap (N - 2) + xs.getD i 0 % (W + 4)) = kk := by
    have hw2 : IntKind.i64.wrap (N - 2) = N - 2 := wrap_i64 (by omega) (by omega)
    rw [hw2, wrap_i64 (by omega) (by omega)]
    exact hkk.symm
  rw [hww]
  obtain ⟨lr, nr⟩ := laid_oct hR2 [IntKind.u8.wrap kk]
  refine (take29c (tk.old nr) ok oh (by omega) (by omega) (seq := kk) (i64_in (by omega) (by omega)) lr (by simp)).mono ?_
  rintro _ h4 ⟨q4, rfl, rw4, tk, m4⟩
  have ro := (ro.get nr).get m4
  have cb : CmB h4 ci cms := m4.get (nr.get cb (.inl (fun k => k))) (.inl (fun k => k.elim (by omega) (by omega)))
  obtain ⟨oh2, on1, on2, on3⟩ := oh.take hW.1 kk [IntKind.u8.wrap kk]
  have hv1 : (tkV W N C kk [IntKind.u8.wrap kk]).1 = mayC W N kk C := by
    unfold tkV
    by_cases e : mayC W N kk C = true
    · rw [if_pos e, e]
    · rw [if_neg e]
      exact ((Bool.not_eq_true _).mp e).symm
  have hv2 : mayC W N kk C = false → (tkV W N C kk [IntKind.u8.wrap kk]).2.1.length = 0 := fun e => by
    unfold tkV
    rw [if_neg (by rw [e]; simp)]
    rfl
  obtain ⟨ca, cc⟩ := tk_came oh hc kk [IntKind.u8.wrap kk]
  generalize tkV W N C kk [IntKind.u8.wrap kk] = tv at rw4 tk oh2 on1 on2 on3 hv1 hv2 ca cc ⊢
  obtain ⟨tb, tl, N2, C2⟩ := tv
  replace on1 : N ≤ N2 := on1
  replace on2 : N2 = N + tl.length := on2
  replace on3 : (tl.length : Int) ≤ W := on3
  replace oh2 : OkH W N2 C2 := oh2
  replace rw4 : Rws h4 q4 tl := rw4
  replace tk : TkC h4 g mi W N2 C2 := tk
  replace hv1 : tb = mayC W N kk C := hv1
  replace hv2 : mayC W N kk C = false → tl.length = 0 := hv2
  replace ca : ∀ x, N ≤ x → x < N2 → cm (if mayC W N kk C then sput cms kk true else cms) x = true := ca
  replace cc : ∀ x, N2 ≤ x → cm (if mayC W N kk C then sput cms kk true else cms) x = decide (x ∈ keys C2) := cc
  subst hv1
  conv => whnf
  refine ⟨_, rfl, ?_⟩
  conv => whnf
  refine ⟨_, rfl, ?_⟩
  conv => whnf
  refine br_mk (fun hL => ?_) (fun hL => ?_)
  rotate_left
  · have hL : ¬ N ≤ kk := by simpa using hL
    have hmay : mayC W N kk C = false := may_lo hL
    have hlen := hv2 hmay
    rw [hmay]
    simp only [hmay, Bool.false_eq_true, if_false] at ca cc
    conv => whnf
    refine br_mk (fun hz => ?_) (fun hz => ?_)
    · have hlen : tl.length = 0 := hlen
      exact absurd hz (by rw [show ((mayC W N kk C, tl, N2, C2) : Bool × List (List Int) × Int × Hd).2.1.length = tl.length from rfl, hlen]; decide)
    conv => whnf
    obtain ⟨cms2, hcms2⟩ : ∃ c, c = cms := ⟨_, rfl⟩
    rw [← hcms2] at ca cc cb
    refine ⟨fun env hk => ∃ (z : Int), N ≤ z ∧ z ≤ N2 ∧ hk = h4 ∧ env = [(9, i64 z), (7, .mp (some ci)), (1, .sl po m), (5, .ptr (some (g, 0))), (8, i64 (i : Int)), (0, i64 W)],
      fun env _ => match get env 9 with
        | .int _ z => (N2 - z).toNat
        | _ => 0, ⟨_, Forget.cons rfl (Forget.cons rfl (Forget.cons rfl (Forget.cons rfl (Forget.cons rfl (Forget.cons rfl (Forget.nil _)))))), N, Int.le_refl _, on1, rfl, rfl⟩, ?_⟩
    rintro _ hK ⟨z, hz1, hz2, eh, rfl⟩
    subst eh
    conv => whnf
    refine ⟨true, encM V.bool cms2, cb, ?_⟩
    rw [cm_look]
    conv => whnf
    cases hzc : cm cms2 z with
    | true =>
      conv => whnf
      have hlt : z < N2 := by
        refine Decidable.by_contra (fun k => ?_)
        have e : z = N2 := by omega
        have hno : ¬ N2 ∈ keys C2 := fun hm => by
          have := (oh2.key N2 hm).1
          omega
        rw [cc z (by omega), e] at hzc
        have hzc : decide (N2 ∈ keys C2) = true := hzc
        rw [decide_eq_false hno] at hzc
        cases hzc
      have hw1 : IntKind.i64.wrap (z + 1) = z + 1 := wrap_i64 (by omega) (by omega)
      rw [hw1]
      refine ⟨_, Forget.cons rfl (Forget.cons rfl (Forget.cons rfl (Forget.cons rfl (Forget.cons rfl (Forget.cons rfl (Forget.nil _)))))), ⟨z + 1, by omega, by omega, rfl, rfl⟩, ?_⟩
      show (N2 - (z + 1)).toNat < (N2 - z).toNat
      omega
    | false =>
    have hz : z = N2 := by
      refine Decidable.by_contra (fun k => ?_)
      rw [ca z hz1 (by omega)] at hzc
      cases hzc
    subst hz
    conv => whnf
    have hcl := oh2.len hW.1
    refine (held34c tk ok oh2 (by omega) (by omega)).mono ?_
    rintro _ h5 ⟨q5, rfl, rk, m5⟩
    have tk := tk.old m5
    have ro := ro.get m5
    have cb : CmB h5 ci cms2 := m5.get cb (.inl (fun k => k))
    conv => whnf
    obtain ⟨A, hA⟩ : ∃ A, A = keys C2 := ⟨_, rfl⟩
    have hAs : A.Pairwise (· < ·) := by rw [hA]; exact oh2.asc
    have hAk : ∀ x ∈ A, z < x ∧ x < z + W := by rw [hA]; exact oh2.key
    have hcA : ∀ x, z ≤ x → cm cms2 x = decide (x ∈ A) := by rw [hA]; exact cc
    have hAl : (A.length : Int) ≤ 16 := by rw [hA, keys_length]; omega
    have rk : RoSl h5 q5 A.length 1 (ints .i64 A) := by rw [hA]; exact rk
    rw [show keys ((mayC W N kk C, tl, z, C2) : Bool × List (List Int) × Int × Hd).2.2.2 = A from hA.symm]
    have hwW : IntKind.i64.wrap (z + W) = z + W := wrap_i64 (by omega) (by omega)
    have hc0 : (0 : Int) = cntL A z := by
      rw [cnt_none (e := z) (fun x hx => by have := (hAk x hx).1; omega)]
      rfl
    refine ⟨fun env hk => ∃ (y c : Int), z ≤ y ∧ y ≤ z + W ∧ c = cntL A y ∧ hk = h5 ∧ env = [(16, i64 y), (15, i64 c), (14, .sl q5 A.length), (9, i64 z), (7, .mp (some ci)), (1, .sl po m), (5, .ptr (some (g, 0))), (8, i64 (i : Int)), (0, i64 W)],
      fun env _ => match get env 16 with
        | .int _ y => (z + W - y).toNat
        | _ => 0, ⟨_, Forget.cons rfl (Forget.cons rfl (Forget.cons rfl (Forget.cons rfl (Forget.cons rfl (Forget.cons rfl (Forget.cons rfl (Forget.cons rfl (Forget.cons rfl (Forget.nil _))))))))), z, _, Int.le_refl _, by omega, hc0, rfl, rfl⟩, ?_⟩
    rintro _ hM ⟨y, _, hy1, hy2, rfl, eh, rfl⟩
    subst eh
    conv => whnf
    rw [hwW]
    refine br_mk (fun hy => ?_) (fun hy => ?_)
    · have hy : y < z + W := by simpa using hy
      have hw1 : IntKind.i64.wrap (y + 1) = y + 1 := wrap_i64 (by omega) (by omega)
      conv => whnf
      refine ⟨true, encM V.bool cms2, cb, ?_⟩
      rw [cm_look]
      conv => whnf
      have hcy := hcA y hy1
      cases hyc : cm cms2 y with
      | false =>
        conv => whnf
        rw [hw1]
        rw [hyc] at hcy
        have hno : ¬ y ∈ A := fun k => by rw [decide_eq_true k] at hcy; cases hcy
        refine ⟨_, Forget.cons rfl (Forget.cons rfl (Forget.cons rfl (Forget.cons rfl (Forget.cons rfl (Forget.cons rfl (Forget.cons rfl (Forget.cons rfl (Forget.cons rfl (Forget.nil _))))))))), ⟨y + 1, _, by omega, by omega, congrArg Int.ofNat (cnt_out hAs hno).symm, rfl, rfl⟩, ?_⟩
        show (z + W - (y + 1)).toNat < (z + W - y).toNat
        omega
      | true =>
      rw [hyc] at hcy
      have hin : y ∈ A := of_decide_eq_true hcy.symm
      obtain ⟨n1, n2, n3⟩ := cnt_in hAs hin
      conv => whnf
      refine br_mk (fun hb => ?_) (fun hb => ?_)
      · have hb : cntL A y ≥ A.length := by simpa using hb
        omega
      conv => whnf
      obtain ⟨i9, c9, w1, w2⟩ := slo_get rk.is n1
      refine ⟨i9, c9, cntL A y, w1, rfl, n1, ?_⟩
      conv => whnf
      refine ⟨_, w2, ?_⟩
      rw [n2]
      conv => whnf
      refine br_mk (fun hb => ?_) (fun hb => ?_)
      · exact absurd hb (by simp)
      conv => whnf
      have hwc : IntKind.i64.wrap ((cntL A y : Int) + 1) = ((cntL A y + 1 : Nat) : Int) := by rw [wrap_i64 (by omega) (by omega)]; omega
      rw [hwc, hw1]
      refine ⟨_, Forget.cons rfl (Forget.cons rfl (Forget.cons rfl (Forget.cons rfl (Forget.cons rfl (Forget.cons rfl (Forget.cons rfl (Forget.cons rfl (Forget.cons rfl (Forget.nil _))))))))), ⟨y + 1, _, by omega, by omega, congrArg Int.ofNat n3.symm, rfl, rfl⟩, ?_⟩
      show (z + W - (y + 1)).toNat < (z + W - y).toNat
      omega
    have hy : y = z + W := by
      have : ¬ y < z + W := by simpa using hy
      omega
    subst hy
    have hall : cntL A (z + W) = A.length := cnt_all (fun x hx => (hAk x hx).2)
    rw [hall]
    conv => whnf
    refine (next32c tk).mono ?_
    rintro _ h6 ⟨eh, rfl⟩
    subst eh
    conv => whnf
    refine br_mk (fun hb => ?_) (fun hb => ?_)
    · exact absurd hb (by simp)
    conv => whnf
    refine br_mk (fun hb => ?_) (fun hb => ?_)
    · exact absurd hb (by simp)
    conv => whnf
    have hwi : IntKind.i64.wrap ((i : Int) + 1) = ((i + 1 : Nat) : Int) := by rw [wrap_i64 (by omega) (by omega)]; omega
    rw [hwi]
    refine ⟨_, Forget.cons rfl (Forget.cons rfl (Forget.cons rfl (Forget.cons rfl (Forget.cons rfl (Forget.nil _))))), ⟨i + 1, _, z, C2, cms2, by omega, rfl, tk, oh2, by omega, by omega, cb, cc, ro, rfl⟩, ?_⟩
    show ((m : Int) - ((i + 1 : Nat) : Int)).toNat < ((m : Int) - (i : Int)).toNat
    omega
  have hL : N ≤ kk := by simpa using hL
  conv => whnf
  have hwn : IntKind.i64.wrap (N + W) = N + W := wrap_i64 (by omega) (by omega)
  rw [hwn]
  refine br_mk (fun hH => ?_) (fun hH => ?_)
  rotate_left
  · have hH : ¬ kk < N + W := by simpa using hH
    have hmay : mayC W N kk C = false := may_hi hH
    have hlen := hv2 hmay
    rw [hmay]
    simp only [hmay, Bool.false_eq_true, if_false] at ca cc
    conv => whnf
    refine br_mk (fun hz => ?_) (fun hz => ?_)
    · have hlen : tl.length = 0 := hlen
      exact absurd hz (by rw [show ((mayC W N kk C, tl, N2, C2) : Bool × List (List Int) × Int × Hd).2.1.length = tl.length from rfl, hlen]; decide)
    conv => whnf
    obtain ⟨cms2, hcms2⟩ : ∃ c, c = cms := ⟨_, rfl⟩
    rw [← hcms2] at ca cc cb
    refine ⟨fun env hk => ∃ (z : Int), N ≤ z ∧ z ≤ N2 ∧ hk = h4 ∧ env = [(9, i64 z), (7, .mp (some ci)), (1, .sl po m), (5, .ptr (some (g, 0))), (8, i64 (i : Int)), (0, i64 W)],
      fun env _ => match get env 9 with
        | .int _ z => (N2 - z).toNat
        | _ => 0, ⟨_, Forget.cons rfl (Forget.cons rfl (Forget.cons rfl (Forget.cons rfl (Forget.cons rfl (Forget.cons rfl (Forget.nil _)))))), N, Int.le_refl _, on1, rfl, rfl⟩, ?_⟩
    rintro _ hK ⟨z, hz1, hz2, eh, rfl⟩
    subst eh
    conv => whnf
    refine ⟨true, encM V.bool cms2, cb, ?_⟩
    rw [cm_look]
    conv => whnf
    cases hzc : cm cms2 z with
    | true =>
      conv => whnf
      have hlt : z < N2 := by
        refine Decidable.by_contra (fun k => ?_)
        have e : z = N2 := by omega
        have hno : ¬ N2 ∈ keys C2 := fun hm => by
          have := (oh2.key N2 hm).1
          omega
        rw [cc z (by omega), e] at hzc
        have hzc : decide (N2 ∈ keys C2) = true := hzc
        rw [decide_eq_false hno] at hzc
        cases hzc
      have hw1 : IntKind.i64.wrap (z + 1) = z + 1 := wrap_i64 (by omega) (by omega)
      rw [hw1]
      refine ⟨_, Forget.cons rfl (Forget.cons rfl (Forget.cons rfl (Forget.cons rfl (Forget.cons rfl (Forget.cons rfl (Forget.nil _)))))), ⟨z + 1, by omega, by omega, rfl, rfl⟩, ?_⟩
      show (N2 - (z + 1)).toNat < (N2 - z).toNat
      omega
    | false =>
    have hz : z = N2 := by
      refine Decidable.by_contra (fun k => ?_)
      rw [ca z hz1 (by omega)] at hzc
      cases hzc
    subst hz
    conv => whnf
    have hcl := oh2.len hW.1
    refine (held34c tk ok oh2 (by omega) (by omega)).mono ?_
    rintro _ h5 ⟨q5, rfl, rk, m5⟩
    have tk := tk.old m5
    have ro := ro.get m5
    have cb : CmB h5 ci cms2 := m5.get cb (.inl (fun k => k))
    conv => whnf
    obtain ⟨A, hA⟩ : ∃ A, A = keys C2 := ⟨_, rfl⟩
    have hAs : A.Pairwise (· < ·) := by rw [hA]; exact oh2.asc
    have hAk : ∀ x ∈ A, z < x ∧ x < z + W := by rw [hA]; exact oh2.key
    have hcA : ∀ x, z ≤ x → cm cms2 x = decide (x ∈ A) := by rw [hA]; exact cc
    have hAl : (A.length : Int) ≤ 16 := by rw [hA, keys_length]; omega
    have rk : RoSl h5 q5 A.length 1 (ints .i64 A) := by rw [hA]; exact rk
    rw [show keys ((mayC W N kk C, tl, z, C2) : Bool × List (List Int) × Int × Hd).2.2.2 = A from hA.symm]
    have hwW : IntKind.i64.wrap (z + W) = z + W := wrap_i64 (by omega) (by omega)
    have hc0 : (0 : Int) = cntL A z := by
      rw [cnt_none (e := z) (fun x hx => by have := (hAk x hx).1; omega)]
      rfl
    refine ⟨fun env hk => ∃ (y c : Int), z ≤ y ∧ y ≤ z + W ∧ c = cntL A y ∧ hk = h5 ∧ env = [(16, i64 y), (15, i64 c), (14, .sl q5 A.length), (9, i64 z), (7, .mp (some ci)), (1, .sl po m), (5, .ptr (some (g, 0))), (8, i64 (i : Int)), (0, i64 W)],
      fun env _ => match get env 16 with
        | .int _ y => (z + W - y).toNat
        | _ => 0, ⟨_, Forget.cons rfl (Forget.cons rfl (Forget.cons rfl (Forget.cons rfl (Forget.cons rfl (Forget.cons rfl (Forget.cons rfl (Forget.cons rfl (Forget.cons rfl (Forget.nil _))))))))), z, _, Int.le_refl _, by omega, hc0, rfl, rfl⟩, ?_⟩
    rintro _ hM ⟨y, _, hy1, hy2, rfl, eh, rfl⟩
    subst eh
    conv => whnf
    rw [hwW]
    refine br_mk (fun hy => ?_) (fun hy => ?_)
    · have hy : y < z + W := by simpa using hy
      have hw1 : IntKind.i64.wrap (y + 1) = y + 1 := wrap_i64 (by omega) (by omega)
      conv => whnf
      refine ⟨true, encM V.bool cms2, cb, ?_⟩
      rw [cm_look]
      conv => whnf
      have hcy := hcA y hy1
      cases hyc : cm cms2 y with
      | false =>
        conv => whnf
        rw [hw1]
        rw [hyc] at hcy
        have hno : ¬ y ∈ A := fun k => by rw [decide_eq_true k] at hcy; cases hcy
        refine ⟨_, Forget.cons rfl (Forget.cons rfl (Forget.cons rfl (Forget.cons rfl (Forget.cons rfl (Forget.cons rfl (Forget.cons rfl (Forget.cons rfl (Forget.cons rfl (Forget.nil _))))))))), ⟨y + 1, _, by omega, by omega, congrArg Int.ofNat (cnt_out hAs hno).symm, rfl, rfl⟩, ?_⟩
        show (z + W - (y + 1)).toNat < (z + W - y).toNat
        omega
      | true =>
      rw [hyc] at hcy
      have hin : y ∈ A := of_decide_eq_true hcy.symm
      obtain ⟨n1, n2, n3⟩ := cnt_in hAs hin
      conv => whnf
      refine br_mk (fun hb => ?_) (fun hb => ?_)
      · have hb : cntL A y ≥ A.length := by simpa using hb
        omega
      conv => whnf
      obtain ⟨i9, c9, w1, w2⟩ := slo_get rk.is n1
      refine ⟨i9, c9, cntL A y, w1, rfl, n1, ?_⟩
      conv => whnf
      refine ⟨_, w2, ?_⟩
      rw [n2]
      conv => whnf
      refine br_mk (fun hb => ?_) (fun hb => ?_)
      · exact absurd hb (by simp)
      conv => whnf
      have hwc : IntKind.i64.wrap ((cntL A y : Int) + 1) = ((cntL A y + 1 : Nat) : Int) := by rw [wrap_i64 (by omega) (by omega)]; omega
      rw [hwc, hw1]
      refine ⟨_, Forget.cons rfl (Forget.cons rfl (Forget.cons rfl (Forget.cons rfl (Forget.cons rfl (Forget.cons rfl (Forget.cons rfl (Forget.cons rfl (Forget.cons rfl (Forget.nil _))))))))), ⟨y + 1, _, by omega, by omega, congrArg Int.ofNat n3.symm, rfl, rfl⟩, ?_⟩
      show (z + W - (y + 1)).toNat < (z + W - y).toNat
      omega
    have hy : y = z + W := by
      have : ¬ y < z + W := by simpa using hy
      omega
    subst hy
    have hall : cntL A (z + W) = A.length := cnt_all (fun x hx => (hAk x hx).2)
    rw [hall]
    conv => whnf
    refine (next32c tk).mono ?_
    rintro _ h6 ⟨eh, rfl⟩
    subst eh
    conv => whnf
    refine br_mk (fun hb => ?_) (fun hb => ?_)
    · exact absurd hb (by simp)
    conv => whnf
    refine br_mk (fun hb => ?_) (fun hb => ?_)
    · exact absurd hb (by simp)
    conv => whnf
    have hwi : IntKind.i64.wrap ((i : Int) + 1) = ((i + 1 : Nat) : Int) := by rw [wrap_i64 (by omega) (by omega)]; omega
    rw [hwi]
    refine ⟨_, Forget.cons rfl (Forget.cons rfl (Forget.cons rfl (Forget.cons rfl (Forget.cons rfl (Forget.nil _))))), ⟨i + 1, _, z, C2, cms2, by omega, rfl, tk, oh2, by omega, by omega, cb, cc, ro, rfl⟩, ?_⟩
    show ((m : Int) - ((i + 1 : Nat) : Int)).toNat < ((m : Int) - (i : Int)).toNat
    omega
  have hH : kk < N + W := by simpa using hH
  conv => whnf
  refine ⟨true, encM V.bool cms, cb, ?_⟩
  rw [cm_look]
  have hmc := may_cm hc hL hH
  conv => whnf
  cases hq : cm cms kk with
  | true =>
    have hmay : mayC W N kk C = false := by rw [hmc, hq]; rfl
    have hlen := hv2 hmay
    rw [hmay]
    simp only [hmay, Bool.false_eq_true, if_false] at ca cc
    conv => whnf
    refine br_mk (fun hz => ?_) (fun hz => ?_)
    · have hlen : tl.length = 0 := hlen
      exact absurd hz (by rw [show ((mayC W N kk C, tl, N2, C2) : Bool × List (List Int) × Int × Hd).2.1.length = tl.length from rfl, hlen]; decide)
    conv => whnf
    obtain ⟨cms2, hcms2⟩ : ∃ c, c = cms := ⟨_, rfl⟩
    rw [← hcms2] at ca cc cb
    refine ⟨fun env hk => ∃ (z : Int), N ≤ z ∧ z ≤ N2 ∧ hk = h4 ∧ env = [(9, i64 z), (7, .mp (some ci)), (1, .sl po m), (5, .ptr (some (g, 0))), (8, i64 (i : Int)), (0, i64 W)],
      fun env _ => match get env 9 with
        | .int _ z => (N2 - z).toNat
        | _ => 0, ⟨_, Forget.cons rfl (Forget.cons rfl (Forget.cons rfl (Forget.cons rfl (Forget.cons rfl (Forget.cons rfl (Forget.nil _)))))), N, Int.le_refl _, on1, rfl, rfl⟩, ?_⟩
    rintro _ hK ⟨z, hz1, hz2, eh, rfl⟩
    subst eh
    conv => whnf
    refine ⟨true, encM V.bool cms2, cb, ?_⟩
    rw [cm_look]
    conv => whnf
    cases hzc : cm cms2 z with
    | true =>
      conv => whnf
      have hlt : z < N2 := by
        refine Decidable.by_contra (fun k => ?_)
        have e : z = N2 := by omega
        have hno : ¬ N2 ∈ keys C2 := fun hm => by
          have := (oh2.key N2 hm).1
          omega
        rw [cc z (by omega), e] at hzc
        have hzc : decide (N2 ∈ keys C2) = true := hzc
        rw [decide_eq_false hno] at hzc
        cases hzc
      have hw1 : IntKind.i64.wrap (z + 1) = z + 1 := wrap_i64 (by omega) (by omega)
      rw [hw1]
      refine ⟨_, Forget.cons rfl (Forget.cons rfl (Forget.cons rfl (Forget.cons rfl (Forget.cons rfl (Forget.cons rfl (Forget.nil _)))))), ⟨z + 1, by omega, by omega, rfl, rfl⟩, ?_⟩
      show (N2 - (z + 1)).toNat < (N2 - z).toNat
      omega
    | false =>
    have hz : z = N2 := by
      refine Decidable.by_contra (fun k => ?_)
      rw [ca z hz1 (by omega)] at hzc
      cases hzc
    subst hz
    conv => whnf
    have hcl := oh2.len hW.1
    refine (held34c tk ok oh2 (by omega) (by omega)).mono ?_
    rintro _ h5 ⟨q5, rfl, rk, m5⟩
    have tk := tk.old m5
    have ro := ro.get m5
    have cb : CmB h5 ci cms2 := m5.get cb (.inl (fun k => k))
    conv => whnf
    obtain ⟨A, hA⟩ : ∃ A, A = keys C2 := ⟨_, rfl⟩
    have hAs : A.Pairwise (· < ·) := by rw [hA]; exact oh2.asc
    have hAk : ∀ x ∈ A, z < x ∧ x < z + W := by rw [hA]; exact oh2.key
    have hcA : ∀ x, z ≤ x → cm cms2 x = decide (x ∈ A) := by rw [hA]; exact cc
    have hAl : (A.length : Int) ≤ 16 := by rw [hA, keys_length]; omega
    have rk : RoSl h5 q5 A.length 1 (ints .i64 A) := by rw [hA]; exact rk
    rw [show keys ((mayC W N kk C, tl, z, C2) : Bool × List (List Int) × Int × Hd).2.2.2 = A from hA.symm]
    have hwW : IntKind.i64.wrap (z + W) = z + W := wrap_i64 (by omega) (by omega)
    have hc0 : (0 : Int) = cntL A z := by
      rw [cnt_none (e := z) (fun x hx => by have := (hAk x hx).1; omega)]
      rfl
    refine ⟨fun env hk => ∃ (y c : Int), z ≤ y ∧ y ≤ z + W ∧ c = cntL A y ∧ hk = h5 ∧ env = [(16, i64 y), (15, i64 c), (14, .sl q5 A.length), (9, i64 z), (7, .mp (some ci)), (1, .sl po m), (5, .ptr (some (g, 0))), (8, i64 (i : Int)), (0, i64 W)],
      fun env _ => match get env 16 with
        | .int _ y => (z + W - y).toNat
        | _ => 0, ⟨_, Forget.cons rfl (Forget.cons rfl (Forget.cons rfl (Forget.cons rfl (Forget.cons rfl (Forget.cons rfl (Forget.cons rfl (Forget.cons rfl (Forget.cons rfl (Forget.nil _))))))))), z, _, Int.le_refl _, by omega, hc0, rfl, rfl⟩, ?_⟩
    rintro _ hM ⟨y, _, hy1, hy2, rfl, eh, rfl⟩
    subst eh
    conv => whnf
    rw [hwW]
    refine br_mk (fun hy => ?_) (fun hy => ?_)
    · have hy : y < z + W := by simpa using hy
      have hw1 : IntKind.i64.wrap (y + 1) = y + 1 := wrap_i64 (by omega) (by omega)
      conv => whnf
      refine ⟨true, encM V.bool cms2, cb, ?_⟩
      rw [cm_look]
      conv => whnf
      have hcy := hcA y hy1
      cases hyc : cm cms2 y with
      | false =>
        conv => whnf
        rw [hw1]
        rw [hyc] at hcy
        have hno : ¬ y ∈ A := fun k => by rw [decide_eq_true k] at hcy; cases hcy
        refine ⟨_, Forget.cons rfl (Forget.cons rfl (Forget.cons rfl (Forget.cons rfl (Forget.cons rfl (Forget.cons rfl (Forget.cons rfl (Forget.cons rfl (Forget.cons rfl (Forget.nil _))))))))), ⟨y + 1, _, by omega, by omega, congrArg Int.ofNat (cnt_out hAs hno).symm, rfl, rfl⟩, ?_⟩
        show (z + W - (y + 1)).toNat < (z + W - y).toNat
        omega
      | true =>
      rw [hyc] at hcy
      have hin : y ∈ A := of_decide_eq_true hcy.symm
      obtain ⟨n1, n2, n3⟩ := cnt_in hAs hin
      conv => whnf
      refine br_mk (fun hb => ?_) (fun hb => ?_)
      · have hb : cntL A y ≥ A.length := by simpa using hb
        omega
      conv => whnf
      obtain ⟨i9, c9, w1, w2⟩ := slo_get rk.is n1
      refine ⟨i9, c9, cntL A y, w1, rfl, n1, ?_⟩
      conv => whnf
      refine ⟨_, w2, ?_⟩
      rw [n2]
      conv => whnf
      refine br_mk (fun hb => ?_) (fun hb => ?_)
      · exact absurd hb (by simp)
      conv => whnf
      have hwc : IntKind.i64.wrap ((cntL A y : Int) + 1) = ((cntL A y + 1 : Nat) : Int) := by rw [wrap_i64 (by omega) (by omega)]; omega
      rw [hwc, hw1]
      refine ⟨_, Forget.cons rfl (Forget.cons rfl (Forget.cons rfl (Forget.cons rfl (Forget.cons rfl (Forget.cons rfl (Forget.cons rfl (Forget.cons rfl (Forget.cons rfl (Forget.nil _))))))))), ⟨y + 1, _, by omega, by omega, congrArg Int.ofNat n3.symm, rfl, rfl⟩, ?_⟩
      show (z + W - (y + 1)).toNat < (z + W - y).toNat
      omega
    have hy : y = z + W := by
      have : ¬ y < z + W := by simpa using hy
      omega
    subst hy
    have hall : cntL A (z + W) = A.length := cnt_all (fun x hx => (hAk x hx).2)
    rw [hall]
    conv => whnf
    refine (next32c tk).mono ?_
    rintro _ h6 ⟨eh, rfl⟩
    subst eh
    conv => whnf
    refine br_mk (fun hb => ?_) (fun hb => ?_)
    · exact absurd hb (by simp)
    conv => whnf
    refine br_mk (fun hb => ?_) (fun hb => ?_)
    · exact absurd hb (by simp)
    conv => whnf
    have hwi : IntKind.i64.wrap ((i : Int) + 1) = ((i + 1 : Nat) : Int) := by rw [wrap_i64 (by omega) (by omega)]; omega
    rw [hwi]
    refine ⟨_, Forget.cons rfl (Forget.cons rfl (Forget.cons rfl (Forget.cons rfl (Forget.cons rfl (Forget.nil _))))), ⟨i + 1, _, z, C2, cms2, by omega, rfl, tk, oh2, by omega, by omega, cb, cc, ro, rfl⟩, ?_⟩
    show ((m : Int) - ((i + 1 : Nat) : Int)).toNat < ((m : Int) - (i : Int)).toNat
    omega
  | false =>
  have hmay : mayC W N kk C = true := by rw [hmc, hq]; rfl
  rw [hmay]
  simp only [hmay, if_true] at ca cc
  conv => whnf
  refine ⟨encM V.bool cms, cb, ?_⟩
  have em := mput_enc V.bool kk true cms
  obtain ⟨cms2, hcms2⟩ : ∃ c, c = sput cms kk true := ⟨_, rfl⟩
  rw [← hcms2] at ca cc em
  conv => whnf
  rw [em]
  have mC : Ab.Mod (one ci) h4 (h4.set ci (.map true (mpE .i64 (encM V.bool cms2)))) := Mod.set rfl cb rfl
  have tk := tk.get mC (by show ¬ g = ci; omega) (by show ¬ mi = ci; omega)
  have ro := ro.get mC
  have cb : CmB (h4.set ci (.map true (mpE .i64 (encM V.bool cms2)))) ci cms2 := H.obj_set_same cb
  generalize h4.set ci (.map true (mpE .i64 (encM V.bool cms2))) = h4 at tk ro cb ⊢
  refine ⟨fun env hk => ∃ (z : Int), N ≤ z ∧ z ≤ N2 ∧ hk = h4 ∧ env = [(9, i64 z), (7, .mp (some ci)), (1, .sl po m), (5, .ptr (some (g, 0))), (8, i64 (i : Int)), (0, i64 W)],
    fun env _ => match get env 9 with
      | .int _ z => (N2 - z).toNat
      | _ => 0, ⟨_, Forget.cons rfl (Forget.cons rfl (Forget.cons rfl (Forget.cons rfl (Forget.cons rfl (Forget.cons rfl (Forget.nil _)))))), N, Int.le_refl _, on1, rfl, rfl⟩, ?_⟩
  rintro _ hK ⟨z, hz1, hz2, eh, rfl⟩
  subst eh
  conv => whnf
  refine ⟨true, encM V.bool cms2, cb, ?_⟩
  rw [cm_look]
  conv => whnf
  cases hzc : cm cms2 z with
  | true =>
    conv => whnf
    have hlt : z < N2 := by
      refine Decidable.by_contra (fun k => ?_)
      have e : z = N2 := by omega
      have hno : ¬ N2 ∈ keys C2 := fun hm => by
        have := (oh2.key N2 hm).1
        omega
      rw [cc z (by omega), e] at hzc
      have hzc : decide (N2 ∈ keys C2) = true := hzc
      rw [decide_eq_false hno] at hzc
      cases hzc
    have hw1 : IntKind.i64.wrap (z + 1) = z + 1 := wrap_i64 (by omega) (by omega)
    rw [hw1]
    refine ⟨_, Forget.cons rfl (Forget.cons rfl (Forget.cons rfl (Forget.cons rfl (Forget.cons rfl (Forget.cons rfl (Forget.nil _)))))), ⟨z + 1, by omega, by omega, rfl, rfl⟩, ?_⟩
    show (N2 - (z + 1)).toNat < (N2 - z).toNat
    omega
  | false =>
  have hz : z = N2 := by
    refine Decidable.by_contra (fun k => ?_)
    rw [ca z hz1 (by omega)] at hzc
    cases hzc
  subst hz
  conv => whnf
  have hcl := oh2.len hW.1
  refine (held34c tk ok oh2 (by omega) (by omega)).mono ?_
  rintro _ h5 ⟨q5, rfl, rk, m5⟩
  have tk := tk.old m5
  have ro := ro.get m5
  have cb : CmB h5 ci cms2 := m5.get cb (.inl (fun k => k))
  conv => whnf
  obtain ⟨A, hA⟩ : ∃ A, A = keys C2 := ⟨_, rfl⟩
  have hAs : A.Pairwise (· < ·) := by rw [hA]; exact oh2.asc
  have hAk : ∀ x ∈ A, z < x ∧ x < z + W := by rw [hA]; exact oh2.key
  have hcA : ∀ x, z ≤ x → cm cms2 x = decide (x ∈ A) := by rw [hA]; exact cc
  have hAl : (A.length : Int) ≤ 16 := by rw [hA, keys_length]; omega
  have rk : RoSl h5 q5 A.length 1 (ints .i64 A) := by rw [hA]; exact rk
  rw [show keys ((mayC W N kk C, tl, z, C2) : Bool × List (List Int) × Int × Hd).2.2.2 = A from hA.symm]
  have hwW : IntKind.i64.wrap (z + W) = z + W := wrap_i64 (by omega) (by omega)
  have hc0 : (0 : Int) = cntL A z := by
    rw [cnt_none (e := z) (fun x hx => by have := (hAk x hx).1; omega)]
    rfl
  refine ⟨fun env hk => ∃ (y c : Int), z ≤ y ∧ y ≤ z + W ∧ c = cntL A y ∧ hk = h5 ∧ env = [(16, i64 y), (15, i64 c), (14, .sl q5 A.length), (9, i64 z), (7, .mp (some ci)), (1, .sl po m), (5, .ptr (some (g, 0))), (8, i64 (i : Int)), (0, i64 W)],
    fun env _ => match get env 16 with
      | .int _ y => (z + W - y).toNat
      | _ => 0, ⟨_, Forget.cons rfl (Forget.cons rfl (Forget.cons rfl (Forget.cons rfl (Forget.cons rfl (Forget.cons rfl (Forget.cons rfl (Forget.cons rfl (Forget.cons rfl (Forget.nil _))))))))), z, _, Int.le_refl _, by omega, hc0, rfl, rfl⟩, ?_⟩
  rintro _ hM ⟨y, _, hy1, hy2, rfl, eh, rfl⟩
  subst eh
  conv => whnf
  rw [hwW]
  refine br_mk (fun hy => ?_) (fun hy => ?_)
  · have hy : y < z + W := by simpa using hy
    have hw1 : IntKind.i64.wrap (y + 1) = y + 1 := wrap_i64 (by omega) (by omega)
    conv => whnf
    refine ⟨true, encM V.bool cms2, cb, ?_⟩
    rw [cm_look]
    conv => whnf
    have hcy := hcA y hy1
    cases hyc : cm cms2 y with
    | false =>
      conv => whnf
      rw [hw1]
      rw [hyc] at hcy
      have hno : ¬ y ∈ A := fun k => by rw [decide_eq_true k] at hcy; cases hcy
      refine ⟨_, Forget.cons rfl (Forget.cons rfl (Forget.cons rfl (Forget.cons rfl (Forget.cons rfl (Forget.cons rfl (Forget.cons rfl (Forget.cons rfl (Forget.cons rfl (Forget.nil _))))))))), ⟨y + 1, _, by omega, by omega, congrArg Int.ofNat (cnt_out hAs hno).symm, rfl, rfl⟩, ?_⟩
      show (z + W - (y + 1)).toNat < (z + W - y).toNat
      omega
    | true =>
    rw [hyc] at hcy
    have hin : y ∈ A := of_decide_eq_true hcy.symm
    obtain ⟨n1, n2, n3⟩ := cnt_in hAs hin
    conv => whnf
    refine br_mk (fun hb => ?_) (fun hb => ?_)
    · have hb : cntL A y ≥ A.length := by simpa using hb
      omega
    conv => whnf
    obtain ⟨i9, c9, w1, w2⟩ := slo_get rk.is n1
    refine ⟨i9, c9, cntL A y, w1, rfl, n1, ?_⟩
    conv => whnf
    refine ⟨_, w2, ?_⟩
    rw [n2]
    conv => whnf
    refine br_mk (fun hb => ?_) (fun hb => ?_)
    · exact absurd hb (by simp)
    conv => whnf
    have hwc : IntKind.i64.wrap ((cntL A y : Int) + 1) = ((cntL A y + 1 : Nat) : Int) := by rw [wrap_i64 (by omega) (by omega)]; omega
    rw [hwc, hw1]
    refine ⟨_, Forget.cons rfl (Forget.cons rfl (Forget.cons rfl (Forget.cons rfl (Forget.cons rfl (Forget.cons rfl (Forget.cons rfl (Forget.cons rfl (Forget.cons rfl (Forget.nil _))))))))), ⟨y + 1, _, by omega, by omega, congrArg Int.ofNat n3.symm, rfl, rfl⟩, ?_⟩
    show (z + W - (y + 1)).toNat < (z + W - y).toNat
    omega
  have hy : y = z + W := by
    have : ¬ y < z + W := by simpa using hy
    omega
  subst hy
  have hall : cntL A (z + W) = A.length := cnt_all (fun x hx => (hAk x hx).2)
  rw [hall]
  conv => whnf
  refine (next32c tk).mono ?_
  rintro _ h6 ⟨eh, rfl⟩
  subst eh
  conv => whnf
  refine br_mk (fun hb => ?_) (fun hb => ?_)
  · exact absurd hb (by simp)
  conv => whnf
  refine br_mk (fun hb => ?_) (fun hb => ?_)
  · exact absurd hb (by simp)
  conv => whnf
  have hwi : IntKind.i64.wrap ((i : Int) + 1) = ((i + 1 : Nat) : Int) := by rw [wrap_i64 (by omega) (by omega)]; omega
  rw [hwi]
  refine ⟨_, Forget.cons rfl (Forget.cons rfl (Forget.cons rfl (Forget.cons rfl (Forget.cons rfl (Forget.nil _))))), ⟨i + 1, _, z, C2, cms2, by omega, rfl, tk, oh2, by omega, by omega, cb, cc, ro, rfl⟩, ?_⟩
  show ((m : Int) - ((i + 1 : Nat) : Int)).toNat < ((m : Int) - (i : Int)).toNat
  omega
end Go.Proofs.Ytpefdmidfllhoaa
