/- DriverConns: its walk. -/
import Derived.Test.YtmififfaljihgaaD21
set_option linter.unusedVariables false
namespace Go.Proofs.Ytmififfaljihgaa
open Go Go.Ab
theorem openM_enc {a : Int} (h0 : 0 ≤ a) (h1 : a < 65536) : Enc (encB (openM a 0)) (openM a 0) ∧ (encB (openM a 0)).length = 5 := by
  have ok : encOk (openM a 0) = true := by
    have f : fitP (parts (openM a 0)) = true := by
      show (decide (0 ≤ (1 : Int) ∧ (1 : Int) < 2 ^ (8 * 1)) && (decide (0 ≤ a ∧ a < 2 ^ (8 * 2)) && (decide (0 ≤ (0 : Int) ∧ (0 : Int) < 2 ^ (8 * 2)) && true))) = true
      rw [decide_eq_true (show 0 ≤ a ∧ a < 2 ^ (8 * 2) from ⟨h0, by have e : ((2 : Int) ^ (8 * 2)) = 65536 := rfl; omega⟩)]
      rfl
    rw [encOk, f]
    rfl
  have e : encB (openM a 0) = bytesP (parts (openM a 0)) := by rw [encB, ok, if_pos rfl]
  refine ⟨⟨⟨fun _ => ⟨rfl, rfl⟩, fun _ => ⟨rfl, rfl, rfl, rfl⟩, fun k => absurd rfl k, fun k => absurd rfl k⟩, ok, e.symm, lo0, hi0⟩, ?_⟩
  rw [e]
  have e2 : bytesP (parts (openM a 0)) = be 1 1 ++ (be a 2 ++ (be 0 2 ++ [])) := rfl
  rw [e2]
  simp [be_length]
/-- the first datagram of a connection -/
theorem first_of {k : Int} (h0 : 0 ≤ k) (h1 : k < 4294967296) {b : List Int} (hb : b.length ≤ 100) : gOf (encV ⟨k, 1, 0, 0, 0, b⟩) = some ⟨k, 1, 0, 0, 0, b⟩ := by
  have ok : gEncOk (toG ⟨k, 1, 0, 0, 0, b⟩ none) = true := by
    have f : fitP (gparts (toG ⟨k, 1, 0, 0, 0, b⟩ none)) = true := by
      show (decide (0 ≤ k ∧ k < 2 ^ (8 * 4)) && (decide (0 ≤ (0 : Int) ∧ (0 : Int) < 2 ^ (8 * 4)) && (decide (0 ≤ (0 : Int) ∧ (0 : Int) < 2 ^ (8 * 4)) && true))) = true
      rw [decide_eq_true (show 0 ≤ k ∧ k < 2 ^ (8 * 4) from ⟨h0, by have e : ((2 : Int) ^ (8 * 4)) = 4294967296 := rfl; omega⟩)]
      rfl
    have l : (gpay (toG ⟨k, 1, 0, 0, 0, b⟩ none)).length ≤ 2000 := by
      have e2 : gpay (toG ⟨k, 1, 0, 0, 0, b⟩ none) = (be k 4 ++ (be 0 4 ++ (be 0 4 ++ []))) ++ b := rfl
      rw [e2]
      simp [be_length]
      omega
    rw [gEncOk, f, decide_eq_true l]
    rfl
  rw [encV, gOf_encG ok]
  rfl
theorem reset_of {k c : Int} (h0 : 0 ≤ k) (h1 : k < 4294967296) (c0 : 0 ≤ c) (c1 : c < 256) : gEncOk ⟨k, 3, 0, 0, c, none, []⟩ = true ∧ gOf (encG ⟨k, 3, 0, 0, c, none, []⟩) = some ⟨k, 3, 0, 0, c, []⟩ := by
  have ok : gEncOk ⟨k, 3, 0, 0, c, none, []⟩ = true := by
    have f : fitP (gparts ⟨k, 3, 0, 0, c, none, []⟩) = true := by
      show (decide (0 ≤ k ∧ k < 2 ^ (8 * 4)) && (decide (0 ≤ c ∧ c < 2 ^ (8 * 1)) && true)) = true
      rw [decide_eq_true (show 0 ≤ k ∧ k < 2 ^ (8 * 4) from ⟨h0, by have e : ((2 : Int) ^ (8 * 4)) = 4294967296 := rfl; omega⟩), decide_eq_true (show 0 ≤ c ∧ c < 2 ^ (8 * 1) from ⟨c0, by have e : ((2 : Int) ^ (8 * 1)) = 256 := rfl; omega⟩)]
      rfl
    have l : (gpay ⟨k, 3, 0, 0, c, none, []⟩).length ≤ 2000 := by
      have e2 : gpay ⟨k, 3, 0, 0, c, none, []⟩ = (be k 4 ++ (be c 1 ++ [])) ++ [] := rfl
      rw [e2]
      simp [be_length]
    rw [gEncOk, f, decide_eq_true l]
    rfl
  exact ⟨ok, by rw [gOf_encG ok]; rfl⟩
set_option maxHeartbeats 4000000 in
theorem conns3 {h : H} {p : Option (Nat × Nat)} {m : Nat} {l : List Int} (sl : RoSl h p m 1 (ints .i64 l)) (S K : Int) : ACalls Try.prog 3 [.sl p m, i64 S, i64 K] h (fun r _ => r = .bool true) := by
  refine call_ Try.func3 rfl rfl (by kernel_rfl) ?_
  conv => whnf
  refine br_mk (fun ha => ?_) (fun ha => ?_)
  · conv => whnf
    refine (awake6 h).mono ?_
    rintro _ h1 rfl
    conv => whnf
  conv => whnf
  have ha : ¬ ((m : Int) > 20) := by simpa using ha
  refine br_mk (fun hb => ?_) (fun hb => ?_)
  · conv => whnf
    refine (awake6 h).mono ?_
    rintro _ h1 rfl
    conv => whnf
  conv => whnf
  have hb : ¬ (S < 1) := by simpa using hb
  refine br_mk (fun hc => ?_) (fun hc => ?_)
  · conv => whnf
    refine (awake6 h).mono ?_
    rintro _ h1 rfl
    conv => whnf
  conv => whnf
  have hc : ¬ (S > 20) := by simpa using hc
  refine (small8 sl.is (by omega)).mono ?_
  rintro _ h1 ⟨c, rfl, ok, m1⟩
  conv => whnf
  refine (dNew h1 c).mono ?_
  rintro _ h2 (⟨q, _⟩ | ⟨_, di, rfl, s2, _, m2⟩)
  · rw [ok] at q
    cases q
  conv => whnf
  refine ⟨_, rfl, ?_⟩
  conv => whnf
  refine ⟨_, rfl, ?_⟩
  conv => whnf
  refine (round19 (m := 4) (by decide) (by decide) K h2).mono ?_
  rintro _ h3 ⟨eh, rfl⟩
  subst eh
  have k0 := Int.emod_nonneg K (show (4 : Int) ≠ 0 by decide)
  have k1 := Int.emod_lt_of_pos K (show (0 : Int) < 4 by decide)
  conv => whnf
  rw [wrap_i64 (x := 1 + K % 4) (by omega) (by omega)]
  obtain ⟨k, ek⟩ : ∃ k, 1 + K % 4 = k := ⟨_, rfl⟩
  rw [ek]
  have k0 : 1 ≤ k := by omega
  have k1 : k ≤ 4 := by omega
  clear ek
  refine ⟨fun env hk => ∃ (i : Int) (v : DV), 1 ≤ i ∧ i ≤ S + 1 ∧ DrB hk di v ∧ v.c = c ∧ v.conn = i - 1 ∧ (1 < i → v.live = true ∧ v.why = 0 ∧ ∃ d po, DrS hk di d po v (CV.one c (i - 1) 0 (encB (openM (i - 1) 0)))) ∧ env = [(10, i64 i), (9, i64 k), (7, .ptr (some (di, 0))), (1, i64 S)],
    fun env _ => match get env 10 with
      | .int _ z => (S + 1 - z).toNat
      | _ => 0, ⟨_, Forget.cons rfl (Forget.cons rfl (Forget.cons rfl (Forget.cons rfl (Forget.nil _)))), 1, _, by decide, by omega, s2.b, rfl, rfl, fun k => absurd k (by decide), rfl⟩, ?_⟩
  clear s2 m1 m2
  rintro _ hh ⟨i, v, hi1, hi2, s, vc, vk, rest, rfl⟩
  conv => whnf
  refine br_mk (fun hx => ?_) (fun hx => ?_)
  rotate_left
  · have hx : ¬ i ≤ S := by simpa using hx
    obtain rfl : i = S + 1 := by omega
    obtain ⟨vl, vw, d, po, s4⟩ := rest (by omega)
    have e1 : S + 1 - 1 = S := by omega
    rw [e1] at s4 vk
    have okc : okCh c S = true := by
      rw [okCh, ok, inR_iff.2 ⟨by omega, by omega⟩]
      rfl
    have cg := one_cg okc 0 (encB_oct (openM S 0)) (openM_len S 0)
    conv => whnf
    obtain ⟨rk, ro⟩ := reset_of (k := S) (c := k) (by omega) (by omega) (by omega) (by omega)
    refine (gref50 ⟨S, 3, 0, 0, k, none, []⟩ ⟨SlIs.nil _ _ _, (fun _ k => by cases k), Nat.zero_le _⟩).mono ?_
    rintro _ h6 ⟨q6, rfl, o6, m6⟩
    have s6 := s4.old m6
    conv => whnf
    refine ⟨_, rfl, ?_⟩
    conv => whnf
    refine ⟨_, rfl, ?_⟩
    conv => whnf
    refine (dRecv s6 cg (show (1 : Int) + ((0 : Nat) : Int) ≤ 1000000 by decide) (show (0 : Int) ≤ 1000000 by decide) (now := 0) (by decide) (by decide) o6.is (encG_bts (fun _ k => by cases k)) (Nat.le_trans (encG_len _) (show 21 + 0 ≤ 800000 by decide)) (fun g => recv_len cg.ok _ _)).mono ?_
    rw [ro]
    rintro _ h8 ⟨q8, q9, po8, rfl, rw8, ms8, s8, _, m8⟩
    have eX : recvX v ⟨S, 3, 0, 0, k, []⟩ = true := by rw [recvX, vl, decide_eq_true (show S = v.conn from vk.symm)]; rfl
    have eD : rcvD v (CV.one c S 0 (encB (openM S 0))) 0 (some ⟨S, 3, 0, 0, k, []⟩) = { v with live := false, why := k } := by rw [rcvD, if_pos eX, if_pos rfl]
    rw [eD] at s8
    conv => whnf
    refine (dReport0 s8.b rfl 0 1).mono ?_
    rintro _ h9 ⟨rfl, eh⟩
    subst eh
    conv => whnf
    refine ⟨_, rfl, ?_⟩
    conv => whnf
    refine ⟨_, rfl, ?_⟩
    conv => whnf
    refine (dLive s8.b).mono ?_
    rintro _ h10 ⟨eh, rfl⟩
    subst eh
    conv => whnf
    refine (dWhy s8.b).mono ?_
    rintro _ h11 ⟨eh, rfl⟩
    subst eh
    conv => whnf
    rw [show (k == k) = true by simp]
    conv => whnf
    refine (awake6 _).mono ?_
    rintro _ h12 rfl
    conv => whnf
  have hx : i ≤ S := by simpa using hx
  clear rest
  have okc : okCh c i = true := by
    rw [okCh, ok, inR_iff.2 ⟨by omega, by omega⟩]
    rfl
  have okv : okCfg v.c = true := by rw [vc]; exact ok
  have evi : v.conn + 1 = i := by omega
  have cg := one_cg okc 0 (encB_oct (openM i 0)) (openM_len i 0)
  have eS := startR_one okv 0 i 0
  rw [evi, vc] at eS
  conv => whnf
  refine (dStart s okv ⟨by omega, by omega⟩ (now := 0) (by decide) (by decide) i 0 (fun b => by rw [vc, evi]; exact push_len (new_cok okc) _ _) (openM_len i 0)).mono ?_
  rintro _ h4 (⟨q, _⟩ | ⟨_, _, d, q4, po, rfl, rw4, s4, hn4, m4⟩)
  · rcases q with q | q
    · rw [show inR i 0 65535 = true from inR_iff.2 ⟨by omega, by omega⟩] at q
      cases q
    · exact absurd q (by decide)
  rw [eS] at rw4 s4 ⊢
  obtain ⟨v1, ev⟩ : ∃ v1, startD v i = v1 := ⟨_, rfl⟩
  rw [ev] at s4
  have vl : v1.live = true := by rw [← ev]; rfl
  have vw : v1.why = 0 := by rw [← ev]; rfl
  have vk1 : v1.conn = i := by rw [← ev]; exact evi
  have vp1 : v1.pos = i := by rw [← ev]; rfl
  have vc1 : v1.c = c := by rw [← ev]; exact vc
  conv => whnf
  refine ⟨_, rfl, ?_⟩
  conv => whnf
  refine ⟨_, rfl, ?_⟩
  conv => whnf
  refine (dConn s4.b).mono ?_
  rintro _ h5 ⟨eh, rfl⟩
  rw [eh]
  clear eh h5
  rw [vk1]
  conv => whnf
  rw [show (i != i) = false by simp]
  conv => whnf
  refine (dLive s4.b).mono ?_
  rintro _ h5 ⟨eh, rfl⟩
  rw [eh]
  clear eh h5
  rw [vl]
  conv => whnf
  refine (dAt s4.b).mono ?_
  rintro _ h5 ⟨eh, rfl⟩
  rw [eh]
  clear eh h5
  rw [vp1]
  conv => whnf
  rw [show (i != i) = false by simp]
  conv => whnf
  obtain ⟨benc, blen⟩ := openM_enc (a := i) (by omega) (by omega)
  have fo := first_of (k := i) (b := encB (openM i 0)) (by omega) (by omega) (by omega)
  have rw4 : Rws h4 q4 [encV ⟨i, 1, 0, 0, 0, encB (openM i 0)⟩] := rw4
  have hb8 : Bts (encV ⟨i, 1, 0, 0, 0, encB (openM i 0)⟩) := encG_bts (m := toG ⟨i, 1, 0, 0, 0, encB (openM i 0)⟩ none) (encB_bts _)
  have hl8 : (encV ⟨i, 1, 0, 0, 0, encB (openM i 0)⟩).length ≤ 800000 := Nat.le_trans (encG_len _) (show 21 + (encB (openM i 0)).length ≤ 800000 by omega)
  obtain ⟨i4, c4, p4, f1, f2, f3⟩ := rw4.cell (j := 0) Nat.zero_lt_one
  refine ⟨i4, c4, 0, f1, rfl, Nat.zero_lt_one, ?_⟩
  conv => whnf
  refine ⟨_, f2, ?_⟩
  conv => whnf
  refine (gdec52 f3.is hb8 hl8).mono ?_
  rintro _ h5 ⟨g1, e, rfl, ok1, mg, gd, rob⟩
  rcases gd.of with ⟨rfl, eo, _⟩ | ⟨_, eo⟩
  rotate_left
  · have eo := fo.symm.trans eo
    cases eo
  have eo := Option.some.inj (fo.symm.trans eo)
  obtain ⟨cn, kk, sq, ak, cd, bp, bd⟩ := g1
  simp only [ofG, GV.mk.injEq] at eo
  obtain ⟨e1, e2, e3, e4, e5, e6⟩ := eo
  subst e1 e2 e3 e4 e5 e6
  conv => whnf
  refine ⟨_, rfl, ?_⟩
  conv => whnf
  refine ⟨_, rfl, ?_⟩
  conv => whnf
  obtain ⟨g0, gx, mx⟩ := lay_row (h := h5) (sz := 6) [i64 0, i64 0, i64 0, i64 0, i64 0, .sl none 0] (Grm.cells ⟨i, 1, 0, 0, 0, bp, encB (openM i 0)⟩)
  refine ⟨_, _, g0, Nat.le_of_ble_eq_true rfl, ?_⟩
  conv => whnf
  refine ⟨_, Cell.mk gx rfl, ?_⟩
  conv => whnf
  refine (dec44 (rob.get mx) (encB_bts _) (openM_len i 0)).mono ?_
  rintro _ h6 ⟨m6, okb, rfl, okm, mo6, da⟩
  obtain ⟨rfl, em, _⟩ := da.yes benc
  obtain ⟨ep, rfl⟩ : ∃ ep, m6 = ⟨1, i, 0, ep, [], 0, 0, 0, 0, 0⟩ := ⟨m6.ep, em⟩
  conv => whnf
  refine ⟨_, rfl, ?_⟩
  conv => whnf
  refine ⟨_, rfl, ?_⟩
  conv => whnf
  obtain ⟨u0, ux, mux⟩ := lay_row (h := h6) (sz := 9) [i64 0, i64 0, i64 0, .sl none 0, i64 0, i64 0, i64 0, i64 0, i64 0] (Msg.cells ⟨1, i, 0, ep, [], 0, 0, 0, 0, 0⟩)
  refine ⟨_, _, u0, Nat.le_of_ble_eq_true rfl, ?_⟩
  have mo7 := mod_none mo6 mux
  have gx7 := mo7.get gx (.inl (fun k => k))
  conv => whnf
  refine ⟨_, Cell.mk gx7 rfl, ?_⟩
  conv => whnf
  rw [show (i != i) = false by simp]
  conv => whnf
  refine ⟨_, Cell.mk gx7 rfl, ?_⟩
  conv => whnf
  refine ⟨_, Cell.mk ux rfl, ?_⟩
  conv => whnf
  refine ⟨_, Cell.mk ux rfl, ?_⟩
  conv => whnf
  rw [show (i != i) = false by simp]
  conv => whnf
  have s7 := s4.old (mod_none (mod_none mg mx) mo7)
  clear s4 rw4 gx7 ux mo7 mux u0 mo6 okm gx g0 mx rob mg ok1 gd f1 f2 f3
  rw [wrap_i64 (x := i - 1) (by omega) (by omega)]
  obtain ⟨rk, ro⟩ := reset_of (k := i - 1) (c := k) (by omega) (by omega) (by omega) (by omega)
  refine (gref50 ⟨i - 1, 3, 0, 0, k, none, []⟩ ⟨SlIs.nil _ _ _, (fun _ k => by cases k), Nat.zero_le _⟩).mono ?_
  rintro _ h8 ⟨q8, rfl, o8, m8⟩
  have s8 := s7.old m8
  conv => whnf
  refine ⟨_, rfl, ?_⟩
  conv => whnf
  refine ⟨_, rfl, ?_⟩
  conv => whnf
  refine (dRecv s8 cg (show (1 : Int) + ((0 : Nat) : Int) ≤ 1000000 by decide) (show (0 : Int) ≤ 1000000 by decide) (now := 0) (by decide) (by decide) o8.is (encG_bts (fun _ k => by cases k)) (Nat.le_trans (encG_len _) (show 21 + 0 ≤ 800000 by decide)) (fun g => recv_len cg.ok _ _)).mono ?_
  rw [ro]
  rintro _ h9 ⟨q9, q10, po9, rfl, rw9, ms9, s9, _, m9⟩
  have eX : recvX v1 ⟨i - 1, 3, 0, 0, k, []⟩ = false := by rw [recvX, vl, decide_eq_false (show ¬ i - 1 = v1.conn by omega)]; rfl
  have eD : rcvD v1 (CV.one c i 0 (encB (openM i 0))) 0 (some ⟨i - 1, 3, 0, 0, k, []⟩) = v1 := by rw [rcvD, if_neg (by rw [eX]; decide)]
  have eC : rcvC v1 (CV.one c i 0 (encB (openM i 0))) 0 (some ⟨i - 1, 3, 0, 0, k, []⟩) = CV.one c i 0 (encB (openM i 0)) := by rw [rcvC, if_neg (fun k => by rw [eX] at k; exact absurd k.1 (by decide))]
  have eO : rcvO v1 (CV.one c i 0 (encB (openM i 0))) 0 (some ⟨i - 1, 3, 0, 0, k, []⟩) = ([], []) := by rw [rcvO, if_neg (fun k => by rw [eX] at k; exact absurd k.1 (by decide))]
  have s9 : DrS h9 di d po9 (rcvD v1 (CV.one c i 0 (encB (openM i 0))) 0 (some ⟨i - 1, 3, 0, 0, k, []⟩)) (rcvC v1 (CV.one c i 0 (encB (openM i 0))) 0 (some ⟨i - 1, 3, 0, 0, k, []⟩)) := s9
  rw [eD, eC] at s9
  have e9 : (rcvO v1 ((([⟨i, 1, 0, 0, 0, encB (openM i 0)⟩], 0), CV.one c i 0 (encB (openM i 0))) : (List GV × Int) × CV).2 0 (some ⟨i - 1, 3, 0, 0, k, []⟩)) = ([], []) := eO
  rw [e9]
  conv => whnf
  refine ⟨_, rfl, ?_⟩
  conv => whnf
  refine ⟨_, rfl, ?_⟩
  conv => whnf
  refine (dLive s9.b).mono ?_
  rintro _ h10 ⟨eh, rfl⟩
  rw [eh]
  clear eh h10
  rw [vl]
  conv => whnf
  refine (dWhy s9.b).mono ?_
  rintro _ h10 ⟨eh, rfl⟩
  rw [eh]
  clear eh h10
  rw [vw]
  conv => whnf
  rw [wrap_i64 (x := i + 1) (by omega) (by omega)]
  refine ⟨_, Forget.cons rfl (Forget.cons rfl (Forget.cons rfl (Forget.cons rfl (Forget.nil _)))), ⟨i + 1, v1, by omega, by omega, s9.b, vc1, by omega, fun _ => ⟨vl, vw, d, po9, ?_⟩, rfl⟩, ?_⟩
  · rw [show i + 1 - 1 = i by omega]
    exact s9
  · show (S + 1 - (i + 1)).toNat < (S + 1 - i).toNat
    omega
end Go.Proofs.Ytmififfaljihgaa
