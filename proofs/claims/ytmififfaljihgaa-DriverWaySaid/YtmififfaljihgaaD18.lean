/- The Driver laws: what the document fixes. -/
import Derived.Test.YtmififfaljihgaaD17
set_option linter.unusedVariables false
namespace Go.Proofs.Ytmififfaljihgaa
open Go Go.Ab
theorem rst_ok : gEncOk ⟨1, 3, 0, 0, 1, none, []⟩ = true := by decide +kernel
theorem rst_of : gOf (encG ⟨1, 3, 0, 0, 1, none, []⟩) = some ⟨1, 3, 0, 0, 1, []⟩ := by
  rw [gOf_encG rst_ok]
  rfl
/-- a new channel, and its first message under way -/
def CV.one (c : Cfg) (k now : Int) (b : List Int) : CV := ⟨⟨c.win, 1, false, [(0, b)], c.base, c.cap, c.retry, [(0, now + waitV c.base c.cap 0, 0)]⟩, 0, [], k, []⟩
theorem push_new {c : Cfg} (hw : 1 ≤ c.win) (k now : Int) (b : List Int) : pushV (CV.new c k) now b = (([⟨k, 1, 0, 0, 0, b⟩], 0), CV.one c k now b) := by
  have hr : 0 < roomOf (CV.new c k).s := by
    show 0 < (if false = true then 0 else c.win - ((0 : Nat) : Int))
    rw [if_neg (by decide)]
    omega
  have hp : paysV now (CV.new c k).s [b] = ([(0, b)], ⟨c.win, 1, false, [(0, b)], c.base, c.cap, c.retry, [(0, now + waitV c.base c.cap 0, 0)]⟩, []) := by
    have hs : sendV (CV.new c k).s now b = ((0, 0), ⟨c.win, 1, false, [(0, b)], c.base, c.cap, c.retry, [(0, now + waitV c.base c.cap 0, 0)]⟩) := by
      rw [sendV, if_neg (show ¬ (CV.new c k).s.ov = true from fun h => by cases h), if_neg (show ¬ ((CV.new c k).s.C.length : Int) = (CV.new c k).s.W by show ¬ ((0 : Nat) : Int) = c.win; omega)]
      rfl
    rw [paysV, if_pos hr, hs]
    rfl
  rw [pushV, if_neg (show ¬ (CV.new c k).s.ov = true from fun h => by cases h), if_neg (show ¬ 64 ≤ (CV.new c k).O.length from fun h => absurd h (show ¬ 64 ≤ 0 by decide))]
  have e : (CV.new c k).O ++ [b] = [b] := rfl
  rw [e, hp]
  rfl
theorem okCfg_win {c : Cfg} (ok : okCfg c = true) : 1 ≤ c.win := by
  simp only [okCfg, Bool.and_eq_true] at ok
  have := inR_iff.1 ok.1.1.1.1.2
  omega
theorem one_cg {c : Cfg} {k : Int} (ok : okCh c k = true) (now : Int) {b : List Int} (hb : Oct b) (hl : b.length ≤ 100000) : CG (CV.one c k now b) := by
  have hw : 1 ≤ c.win := by
    simp only [okCh, Bool.and_eq_true] at ok
    exact okCfg_win ok.1
  have := push_cg (cv := CV.new c k) ⟨new_cok ok, new_ov _ _, fun x hx => (by cases hx)⟩ (show ((0 : Int) + ((0 : Nat) : Int)) ≤ 1000000 by decide) now hb hl
  rw [push_new hw] at this
  exact this
theorem startR_one {v : DV} (ok : okCfg v.c = true) (now a n : Int) : startR v now a n = (([⟨v.conn + 1, 1, 0, 0, 0, encB (openM a n)⟩], 0), CV.one v.c (v.conn + 1) now (encB (openM a n))) := push_new (okCfg_win ok) _ _ _
theorem openM_len (a n : Int) : (encB (openM a n)).length ≤ 100000 := by
  rw [encB]
  split
  · have e : bytesP (parts (openM a n)) = be 1 1 ++ (be a 2 ++ (be n 2 ++ [])) := rfl
    rw [e]
    simp [be_length]
  · exact Nat.zero_le _
set_option maxHeartbeats 1000000 in
theorem awake6 (h : H) : ACalls Try.prog 6 [] h (fun r h' => r = .bool true) := by
  have ok : okCfg ⟨1, 4, 0, 3, 3, 5⟩ = true := rfl
  refine call_ Try.func6 rfl rfl (by kernel_rfl) ?_
  conv => whnf
  obtain ⟨g0, gx, mx⟩ := lay_row (h := h) (sz := 6) [i64 0, i64 0, i64 0, i64 0, i64 0, i64 0] (Cfg.cells ⟨1, 4, 0, 3, 3, 5⟩)
  refine ⟨_, _, g0, Nat.le_of_ble_eq_true rfl, ?_⟩
  conv => whnf
  refine ⟨Cfg.cells ⟨1, 4, 0, 3, 3, 5⟩, Cells.mk gx (Nat.le_of_ble_eq_true rfl) rfl, ?_⟩
  conv => whnf
  refine (dNew _ ⟨1, 4, 0, 3, 3, 5⟩).mono ?_
  rintro _ h1 (⟨q, _⟩ | ⟨_, di, rfl, s1, _, m1⟩)
  · rw [ok] at q
    cases q
  conv => whnf
  refine ⟨_, rfl, ?_⟩
  conv => whnf
  refine ⟨_, rfl, ?_⟩
  conv => whnf
  refine (dNew _ ⟨0, 0, 0, 0, 0, 0⟩).mono ?_
  rintro _ h2 (⟨_, rfl, m2⟩ | ⟨q, _⟩)
  rotate_left
  · exact absurd q (by decide)
  have s2 := s1.get m2 (fun k => k)
  conv => whnf
  refine ⟨_, rfl, ?_⟩
  conv => whnf
  refine ⟨_, rfl, ?_⟩
  conv => whnf
  refine (dFollow0 s2.b rfl 0).mono ?_
  rintro _ h3 ⟨rfl, eh⟩
  subst eh
  conv => whnf
  refine ⟨_, rfl, ?_⟩
  conv => whnf
  refine ⟨_, rfl, ?_⟩
  conv => whnf
  have eS := startR_one (v := DV.new ⟨1, 4, 0, 3, 3, 5⟩) ok 0 1 2
  have cg4 := one_cg (c := ⟨1, 4, 0, 3, 3, 5⟩) (k := 1) (by decide) 0 (encB_oct (openM 1 2)) (by decide +kernel)
  have eS : startR (DV.new ⟨1, 4, 0, 3, 3, 5⟩) 0 1 2 = (([⟨1, 1, 0, 0, 0, encB (openM 1 2)⟩], 0), CV.one ⟨1, 4, 0, 3, 3, 5⟩ 1 0 (encB (openM 1 2))) := eS
  refine (dStart s2.b ok ⟨by decide, by decide⟩ (now := 0) (by decide) (by decide) 1 2 (fun b => push_len (new_cok (by decide)) _ _) (by decide +kernel)).mono ?_
  rintro _ h4 (⟨q, _⟩ | ⟨_, _, d, q4, po, rfl, rw4, s4, hn4, m4⟩)
  · exact absurd q (by decide)
  rw [eS] at rw4 s4 ⊢
  conv => whnf
  refine ⟨_, rfl, ?_⟩
  conv => whnf
  refine ⟨_, rfl, ?_⟩
  conv => whnf
  have s4 : DrS h4 di d po (startD (DV.new ⟨1, 4, 0, 3, 3, 5⟩) 1) (CV.one ⟨1, 4, 0, 3, 3, 5⟩ 1 0 (encB (openM 1 2))) := s4
  refine (dStart s4.b ok ⟨by decide, by decide⟩ (now := 0) (by decide) (by decide) (-1) 2 (fun b => push_len (new_cok (by decide)) _ _) (by decide +kernel)).mono ?_
  rintro _ h5 (⟨_, rfl, eh⟩ | ⟨q, _⟩)
  rotate_left
  · exact absurd q (by decide)
  subst eh
  conv => whnf
  refine ⟨_, rfl, ?_⟩
  conv => whnf
  refine ⟨_, rfl, ?_⟩
  conv => whnf
  refine (gref50 ⟨1, 3, 0, 0, 1, none, []⟩ ⟨SlIs.nil _ _ _, (fun _ k => by cases k), Nat.zero_le _⟩).mono ?_
  rintro _ h6 ⟨q6, rfl, o6, m6⟩
  have s6 := s4.old m6
  conv => whnf
  refine ⟨_, rfl, ?_⟩
  conv => whnf
  refine ⟨_, rfl, ?_⟩
  conv => whnf
  refine (dLive s6.b).mono ?_
  rintro _ h7 ⟨eh, rfl⟩
  subst eh
  conv => whnf
  refine (dRecv s6 cg4 (by decide) (by decide) (now := 1) (by decide) (by decide) o6.is (encG_bts (fun _ k => by cases k)) (Nat.le_trans (encG_len _) (by decide)) (fun g => recv_len cg4.ok _ _)).mono ?_
  rw [rst_of]
  rintro _ h8 ⟨q8, q9, po8, rfl, rw8, ms8, s8, _, m8⟩
  conv => whnf
  refine ⟨_, rfl, ?_⟩
  conv => whnf
  refine ⟨_, rfl, ?_⟩
  conv => whnf
  refine (dStart0 h8 0 0 0).mono ?_
  rintro _ h9 ⟨rfl, eh⟩
  subst eh
  conv => whnf
  refine ⟨_, rfl, ?_⟩
  conv => whnf
  refine ⟨_, rfl, ?_⟩
  have eD : rcvD (startD (DV.new ⟨1, 4, 0, 3, 3, 5⟩) 1) (CV.one ⟨1, 4, 0, 3, 3, 5⟩ 1 0 (encB (openM 1 2))) 1 (some ⟨1, 3, 0, 0, 1, []⟩) = { startD (DV.new ⟨1, 4, 0, 3, 3, 5⟩) 1 with live := false, why := 1 } := rfl
  rw [eD] at s8
  conv => whnf
  refine (dLive s8.b).mono ?_
  rintro _ h10 ⟨eh, rfl⟩
  subst eh
  conv => whnf
  refine (dWhy s8.b).mono ?_
  rintro _ h11 ⟨eh, rfl⟩
  subst eh
  conv => whnf
  refine (dConn s8.b).mono ?_
  rintro _ h12 ⟨eh, rfl⟩
  subst eh
  conv => whnf
  refine (dAt s8.b).mono ?_
  rintro _ h13 ⟨eh, rfl⟩
  subst eh
  conv => whnf
  refine (dAt0 _).mono ?_
  rintro _ h14 ⟨eh, rfl⟩
  subst eh
  conv => whnf
  refine (dLive0 _).mono ?_
  rintro _ h15 ⟨eh, rfl⟩
  subst eh
  conv => whnf
  rfl
end Go.Proofs.Ytmififfaljihgaa
