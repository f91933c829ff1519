/- The driver: Start. -/
import Derived.Test.YtmififfaljihgaaD8
set_option linter.unusedVariables false
namespace Go.Proofs.Ytmififfaljihgaa
open Go Go.Ab
def openM (a n : Int) : Msg := ⟨1, a, n, none, [], 0, 0, 0, 0, 0⟩
def startD (v : DV) (a : Int) : DV := ⟨v.c, v.conn + 1, true, 0, a, [], false⟩
def startR (v : DV) (now a n : Int) : (List GV × Int) × CV := pushV (CV.new v.c (v.conn + 1)) now (encB (openM a n))
def StartQ (h : H) (di : Nat) (v : DV) (now a n : Int) (r : V) (h' : H) : Prop :=
  ((inR a 0 65535 = false ∨ inR n 0 65535 = false) ∧ r = .tup [.sl none 0, i64 1] ∧ h' = h) ∨
  (inR a 0 65535 = true ∧ inR n 0 65535 = true ∧ ∃ d q po, r = .tup [.sl q ((startR v now a n).1.1.map encV).length, i64 (startR v now a n).1.2] ∧ Rws h' q ((startR v now a n).1.1.map encV) ∧ DrS h' di d po (startD v a) (startR v now a n).2 ∧ (∀ i, chAll d po i → h.next ≤ i) ∧ Ab.Mod (one di) h h')
theorem openM_ok (h : H) (a n : Int) : (openM a n).ok h := ⟨SlIs.nil _ _ _, (by decide : (-9223372036854775808 : Int) ≤ 0), (by decide : (0 : Int) ≤ 9223372036854775807), Nat.zero_le _⟩
set_option maxHeartbeats 1000000 in
theorem dStart {h : H} {di : Nat} {v : DV} (s : DrB h di v) (ok : okCfg v.c = true) (hc : 0 ≤ v.conn ∧ v.conn ≤ 1000000) {now : Int} (hn0 : -1000000000 ≤ now) (hn1 : now ≤ 1000000000) (a n : Int) (hf : ∀ b : List Int, (pushV (CV.new v.c (v.conn + 1)) now b).1.1.length ≤ 100000) (hl : (encB (openM a n)).length ≤ 100000) :
    ACalls Try.prog 10 [.ptr (some (di, 0)), i64 now, i64 a, i64 n] h (StartQ h di v now a n) := by
  obtain ⟨ch, pw, b, rw0⟩ := s
  have hdi := h.lt _ _ b
  refine call_ Try.func10 rfl rfl (by kernel_rfl) ?_
  conv => whnf
  refine (within27 _ a).mono ?_
  rintro _ h1 ⟨eh, rfl⟩
  subst eh
  cases e1 : inR a 0 65535 with
  | false =>
    conv => whnf
    exact .inl ⟨.inl e1, rfl, rfl⟩
  | true =>
  conv => whnf
  refine (within27 _ n).mono ?_
  rintro _ h1 ⟨eh, rfl⟩
  subst eh
  cases e2 : inR n 0 65535 with
  | false =>
    conv => whnf
    exact .inl ⟨.inr e2, rfl, rfl⟩
  | true =>
  have hw : IntKind.i64.wrap (v.conn + 1) = v.conn + 1 := wrap_i64 (by omega) (by omega)
  have okc : okCh v.c (v.conn + 1) = true := by
    rw [okCh, ok, inR_iff.2 ⟨by omega, by omega⟩]
    rfl
  conv => whnf
  refine ⟨[0, 1, 2, 3, 4, 5, 6, 7, 8, 9, 10, 11, 12, 13, 14], [0, 1, 3, 7, 0, 16, 48, 112, 240, 511, 1023, 2047, 2047, 4095, 16383], by kernel_rfl, ?_⟩
  conv => whnf
  refine ⟨v.c.cells, Cells.mk b (Nat.le_of_ble_eq_true rfl) rfl, ?_⟩
  conv => whnf
  refine ⟨_, Cell.mk b rfl, ?_⟩
  conv => whnf
  rw [hw]
  refine (cNew _ v.c (v.conn + 1)).mono ?_
  rintro _ h2 (⟨q, _⟩ | ⟨_, d, rfl, c2, nd, m2⟩)
  · rw [okc] at q
    cases q
  have b2 := m2.get b (.inl (fun k => k))
  conv => whnf
  refine ⟨_, rfl, ?_⟩
  conv => whnf
  refine ⟨_, rfl, ?_⟩
  conv => whnf
  refine ⟨[0, 1, 2, 3, 4, 5, 6, 7, 8, 9, 10, 11, 12, 13, 14], [0, 0, 2, 6, 14, 0, 0, 64, 192, 448, 960, 0, 4094, 8191, 16383], by kernel_rfl, ?_⟩
  conv => whnf
  refine ⟨v.c.cells, Cells.mk b2 (Nat.le_of_ble_eq_true rfl) rfl, ?_⟩
  conv => whnf
  refine ⟨_, Cell.mk b2 rfl, ?_⟩
  conv => whnf
  rw [hw]
  refine ⟨_, _, b2, Nat.le_of_ble_eq_true rfl, ?_⟩
  conv => whnf
  have mS : Ab.Mod (one di) h2 (h2.set di (.row true 13 (drow (startD v a) (.ptr (some (d.c, 0))) none))) := Mod.set rfl b2 rfl
  have hnd : ∀ i, chAll d none i → ¬ one di i := fun i hi k => by
    have hk : i = di := k
    rcases hi with hi | ⟨o, e⟩
    · have := nd i hi
      omega
    · cases e
  have s3 : DrS (h2.set di (.row true 13 (drow (startD v a) (.ptr (some (d.c, 0))) none))) di d none (startD v a) (CV.new v.c (v.conn + 1)) :=
    ⟨⟨none, H.obj_set_same b2, ⟨rfl, .inl rfl⟩⟩, c2.get mS hnd, fun hi => hnd di hi rfl⟩
  refine (dPush s3 ⟨new_cok okc, new_ov _ _, fun x hx => (by cases hx)⟩ (show ((0 : Int) + ((0 : Nat) : Int)) ≤ 1000000 by decide) hn0 hn1 (openM a n) (openM_ok _ a n) hl hf).mono ?_
  rintro _ h4 ⟨q4, po4, rfl, rw4, s4, hp4, m4⟩
  conv => whnf
  refine ⟨_, rfl, ?_⟩
  conv => whnf
  refine ⟨_, rfl, ?_⟩
  conv => whnf
  refine .inr ⟨e1, e2, d, q4, po4, rfl, rw4, s4, fun i hi => ?_, m2.trans' (mS.trans' m4 (S2 := fun i => one di i ∨ h1.next ≤ i) (fun _ _ k => .inl k) (fun i _ k => ?_)) (fun _ _ k => k.elim) (fun i hi k => k.elim (fun k => k) (fun k => absurd hi (by omega)))⟩
  · rcases hi with hi | hi
    · exact nd i hi
    · rcases hp4 i hi with ⟨o, e⟩ | k
      · cases e
      · exact Nat.le_trans m2.next k
  · rcases k with k | ⟨o, e⟩
    · exact .inr (nd i k)
    · cases e
end Go.Proofs.Ytmififfaljihgaa
