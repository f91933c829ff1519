/- ChannelTries: in plain lists. -/
import Derived.Test.YtoljllfbabahpaaU31
set_option linter.unusedVariables false
namespace Go.Proofs.Ytoljllfbabahpaa
open Go Go.Ab
def tvV (B R : Int) (body : List Int) (n tk : Int) : CV := ⟨⟨2, 1, false, [(0, body)], B, B, R, [(0, B * n, n - 1)]⟩, tk, [], 9, []⟩
def tvO (B R : Int) (body : List Int) (n tk : Int) : CV := ⟨⟨2, 1, true, [(0, body)], B, B, R, [(0, B * n, n - 1)]⟩, tk, [], 9, []⟩
theorem waitBB (B n : Int) : waitV B B n = B := by
  unfold waitV
  rw [waitW_stop (by omega)]
  split <;> rfl
theorem tv_push (B R : Int) (body : List Int) : pushV (CV.new ⟨1, 2, R, B, B, 5⟩ 9) 0 body = (([⟨9, 1, 0, 0, 0, body⟩], 0), tvV B R body 1 0) := by
  have e : pushV (CV.new ⟨1, 2, R, B, B, 5⟩ 9) 0 body = (([⟨9, 1, 0, 0, 0, body⟩], 0), ⟨⟨2, 1, false, [(0, body)], B, B, R, [(0, 0 + waitV B B 0, 0)]⟩, 0, [], 9, []⟩) := rfl
  rw [e, waitBB, tvV]
  congr 3
  rw [show (0 : Int) + B = B * 1 by omega]
  rfl
theorem tv_recv (B R : Int) (body : List Int) (n tk now : Int) : recvV (tvV B R body n tk) now ⟨9, 1, tk, 0, 0, [1]⟩ = (([[1]], [⟨9, 2, 0, tk + 1, 0, []⟩]), tvV B R body n (tk + 1)) := by
  have hm : mayC 2 tk tk [] = true := by
    unfold mayC
    rw [decide_eq_true (Int.le_refl tk), decide_eq_true (show tk < tk + 2 by omega)]
    rfl
  have ht : tkV 2 tk [] tk [1] = (true, [[1]], tk + 1, []) := by
    rw [tkV, if_pos hm]
    show (true, chn tk [(tk, [1])]) = _
    rw [chn_yes]
    rfl
  have hs : recvS (tvV B R body n tk) ⟨9, 1, tk, 0, 0, [1]⟩ = (tvV B R body n tk).s := rfl
  rw [recvV, if_neg (by show ¬ (false = true); simp)]
  unfold recvM
  rw [hs, if_pos rfl, if_pos rfl, if_pos rfl]
  have ht2 : tkV (tvV B R body n tk).s.W (tvV B R body n tk).N (tvV B R body n tk).C tk [1] = (true, [[1]], tk + 1, []) := ht
  simp only [ht2]
  rfl
theorem tv_pass {B R : Int} (body : List Int) {n tk : Int} (hn : n ≤ R) : passV (tvV B R body n tk) (B * n) = (([⟨9, 1, 0, tk, 0, body⟩], 0), tvV B R body (n + 1) tk) := by
  have hg : ¬ B * n > B * n := by omega
  have hl : n - 1 < R := by omega
  have ha : againV (tvV B R body n tk).s (B * n) = (([0], 0), (tvV B R body (n + 1) tk).s) := by
    have ea : agB R (B * n) (0, B * n, n - 1) = true := by rw [agB, decide_eq_false hg, decide_eq_true hl]; rfl
    have eo : ovB R (B * n) (0, B * n, n - 1) = false := by rw [ovB, decide_eq_true hl]; simp
    have ed : dueF B B R (B * n) (0, B * n, n - 1) = some (0, B * (n + 1), n + 1 - 1) := by
      rw [dueF, if_neg hg, if_pos hl, waitBB, Int.mul_add, Int.mul_one, show n - 1 + 1 = n + 1 - 1 by omega]
    have e1 : ovS R (B * n) [(0, B * n, n - 1)] = [] := by
      rw [ovS, List.filter_cons_of_neg (by rw [eo]; simp)]
      rfl
    have e2 : agS R (B * n) [(0, B * n, n - 1)] = [0] := by
      rw [agS, List.filter_cons_of_pos ea]
      rfl
    have e3 : rsS B B R (B * n) [(0, B * n, n - 1)] = [(0, B * (n + 1), n + 1 - 1)] := by
      rw [rsS, List.filterMap_cons, ed]
      rfl
    unfold againV
    rw [if_neg (show ¬ (tvV B R body n tk).s.ov = true from fun h => by cases h), if_pos (show ovS (tvV B R body n tk).s.R (B * n) (tvV B R body n tk).s.TS = [] from e1)]
    show (((agS R (B * n) [(0, B * n, n - 1)]), (0 : Int)), ({ (tvV B R body n tk).s with TS := rsS B B R (B * n) [(0, B * n, n - 1)] } : SV)) = _
    rw [e2, e3]
    rfl
  have hp : passM (tvV B R body n tk) (B * n) = tvV B R body (n + 1) tk := by
    rw [passM, ha]
    rfl
  rw [passV, hp, ha, if_pos rfl]
  rfl
theorem tv_over {B R : Int} (body : List Int) {n tk : Int} (hn : n = R + 1) : passV (tvV B R body n tk) (B * n) = (([], 6), { tvO B R body n tk with s := { (tvO B R body n tk).s with TS := [] } }) := by
  have hg : ¬ B * n > B * n := by omega
  have hl : ¬ n - 1 < R := by omega
  have ha : againV (tvV B R body n tk).s (B * n) = (([], 6), { (tvO B R body n tk).s with TS := [] }) := by
    have eo : ovB R (B * n) (0, B * n, n - 1) = true := by rw [ovB, decide_eq_false hg, decide_eq_false hl]; rfl
    have ed : dueF B B R (B * n) (0, B * n, n - 1) = none := by rw [dueF, if_neg hg, if_neg hl]
    have e1 : ovS R (B * n) [(0, B * n, n - 1)] = [0] := by
      rw [ovS, List.filter_cons_of_pos eo]
      rfl
    have e3 : rsS B B R (B * n) [(0, B * n, n - 1)] = [] := by
      rw [rsS, List.filterMap_cons, ed]
      rfl
    unfold againV
    rw [if_neg (show ¬ (tvV B R body n tk).s.ov = true from fun h => by cases h), if_neg (by
      show ¬ ovS R (B * n) [(0, B * n, n - 1)] = []
      rw [e1]
      simp)]
    show (([], (6 : Int)), ({ (tvV B R body n tk).s with ov := true, TS := rsS B B R (B * n) [(0, B * n, n - 1)] } : SV)) = _
    rw [e3]
    rfl
  have hp : passM (tvV B R body n tk) (B * n) = { tvO B R body n tk with s := { (tvO B R body n tk).s with TS := [] } } := by
    rw [passM, ha]
    rfl
  rw [passV, hp, ha, if_neg (show ¬ ((6 : Int) = 0) by decide)]
theorem over_push {v : CV} (h : v.s.ov = true) (now : Int) (b : List Int) : pushV v now b = (([], 6), v) := by rw [pushV, if_pos h]
theorem over_recv {v : CV} (h : v.s.ov = true) (now : Int) (g : GV) : recvV v now g = (([], []), v) := by
  rw [recvV, if_pos (by rw [recvB, h]; rfl)]
end Go.Proofs.Ytoljllfbabahpaa
