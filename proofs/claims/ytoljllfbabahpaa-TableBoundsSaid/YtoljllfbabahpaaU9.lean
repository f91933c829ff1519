/- To go through a map and take entries away: in plain lists. -/
import Derived.Test.YtoljllfbabahpaaU1
set_option linter.unusedVariables false
namespace Go.Proofs.Ytoljllfbabahpaa
open Go Go.Ab
theorem bdel_spec {β : Type} (f : β → V) (n : Int) : ∀ (ms : List (Int × β)) (bs : List Nat), bs.length = ms.length → bs.Nodup → (keys ms).Nodup → ∀ (p : Nat) (v : β) (b : Nat), ms[p]? = some (n, v) → bs[p]? = some b →
    (bdel (encM f ms) bs n).length = (sdel ms n).length ∧ (∀ (p' : Nat) (x : Int × β) (b' : Nat), (sdel ms n)[p']? = some x → (bdel (encM f ms) bs n)[p']? = some b' → ∃ q : Nat, ms[q]? = some x ∧ bs[q]? = some b' ∧ b' ≠ b) ∧ List.Sublist (bdel (encM f ms) bs n) bs ∧ b ∉ bdel (encM f ms) bs n
  | [], _, _, _, _, p, v, b, h, _ => by simp at h
  | _ :: _, [], hl, _, _, _, _, _, _, _ => by simp at hl
  | y :: ms, c :: bs, hl, hn, hk, p, v, b, hp, hb => by
    have hn2 := List.nodup_cons.1 hn
    have hk2 := List.nodup_cons.1 (show (y.1 :: keys ms).Nodup from hk)
    have hl2 : bs.length = ms.length := by simpa using hl
    have e1 : bdel (encM f (y :: ms)) (c :: bs) n = if y.1 = n then bs else c :: bdel (encM f ms) bs n := rfl
    have e2 : sdel (y :: ms) n = if y.1 = n then ms else y :: sdel ms n := rfl
    cases p with
    | zero =>
      simp at hp hb
      subst hp hb
      rw [e1, e2, if_pos rfl, if_pos rfl]
      refine ⟨hl2, fun p' x b' h1 h2 => ⟨p' + 1, by simpa using h1, by simpa using h2, ?_⟩, List.sublist_cons_self _ _, hn2.1⟩
      rintro rfl
      exact hn2.1 (List.mem_of_getElem? h2)
    | succ p =>
      have hp : ms[p]? = some (n, v) := by simpa using hp
      have hb : bs[p]? = some b := by simpa using hb
      have hne : y.1 ≠ n := by
        rintro e
        exact hk2.1 (by rw [e]; exact List.mem_map.2 ⟨_, List.mem_of_getElem? hp, rfl⟩)
      have hcb : c ≠ b := by
        rintro rfl
        exact hn2.1 (List.mem_of_getElem? hb)
      obtain ⟨a1, a2, a3, a4⟩ := bdel_spec f n ms bs hl2 hn2.2 hk2.2 p v b hp hb
      rw [e1, e2, if_neg hne, if_neg hne]
      refine ⟨by simpa using a1, fun p' x b' h1 h2 => ?_, a3.cons_cons c, ?_⟩
      · cases p' with
        | zero =>
          simp at h1 h2
          subst h1 h2
          exact ⟨0, rfl, rfl, hcb⟩
        | succ p' =>
          obtain ⟨q, q1, q2, q3⟩ := a2 p' x b' (by simpa using h1) (by simpa using h2)
          exact ⟨q + 1, by simpa using q1, by simpa using q2, q3⟩
      · rw [List.mem_cons]
        rintro (e | e)
        · exact hcb e.symm
        · exact a4 e
/-- what has not come yet grows less -/
theorem left_lt {l l' : List Nat} (hs : List.Sublist l' l) {b : Nat} (hb : b ∈ l) {seen : List Nat} (hn : b ∉ seen) : (l'.filter fun x => decide (x ∉ seen ++ [b])).length < (l.filter fun x => decide (x ∉ seen)).length := by
  have h1 : (l'.filter fun x => decide (x ∉ seen ++ [b])).length ≤ (l.filter fun x => decide (x ∉ seen ++ [b])).length := (hs.filter _).length_le
  have h2 : (l.filter fun x => decide (x ∉ seen ++ [b])) = (l.filter fun x => decide (x ∉ seen)).filter fun x => decide (x ≠ b) := by
    rw [List.filter_filter]
    refine List.filter_congr (fun x _ => ?_)
    rw [Bool.eq_iff_iff]
    simp
    exact and_comm
  have h3 : b ∈ l.filter fun x => decide (x ∉ seen) := List.mem_filter.2 ⟨hb, by simpa using hn⟩
  have h4 : ((l.filter fun x => decide (x ∉ seen)).filter fun x => decide (x ≠ b)).length < (l.filter fun x => decide (x ∉ seen)).length :=
    List.length_filter_lt_length_iff_exists.2 ⟨b, h3, by simp⟩
  rw [h2] at h1
  omega
end Go.Proofs.Ytoljllfbabahpaa
