/- Messages: writes, of the program. -/
import Derived.Test.YtnpfdppmpmnhbaaS30
set_option linter.unusedVariables false
namespace Go.Proofs.Ytnpfdppmpmnhbaa
open Go Go.Ab
theorem tailP_1 {m : Msg} (h : m.k = 1) : tailP m = [(2, m.p), (2, m.d)] := by simp [tailP, h]
theorem tailP_2 {m : Msg} (h : m.k = 2 ∨ m.k = 9) : tailP m = [(2, m.p)] := by
  rw [tailP, if_neg (by omega), if_pos h]
theorem tailP_5 {m : Msg} (h : m.k = 5) : tailP m = (5, m.w) :: (2, (m.es.length : Int)) :: m.es.map fun v => (2, v) := by
  rw [tailP, if_neg (by omega), if_neg (by omega), if_pos h]
theorem tailP_7 {m : Msg} (h : m.k = 7) : tailP m = [(1, m.c), (2, IntKind.i64.wrap (m.e + 1)), (5, m.f), (5, m.l)] := by
  rw [tailP, if_neg (by omega), if_neg (by omega), if_neg (by omega), if_pos h]
theorem tailP_0 {m : Msg} (h1 : m.k ≠ 1) (h2 : m.k ≠ 2) (h9 : m.k ≠ 9) (h5 : m.k ≠ 5) (h7 : m.k ≠ 7) : tailP m = [] := by
  rw [tailP, if_neg (by omega), if_neg (by omega), if_neg (by omega), if_neg (by omega)]
theorem knd_ne {m : Msg} (h1 : 1 ≤ m.k) (h2 : m.k ≤ 9) (h5 : m.k ≠ 5) : knd m = true := by
  have e : (m.k != 5) = true := by simp [h5]
  rw [knd, e, Bool.true_or, Bool.and_true]
  simp [h1, h2]
theorem knd_5 {m : Msg} (h : m.k = 5) : knd m = decide (m.es.length ≤ 512) := by
  simp [knd, h]
theorem knd_no {m : Msg} (h : ¬ (1 ≤ m.k ∧ m.k ≤ 9)) : knd m = false := by
  rw [knd, decide_eq_false h, Bool.false_and]
def WritesQ (h0 : H) (g : Nat) (m : Msg) (r : V) (h' : H) : Prop := r = .bool (knd m) ∧ ∃ p' xs sp, NewW h0 h' g p' xs sp ∧ (knd m = true → Wst (parts m) xs sp)
theorem writes57 {h0 h : H} {g : Nat} {p : Option (Nat × Nat)} (w : NewW h0 h g p [] false) (m : Msg) (ok : m.ok h0) : ACalls Try.prog 57 [.ptr (some (g, 0)), .agg m.cells] h (WritesQ h0 g m) := by
  refine call_ Try.func57 rfl rfl (by kernel_rfl) ?_
  conv => whnf
  have kb : Kp _ g p h.next (.row true 9 m.cells) := Kp.push w.1 (.row true 9 m.cells)
  have w := w.keep (Mod.push none_ h (.row true 9 m.cells))
  have st := Wst.nil
  generalize h.next = bx at *
  refine ⟨_, Cell.mk kb.1 rfl, ?_⟩
  conv => whnf
  rw [oneNum]
  have s1 := Kp.push w.1 (.row true 1 (ints .i64 [m.k]))
  have kb := kb.keep (Mod.push none_ _ (.row true 1 (ints .i64 [m.k])))
  have w := w.keep (Mod.push none_ _ (.row true 1 (ints .i64 [m.k])))
  refine (nums19 w.1 (s1.nums rfl) (by
    refine Nat.le_trans st.len ?_
    simp) (by simp) (1 : Nat)).mono ?_
  rintro _ _ ⟨rfl, q, wq, fq, mq⟩
  have kb := kb.step fq mq
  have w := w.step' wq fq mq
  have st := st.prog (k := 1) (by decide) (by decide) [m.k]
  conv => whnf
  refine ⟨_, Cell.mk kb.1 rfl, ?_⟩
  conv => whnf
  refine br_mk (fun h1 => ?_) (fun h1 => ?_)
  · conv => whnf
    simp at h1
    refine ⟨_, Cell.mk kb.1 rfl, ?_⟩
    conv => whnf
    refine ⟨_, Cell.mk kb.1 rfl, ?_⟩
    conv => whnf
    rw [twoNum]
    have s1 := Kp.push w.1 (.row true 1 (ints .i64 [m.p, m.d]))
    have kb := kb.keep (Mod.push none_ _ (.row true 1 (ints .i64 [m.p, m.d])))
    have w := w.keep (Mod.push none_ _ (.row true 1 (ints .i64 [m.p, m.d])))
    refine (nums19 w.1 (s1.nums rfl) (by
      refine Nat.le_trans st.len ?_
      simp) (by simp) (2 : Nat)).mono ?_
    rintro _ _ ⟨rfl, q, wq, fq, mq⟩
    have kb := kb.step fq mq
    have w := w.step' wq fq mq
    have st := st.prog (k := 2) (by decide) (by decide) [m.p, m.d]
    conv => whnf
    refine ⟨_, Cell.mk kb.1 rfl, ?_⟩
    conv => whnf
    refine br_mk (fun hz => ?_) (fun hz => ?_)
    rotate_left
    · simp [h1] at hz
    conv => whnf
    exact ⟨by rw [knd_ne (by omega) (by omega) (by omega)], _, _, _, w, fun _ => by rw [parts, tailP_1 h1]; exact st⟩
  conv => whnf
  refine br_mk (fun h2 => ?_) (fun h2 => ?_)
  · conv => whnf
    simp at h2
    refine br_mk (fun _ => ?_) (fun hz => ?_)
    rotate_left
    · simp [h2] at hz
    conv => whnf
    refine ⟨_, Cell.mk kb.1 rfl, ?_⟩
    conv => whnf
    rw [oneNum]
    have s1 := Kp.push w.1 (.row true 1 (ints .i64 [m.p]))
    have kb := kb.keep (Mod.push none_ _ (.row true 1 (ints .i64 [m.p])))
    have w := w.keep (Mod.push none_ _ (.row true 1 (ints .i64 [m.p])))
    refine (nums19 w.1 (s1.nums rfl) (by
      refine Nat.le_trans st.len ?_
      simp) (by simp) (2 : Nat)).mono ?_
    rintro _ _ ⟨rfl, q, wq, fq, mq⟩
    have kb := kb.step fq mq
    have w := w.step' wq fq mq
    have st := st.prog (k := 2) (by decide) (by decide) [m.p]
    conv => whnf
    refine ⟨_, Cell.mk kb.1 rfl, ?_⟩
    conv => whnf
    refine br_mk (fun hz => ?_) (fun hz => ?_)
    rotate_left
    · simp [h2] at hz
    conv => whnf
    exact ⟨by rw [knd_ne (by omega) (by omega) (by omega)], _, _, _, w, fun _ => by rw [parts, tailP_2 (.inl h2)]; exact st⟩
  conv => whnf
  refine br_mk (fun h9 => ?_) (fun h9 => ?_)
  · conv => whnf
    simp at h9
    refine ⟨_, Cell.mk kb.1 rfl, ?_⟩
    conv => whnf
    rw [oneNum]
    have s1 := Kp.push w.1 (.row true 1 (ints .i64 [m.p]))
    have kb := kb.keep (Mod.push none_ _ (.row true 1 (ints .i64 [m.p])))
    have w := w.keep (Mod.push none_ _ (.row true 1 (ints .i64 [m.p])))
    refine (nums19 w.1 (s1.nums rfl) (by
      refine Nat.le_trans st.len ?_
      simp) (by simp) (2 : Nat)).mono ?_
    rintro _ _ ⟨rfl, q, wq, fq, mq⟩
    have kb := kb.step fq mq
    have w := w.step' wq fq mq
    have st := st.prog (k := 2) (by decide) (by decide) [m.p]
    conv => whnf
    refine ⟨_, Cell.mk kb.1 rfl, ?_⟩
    conv => whnf
    refine br_mk (fun hz => ?_) (fun hz => ?_)
    rotate_left
    · simp [h9] at hz
    conv => whnf
    exact ⟨by rw [knd_ne (by omega) (by omega) (by omega)], _, _, _, w, fun _ => by rw [parts, tailP_2 (.inr h9)]; exact st⟩
  conv => whnf
  refine br_mk (fun h5 => ?_) (fun h5 => ?_)
  · conv => whnf
    simp at h5
    refine ⟨[], [3, 8], rfl, ?_, ?_⟩
    conv => whnf
    refine ⟨[], [4, 8], rfl, ?_, ?_⟩
    conv => whnf
    refine ⟨[0, 1, 2, 5, 6, 7, 10, 11, 3, 4, 8, 9, 12], [0, 0, 2, 6, 15, 0, 32, 96, 255, 511, 0, 1024, 4095], by kernel_rfl, ?_⟩
    conv => whnf
    refine ⟨_, Cell.mk kb.1 rfl, ?_⟩
    conv => whnf
    refine ⟨_, Cell.mk kb.1 rfl, ?_⟩
    conv => whnf
    refine ⟨_, Cell.mk kb.1 rfl, ?_⟩
    conv => whnf
    rw [oneNum]
    have s3 := Kp.push w.1 (.row true 1 (ints .i64 [m.w]))
    have kb := kb.keep (Mod.push none_ _ (.row true 1 (ints .i64 [m.w])))
    have w := w.keep (Mod.push none_ _ (.row true 1 (ints .i64 [m.w])))
    conv => whnf
    refine (nums19 w.1 (s3.nums rfl) (by
      refine Nat.le_trans st.len ?_
      simp <;> omega) (by simp) (5 : Nat)).mono ?_
    rintro _ _ ⟨rfl, q, wq, fq, mq⟩
    have kb := kb.step fq mq
    have w := w.step' wq fq mq
    have st := st.prog (k := 5) (by decide) (by decide) [m.w]
    refine ⟨?_, ?_⟩
    · conv => whnf
      exact ⟨_, Cell.mk kb.1 rfl, rfl⟩
    refine ⟨?_, ?_⟩
    · conv => whnf
      exact ⟨_, Cell.mk kb.1 rfl, rfl⟩
    conv => whnf
    rw [oneNum]
    have s8 := Kp.push w.1 (.row true 1 (ints .i64 [(m.es.length : Int)]))
    have kb := kb.keep (Mod.push none_ _ (.row true 1 (ints .i64 [(m.es.length : Int)])))
    have w := w.keep (Mod.push none_ _ (.row true 1 (ints .i64 [(m.es.length : Int)])))
    conv => whnf
    refine (nums19 w.1 (s8.nums rfl) (by
      refine Nat.le_trans st.len ?_
      simp <;> omega) (by simp) (2 : Nat)).mono ?_
    rintro _ _ ⟨rfl, q, wq, fq, mq⟩
    have kb := kb.step fq mq
    have w := w.step' wq fq mq
    have st := st.prog (k := 2) (by decide) (by decide) [(m.es.length : Int)]
    refine ⟨?_, ?_⟩
    · conv => whnf
      exact ⟨_, Cell.mk kb.1 rfl, rfl⟩
    conv => whnf
    refine (nums19 w.1 (w.nums ok.1) (by
      refine Nat.le_trans st.len ?_
      simp <;> omega) (by have := ok.2.2.2; omega) (2 : Nat)).mono ?_
    rintro _ _ ⟨rfl, q, wq, fq, mq⟩
    have kb := kb.step fq mq
    have w := w.step' wq fq mq
    have st := st.prog (k := 2) (by decide) (by decide) m.es
    conv => whnf
    rotate_left
    conv => whnf
    refine ⟨[0, 1, 2, 5, 6, 7, 10, 11, 3, 8, 4, 9, 12], [0, 0, 2, 6, 495, 0, 32, 96, 238, 511, 0, 1024, 4095], by kernel_rfl, ?_⟩
    conv => whnf
    refine ⟨_, Cell.mk kb.1 rfl, ?_⟩
    conv => whnf
    refine ⟨_, Cell.mk kb.1 rfl, ?_⟩
    conv => whnf
    refine ⟨_, Cell.mk kb.1 rfl, ?_⟩
    conv => whnf
    rw [oneNum]
    have s3 := Kp.push w.1 (.row true 1 (ints .i64 [m.w]))
    have kb := kb.keep (Mod.push none_ _ (.row true 1 (ints .i64 [m.w])))
    have w := w.keep (Mod.push none_ _ (.row true 1 (ints .i64 [m.w])))
    conv => whnf
    rw [oneNum]
    have s8 := Kp.push w.1 (.row true 1 (ints .i64 [(m.es.length : Int)]))
    have s3 := s3.keep (Mod.push none_ _ (.row true 1 (ints .i64 [(m.es.length : Int)])))
    have kb := kb.keep (Mod.push none_ _ (.row true 1 (ints .i64 [(m.es.length : Int)])))
    have w := w.keep (Mod.push none_ _ (.row true 1 (ints .i64 [(m.es.length : Int)])))
    conv => whnf
    refine (nums19 w.1 (s3.nums rfl) (by
      refine Nat.le_trans st.len ?_
      simp <;> omega) (by simp) (5 : Nat)).mono ?_
    rintro _ _ ⟨rfl, q, wq, fq, mq⟩
    have s8 := s8.step fq mq
    have kb := kb.step fq mq
    have w := w.step' wq fq mq
    have st := st.prog (k := 5) (by decide) (by decide) [m.w]
    refine ⟨?_, ?_⟩
    · conv => whnf
      exact ⟨_, Cell.mk kb.1 rfl, rfl⟩
    conv => whnf
    refine (nums19 w.1 (s8.nums rfl) (by
      refine Nat.le_trans st.len ?_
      simp <;> omega) (by simp) (2 : Nat)).mono ?_
    rintro _ _ ⟨rfl, q, wq, fq, mq⟩
    have kb := kb.step fq mq
    have w := w.step' wq fq mq
    have st := st.prog (k := 2) (by decide) (by decide) [(m.es.length : Int)]
    refine ⟨?_, ?_⟩
    · conv => whnf
      exact ⟨_, Cell.mk kb.1 rfl, rfl⟩
    conv => whnf
    refine (nums19 w.1 (w.nums ok.1) (by
      refine Nat.le_trans st.len ?_
      simp <;> omega) (by have := ok.2.2.2; omega) (2 : Nat)).mono ?_
    rintro _ _ ⟨rfl, q, wq, fq, mq⟩
    have kb := kb.step fq mq
    have w := w.step' wq fq mq
    have st := st.prog (k := 2) (by decide) (by decide) m.es
    conv => whnf
    rotate_left
    conv => whnf
    refine ⟨[0, 1, 2, 5, 6, 7, 10, 11, 8, 3, 4, 9, 12], [0, 0, 2, 486, 495, 0, 32, 96, 224, 511, 0, 1024, 4095], by kernel_rfl, ?_⟩
    conv => whnf
    refine ⟨_, Cell.mk kb.1 rfl, ?_⟩
    conv => whnf
    refine ⟨_, Cell.mk kb.1 rfl, ?_⟩
    conv => whnf
    refine ⟨_, Cell.mk kb.1 rfl, ?_⟩
    conv => whnf
    rw [oneNum]
    have s8 := Kp.push w.1 (.row true 1 (ints .i64 [(m.es.length : Int)]))
    have kb := kb.keep (Mod.push none_ _ (.row true 1 (ints .i64 [(m.es.length : Int)])))
    have w := w.keep (Mod.push none_ _ (.row true 1 (ints .i64 [(m.es.length : Int)])))
    conv => whnf
    rw [oneNum]
    have s3 := Kp.push w.1 (.row true 1 (ints .i64 [m.w]))
    have s8 := s8.keep (Mod.push none_ _ (.row true 1 (ints .i64 [m.w])))
    have kb := kb.keep (Mod.push none_ _ (.row true 1 (ints .i64 [m.w])))
    have w := w.keep (Mod.push none_ _ (.row true 1 (ints .i64 [m.w])))
    conv => whnf
    refine (nums19 w.1 (s3.nums rfl) (by
      refine Nat.le_trans st.len ?_
      simp <;> omega) (by simp) (5 : Nat)).mono ?_
    rintro _ _ ⟨rfl, q, wq, fq, mq⟩
    have s8 := s8.step fq mq
    have kb := kb.step fq mq
    have w := w.step' wq fq mq
    have st := st.prog (k := 5) (by decide) (by decide) [m.w]
    refine ⟨?_, ?_⟩
    · conv => whnf
      exact ⟨_, Cell.mk kb.1 rfl, rfl⟩
    conv => whnf
    refine (nums19 w.1 (s8.nums rfl) (by
      refine Nat.le_trans st.len ?_
      simp <;> omega) (by simp) (2 : Nat)).mono ?_
    rintro _ _ ⟨rfl, q, wq, fq, mq⟩
    have kb := kb.step fq mq
    have w := w.step' wq fq mq
    have st := st.prog (k := 2) (by decide) (by decide) [(m.es.length : Int)]
    refine ⟨?_, ?_⟩
    · conv => whnf
      exact ⟨_, Cell.mk kb.1 rfl, rfl⟩
    conv => whnf
    refine (nums19 w.1 (w.nums ok.1) (by
      refine Nat.le_trans st.len ?_
      simp <;> omega) (by have := ok.2.2.2; omega) (2 : Nat)).mono ?_
    rintro _ _ ⟨rfl, q, wq, fq, mq⟩
    have kb := kb.step fq mq
    have w := w.step' wq fq mq
    have st := st.prog (k := 2) (by decide) (by decide) m.es
    conv => whnf
    rotate_left

    all_goals
      refine ⟨_, Cell.mk kb.1 rfl, ?_⟩
      conv => whnf
      refine br_mk (fun hz => ?_) (fun hz => ?_)
      · simp [h5] at hz
      conv => whnf
      refine ⟨_, Cell.mk kb.1 rfl, ?_⟩
      conv => whnf
      refine ⟨?_, _, _, _, w, fun _ => by rw [parts, tailP_5 h5]; exact st⟩
      rw [knd_5 h5]
      exact congrArg V.bool (by
        rw [Bool.eq_iff_iff, decide_eq_true_iff, decide_eq_true_iff]
        omega)
  conv => whnf
  refine br_mk (fun h7 => ?_) (fun h7 => ?_)
  · conv => whnf
    simp at h7
    refine ⟨[], [5, 18], rfl, ?_, ?_⟩
    conv => whnf
    refine ⟨[], [5, 10], rfl, ?_, ?_⟩
    conv => whnf
    refine ⟨[], [10, 18], rfl, ?_, ?_⟩
    conv => whnf
    refine ⟨[], [11, 18], rfl, ?_, ?_⟩
    conv => whnf
    refine ⟨[0, 1, 2, 3, 6, 7, 8, 9, 12, 13, 14, 15, 16, 17, 4, 5, 10, 11, 18, 19], [0, 0, 2, 6, 14, 31, 0, 64, 192, 448, 1023, 2047, 0, 4096, 12288, 0, 32768, 98304, 262143, 524287], by kernel_rfl, ?_⟩
    conv => whnf
    refine ⟨_, Cell.mk kb.1 rfl, ?_⟩
    conv => whnf
    refine ⟨_, Cell.mk kb.1 rfl, ?_⟩
    conv => whnf
    refine ⟨_, Cell.mk kb.1 rfl, ?_⟩
    conv => whnf
    refine ⟨_, Cell.mk kb.1 rfl, ?_⟩
    conv => whnf
    rw [oneNum]
    have s4 := Kp.push w.1 (.row true 1 (ints .i64 [m.c]))
    have kb := kb.keep (Mod.push none_ _ (.row true 1 (ints .i64 [m.c])))
    have w := w.keep (Mod.push none_ _ (.row true 1 (ints .i64 [m.c])))
    conv => whnf
    refine (nums19 w.1 (s4.nums rfl) (by
      refine Nat.le_trans st.len ?_
      simp <;> omega) (by simp) (1 : Nat)).mono ?_
    rintro _ _ ⟨rfl, q, wq, fq, mq⟩
    have kb := kb.step fq mq
    have w := w.step' wq fq mq
    have st := st.prog (k := 1) (by decide) (by decide) [m.c]
    refine ⟨?_, ?_⟩
    · conv => whnf
      exact ⟨_, Cell.mk kb.1 rfl, rfl⟩
    refine ⟨?_, ?_⟩
    · conv => whnf
      exact ⟨_, Cell.mk kb.1 rfl, rfl⟩
    refine ⟨?_, ?_⟩
    · conv => whnf
      exact ⟨_, Cell.mk kb.1 rfl, rfl⟩
    conv => whnf
    rw [oneNum]
    have s10 := Kp.push w.1 (.row true 1 (ints .i64 [IntKind.i64.wrap (m.e + 1)]))
    have kb := kb.keep (Mod.push none_ _ (.row true 1 (ints .i64 [IntKind.i64.wrap (m.e + 1)])))
    have w := w.keep (Mod.push none_ _ (.row true 1 (ints .i64 [IntKind.i64.wrap (m.e + 1)])))
    conv => whnf
    refine (nums19 w.1 (s10.nums rfl) (by
      refine Nat.le_trans st.len ?_
      simp <;> omega) (by simp) (2 : Nat)).mono ?_
    rintro _ _ ⟨rfl, q, wq, fq, mq⟩
    have kb := kb.step fq mq
    have w := w.step' wq fq mq
    have st := st.prog (k := 2) (by decide) (by decide) [IntKind.i64.wrap (m.e + 1)]
    refine ⟨?_, ?_⟩
    · conv => whnf
      exact ⟨_, Cell.mk kb.1 rfl, rfl⟩
    refine ⟨?_, ?_⟩
    · conv => whnf
      exact ⟨_, Cell.mk kb.1 rfl, rfl⟩
    conv => whnf
    rw [twoNum]
    have s18 := Kp.push w.1 (.row true 1 (ints .i64 [m.f, m.l]))
    have kb := kb.keep (Mod.push none_ _ (.row true 1 (ints .i64 [m.f, m.l])))
    have w := w.keep (Mod.push none_ _ (.row true 1 (ints .i64 [m.f, m.l])))
    conv => whnf
    refine (nums19 w.1 (s18.nums rfl) (by
      refine Nat.le_trans st.len ?_
      simp <;> omega) (by simp) (5 : Nat)).mono ?_
    rintro _ _ ⟨rfl, q, wq, fq, mq⟩
    have kb := kb.step fq mq
    have w := w.step' wq fq mq
    have st := st.prog (k := 5) (by decide) (by decide) [m.f, m.l]
    conv => whnf
    rotate_left
    conv => whnf
    refine ⟨[0, 1, 2, 3, 6, 7, 8, 9, 12, 13, 14, 15, 16, 17, 4, 5, 10, 18, 11, 19], [0, 0, 2, 6, 14, 31, 0, 64, 192, 448, 1023, 522239, 0, 4096, 12288, 0, 32768, 98304, 260095, 524287], by kernel_rfl, ?_⟩
    conv => whnf
    refine ⟨_, Cell.mk kb.1 rfl, ?_⟩
    conv => whnf
    refine ⟨_, Cell.mk kb.1 rfl, ?_⟩
    conv => whnf
    refine ⟨_, Cell.mk kb.1 rfl, ?_⟩
    conv => whnf
    refine ⟨_, Cell.mk kb.1 rfl, ?_⟩
    conv => whnf
    rw [oneNum]
    have s4 := Kp.push w.1 (.row true 1 (ints .i64 [m.c]))
    have kb := kb.keep (Mod.push none_ _ (.row true 1 (ints .i64 [m.c])))
    have w := w.keep (Mod.push none_ _ (.row true 1 (ints .i64 [m.c])))
    conv => whnf
    refine (nums19 w.1 (s4.nums rfl) (by
      refine Nat.le_trans st.len ?_
      simp <;> omega) (by simp) (1 : Nat)).mono ?_
    rintro _ _ ⟨rfl, q, wq, fq, mq⟩
    have kb := kb.step fq mq
    have w := w.step' wq fq mq
    have st := st.prog (k := 1) (by decide) (by decide) [m.c]
    refine ⟨?_, ?_⟩
    · conv => whnf
      exact ⟨_, Cell.mk kb.1 rfl, rfl⟩
    refine ⟨?_, ?_⟩
    · conv => whnf
      exact ⟨_, Cell.mk kb.1 rfl, rfl⟩
    refine ⟨?_, ?_⟩
    · conv => whnf
      exact ⟨_, Cell.mk kb.1 rfl, rfl⟩
    conv => whnf
    rw [oneNum]
    have s10 := Kp.push w.1 (.row true 1 (ints .i64 [IntKind.i64.wrap (m.e + 1)]))
    have kb := kb.keep (Mod.push none_ _ (.row true 1 (ints .i64 [IntKind.i64.wrap (m.e + 1)])))
    have w := w.keep (Mod.push none_ _ (.row true 1 (ints .i64 [IntKind.i64.wrap (m.e + 1)])))
    conv => whnf
    rw [twoNum]
    have s18 := Kp.push w.1 (.row true 1 (ints .i64 [m.f, m.l]))
    have s10 := s10.keep (Mod.push none_ _ (.row true 1 (ints .i64 [m.f, m.l])))
    have kb := kb.keep (Mod.push none_ _ (.row true 1 (ints .i64 [m.f, m.l])))
    have w := w.keep (Mod.push none_ _ (.row true 1 (ints .i64 [m.f, m.l])))
    conv => whnf
    refine (nums19 w.1 (s10.nums rfl) (by
      refine Nat.le_trans st.len ?_
      simp <;> omega) (by simp) (2 : Nat)).mono ?_
    rintro _ _ ⟨rfl, q, wq, fq, mq⟩
    have s18 := s18.step fq mq
    have kb := kb.step fq mq
    have w := w.step' wq fq mq
    have st := st.prog (k := 2) (by decide) (by decide) [IntKind.i64.wrap (m.e + 1)]
    conv => whnf
    refine (nums19 w.1 (s18.nums rfl) (by
      refine Nat.le_trans st.len ?_
      simp <;> omega) (by simp) (5 : Nat)).mono ?_
    rintro _ _ ⟨rfl, q, wq, fq, mq⟩
    have kb := kb.step fq mq
    have w := w.step' wq fq mq
    have st := st.prog (k := 5) (by decide) (by decide) [m.f, m.l]
    conv => whnf
    rotate_left
    conv => whnf
    refine ⟨[0, 1, 2, 3, 6, 7, 8, 9, 12, 13, 14, 15, 16, 17, 4, 5, 18, 10, 11, 19], [0, 0, 2, 6, 14, 31, 0, 64, 192, 448, 521215, 522239, 0, 4096, 12288, 0, 32768, 98304, 258111, 524287], by kernel_rfl, ?_⟩
    conv => whnf
    refine ⟨_, Cell.mk kb.1 rfl, ?_⟩
    conv => whnf
    refine ⟨_, Cell.mk kb.1 rfl, ?_⟩
    conv => whnf
    refine ⟨_, Cell.mk kb.1 rfl, ?_⟩
    conv => whnf
    refine ⟨_, Cell.mk kb.1 rfl, ?_⟩
    conv => whnf
    rw [oneNum]
    have s4 := Kp.push w.1 (.row true 1 (ints .i64 [m.c]))
    have kb := kb.keep (Mod.push none_ _ (.row true 1 (ints .i64 [m.c])))
    have w := w.keep (Mod.push none_ _ (.row true 1 (ints .i64 [m.c])))
    conv => whnf
    refine (nums19 w.1 (s4.nums rfl) (by
      refine Nat.le_trans st.len ?_
      simp <;> omega) (by simp) (1 : Nat)).mono ?_
    rintro _ _ ⟨rfl, q, wq, fq, mq⟩
    have kb := kb.step fq mq
    have w := w.step' wq fq mq
    have st := st.prog (k := 1) (by decide) (by decide) [m.c]
    refine ⟨?_, ?_⟩
    · conv => whnf
      exact ⟨_, Cell.mk kb.1 rfl, rfl⟩
    refine ⟨?_, ?_⟩
    · conv => whnf
      exact ⟨_, Cell.mk kb.1 rfl, rfl⟩
    refine ⟨?_, ?_⟩
    · conv => whnf
      exact ⟨_, Cell.mk kb.1 rfl, rfl⟩
    conv => whnf
    rw [twoNum]
    have s18 := Kp.push w.1 (.row true 1 (ints .i64 [m.f, m.l]))
    have kb := kb.keep (Mod.push none_ _ (.row true 1 (ints .i64 [m.f, m.l])))
    have w := w.keep (Mod.push none_ _ (.row true 1 (ints .i64 [m.f, m.l])))
    conv => whnf
    rw [oneNum]
    have s10 := Kp.push w.1 (.row true 1 (ints .i64 [IntKind.i64.wrap (m.e + 1)]))
    have s18 := s18.keep (Mod.push none_ _ (.row true 1 (ints .i64 [IntKind.i64.wrap (m.e + 1)])))
    have kb := kb.keep (Mod.push none_ _ (.row true 1 (ints .i64 [IntKind.i64.wrap (m.e + 1)])))
    have w := w.keep (Mod.push none_ _ (.row true 1 (ints .i64 [IntKind.i64.wrap (m.e + 1)])))
    conv => whnf
    refine (nums19 w.1 (s10.nums rfl) (by
      refine Nat.le_trans st.len ?_
      simp <;> omega) (by simp) (2 : Nat)).mono ?_
    rintro _ _ ⟨rfl, q, wq, fq, mq⟩
    have s18 := s18.step fq mq
    have kb := kb.step fq mq
    have w := w.step' wq fq mq
    have st := st.prog (k := 2) (by decide) (by decide) [IntKind.i64.wrap (m.e + 1)]
    conv => whnf
    refine (nums19 w.1 (s18.nums rfl) (by
      refine Nat.le_trans st.len ?_
      simp <;> omega) (by simp) (5 : Nat)).mono ?_
    rintro _ _ ⟨rfl, q, wq, fq, mq⟩
    have kb := kb.step fq mq
    have w := w.step' wq fq mq
    have st := st.prog (k := 5) (by decide) (by decide) [m.f, m.l]
    conv => whnf
    rotate_left
    conv => whnf
    refine ⟨[], [4, 10], rfl, ?_, ?_⟩
    conv => whnf
    refine ⟨[], [11, 18], rfl, ?_, ?_⟩
    conv => whnf
    refine ⟨[0, 1, 2, 3, 6, 7, 8, 9, 12, 13, 14, 15, 16, 17, 4, 10, 5, 11, 18, 19], [0, 0, 2, 6, 14, 2015, 0, 64, 192, 448, 990, 2047, 0, 4096, 12288, 0, 32768, 98304, 262143, 524287], by kernel_rfl, ?_⟩
    conv => whnf
    refine ⟨_, Cell.mk kb.1 rfl, ?_⟩
    conv => whnf
    refine ⟨_, Cell.mk kb.1 rfl, ?_⟩
    conv => whnf
    refine ⟨_, Cell.mk kb.1 rfl, ?_⟩
    conv => whnf
    refine ⟨_, Cell.mk kb.1 rfl, ?_⟩
    conv => whnf
    rw [oneNum]
    have s4 := Kp.push w.1 (.row true 1 (ints .i64 [m.c]))
    have kb := kb.keep (Mod.push none_ _ (.row true 1 (ints .i64 [m.c])))
    have w := w.keep (Mod.push none_ _ (.row true 1 (ints .i64 [m.c])))
    conv => whnf
    rw [oneNum]
    have s10 := Kp.push w.1 (.row true 1 (ints .i64 [IntKind.i64.wrap (m.e + 1)]))
    have s4 := s4.keep (Mod.push none_ _ (.row true 1 (ints .i64 [IntKind.i64.wrap (m.e + 1)])))
    have kb := kb.keep (Mod.push none_ _ (.row true 1 (ints .i64 [IntKind.i64.wrap (m.e + 1)])))
    have w := w.keep (Mod.push none_ _ (.row true 1 (ints .i64 [IntKind.i64.wrap (m.e + 1)])))
    conv => whnf
    refine (nums19 w.1 (s4.nums rfl) (by
      refine Nat.le_trans st.len ?_
      simp <;> omega) (by simp) (1 : Nat)).mono ?_
    rintro _ _ ⟨rfl, q, wq, fq, mq⟩
    have s10 := s10.step fq mq
    have kb := kb.step fq mq
    have w := w.step' wq fq mq
    have st := st.prog (k := 1) (by decide) (by decide) [m.c]
    refine ⟨?_, ?_⟩
    · conv => whnf
      exact ⟨_, Cell.mk kb.1 rfl, rfl⟩
    refine ⟨?_, ?_⟩
    · conv => whnf
      exact ⟨_, Cell.mk kb.1 rfl, rfl⟩
    conv => whnf
    refine (nums19 w.1 (s10.nums rfl) (by
      refine Nat.le_trans st.len ?_
      simp <;> omega) (by simp) (2 : Nat)).mono ?_
    rintro _ _ ⟨rfl, q, wq, fq, mq⟩
    have kb := kb.step fq mq
    have w := w.step' wq fq mq
    have st := st.prog (k := 2) (by decide) (by decide) [IntKind.i64.wrap (m.e + 1)]
    refine ⟨?_, ?_⟩
    · conv => whnf
      exact ⟨_, Cell.mk kb.1 rfl, rfl⟩
    refine ⟨?_, ?_⟩
    · conv => whnf
      exact ⟨_, Cell.mk kb.1 rfl, rfl⟩
    conv => whnf
    rw [twoNum]
    have s18 := Kp.push w.1 (.row true 1 (ints .i64 [m.f, m.l]))
    have kb := kb.keep (Mod.push none_ _ (.row true 1 (ints .i64 [m.f, m.l])))
    have w := w.keep (Mod.push none_ _ (.row true 1 (ints .i64 [m.f, m.l])))
    conv => whnf
    refine (nums19 w.1 (s18.nums rfl) (by
      refine Nat.le_trans st.len ?_
      simp <;> omega) (by simp) (5 : Nat)).mono ?_
    rintro _ _ ⟨rfl, q, wq, fq, mq⟩
    have kb := kb.step fq mq
    have w := w.step' wq fq mq
    have st := st.prog (k := 5) (by decide) (by decide) [m.f, m.l]
    conv => whnf
    rotate_left
    conv => whnf
    refine ⟨[0, 1, 2, 3, 6, 7, 8, 9, 12, 13, 14, 15, 16, 17, 4, 10, 5, 18, 11, 19], [0, 0, 2, 6, 14, 2015, 0, 64, 192, 448, 990, 522239, 0, 4096, 12288, 0, 32768, 98304, 260095, 524287], by kernel_rfl, ?_⟩
    conv => whnf
    refine ⟨_, Cell.mk kb.1 rfl, ?_⟩
    conv => whnf
    refine ⟨_, Cell.mk kb.1 rfl, ?_⟩
    conv => whnf
    refine ⟨_, Cell.mk kb.1 rfl, ?_⟩
    conv => whnf
    refine ⟨_, Cell.mk kb.1 rfl, ?_⟩
    conv => whnf
    rw [oneNum]
    have s4 := Kp.push w.1 (.row true 1 (ints .i64 [m.c]))
    have kb := kb.keep (Mod.push none_ _ (.row true 1 (ints .i64 [m.c])))
    have w := w.keep (Mod.push none_ _ (.row true 1 (ints .i64 [m.c])))
    conv => whnf
    rw [oneNum]
    have s10 := Kp.push w.1 (.row true 1 (ints .i64 [IntKind.i64.wrap (m.e + 1)]))
    have s4 := s4.keep (Mod.push none_ _ (.row true 1 (ints .i64 [IntKind.i64.wrap (m.e + 1)])))
    have kb := kb.keep (Mod.push none_ _ (.row true 1 (ints .i64 [IntKind.i64.wrap (m.e + 1)])))
    have w := w.keep (Mod.push none_ _ (.row true 1 (ints .i64 [IntKind.i64.wrap (m.e + 1)])))
    conv => whnf
    refine (nums19 w.1 (s4.nums rfl) (by
      refine Nat.le_trans st.len ?_
      simp <;> omega) (by simp) (1 : Nat)).mono ?_
    rintro _ _ ⟨rfl, q, wq, fq, mq⟩
    have s10 := s10.step fq mq
    have kb := kb.step fq mq
    have w := w.step' wq fq mq
    have st := st.prog (k := 1) (by decide) (by decide) [m.c]
    refine ⟨?_, ?_⟩
    · conv => whnf
      exact ⟨_, Cell.mk kb.1 rfl, rfl⟩
    refine ⟨?_, ?_⟩
    · conv => whnf
      exact ⟨_, Cell.mk kb.1 rfl, rfl⟩
    conv => whnf
    rw [twoNum]
    have s18 := Kp.push w.1 (.row true 1 (ints .i64 [m.f, m.l]))
    have s10 := s10.keep (Mod.push none_ _ (.row true 1 (ints .i64 [m.f, m.l])))
    have kb := kb.keep (Mod.push none_ _ (.row true 1 (ints .i64 [m.f, m.l])))
    have w := w.keep (Mod.push none_ _ (.row true 1 (ints .i64 [m.f, m.l])))
    conv => whnf
    refine (nums19 w.1 (s10.nums rfl) (by
      refine Nat.le_trans st.len ?_
      simp <;> omega) (by simp) (2 : Nat)).mono ?_
    rintro _ _ ⟨rfl, q, wq, fq, mq⟩
    have s18 := s18.step fq mq
    have kb := kb.step fq mq
    have w := w.step' wq fq mq
    have st := st.prog (k := 2) (by decide) (by decide) [IntKind.i64.wrap (m.e + 1)]
    conv => whnf
    refine (nums19 w.1 (s18.nums rfl) (by
      refine Nat.le_trans st.len ?_
      simp <;> omega) (by simp) (5 : Nat)).mono ?_
    rintro _ _ ⟨rfl, q, wq, fq, mq⟩
    have kb := kb.step fq mq
    have w := w.step' wq fq mq
    have st := st.prog (k := 5) (by decide) (by decide) [m.f, m.l]
    conv => whnf
    rotate_left
    conv => whnf
    refine ⟨[], [11, 18], rfl, ?_, ?_⟩
    conv => whnf
    refine ⟨[0, 1, 2, 3, 6, 7, 8, 9, 12, 13, 14, 15, 16, 17, 10, 4, 5, 11, 18, 19], [0, 0, 2, 6, 1998, 2015, 0, 64, 192, 448, 960, 2047, 0, 4096, 12288, 0, 32768, 98304, 262143, 524287], by kernel_rfl, ?_⟩
    conv => whnf
    refine ⟨_, Cell.mk kb.1 rfl, ?_⟩
    conv => whnf
    refine ⟨_, Cell.mk kb.1 rfl, ?_⟩
    conv => whnf
    refine ⟨_, Cell.mk kb.1 rfl, ?_⟩
    conv => whnf
    refine ⟨_, Cell.mk kb.1 rfl, ?_⟩
    conv => whnf
    rw [oneNum]
    have s10 := Kp.push w.1 (.row true 1 (ints .i64 [IntKind.i64.wrap (m.e + 1)]))
    have kb := kb.keep (Mod.push none_ _ (.row true 1 (ints .i64 [IntKind.i64.wrap (m.e + 1)])))
    have w := w.keep (Mod.push none_ _ (.row true 1 (ints .i64 [IntKind.i64.wrap (m.e + 1)])))
    conv => whnf
    rw [oneNum]
    have s4 := Kp.push w.1 (.row true 1 (ints .i64 [m.c]))
    have s10 := s10.keep (Mod.push none_ _ (.row true 1 (ints .i64 [m.c])))
    have kb := kb.keep (Mod.push none_ _ (.row true 1 (ints .i64 [m.c])))
    have w := w.keep (Mod.push none_ _ (.row true 1 (ints .i64 [m.c])))
    conv => whnf
    refine (nums19 w.1 (s4.nums rfl) (by
      refine Nat.le_trans st.len ?_
      simp <;> omega) (by simp) (1 : Nat)).mono ?_
    rintro _ _ ⟨rfl, q, wq, fq, mq⟩
    have s10 := s10.step fq mq
    have kb := kb.step fq mq
    have w := w.step' wq fq mq
    have st := st.prog (k := 1) (by decide) (by decide) [m.c]
    refine ⟨?_, ?_⟩
    · conv => whnf
      exact ⟨_, Cell.mk kb.1 rfl, rfl⟩
    refine ⟨?_, ?_⟩
    · conv => whnf
      exact ⟨_, Cell.mk kb.1 rfl, rfl⟩
    conv => whnf
    refine (nums19 w.1 (s10.nums rfl) (by
      refine Nat.le_trans st.len ?_
      simp <;> omega) (by simp) (2 : Nat)).mono ?_
    rintro _ _ ⟨rfl, q, wq, fq, mq⟩
    have kb := kb.step fq mq
    have w := w.step' wq fq mq
    have st := st.prog (k := 2) (by decide) (by decide) [IntKind.i64.wrap (m.e + 1)]
    refine ⟨?_, ?_⟩
    · conv => whnf
      exact ⟨_, Cell.mk kb.1 rfl, rfl⟩
    refine ⟨?_, ?_⟩
    · conv => whnf
      exact ⟨_, Cell.mk kb.1 rfl, rfl⟩
    conv => whnf
    rw [twoNum]
    have s18 := Kp.push w.1 (.row true 1 (ints .i64 [m.f, m.l]))
    have kb := kb.keep (Mod.push none_ _ (.row true 1 (ints .i64 [m.f, m.l])))
    have w := w.keep (Mod.push none_ _ (.row true 1 (ints .i64 [m.f, m.l])))
    conv => whnf
    refine (nums19 w.1 (s18.nums rfl) (by
      refine Nat.le_trans st.len ?_
      simp <;> omega) (by simp) (5 : Nat)).mono ?_
    rintro _ _ ⟨rfl, q, wq, fq, mq⟩
    have kb := kb.step fq mq
    have w := w.step' wq fq mq
    have st := st.prog (k := 5) (by decide) (by decide) [m.f, m.l]
    conv => whnf
    rotate_left
    conv => whnf
    refine ⟨[0, 1, 2, 3, 6, 7, 8, 9, 12, 13, 14, 15, 16, 17, 10, 4, 5, 18, 11, 19], [0, 0, 2, 6, 1998, 2015, 0, 64, 192, 448, 960, 522239, 0, 4096, 12288, 0, 32768, 98304, 260095, 524287], by kernel_rfl, ?_⟩
    conv => whnf
    refine ⟨_, Cell.mk kb.1 rfl, ?_⟩
    conv => whnf
    refine ⟨_, Cell.mk kb.1 rfl, ?_⟩
    conv => whnf
    refine ⟨_, Cell.mk kb.1 rfl, ?_⟩
    conv => whnf
    refine ⟨_, Cell.mk kb.1 rfl, ?_⟩
    conv => whnf
    rw [oneNum]
    have s10 := Kp.push w.1 (.row true 1 (ints .i64 [IntKind.i64.wrap (m.e + 1)]))
    have kb := kb.keep (Mod.push none_ _ (.row true 1 (ints .i64 [IntKind.i64.wrap (m.e + 1)])))
    have w := w.keep (Mod.push none_ _ (.row true 1 (ints .i64 [IntKind.i64.wrap (m.e + 1)])))
    conv => whnf
    rw [oneNum]
    have s4 := Kp.push w.1 (.row true 1 (ints .i64 [m.c]))
    have s10 := s10.keep (Mod.push none_ _ (.row true 1 (ints .i64 [m.c])))
    have kb := kb.keep (Mod.push none_ _ (.row true 1 (ints .i64 [m.c])))
    have w := w.keep (Mod.push none_ _ (.row true 1 (ints .i64 [m.c])))
    conv => whnf
    refine (nums19 w.1 (s4.nums rfl) (by
      refine Nat.le_trans st.len ?_
      simp <;> omega) (by simp) (1 : Nat)).mono ?_
    rintro _ _ ⟨rfl, q, wq, fq, mq⟩
    have s10 := s10.step fq mq
    have kb := kb.step fq mq
    have w := w.step' wq fq mq
    have st := st.prog (k := 1) (by decide) (by decide) [m.c]
    refine ⟨?_, ?_⟩
    · conv => whnf
      exact ⟨_, Cell.mk kb.1 rfl, rfl⟩
    refine ⟨?_, ?_⟩
    · conv => whnf
      exact ⟨_, Cell.mk kb.1 rfl, rfl⟩
    conv => whnf
    rw [twoNum]
    have s18 := Kp.push w.1 (.row true 1 (ints .i64 [m.f, m.l]))
    have s10 := s10.keep (Mod.push none_ _ (.row true 1 (ints .i64 [m.f, m.l])))
    have kb := kb.keep (Mod.push none_ _ (.row true 1 (ints .i64 [m.f, m.l])))
    have w := w.keep (Mod.push none_ _ (.row true 1 (ints .i64 [m.f, m.l])))
    conv => whnf
    refine (nums19 w.1 (s10.nums rfl) (by
      refine Nat.le_trans st.len ?_
      simp <;> omega) (by simp) (2 : Nat)).mono ?_
    rintro _ _ ⟨rfl, q, wq, fq, mq⟩
    have s18 := s18.step fq mq
    have kb := kb.step fq mq
    have w := w.step' wq fq mq
    have st := st.prog (k := 2) (by decide) (by decide) [IntKind.i64.wrap (m.e + 1)]
    conv => whnf
    refine (nums19 w.1 (s18.nums rfl) (by
      refine Nat.le_trans st.len ?_
      simp <;> omega) (by simp) (5 : Nat)).mono ?_
    rintro _ _ ⟨rfl, q, wq, fq, mq⟩
    have kb := kb.step fq mq
    have w := w.step' wq fq mq
    have st := st.prog (k := 5) (by decide) (by decide) [m.f, m.l]
    conv => whnf
    rotate_left
    conv => whnf
    refine ⟨[], [4, 18], rfl, ?_, ?_⟩
    conv => whnf
    refine ⟨[], [10, 18], rfl, ?_, ?_⟩
    conv => whnf
    refine ⟨[], [4, 10], rfl, ?_, ?_⟩
    conv => whnf
    refine ⟨[0, 1, 2, 3, 6, 7, 8, 9, 12, 13, 14, 15, 16, 17, 4, 10, 18, 5, 11, 19], [0, 0, 2, 6, 14, 522207, 0, 64, 192, 448, 990, 522239, 0, 4096, 12288, 0, 32768, 98304, 260062, 524287], by kernel_rfl, ?_⟩
    conv => whnf
    refine ⟨_, Cell.mk kb.1 rfl, ?_⟩
    conv => whnf
    refine ⟨_, Cell.mk kb.1 rfl, ?_⟩
    conv => whnf
    refine ⟨_, Cell.mk kb.1 rfl, ?_⟩
    conv => whnf
    refine ⟨_, Cell.mk kb.1 rfl, ?_⟩
    conv => whnf
    rw [oneNum]
    have s4 := Kp.push w.1 (.row true 1 (ints .i64 [m.c]))
    have kb := kb.keep (Mod.push none_ _ (.row true 1 (ints .i64 [m.c])))
    have w := w.keep (Mod.push none_ _ (.row true 1 (ints .i64 [m.c])))
    conv => whnf
    rw [oneNum]
    have s10 := Kp.push w.1 (.row true 1 (ints .i64 [IntKind.i64.wrap (m.e + 1)]))
    have s4 := s4.keep (Mod.push none_ _ (.row true 1 (ints .i64 [IntKind.i64.wrap (m.e + 1)])))
    have kb := kb.keep (Mod.push none_ _ (.row true 1 (ints .i64 [IntKind.i64.wrap (m.e + 1)])))
    have w := w.keep (Mod.push none_ _ (.row true 1 (ints .i64 [IntKind.i64.wrap (m.e + 1)])))
    conv => whnf
    rw [twoNum]
    have s18 := Kp.push w.1 (.row true 1 (ints .i64 [m.f, m.l]))
    have s4 := s4.keep (Mod.push none_ _ (.row true 1 (ints .i64 [m.f, m.l])))
    have s10 := s10.keep (Mod.push none_ _ (.row true 1 (ints .i64 [m.f, m.l])))
    have kb := kb.keep (Mod.push none_ _ (.row true 1 (ints .i64 [m.f, m.l])))
    have w := w.keep (Mod.push none_ _ (.row true 1 (ints .i64 [m.f, m.l])))
    conv => whnf
    refine (nums19 w.1 (s4.nums rfl) (by
      refine Nat.le_trans st.len ?_
      simp <;> omega) (by simp) (1 : Nat)).mono ?_
    rintro _ _ ⟨rfl, q, wq, fq, mq⟩
    have s10 := s10.step fq mq
    have s18 := s18.step fq mq
    have kb := kb.step fq mq
    have w := w.step' wq fq mq
    have st := st.prog (k := 1) (by decide) (by decide) [m.c]
    conv => whnf
    refine (nums19 w.1 (s10.nums rfl) (by
      refine Nat.le_trans st.len ?_
      simp <;> omega) (by simp) (2 : Nat)).mono ?_
    rintro _ _ ⟨rfl, q, wq, fq, mq⟩
    have s18 := s18.step fq mq
    have kb := kb.step fq mq
    have w := w.step' wq fq mq
    have st := st.prog (k := 2) (by decide) (by decide) [IntKind.i64.wrap (m.e + 1)]
    conv => whnf
    refine (nums19 w.1 (s18.nums rfl) (by
      refine Nat.le_trans st.len ?_
      simp <;> omega) (by simp) (5 : Nat)).mono ?_
    rintro _ _ ⟨rfl, q, wq, fq, mq⟩
    have kb := kb.step fq mq
    have w := w.step' wq fq mq
    have st := st.prog (k := 5) (by decide) (by decide) [m.f, m.l]
    conv => whnf
    rotate_left
    conv => whnf
    refine ⟨[0, 1, 2, 3, 6, 7, 8, 9, 12, 13, 14, 15, 16, 17, 10, 4, 18, 5, 11, 19], [0, 0, 2, 6, 1998, 522207, 0, 64, 192, 448, 960, 522239, 0, 4096, 12288, 0, 32768, 98304, 260062, 524287], by kernel_rfl, ?_⟩
    conv => whnf
    refine ⟨_, Cell.mk kb.1 rfl, ?_⟩
    conv => whnf
    refine ⟨_, Cell.mk kb.1 rfl, ?_⟩
    conv => whnf
    refine ⟨_, Cell.mk kb.1 rfl, ?_⟩
    conv => whnf
    refine ⟨_, Cell.mk kb.1 rfl, ?_⟩
    conv => whnf
    rw [oneNum]
    have s10 := Kp.push w.1 (.row true 1 (ints .i64 [IntKind.i64.wrap (m.e + 1)]))
    have kb := kb.keep (Mod.push none_ _ (.row true 1 (ints .i64 [IntKind.i64.wrap (m.e + 1)])))
    have w := w.keep (Mod.push none_ _ (.row true 1 (ints .i64 [IntKind.i64.wrap (m.e + 1)])))
    conv => whnf
    rw [oneNum]
    have s4 := Kp.push w.1 (.row true 1 (ints .i64 [m.c]))
    have s10 := s10.keep (Mod.push none_ _ (.row true 1 (ints .i64 [m.c])))
    have kb := kb.keep (Mod.push none_ _ (.row true 1 (ints .i64 [m.c])))
    have w := w.keep (Mod.push none_ _ (.row true 1 (ints .i64 [m.c])))
    conv => whnf
    rw [twoNum]
    have s18 := Kp.push w.1 (.row true 1 (ints .i64 [m.f, m.l]))
    have s4 := s4.keep (Mod.push none_ _ (.row true 1 (ints .i64 [m.f, m.l])))
    have s10 := s10.keep (Mod.push none_ _ (.row true 1 (ints .i64 [m.f, m.l])))
    have kb := kb.keep (Mod.push none_ _ (.row true 1 (ints .i64 [m.f, m.l])))
    have w := w.keep (Mod.push none_ _ (.row true 1 (ints .i64 [m.f, m.l])))
    conv => whnf
    refine (nums19 w.1 (s4.nums rfl) (by
      refine Nat.le_trans st.len ?_
      simp <;> omega) (by simp) (1 : Nat)).mono ?_
    rintro _ _ ⟨rfl, q, wq, fq, mq⟩
    have s10 := s10.step fq mq
    have s18 := s18.step fq mq
    have kb := kb.step fq mq
    have w := w.step' wq fq mq
    have st := st.prog (k := 1) (by decide) (by decide) [m.c]
    conv => whnf
    refine (nums19 w.1 (s10.nums rfl) (by
      refine Nat.le_trans st.len ?_
      simp <;> omega) (by simp) (2 : Nat)).mono ?_
    rintro _ _ ⟨rfl, q, wq, fq, mq⟩
    have s18 := s18.step fq mq
    have kb := kb.step fq mq
    have w := w.step' wq fq mq
    have st := st.prog (k := 2) (by decide) (by decide) [IntKind.i64.wrap (m.e + 1)]
    conv => whnf
    refine (nums19 w.1 (s18.nums rfl) (by
      refine Nat.le_trans st.len ?_
      simp <;> omega) (by simp) (5 : Nat)).mono ?_
    rintro _ _ ⟨rfl, q, wq, fq, mq⟩
    have kb := kb.step fq mq
    have w := w.step' wq fq mq
    have st := st.prog (k := 5) (by decide) (by decide) [m.f, m.l]
    conv => whnf
    rotate_left
    conv => whnf
    refine ⟨[], [5, 10], rfl, ?_, ?_⟩
    conv => whnf
    refine ⟨[0, 1, 2, 3, 6, 7, 8, 9, 12, 13, 14, 15, 16, 17, 4, 18, 5, 10, 11, 19], [0, 0, 2, 6, 14, 520223, 0, 64, 192, 448, 521215, 522239, 0, 4096, 12288, 0, 32768, 98304, 258078, 524287], by kernel_rfl, ?_⟩
    conv => whnf
    refine ⟨_, Cell.mk kb.1 rfl, ?_⟩
    conv => whnf
    refine ⟨_, Cell.mk kb.1 rfl, ?_⟩
    conv => whnf
    refine ⟨_, Cell.mk kb.1 rfl, ?_⟩
    conv => whnf
    refine ⟨_, Cell.mk kb.1 rfl, ?_⟩
    conv => whnf
    rw [oneNum]
    have s4 := Kp.push w.1 (.row true 1 (ints .i64 [m.c]))
    have kb := kb.keep (Mod.push none_ _ (.row true 1 (ints .i64 [m.c])))
    have w := w.keep (Mod.push none_ _ (.row true 1 (ints .i64 [m.c])))
    conv => whnf
    rw [twoNum]
    have s18 := Kp.push w.1 (.row true 1 (ints .i64 [m.f, m.l]))
    have s4 := s4.keep (Mod.push none_ _ (.row true 1 (ints .i64 [m.f, m.l])))
    have kb := kb.keep (Mod.push none_ _ (.row true 1 (ints .i64 [m.f, m.l])))
    have w := w.keep (Mod.push none_ _ (.row true 1 (ints .i64 [m.f, m.l])))
    conv => whnf
    refine (nums19 w.1 (s4.nums rfl) (by
      refine Nat.le_trans st.len ?_
      simp <;> omega) (by simp) (1 : Nat)).mono ?_
    rintro _ _ ⟨rfl, q, wq, fq, mq⟩
    have s18 := s18.step fq mq
    have kb := kb.step fq mq
    have w := w.step' wq fq mq
    have st := st.prog (k := 1) (by decide) (by decide) [m.c]
    refine ⟨?_, ?_⟩
    · conv => whnf
      exact ⟨_, Cell.mk kb.1 rfl, rfl⟩
    conv => whnf
    rw [oneNum]
    have s10 := Kp.push w.1 (.row true 1 (ints .i64 [IntKind.i64.wrap (m.e + 1)]))
    have s18 := s18.keep (Mod.push none_ _ (.row true 1 (ints .i64 [IntKind.i64.wrap (m.e + 1)])))
    have kb := kb.keep (Mod.push none_ _ (.row true 1 (ints .i64 [IntKind.i64.wrap (m.e + 1)])))
    have w := w.keep (Mod.push none_ _ (.row true 1 (ints .i64 [IntKind.i64.wrap (m.e + 1)])))
    conv => whnf
    refine (nums19 w.1 (s10.nums rfl) (by
      refine Nat.le_trans st.len ?_
      simp <;> omega) (by simp) (2 : Nat)).mono ?_
    rintro _ _ ⟨rfl, q, wq, fq, mq⟩
    have s18 := s18.step fq mq
    have kb := kb.step fq mq
    have w := w.step' wq fq mq
    have st := st.prog (k := 2) (by decide) (by decide) [IntKind.i64.wrap (m.e + 1)]
    conv => whnf
    refine (nums19 w.1 (s18.nums rfl) (by
      refine Nat.le_trans st.len ?_
      simp <;> omega) (by simp) (5 : Nat)).mono ?_
    rintro _ _ ⟨rfl, q, wq, fq, mq⟩
    have kb := kb.step fq mq
    have w := w.step' wq fq mq
    have st := st.prog (k := 5) (by decide) (by decide) [m.f, m.l]
    conv => whnf
    rotate_left
    conv => whnf
    refine ⟨[0, 1, 2, 3, 6, 7, 8, 9, 12, 13, 14, 15, 16, 17, 4, 18, 10, 5, 11, 19], [0, 0, 2, 6, 14, 522207, 0, 64, 192, 448, 521182, 522239, 0, 4096, 12288, 0, 32768, 98304, 258078, 524287], by kernel_rfl, ?_⟩
    conv => whnf
    refine ⟨_, Cell.mk kb.1 rfl, ?_⟩
    conv => whnf
    refine ⟨_, Cell.mk kb.1 rfl, ?_⟩
    conv => whnf
    refine ⟨_, Cell.mk kb.1 rfl, ?_⟩
    conv => whnf
    refine ⟨_, Cell.mk kb.1 rfl, ?_⟩
    conv => whnf
    rw [oneNum]
    have s4 := Kp.push w.1 (.row true 1 (ints .i64 [m.c]))
    have kb := kb.keep (Mod.push none_ _ (.row true 1 (ints .i64 [m.c])))
    have w := w.keep (Mod.push none_ _ (.row true 1 (ints .i64 [m.c])))
    conv => whnf
    rw [twoNum]
    have s18 := Kp.push w.1 (.row true 1 (ints .i64 [m.f, m.l]))
    have s4 := s4.keep (Mod.push none_ _ (.row true 1 (ints .i64 [m.f, m.l])))
    have kb := kb.keep (Mod.push none_ _ (.row true 1 (ints .i64 [m.f, m.l])))
    have w := w.keep (Mod.push none_ _ (.row true 1 (ints .i64 [m.f, m.l])))
    conv => whnf
    rw [oneNum]
    have s10 := Kp.push w.1 (.row true 1 (ints .i64 [IntKind.i64.wrap (m.e + 1)]))
    have s4 := s4.keep (Mod.push none_ _ (.row true 1 (ints .i64 [IntKind.i64.wrap (m.e + 1)])))
    have s18 := s18.keep (Mod.push none_ _ (.row true 1 (ints .i64 [IntKind.i64.wrap (m.e + 1)])))
    have kb := kb.keep (Mod.push none_ _ (.row true 1 (ints .i64 [IntKind.i64.wrap (m.e + 1)])))
    have w := w.keep (Mod.push none_ _ (.row true 1 (ints .i64 [IntKind.i64.wrap (m.e + 1)])))
    conv => whnf
    refine (nums19 w.1 (s4.nums rfl) (by
      refine Nat.le_trans st.len ?_
      simp <;> omega) (by simp) (1 : Nat)).mono ?_
    rintro _ _ ⟨rfl, q, wq, fq, mq⟩
    have s10 := s10.step fq mq
    have s18 := s18.step fq mq
    have kb := kb.step fq mq
    have w := w.step' wq fq mq
    have st := st.prog (k := 1) (by decide) (by decide) [m.c]
    conv => whnf
    refine (nums19 w.1 (s10.nums rfl) (by
      refine Nat.le_trans st.len ?_
      simp <;> omega) (by simp) (2 : Nat)).mono ?_
    rintro _ _ ⟨rfl, q, wq, fq, mq⟩
    have s18 := s18.step fq mq
    have kb := kb.step fq mq
    have w := w.step' wq fq mq
    have st := st.prog (k := 2) (by decide) (by decide) [IntKind.i64.wrap (m.e + 1)]
    conv => whnf
    refine (nums19 w.1 (s18.nums rfl) (by
      refine Nat.le_trans st.len ?_
      simp <;> omega) (by simp) (5 : Nat)).mono ?_
    rintro _ _ ⟨rfl, q, wq, fq, mq⟩
    have kb := kb.step fq mq
    have w := w.step' wq fq mq
    have st := st.prog (k := 5) (by decide) (by decide) [m.f, m.l]
    conv => whnf
    rotate_left
    conv => whnf
    refine ⟨[], [4, 10], rfl, ?_, ?_⟩
    conv => whnf
    refine ⟨[], [5, 10], rfl, ?_, ?_⟩
    conv => whnf
    refine ⟨[0, 1, 2, 3, 6, 7, 8, 9, 12, 13, 14, 15, 16, 17, 18, 4, 5, 10, 11, 19], [0, 0, 2, 6, 520206, 520223, 0, 64, 192, 448, 521215, 522239, 0, 4096, 12288, 0, 32768, 98304, 258048, 524287], by kernel_rfl, ?_⟩
    conv => whnf
    refine ⟨_, Cell.mk kb.1 rfl, ?_⟩
    conv => whnf
    refine ⟨_, Cell.mk kb.1 rfl, ?_⟩
    conv => whnf
    refine ⟨_, Cell.mk kb.1 rfl, ?_⟩
    conv => whnf
    refine ⟨_, Cell.mk kb.1 rfl, ?_⟩
    conv => whnf
    rw [twoNum]
    have s18 := Kp.push w.1 (.row true 1 (ints .i64 [m.f, m.l]))
    have kb := kb.keep (Mod.push none_ _ (.row true 1 (ints .i64 [m.f, m.l])))
    have w := w.keep (Mod.push none_ _ (.row true 1 (ints .i64 [m.f, m.l])))
    conv => whnf
    rw [oneNum]
    have s4 := Kp.push w.1 (.row true 1 (ints .i64 [m.c]))
    have s18 := s18.keep (Mod.push none_ _ (.row true 1 (ints .i64 [m.c])))
    have kb := kb.keep (Mod.push none_ _ (.row true 1 (ints .i64 [m.c])))
    have w := w.keep (Mod.push none_ _ (.row true 1 (ints .i64 [m.c])))
    conv => whnf
    refine (nums19 w.1 (s4.nums rfl) (by
      refine Nat.le_trans st.len ?_
      simp <;> omega) (by simp) (1 : Nat)).mono ?_
    rintro _ _ ⟨rfl, q, wq, fq, mq⟩
    have s18 := s18.step fq mq
    have kb := kb.step fq mq
    have w := w.step' wq fq mq
    have st := st.prog (k := 1) (by decide) (by decide) [m.c]
    refine ⟨?_, ?_⟩
    · conv => whnf
      exact ⟨_, Cell.mk kb.1 rfl, rfl⟩
    conv => whnf
    rw [oneNum]
    have s10 := Kp.push w.1 (.row true 1 (ints .i64 [IntKind.i64.wrap (m.e + 1)]))
    have s18 := s18.keep (Mod.push none_ _ (.row true 1 (ints .i64 [IntKind.i64.wrap (m.e + 1)])))
    have kb := kb.keep (Mod.push none_ _ (.row true 1 (ints .i64 [IntKind.i64.wrap (m.e + 1)])))
    have w := w.keep (Mod.push none_ _ (.row true 1 (ints .i64 [IntKind.i64.wrap (m.e + 1)])))
    conv => whnf
    refine (nums19 w.1 (s10.nums rfl) (by
      refine Nat.le_trans st.len ?_
      simp <;> omega) (by simp) (2 : Nat)).mono ?_
    rintro _ _ ⟨rfl, q, wq, fq, mq⟩
    have s18 := s18.step fq mq
    have kb := kb.step fq mq
    have w := w.step' wq fq mq
    have st := st.prog (k := 2) (by decide) (by decide) [IntKind.i64.wrap (m.e + 1)]
    conv => whnf
    refine (nums19 w.1 (s18.nums rfl) (by
      refine Nat.le_trans st.len ?_
      simp <;> omega) (by simp) (5 : Nat)).mono ?_
    rintro _ _ ⟨rfl, q, wq, fq, mq⟩
    have kb := kb.step fq mq
    have w := w.step' wq fq mq
    have st := st.prog (k := 5) (by decide) (by decide) [m.f, m.l]
    conv => whnf
    rotate_left
    conv => whnf
    refine ⟨[0, 1, 2, 3, 6, 7, 8, 9, 12, 13, 14, 15, 16, 17, 18, 4, 10, 5, 11, 19], [0, 0, 2, 6, 520206, 522207, 0, 64, 192, 448, 521182, 522239, 0, 4096, 12288, 0, 32768, 98304, 258048, 524287], by kernel_rfl, ?_⟩
    conv => whnf
    refine ⟨_, Cell.mk kb.1 rfl, ?_⟩
    conv => whnf
    refine ⟨_, Cell.mk kb.1 rfl, ?_⟩
    conv => whnf
    refine ⟨_, Cell.mk kb.1 rfl, ?_⟩
    conv => whnf
    refine ⟨_, Cell.mk kb.1 rfl, ?_⟩
    conv => whnf
    rw [twoNum]
    have s18 := Kp.push w.1 (.row true 1 (ints .i64 [m.f, m.l]))
    have kb := kb.keep (Mod.push none_ _ (.row true 1 (ints .i64 [m.f, m.l])))
    have w := w.keep (Mod.push none_ _ (.row true 1 (ints .i64 [m.f, m.l])))
    conv => whnf
    rw [oneNum]
    have s4 := Kp.push w.1 (.row true 1 (ints .i64 [m.c]))
    have s18 := s18.keep (Mod.push none_ _ (.row true 1 (ints .i64 [m.c])))
    have kb := kb.keep (Mod.push none_ _ (.row true 1 (ints .i64 [m.c])))
    have w := w.keep (Mod.push none_ _ (.row true 1 (ints .i64 [m.c])))
    conv => whnf
    rw [oneNum]
    have s10 := Kp.push w.1 (.row true 1 (ints .i64 [IntKind.i64.wrap (m.e + 1)]))
    have s4 := s4.keep (Mod.push none_ _ (.row true 1 (ints .i64 [IntKind.i64.wrap (m.e + 1)])))
    have s18 := s18.keep (Mod.push none_ _ (.row true 1 (ints .i64 [IntKind.i64.wrap (m.e + 1)])))
    have kb := kb.keep (Mod.push none_ _ (.row true 1 (ints .i64 [IntKind.i64.wrap (m.e + 1)])))
    have w := w.keep (Mod.push none_ _ (.row true 1 (ints .i64 [IntKind.i64.wrap (m.e + 1)])))
    conv => whnf
    refine (nums19 w.1 (s4.nums rfl) (by
      refine Nat.le_trans st.len ?_
      simp <;> omega) (by simp) (1 : Nat)).mono ?_
    rintro _ _ ⟨rfl, q, wq, fq, mq⟩
    have s10 := s10.step fq mq
    have s18 := s18.step fq mq
    have kb := kb.step fq mq
    have w := w.step' wq fq mq
    have st := st.prog (k := 1) (by decide) (by decide) [m.c]
    conv => whnf
    refine (nums19 w.1 (s10.nums rfl) (by
      refine Nat.le_trans st.len ?_
      simp <;> omega) (by simp) (2 : Nat)).mono ?_
    rintro _ _ ⟨rfl, q, wq, fq, mq⟩
    have s18 := s18.step fq mq
    have kb := kb.step fq mq
    have w := w.step' wq fq mq
    have st := st.prog (k := 2) (by decide) (by decide) [IntKind.i64.wrap (m.e + 1)]
    conv => whnf
    refine (nums19 w.1 (s18.nums rfl) (by
      refine Nat.le_trans st.len ?_
      simp <;> omega) (by simp) (5 : Nat)).mono ?_
    rintro _ _ ⟨rfl, q, wq, fq, mq⟩
    have kb := kb.step fq mq
    have w := w.step' wq fq mq
    have st := st.prog (k := 5) (by decide) (by decide) [m.f, m.l]
    conv => whnf
    rotate_left
    conv => whnf
    refine ⟨[], [10, 18], rfl, ?_, ?_⟩
    conv => whnf
    refine ⟨[0, 1, 2, 3, 6, 7, 8, 9, 12, 13, 14, 15, 16, 17, 10, 18, 4, 5, 11, 19], [0, 0, 2, 6, 522190, 522207, 0, 64, 192, 448, 960, 522239, 0, 4096, 12288, 0, 32768, 98304, 260032, 524287], by kernel_rfl, ?_⟩
    conv => whnf
    refine ⟨_, Cell.mk kb.1 rfl, ?_⟩
    conv => whnf
    refine ⟨_, Cell.mk kb.1 rfl, ?_⟩
    conv => whnf
    refine ⟨_, Cell.mk kb.1 rfl, ?_⟩
    conv => whnf
    refine ⟨_, Cell.mk kb.1 rfl, ?_⟩
    conv => whnf
    rw [oneNum]
    have s10 := Kp.push w.1 (.row true 1 (ints .i64 [IntKind.i64.wrap (m.e + 1)]))
    have kb := kb.keep (Mod.push none_ _ (.row true 1 (ints .i64 [IntKind.i64.wrap (m.e + 1)])))
    have w := w.keep (Mod.push none_ _ (.row true 1 (ints .i64 [IntKind.i64.wrap (m.e + 1)])))
    conv => whnf
    rw [twoNum]
    have s18 := Kp.push w.1 (.row true 1 (ints .i64 [m.f, m.l]))
    have s10 := s10.keep (Mod.push none_ _ (.row true 1 (ints .i64 [m.f, m.l])))
    have kb := kb.keep (Mod.push none_ _ (.row true 1 (ints .i64 [m.f, m.l])))
    have w := w.keep (Mod.push none_ _ (.row true 1 (ints .i64 [m.f, m.l])))
    conv => whnf
    rw [oneNum]
    have s4 := Kp.push w.1 (.row true 1 (ints .i64 [m.c]))
    have s10 := s10.keep (Mod.push none_ _ (.row true 1 (ints .i64 [m.c])))
    have s18 := s18.keep (Mod.push none_ _ (.row true 1 (ints .i64 [m.c])))
    have kb := kb.keep (Mod.push none_ _ (.row true 1 (ints .i64 [m.c])))
    have w := w.keep (Mod.push none_ _ (.row true 1 (ints .i64 [m.c])))
    conv => whnf
    refine (nums19 w.1 (s4.nums rfl) (by
      refine Nat.le_trans st.len ?_
      simp <;> omega) (by simp) (1 : Nat)).mono ?_
    rintro _ _ ⟨rfl, q, wq, fq, mq⟩
    have s10 := s10.step fq mq
    have s18 := s18.step fq mq
    have kb := kb.step fq mq
    have w := w.step' wq fq mq
    have st := st.prog (k := 1) (by decide) (by decide) [m.c]
    conv => whnf
    refine (nums19 w.1 (s10.nums rfl) (by
      refine Nat.le_trans st.len ?_
      simp <;> omega) (by simp) (2 : Nat)).mono ?_
    rintro _ _ ⟨rfl, q, wq, fq, mq⟩
    have s18 := s18.step fq mq
    have kb := kb.step fq mq
    have w := w.step' wq fq mq
    have st := st.prog (k := 2) (by decide) (by decide) [IntKind.i64.wrap (m.e + 1)]
    conv => whnf
    refine (nums19 w.1 (s18.nums rfl) (by
      refine Nat.le_trans st.len ?_
      simp <;> omega) (by simp) (5 : Nat)).mono ?_
    rintro _ _ ⟨rfl, q, wq, fq, mq⟩
    have kb := kb.step fq mq
    have w := w.step' wq fq mq
    have st := st.prog (k := 5) (by decide) (by decide) [m.f, m.l]
    conv => whnf
    rotate_left
    conv => whnf
    refine ⟨[0, 1, 2, 3, 6, 7, 8, 9, 12, 13, 14, 15, 16, 17, 18, 10, 4, 5, 11, 19], [0, 0, 2, 6, 522190, 522207, 0, 64, 192, 448, 521152, 522239, 0, 4096, 12288, 0, 32768, 98304, 258048, 524287], by kernel_rfl, ?_⟩
    conv => whnf
    refine ⟨_, Cell.mk kb.1 rfl, ?_⟩
    conv => whnf
    refine ⟨_, Cell.mk kb.1 rfl, ?_⟩
    conv => whnf
    refine ⟨_, Cell.mk kb.1 rfl, ?_⟩
    conv => whnf
    refine ⟨_, Cell.mk kb.1 rfl, ?_⟩
    conv => whnf
    rw [twoNum]
    have s18 := Kp.push w.1 (.row true 1 (ints .i64 [m.f, m.l]))
    have kb := kb.keep (Mod.push none_ _ (.row true 1 (ints .i64 [m.f, m.l])))
    have w := w.keep (Mod.push none_ _ (.row true 1 (ints .i64 [m.f, m.l])))
    conv => whnf
    rw [oneNum]
    have s10 := Kp.push w.1 (.row true 1 (ints .i64 [IntKind.i64.wrap (m.e + 1)]))
    have s18 := s18.keep (Mod.push none_ _ (.row true 1 (ints .i64 [IntKind.i64.wrap (m.e + 1)])))
    have kb := kb.keep (Mod.push none_ _ (.row true 1 (ints .i64 [IntKind.i64.wrap (m.e + 1)])))
    have w := w.keep (Mod.push none_ _ (.row true 1 (ints .i64 [IntKind.i64.wrap (m.e + 1)])))
    conv => whnf
    rw [oneNum]
    have s4 := Kp.push w.1 (.row true 1 (ints .i64 [m.c]))
    have s10 := s10.keep (Mod.push none_ _ (.row true 1 (ints .i64 [m.c])))
    have s18 := s18.keep (Mod.push none_ _ (.row true 1 (ints .i64 [m.c])))
    have kb := kb.keep (Mod.push none_ _ (.row true 1 (ints .i64 [m.c])))
    have w := w.keep (Mod.push none_ _ (.row true 1 (ints .i64 [m.c])))
    conv => whnf
    refine (nums19 w.1 (s4.nums rfl) (by
      refine Nat.le_trans st.len ?_
      simp <;> omega) (by simp) (1 : Nat)).mono ?_
    rintro _ _ ⟨rfl, q, wq, fq, mq⟩
    have s10 := s10.step fq mq
    have s18 := s18.step fq mq
    have kb := kb.step fq mq
    have w := w.step' wq fq mq
    have st := st.prog (k := 1) (by decide) (by decide) [m.c]
    conv => whnf
    refine (nums19 w.1 (s10.nums rfl) (by
      refine Nat.le_trans st.len ?_
      simp <;> omega) (by simp) (2 : Nat)).mono ?_
    rintro _ _ ⟨rfl, q, wq, fq, mq⟩
    have s18 := s18.step fq mq
    have kb := kb.step fq mq
    have w := w.step' wq fq mq
    have st := st.prog (k := 2) (by decide) (by decide) [IntKind.i64.wrap (m.e + 1)]
    conv => whnf
    refine (nums19 w.1 (s18.nums rfl) (by
      refine Nat.le_trans st.len ?_
      simp <;> omega) (by simp) (5 : Nat)).mono ?_
    rintro _ _ ⟨rfl, q, wq, fq, mq⟩
    have kb := kb.step fq mq
    have w := w.step' wq fq mq
    have st := st.prog (k := 5) (by decide) (by decide) [m.f, m.l]
    conv => whnf
    rotate_left

    all_goals
      refine ⟨_, Cell.mk kb.1 rfl, ?_⟩
      conv => whnf
      refine br_mk (fun hz => ?_) (fun hz => ?_)
      rotate_left
      · simp [h7] at hz
      conv => whnf
      exact ⟨by rw [knd_ne (by omega) (by omega) (by omega)], _, _, _, w, fun _ => by rw [parts, tailP_7 h7]; exact st⟩
  conv => whnf
  simp at h1 h2 h9 h5 h7
  have tp := tailP_0 h1 h2 h9 h5 h7
  refine br_mk (fun h3 => ?_) (fun h3 => ?_)
  · conv => whnf
    simp at h3
    refine br_mk (fun _ => ?_) (fun hz => ?_)
    rotate_left
    · simp [h3] at hz
    conv => whnf
    refine ⟨_, Cell.mk kb.1 rfl, ?_⟩
    conv => whnf
    refine br_mk (fun hz => ?_) (fun hz => ?_)
    rotate_left
    · simp [h3] at hz
    conv => whnf
    exact ⟨by rw [knd_ne (by omega) (by omega) (by omega)], _, _, _, w, fun _ => by rw [parts, tp]; exact st⟩
  conv => whnf
  refine br_mk (fun h4 => ?_) (fun h4 => ?_)
  · conv => whnf
    simp at h4
    refine br_mk (fun _ => ?_) (fun hz => ?_)
    rotate_left
    · simp [h4] at hz
    conv => whnf
    refine ⟨_, Cell.mk kb.1 rfl, ?_⟩
    conv => whnf
    refine br_mk (fun hz => ?_) (fun hz => ?_)
    rotate_left
    · simp [h4] at hz
    conv => whnf
    exact ⟨by rw [knd_ne (by omega) (by omega) (by omega)], _, _, _, w, fun _ => by rw [parts, tp]; exact st⟩
  conv => whnf
  refine br_mk (fun h6 => ?_) (fun h6 => ?_)
  · conv => whnf
    simp at h6
    refine br_mk (fun _ => ?_) (fun hz => ?_)
    rotate_left
    · simp [h6] at hz
    conv => whnf
    refine ⟨_, Cell.mk kb.1 rfl, ?_⟩
    conv => whnf
    refine br_mk (fun hz => ?_) (fun hz => ?_)
    rotate_left
    · simp [h6] at hz
    conv => whnf
    exact ⟨by rw [knd_ne (by omega) (by omega) (by omega)], _, _, _, w, fun _ => by rw [parts, tp]; exact st⟩
  conv => whnf
  refine br_mk (fun h8 => ?_) (fun h8 => ?_)
  · conv => whnf
    simp at h8
    refine ⟨_, Cell.mk kb.1 rfl, ?_⟩
    conv => whnf
    refine br_mk (fun hz => ?_) (fun hz => ?_)
    rotate_left
    · simp [h8] at hz
    conv => whnf
    exact ⟨by rw [knd_ne (by omega) (by omega) (by omega)], _, _, _, w, fun _ => by rw [parts, tp]; exact st⟩
  conv => whnf
  simp at h3 h4 h6 h8
  have hk := knd_no (m := m) (by omega)
  exact ⟨by rw [hk], _, _, _, w, fun e => by rw [hk] at e; cases e⟩
end Go.Proofs.Ytnpfdppmpmnhbaa
