/- U2: texts of another seat, turned to this one. -/
import Derived.Test.YtoljllfbabahpaaU1
import Derived.Shelf.Lays
import Derived.Shelf.Lays2
import Derived.Shelf.Sort.AssemblyIn
import Derived.Sort.EveryDepth
import Derived.Shelf.Slices.CompactI
import Derived.Shelf.Slices.In.SortNone
set_option linter.unusedVariables false
set_option linter.unusedSimpArgs false
namespace Go.Proofs.Ytoljllfbabahpaa
open Go Go.Ab Go.Shelf
def sortA_ren : Go.Shelf.Ren := ⟨fun | 189 => 99 | 125 => 106 | 257 => 105 | 128 => 117 | 129 => 118 | 294 => 108 | 295 => 109 | 296 => 110 | 297 => 111 | 298 => 112 | 299 => 113 | 216 => 114 | 300 => 115 | 301 => 116 | 328 => 119 | 329 => 120 | 330 => 121 | 331 => 122 | 332 => 123 | 215 => 124 | 343 => 125 | n => n, fun | 28 => 22 | 3 => 3 | 46 => 205 | 0 => 0 | 51 => 215 | 53 => 217 | 4 => 4 | 183 => 208 | 182 => 207 | 131 => 87 | 5 => 5 | 9 => 9 | 218 => 218 | 222 => 222 | 228 => 224 | 229 => 104 | n => n, fun | n => n⟩
theorem sortA : Go.Proofs.Lays.n189 Try.prog sortA_ren where
  mixed := by kernel_rfl
  f125 := Try.func106.trans (congrArg some (by kernel_rfl))
  f128 := Try.func117.trans (congrArg some (by kernel_rfl))
  f129 := Try.func118.trans (congrArg some (by kernel_rfl))
  f189 := Try.func99.trans (congrArg some (by kernel_rfl))
  f215 := Try.func124.trans (congrArg some (by kernel_rfl))
  f216 := Try.func114.trans (congrArg some (by kernel_rfl))
  f257 := Try.func105.trans (congrArg some (by kernel_rfl))
  f294 := Try.func108.trans (congrArg some (by kernel_rfl))
  f295 := Try.func109.trans (congrArg some (by kernel_rfl))
  f296 := Try.func110.trans (congrArg some (by kernel_rfl))
  f297 := Try.func111.trans (congrArg some (by kernel_rfl))
  f298 := Try.func112.trans (congrArg some (by kernel_rfl))
  f299 := Try.func113.trans (congrArg some (by kernel_rfl))
  f300 := Try.func115.trans (congrArg some (by kernel_rfl))
  f301 := Try.func116.trans (congrArg some (by kernel_rfl))
  f328 := Try.func119.trans (congrArg some (by kernel_rfl))
  f329 := Try.func120.trans (congrArg some (by kernel_rfl))
  f330 := Try.func121.trans (congrArg some (by kernel_rfl))
  f331 := Try.func122.trans (congrArg some (by kernel_rfl))
  f332 := Try.func123.trans (congrArg some (by kernel_rfl))
  f343 := Try.func125.trans (congrArg some (by kernel_rfl))
  t0 := Try.underlying0
  a0 := Try.isAgg0
  z0 := Try.sizeOf0
  v0 := Try.zeroValue0
  t3 := Try.underlying3
  a3 := Try.isAgg3
  z3 := Try.sizeOf3
  v3 := Try.zeroValue3
  t4 := Try.underlying4
  a4 := Try.isAgg4
  z4 := Try.sizeOf4
  v4 := Try.zeroValue4
  t5 := Try.underlying5
  a5 := Try.isAgg5
  z5 := Try.sizeOf5
  v5 := Try.zeroValue5
  t9 := Try.underlying9
  a9 := Try.isAgg9
  z9 := Try.sizeOf9
  v9 := Try.zeroValue9
  t28 := Try.underlying22
  a28 := Try.isAgg22
  z28 := Try.sizeOf22
  v28 := Try.zeroValue22
  t46 := Try.underlying205
  a46 := Try.isAgg205
  z46 := Try.sizeOf205
  v46 := Try.zeroValue205
  t51 := Try.underlying215
  a51 := Try.isAgg215
  z51 := Try.sizeOf215
  v51 := Try.zeroValue215
  t53 := Try.underlying217
  a53 := Try.isAgg217
  z53 := Try.sizeOf217
  v53 := Try.zeroValue217
  t131 := Try.underlying87
  a131 := Try.isAgg87
  z131 := Try.sizeOf87
  v131 := Try.zeroValue87
  t182 := Try.underlying207
  a182 := Try.isAgg207
  z182 := Try.sizeOf207
  v182 := Try.zeroValue207
  t183 := Try.underlying208
  a183 := Try.isAgg208
  z183 := Try.sizeOf208
  v183 := Try.zeroValue208
  t218 := Try.underlying218
  a218 := Try.isAgg218
  z218 := Try.sizeOf218
  v218 := Try.zeroValue218
  t222 := Try.underlying222
  a222 := Try.isAgg222
  z222 := Try.sizeOf222
  v222 := Try.zeroValue222
  t228 := Try.underlying224
  a228 := Try.isAgg224
  z228 := Try.sizeOf224
  v228 := Try.zeroValue224
  t229 := Try.underlying104
  a229 := Try.isAgg104
  z229 := Try.sizeOf104
  v229 := Try.zeroValue104
def keysA_ren : Go.Shelf.Ren := ⟨fun | 7 => 103 | 10 => 107 | n => n, fun | 23 => 170 | 26 => 3 | 3 => 198 | 28 => 168 | 0 => 0 | 27 => 167 | 33 => 62 | 4 => 4 | n => n, fun | n => n⟩
theorem keysA : Go.Proofs.SlLaysZI.n7 Try.prog keysA_ren where
  mixed := by kernel_rfl
  f7 := ⟨"maps.Keys[map[int]milepost/timer.wait,int,milepost/timer.wait]", by decide, Try.func103.trans (congrArg some (by kernel_rfl))⟩
  f10 := ⟨"maps.Keys[map[int]milepost/timer.wait,int,milepost/timer.wait]$1", by decide, Try.func107.trans (congrArg some (by kernel_rfl))⟩
  t0 := Try.underlying0
  a0 := Try.isAgg0
  z0 := Try.sizeOf0
  v0 := Try.zeroValue0
  t4 := Try.underlying4
  a4 := Try.isAgg4
  z4 := Try.sizeOf4
  v4 := Try.zeroValue4
  t23 := Try.underlying170
  a23 := Try.isAgg170
  z23 := Try.sizeOf170
  v23 := Try.zeroValue170
  t26 := Try.underlying3
  a26 := Try.isAgg3
  z26 := Try.sizeOf3
  v26 := Try.zeroValue3
  t27 := Try.underlying167
  a27 := Try.isAgg167
  z27 := Try.sizeOf167
  v27 := Try.zeroValue167
  t28 := Try.underlying168
  a28 := Try.isAgg168
  z28 := Try.sizeOf168
  v28 := Try.zeroValue168
  t33 := Try.underlying62
  a33 := Try.isAgg62
  z33 := Try.sizeOf62
  v33 := Try.zeroValue62
def keysB_ren : Go.Shelf.Ren := ⟨fun | 7 => 81 | 10 => 100 | n => n, fun | 23 => 156 | 26 => 3 | 3 => 59 | 28 => 168 | 0 => 0 | 27 => 167 | 33 => 62 | 4 => 4 | n => n, fun | n => n⟩
theorem keysB : Go.Proofs.SlLaysZI.n7 Try.prog keysB_ren where
  mixed := by kernel_rfl
  f7 := ⟨"maps.Keys[map[int]*milepost/table.Entry,int,*milepost/table.Entry]", by decide, Try.func81.trans (congrArg some (by kernel_rfl))⟩
  f10 := ⟨"maps.Keys[map[int]*milepost/table.Entry,int,*milepost/table.Entry]$1", by decide, Try.func100.trans (congrArg some (by kernel_rfl))⟩
  t0 := Try.underlying0
  a0 := Try.isAgg0
  z0 := Try.sizeOf0
  v0 := Try.zeroValue0
  t4 := Try.underlying4
  a4 := Try.isAgg4
  z4 := Try.sizeOf4
  v4 := Try.zeroValue4
  t23 := Try.underlying156
  a23 := Try.isAgg156
  z23 := Try.sizeOf156
  v23 := Try.zeroValue156
  t26 := Try.underlying3
  a26 := Try.isAgg3
  z26 := Try.sizeOf3
  v26 := Try.zeroValue3
  t27 := Try.underlying167
  a27 := Try.isAgg167
  z27 := Try.sizeOf167
  v27 := Try.zeroValue167
  t28 := Try.underlying168
  a28 := Try.isAgg168
  z28 := Try.sizeOf168
  v28 := Try.zeroValue168
  t33 := Try.underlying62
  a33 := Try.isAgg62
  z33 := Try.sizeOf62
  v33 := Try.zeroValue62
def srt_ren : Go.Shelf.Ren := ⟨fun | 6 => 80 | 8 => 98 | 9 => 99 | 11 => 104 | 13 => 106 | 12 => 105 | 23 => 117 | 24 => 118 | 14 => 108 | 15 => 109 | 16 => 110 | 17 => 111 | 18 => 112 | 19 => 113 | 20 => 114 | 21 => 115 | 22 => 116 | 25 => 119 | 26 => 120 | 27 => 121 | 28 => 122 | 29 => 123 | 30 => 124 | 31 => 125 | n => n, fun | 26 => 3 | 28 => 168 | 24 => 22 | 0 => 0 | 3 => 3 | 37 => 205 | 48 => 215 | 50 => 217 | 4 => 4 | 40 => 208 | 39 => 207 | 45 => 87 | 5 => 5 | 9 => 9 | 51 => 218 | 55 => 222 | 57 => 224 | 58 => 104 | 33 => 62 | n => n, fun | n => n⟩
theorem srt : Go.Proofs.SlLaysZI.n6 Try.prog srt_ren where
  mixed := by kernel_rfl
  f6 := ⟨"slices.Sorted[int]", by decide, Try.func80.trans (congrArg some (by kernel_rfl))⟩
  f8 := ⟨"slices.Collect[int]", by decide, Try.func98.trans (congrArg some (by kernel_rfl))⟩
  f11 := ⟨"slices.AppendSeq[[]int,int]", by decide, Try.func104.trans (congrArg some (by kernel_rfl))⟩
  t0 := Try.underlying0
  a0 := Try.isAgg0
  z0 := Try.sizeOf0
  v0 := Try.zeroValue0
  t24 := Try.underlying22
  a24 := Try.isAgg22
  z24 := Try.sizeOf22
  v24 := Try.zeroValue22
  t26 := Try.underlying3
  a26 := Try.isAgg3
  z26 := Try.sizeOf3
  v26 := Try.zeroValue3
  t28 := Try.underlying168
  a28 := Try.isAgg168
  z28 := Try.sizeOf168
  v28 := Try.zeroValue168
  i26 := by kernel_rfl
abbrev leZ : Int → Int → Bool := fun x y => decide (x ≤ y)
theorem callable {f : Nat} {fn : Func} {c : Code} (hf : Try.prog.funcs[f]? = some fn) (hb : fn.body = some c) (hname : (fn.name == "runtime.NumGoroutine") = false) : Callable Try.prog f := ⟨fn, hf, by rw [hb]; rfl, hname⟩
theorem sort79 {h : H} {p : Option (Nat × Nat)} {n : Nat} {xs : List Int} (s : SlIs h p n true 1 (ints .i64 xs)) (hm : n ≤ 1000000) :
    ACalls Try.prog 99 [.sl p n] h (fun r h' => r = .tup [] ∧ SlIs h' p n true 1 (ints .i64 (xs.mergeSort leZ)) ∧ Ab.Mod (inSl p) h h') := by
  have hc : Callable Try.prog 99 := callable Try.func99 rfl (by kernel_rfl)
  by_cases hn : n = 0
  · subst hn
    have hl := s.1
    rw [ints_length] at hl
    have : xs = [] := List.eq_nil_of_length_eq_zero (by omega)
    subst this
    refine (idle_acalls hc (fun a cap w => Any.slices_Sort_int_none sortA a cap w) h p).mono ?_
    rintro r h' ⟨rfl, rfl⟩
    exact ⟨rfl, by simpa using s, ⟨Nat.le_refl _, fun _ _ _ => rfl⟩⟩
  · exact turns_acalls hc (fun zs => List.length_mergeSort zs) (fun blk off cap zs w h1 h2 h3 => calls_of_every_depth fun D => AnyS.slices_Sort_int_in sortA D blk off cap zs w h1 h2 h3) s (by omega) hm
theorem keys67 (h : H) (i : Nat) : ACalls Try.prog 103 [.mp (some i)] h (fun v h' => v = .clz 107 h.next ∧ h' = h.push (.row true 1 [.mp (some i)])) :=
  keys_acalls keysA (callable Try.func103 rfl (by kernel_rfl)) h i
theorem keys69 (h : H) (i : Nat) : ACalls Try.prog 81 [.mp (some i)] h (fun v h' => v = .clz 100 h.next ∧ h' = h.push (.row true 1 [.mp (some i)])) :=
  keys_acalls keysB (callable Try.func81 rfl (by kernel_rfl)) h i
theorem sortsA (m : Nat) : AnyZI.SortsIn Try.prog srt_ren Fence.wide m :=
  ⟨fun blk off cap ss W hH hblk hsz => callsIn_wide.2 (calls_of_every_depth fun D => AnyS.slices_Sort_int_in sortA D blk off cap ss W hH hblk hsz),
   fun p cap W => callsIn_wide.2 (Any.slices_Sort_int_none sortA p cap W)⟩
theorem sorted66 {h : H} {f b i : Nat} {ob om : Bool} {ms : List (Int × V)} (hf : f = 107 ∨ f = 100) (hb : h.obj b = some (.row ob 1 [.mp (some i)])) (hi : h.obj i = some (.map om (mpE .i64 ms))) (hnd : (ms.map (·.1)).Nodup) (hr : ∀ p ∈ ms, IntKind.i64.min ≤ p.1 ∧ p.1 ≤ IntKind.i64.max) (hl : ms.length ≤ 1000000) :
    ACalls Try.prog 80 [.clz f b] h (fun v h' => ∃ q, v = .sl q ms.length ∧ NewSl h h' q ms.length 1 (ints .i64 ((ms.map (·.1)).mergeSort leZ)) ∧ Ab.Mod none_ h h') := by
  rcases hf with rfl | rfl
  · exact sorted_acalls srt (r2 := keysA_ren) { keysA with } (callable Try.func80 rfl (by kernel_rfl)) sortsA (enters_of Try.func99 (by kernel_rfl) rfl) (enters_of Try.func107 (by kernel_rfl) rfl) hb hi hnd hr hl
  · exact sorted_acalls srt (r2 := keysB_ren) { keysB with } (callable Try.func80 rfl (by kernel_rfl)) sortsA (enters_of Try.func99 (by kernel_rfl) rfl) (enters_of Try.func100 (by kernel_rfl) rfl) hb hi hnd hr hl
end Go.Proofs.Ytoljllfbabahpaa
