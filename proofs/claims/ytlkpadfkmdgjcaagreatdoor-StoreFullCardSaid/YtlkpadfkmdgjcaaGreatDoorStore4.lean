/-
Lemmas for the statements of this seat: no statement of the seat is proved in this part (4 of 6); the conditions stand in each theorem.
-/
import Derived.Test.YtlkpadfkmdgjcaaGreatDoorStore3
import Derived.Shelf.SlSortCmp.WholeK
import Derived.Test.YtlkpadfkmdgjcaaGreatDoorProg
import Derived.Lib.SliceRun
section
set_option linter.unusedSimpArgs false
set_option linter.unusedVariables false
namespace Go.Proofs.YtlkpadfkmdgjcaaGreatDoor
open Go.Shelf
def sortPart_ren : Go.Shelf.Ren := ⟨fun | 6 => 148 | 15 => 164 | 14 => 178 | 28 => 193 | 29 => 194 | 20 => 213 | 21 => 214 | 22 => 215 | 23 => 216 | 24 => 217 | 25 => 218 | 26 => 219 | 27 => 220 | 46 => 233 | 47 => 224 | 48 => 225 | 49 => 234 | 50 => 235 | 57 => 244 | n => n, fun | 22 => 40 | 24 => 49 | 25 => 254 | 3 => 3 | 39 => 46 | 0 => 0 | 53 => 23 | 55 => 304 | 4 => 4 | 46 => 297 | 45 => 296 | 50 => 113 | 5 => 5 | 9 => 9 | 66 => 322 | 70 => 326 | 76 => 336 | 77 => 337 | n => n, fun | n => n⟩
theorem sortPart : Go.Proofs.SlLaysF0.n6 Tryz.prog sortPart_ren := {
  mixed := by kernel_rfl
  f6 := ⟨Tryz.f148.name, by decide, Tryz.func148.trans (congrArg some (by kernel_rfl))⟩
  f14 := ⟨Tryz.f178.name, by decide, Tryz.func178.trans (congrArg some (by kernel_rfl))⟩
  f15 := Tryz.func164.trans (congrArg some (by kernel_rfl))
  f20 := ⟨Tryz.f213.name, by decide, Tryz.func213.trans (congrArg some (by kernel_rfl))⟩
  f21 := ⟨Tryz.f214.name, by decide, Tryz.func214.trans (congrArg some (by kernel_rfl))⟩
  f22 := ⟨Tryz.f215.name, by decide, Tryz.func215.trans (congrArg some (by kernel_rfl))⟩
  f23 := ⟨Tryz.f216.name, by decide, Tryz.func216.trans (congrArg some (by kernel_rfl))⟩
  f24 := ⟨Tryz.f217.name, by decide, Tryz.func217.trans (congrArg some (by kernel_rfl))⟩
  f25 := ⟨Tryz.f218.name, by decide, Tryz.func218.trans (congrArg some (by kernel_rfl))⟩
  f26 := ⟨Tryz.f219.name, by decide, Tryz.func219.trans (congrArg some (by kernel_rfl))⟩
  f27 := ⟨Tryz.f220.name, by decide, Tryz.func220.trans (congrArg some (by kernel_rfl))⟩
  f28 := Tryz.func193.trans (congrArg some (by kernel_rfl))
  f29 := Tryz.func194.trans (congrArg some (by kernel_rfl))
  f46 := ⟨Tryz.f233.name, by decide, Tryz.func233.trans (congrArg some (by kernel_rfl))⟩
  f47 := Tryz.func224.trans (congrArg some (by kernel_rfl))
  f48 := Tryz.func225.trans (congrArg some (by kernel_rfl))
  f49 := ⟨Tryz.f234.name, by decide, Tryz.func234.trans (congrArg some (by kernel_rfl))⟩
  f50 := ⟨Tryz.f235.name, by decide, Tryz.func235.trans (congrArg some (by kernel_rfl))⟩
  f57 := ⟨Tryz.f244.name, by decide, Tryz.func244.trans (congrArg some (by kernel_rfl))⟩
  t0 := Tryz.underlying0
  a0 := Tryz.isAgg0
  z0 := Tryz.sizeOf0
  v0 := Tryz.zeroValue0
  t3 := Tryz.underlying3
  a3 := Tryz.isAgg3
  z3 := Tryz.sizeOf3
  v3 := Tryz.zeroValue3
  t4 := Tryz.underlying4
  a4 := Tryz.isAgg4
  z4 := Tryz.sizeOf4
  v4 := Tryz.zeroValue4
  t5 := Tryz.underlying5
  a5 := Tryz.isAgg5
  z5 := Tryz.sizeOf5
  v5 := Tryz.zeroValue5
  t9 := Tryz.underlying9
  a9 := Tryz.isAgg9
  z9 := Tryz.sizeOf9
  v9 := Tryz.zeroValue9
  t22 := Tryz.underlying40
  a22 := Tryz.isAgg40
  z22 := Tryz.sizeOf40
  v22 := Tryz.zeroValue40
  t25 := Tryz.underlying254
  a25 := Tryz.isAgg254
  z25 := Tryz.sizeOf254
  v25 := Tryz.zeroValue254
  t39 := Tryz.underlying46
  a39 := Tryz.isAgg46
  z39 := Tryz.sizeOf46
  v39 := Tryz.zeroValue46
  t45 := Tryz.underlying296
  a45 := Tryz.isAgg296
  z45 := Tryz.sizeOf296
  v45 := Tryz.zeroValue296
  t46 := Tryz.underlying297
  a46 := Tryz.isAgg297
  z46 := Tryz.sizeOf297
  v46 := Tryz.zeroValue297
  t50 := Tryz.underlying113
  a50 := Tryz.isAgg113
  z50 := Tryz.sizeOf113
  v50 := Tryz.zeroValue113
  t53 := Tryz.underlying23
  a53 := Tryz.isAgg23
  z53 := Tryz.sizeOf23
  v53 := Tryz.zeroValue23
  t55 := Tryz.underlying304
  a55 := Tryz.isAgg304
  z55 := Tryz.sizeOf304
  v55 := Tryz.zeroValue304
  t66 := Tryz.underlying322
  a66 := Tryz.isAgg322
  z66 := Tryz.sizeOf322
  v66 := Tryz.zeroValue322
  t70 := Tryz.underlying326
  a70 := Tryz.isAgg326
  z70 := Tryz.sizeOf326
  v70 := Tryz.zeroValue326
  t76 := Tryz.underlying336
  a76 := Tryz.isAgg336
  z76 := Tryz.sizeOf336
  v76 := Tryz.zeroValue336
  t77 := Tryz.underlying337
  a77 := Tryz.isAgg337
  z77 := Tryz.sizeOf337
  v77 := Tryz.zeroValue337 }
def sortEnt_ren : Go.Shelf.Ren := ⟨fun | 6 => 142 | 15 => 164 | 14 => 176 | 28 => 193 | 29 => 194 | 20 => 205 | 21 => 206 | 22 => 207 | 23 => 208 | 24 => 209 | 25 => 210 | 26 => 211 | 27 => 212 | 46 => 230 | 47 => 224 | 48 => 225 | 49 => 231 | 50 => 232 | 57 => 243 | n => n, fun | 22 => 42 | 24 => 37 | 25 => 239 | 3 => 3 | 39 => 46 | 0 => 0 | 53 => 23 | 55 => 304 | 4 => 4 | 46 => 297 | 45 => 296 | 50 => 113 | 5 => 5 | 9 => 9 | 66 => 322 | 70 => 326 | 76 => 336 | 77 => 337 | n => n, fun | n => n⟩
theorem sortEnt : Go.Proofs.SlLaysF0.n6 Tryz.prog sortEnt_ren := {
  mixed := by kernel_rfl
  f6 := ⟨Tryz.f142.name, by decide, Tryz.func142.trans (congrArg some (by kernel_rfl))⟩
  f14 := ⟨Tryz.f176.name, by decide, Tryz.func176.trans (congrArg some (by kernel_rfl))⟩
  f15 := Tryz.func164.trans (congrArg some (by kernel_rfl))
  f20 := ⟨Tryz.f205.name, by decide, Tryz.func205.trans (congrArg some (by kernel_rfl))⟩
  f21 := ⟨Tryz.f206.name, by decide, Tryz.func206.trans (congrArg some (by kernel_rfl))⟩
  f22 := ⟨Tryz.f207.name, by decide, Tryz.func207.trans (congrArg some (by kernel_rfl))⟩
  f23 := ⟨Tryz.f208.name, by decide, Tryz.func208.trans (congrArg some (by kernel_rfl))⟩
  f24 := ⟨Tryz.f209.name, by decide, Tryz.func209.trans (congrArg some (by kernel_rfl))⟩
  f25 := ⟨Tryz.f210.name, by decide, Tryz.func210.trans (congrArg some (by kernel_rfl))⟩
  f26 := ⟨Tryz.f211.name, by decide, Tryz.func211.trans (congrArg some (by kernel_rfl))⟩
  f27 := ⟨Tryz.f212.name, by decide, Tryz.func212.trans (congrArg some (by kernel_rfl))⟩
  f28 := Tryz.func193.trans (congrArg some (by kernel_rfl))
  f29 := Tryz.func194.trans (congrArg some (by kernel_rfl))
  f46 := ⟨Tryz.f230.name, by decide, Tryz.func230.trans (congrArg some (by kernel_rfl))⟩
  f47 := Tryz.func224.trans (congrArg some (by kernel_rfl))
  f48 := Tryz.func225.trans (congrArg some (by kernel_rfl))
  f49 := ⟨Tryz.f231.name, by decide, Tryz.func231.trans (congrArg some (by kernel_rfl))⟩
  f50 := ⟨Tryz.f232.name, by decide, Tryz.func232.trans (congrArg some (by kernel_rfl))⟩
  f57 := ⟨Tryz.f243.name, by decide, Tryz.func243.trans (congrArg some (by kernel_rfl))⟩
  t0 := Tryz.underlying0
  a0 := Tryz.isAgg0
  z0 := Tryz.sizeOf0
  v0 := Tryz.zeroValue0
  t3 := Tryz.underlying3
  a3 := Tryz.isAgg3
  z3 := Tryz.sizeOf3
  v3 := Tryz.zeroValue3
  t4 := Tryz.underlying4
  a4 := Tryz.isAgg4
  z4 := Tryz.sizeOf4
  v4 := Tryz.zeroValue4
  t5 := Tryz.underlying5
  a5 := Tryz.isAgg5
  z5 := Tryz.sizeOf5
  v5 := Tryz.zeroValue5
  t9 := Tryz.underlying9
  a9 := Tryz.isAgg9
  z9 := Tryz.sizeOf9
  v9 := Tryz.zeroValue9
  t22 := Tryz.underlying42
  a22 := Tryz.isAgg42
  z22 := Tryz.sizeOf42
  v22 := Tryz.zeroValue42
  t25 := Tryz.underlying239
  a25 := Tryz.isAgg239
  z25 := Tryz.sizeOf239
  v25 := Tryz.zeroValue239
  t39 := Tryz.underlying46
  a39 := Tryz.isAgg46
  z39 := Tryz.sizeOf46
  v39 := Tryz.zeroValue46
  t45 := Tryz.underlying296
  a45 := Tryz.isAgg296
  z45 := Tryz.sizeOf296
  v45 := Tryz.zeroValue296
  t46 := Tryz.underlying297
  a46 := Tryz.isAgg297
  z46 := Tryz.sizeOf297
  v46 := Tryz.zeroValue297
  t50 := Tryz.underlying113
  a50 := Tryz.isAgg113
  z50 := Tryz.sizeOf113
  v50 := Tryz.zeroValue113
  t53 := Tryz.underlying23
  a53 := Tryz.isAgg23
  z53 := Tryz.sizeOf23
  v53 := Tryz.zeroValue23
  t55 := Tryz.underlying304
  a55 := Tryz.isAgg304
  z55 := Tryz.sizeOf304
  v55 := Tryz.zeroValue304
  t66 := Tryz.underlying322
  a66 := Tryz.isAgg322
  z66 := Tryz.sizeOf322
  v66 := Tryz.zeroValue322
  t70 := Tryz.underlying326
  a70 := Tryz.isAgg326
  z70 := Tryz.sizeOf326
  v70 := Tryz.zeroValue326
  t76 := Tryz.underlying336
  a76 := Tryz.isAgg336
  z76 := Tryz.sizeOf336
  v76 := Tryz.zeroValue336
  t77 := Tryz.underlying337
  a77 := Tryz.isAgg337
  z77 := Tryz.sizeOf337
  v77 := Tryz.zeroValue337 }
end Go.Proofs.YtlkpadfkmdgjcaaGreatDoor
end
section
set_option linter.unusedSimpArgs false
set_option linter.unusedVariables false
namespace Go.Ev
open Go Go.RowKit Go.Sort Go.Proofs
/-! ### The library's sort of records: its contract, as blocks and lists tell it -/
section
variable {α : Type} [Inhabited α] {enc : α → List Value} {k : Nat}
theorem flatK_list (hk : ∀ x, (enc x).length = k) (L : List α) : (flatK enc k L.toArray).toList = L.flatMap enc := by
  apply List.ext_getElem?
  intro t
  rcases Nat.lt_or_ge t (L.length * k) with ht | ht
  · have k0 : 0 < k := by
      rcases Nat.eq_zero_or_pos k with h | h
      · subst h; simp at ht
      · exact h
    have hi : t / k < L.length := Nat.div_lt_of_lt_mul (by rw [Nat.mul_comm]; exact ht)
    have hj : t % k < k := Nat.mod_lt _ k0
    have h1 := get_flatK enc k L.toArray t (by simpa using ht)
    have h2 := flat_cell hk hi hj
    rw [show t / k * k + t % k = t by rw [Nat.mul_comm]; exact Nat.div_add_mod t k] at h2
    rw [h2]
    have hs : t < (flatK enc k L.toArray).size := by simpa using ht
    rw [getElem!_pos _ t hs] at h1
    rw [Array.getElem?_toList, Array.getElem?_eq_getElem hs, h1]
    have e1 : L.toArray[t / k]! = L[t / k] := by rw [getElem!_pos _ _ (by simpa using hi)]; simp
    rw [e1, getElem!_pos _ _ (by rw [hk]; exact hj), List.getElem?_eq_getElem (by rw [hk]; exact hj)]
  · rw [List.getElem?_eq_none (by simpa using ht), List.getElem?_eq_none (by rw [flat_len enc k hk]; exact ht)]
theorem putCells_list (F arr : Array Value) (off : Nat) (h : off + F.size ≤ arr.size) : putCells id off F arr = setAll F.toList arr off := by
  apply Array.ext'
  rw [setAll_list _ _ _ (by simpa using h)]
  apply List.ext_getElem?
  intro i
  have hl : (arr.toList.take off).length = off := by rw [List.length_take, Array.length_toList]; omega
  unfold putCells
  rw [Array.getElem?_toList, Array.getElem?_mapIdx, List.append_assoc]
  rcases Nat.lt_or_ge i off with h1 | h1
  · rw [List.getElem?_append_left (by omega), List.getElem?_take_of_lt h1]
    have hi : i < arr.size := by omega
    rw [Array.getElem?_eq_getElem hi, Option.map_some, if_neg (by omega)]
    simp [hi]
  · rw [List.getElem?_append_right (by omega), hl]
    rcases Nat.lt_or_ge i (off + F.size) with h2 | h2
    · rw [List.getElem?_append_left (by rw [Array.length_toList]; omega)]
      have hi : i < arr.size := by omega
      rw [Array.getElem?_eq_getElem hi, Option.map_some, if_pos ⟨h1, h2⟩, getElem!_pos F (i - off) (by omega), Array.getElem?_toList, Array.getElem?_eq_getElem (show i - off < F.size by omega)]
      rfl
    · rw [List.getElem?_append_right (by rw [Array.length_toList]; omega), List.getElem?_drop, Array.length_toList, show off + F.size + (i - off - F.size) = i by omega]
      by_cases hi : i < arr.size
      · rw [Array.getElem?_eq_getElem hi, Option.map_some, if_neg (by omega)]
        simp [hi]
      · rw [Array.getElem?_eq_none (by omega), Option.map_none, List.getElem?_eq_none (by rw [Array.length_toList]; omega)]
theorem mapBlock_blk (w : World) (b : Nat) (f : Array Value → Array Value) (i : Nat) : blk (mapBlock w b f) i = if i = b then (blk w i).map (fun o => match o with | .cells c t fr => .cells (f c) t fr | o => o) else blk w i := by
  unfold mapBlock blk
  simp only [Array.getElem?_modify]
  by_cases h : b = i
  · subst h
    simp only [if_true]
    cases w.heap[b]? with
    | none => rfl
    | some o => cases o <;> rfl
  · rw [if_neg h, if_neg (fun e => h e.symm)]
theorem sortW_mod {w : World} {b n : Nat} {arr : Array Value} {t : TypeId} (hb : blk w b = some (.cells arr t)) (d : Array α) (os : Array Obj) (hs : (flatK enc k d).size ≤ arr.size) :
    Mod (fun i => i = b) w (sortWorldK enc k w b 0 n d os) ∧ blk (sortWorldK enc k w b 0 n d os) b = some (.cells (setAll (flatK enc k d).toList arr 0) t) := by
  have hlt := lt_of_blk hb
  have hsz : (mapBlock (Sort.ahead w n) b (putCells id 0 (flatK enc k d))).heap.size = w.heap.size := by unfold mapBlock Sort.ahead; simp
  have hg : ∀ i, i < w.heap.size → blk (sortWorldK enc k w b 0 n d os) i = blk (mapBlock (Sort.ahead w n) b (putCells id 0 (flatK enc k d))) i := by
    intro i hi
    unfold sortWorldK putRowK putRow grow blk
    rw [Array.getElem?_append_left (by rw [hsz]; exact hi)]
  have ha : ∀ i, blk (Sort.ahead w n) i = blk w i := fun _ => rfl
  refine ⟨⟨rfl, rfl, rfl, ?_, fun i hi hne => ?_⟩, ?_⟩
  · unfold sortWorldK putRowK putRow grow
    rw [Array.size_append, hsz]; omega
  · rw [hg i hi, mapBlock_blk, if_neg hne, ha]
  · rw [hg b hlt, mapBlock_blk, if_pos rfl, ha, hb]
    show some (Obj.cells (putCells id 0 (flatK enc k d) arr) t (0, 0)) = _
    rw [putCells_list _ _ _ (by omega)]
/-- A sorted row, told as a list. -/
theorem sort_meets {P : Program} {f : FuncId} {cl : Value} {lt : α → α → Bool} (hc : callable P f = true) (hk : ∀ x, (enc x).length = k) (hk0 : 0 < k) {w : World} {b n c : Nat} {L : List α} (hO : Own w (.slice (some ⟨b, 0, none⟩) n c) k (L.flatMap enc))
    (h : HoldsK enc k w b 0 L.toArray → b < w.heap.size → Calls P f #[.slice (some ⟨b, 0, none⟩) L.toArray.size c, cl] w fun e w' => e = .returned (.tuple #[]) ∧ ∃ d' m os, PermIn 0 L.toArray.size L.toArray d' ∧ SortedIn lt 0 L.toArray.size d' ∧ w' = sortWorldK enc k w b 0 m d' os) :
    Meets P f #[.slice (some ⟨b, 0, none⟩) n c, cl] w fun _ w' => ∃ L' : List α, L'.Perm L ∧ L'.Pairwise (fun x y => lt y x = false) ∧ Own w' (.slice (some ⟨b, 0, none⟩) n c) k (L'.flatMap enc) ∧ Mod (fun i => i = b) w w' := by
  have hO' := hO
  obtain ⟨a, n', c', e, h1, h2, h3, h4⟩ := hO'
  cases e
  have hn : n = L.length := by
    rw [flat_len enc k hk] at h1
    exact (Nat.eq_of_mul_eq_mul_right hk0 h1).symm
  subst hn
  rcases h4 with ⟨h4, _⟩ | ⟨b', arr, t, e, hb, hs, h5⟩
  · cases h4
  · cases e
    have hle : L.length * k ≤ arr.size := by rw [hs]; exact Nat.mul_le_mul_right _ h2
    have hH : HoldsK enc k w b 0 L.toArray := by
      intro j hj
      rw [size_flatK] at hj
      have hj : j < L.length * k := by simpa using hj
      have hfs : j < (flatK enc k L.toArray).size := by simpa using hj
      refine ⟨?_, by simp [World.frozen?, show w.heap[b]? = _ from hb]⟩
      have e1 := congrArg (fun l : List Value => l[j]?) h5
      rw [← flatK_list hk L] at e1
      simp only [List.getElem?_take_of_lt hj] at e1
      rw [cell_mk, hb, cellO_some, Nat.zero_add, getElem!_pos _ j hfs]
      rw [Array.getElem?_toList, Array.getElem?_toList, Array.getElem?_eq_getElem hfs] at e1
      exact e1
    refine ⟨hc, ((h hH (lt_of_blk hb)).mono ?_)⟩
    rintro e w' ⟨rfl, d', m, os, hp, hsd, rfl⟩
    obtain ⟨p1, p2, p3⟩ := hp
    have hsz : d'.size = L.length := by simpa using p1
    have hx : d'.extract 0 L.toArray.size = d' := by
      rw [List.size_toArray, ← hsz]; exact Array.extract_size
    have hx2 : L.toArray.extract 0 L.toArray.size = L.toArray := Array.extract_size
    rw [hx, hx2] at p3
    obtain ⟨q1, q2⟩ := sortW_mod (enc := enc) (k := k) (n := m) hb d' os (by rw [size_flatK, hsz]; exact hle)
    refine ⟨_, rfl, d'.toList, by simpa using p3, ?_, ?_, q1⟩
    · rw [List.pairwise_iff_getElem]
      intro i j hi hj hlt
      have hi' : i < d'.size := by simpa using hi
      have hj' : j < d'.size := by simpa using hj
      have := hsd i j (by omega) hlt (by simp; omega)
      rw [getElem!_pos d' i hi', getElem!_pos d' j hj'] at this
      simpa using this
    · have hd : d' = d'.toList.toArray := rfl
      have hf := flatK_list hk d'.toList
      rw [← hd] at hf
      rw [hf] at q2
      have := hO.put (us := d'.toList.flatMap enc) (j := 0) hb q2 (by rw [flat_len enc k hk, flat_len enc k hk]; simp [hsz])
      rw [List.take_zero, List.nil_append, Nat.zero_add, List.drop_of_length_le (by rw [flat_len enc k hk, flat_len enc k hk]; simp [hsz]), List.append_nil] at this
      exact this
end
end Go.Ev
end
section
set_option linter.unusedSimpArgs false
set_option linter.unusedVariables false
namespace Go.Proofs.YtlkpadfkmdgjcaaGreatDoor
open Go Go.Ev Go.Sort
set_option linter.unusedVariables false
set_option linter.unusedSimpArgs false
set_option maxRecDepth 100000
attribute [local irreducible] kO kB kStr kInt kN kG kIf kfld kld kldN kst knew kmap kbld kbldS kext kcnv klenStr klen kcap kprt kprtN kbool kint kstr keq kun ksl kix kiv kta kmk kmm ksem ksemU kextf kcallV kcallM kcall kL

/-! ### Sorting, by the library's contract -/
def cmpI (x y : Int) : Int := if x < y then -1 else if y < x then 1 else 0
theorem isNaN_spec (x : Int) (w : World) : Meets Tryz.prog 177 #[.int .i64 x] w fun v w' => v = .bool false ∧ w' = w := by
  refine f177_ok ?_
  unfold f177
  refine neq_at ?_
  exact ⟨by simp, rfl⟩
theorem cmp_spec (x y : Int) (w : World) : Meets Tryz.prog 144 #[.int .i64 x, .int .i64 y] w fun v w' => v = .int .i64 (cmpI x y) ∧ w' = w := by
  refine f144_ok ?_
  unfold f144
  refine kcall_of (isNaN_spec x w) ?_
  rintro v w2 ⟨rfl, rfl⟩
  refine kcall_of (isNaN_spec y w2) ?_
  rintro v w4 ⟨rfl, rfl⟩
  repeat (first | refine kN_at ?_ | refine kB_at ?_ | refine kfld_of ?_ | refine kext_at rfl ?_ | refine kG_of (by first | exact rfl | omega) ?_ | refine klen_at ?_ | refine eql_at ?_ | refine neq_at ?_ | refine lss_at ?_ | refine leq_at ?_ | refine gtr_at ?_ | refine geq_at ?_ | refine add_at (by omega) (by omega) ?_ | refine sub_at (by omega) (by omega) ?_ | refine not_at ?_ | refine kO_at ?_ | refine kprt_at rfl ?_ | refine kprtN_at rfl ?_ | refine kcap_at ?_ | refine klenStr_at ?_ | refine kN_iat ?_ | refine kN_fat ?_ | refine kIf_T (by first | exact rfl | exact decT (by omega) | exact notT (decF (by omega))) ?_ | refine kIf_F (by first | exact rfl | exact decF (by omega) | exact notF (decT (by omega))) ?_)
  unfold cmpI
  refine kIf_dec (fun h => ?_) (fun h => ?_)
  · rw [if_pos h]; exact ⟨rfl, rfl⟩
  · rw [if_neg h]
    unfold f144_3
    repeat (first | refine kN_at ?_ | refine kB_at ?_ | refine kfld_of ?_ | refine kext_at rfl ?_ | refine kG_of (by first | exact rfl | omega) ?_ | refine klen_at ?_ | refine eql_at ?_ | refine neq_at ?_ | refine lss_at ?_ | refine leq_at ?_ | refine gtr_at ?_ | refine geq_at ?_ | refine add_at (by omega) (by omega) ?_ | refine sub_at (by omega) (by omega) ?_ | refine not_at ?_ | refine kO_at ?_ | refine kprt_at rfl ?_ | refine kprtN_at rfl ?_ | refine kcap_at ?_ | refine klenStr_at ?_ | refine kN_iat ?_ | refine kN_fat ?_ | refine kIf_T (by first | exact rfl | exact decT (by omega) | exact notT (decF (by omega))) ?_ | refine kIf_F (by first | exact rfl | exact decF (by omega) | exact notF (decT (by omega))) ?_)
    refine kIf_dec (fun h => ?_) (fun h => ?_)
    · rw [if_pos h]; exact ⟨rfl, rfl⟩
    · rw [if_neg h]; exact ⟨rfl, rfl⟩
theorem ltI (x y : Int) : decide (cmpI x y < 0) = decide (x < y) := by
  unfold cmpI
  by_cases h1 : x < y
  · simp [h1]
  · by_cases h2 : y < x <;> simp [h1, h2]
theorem len64_0 (w : World) : Meets Tryz.prog 194 #[.int .u64 0] w fun v w' => v = .int .i64 0 ∧ w' = w := by
  refine f194_ok ?_
  unfold f194
  repeat (first | refine kN_at ?_ | refine kB_at ?_ | refine kfld_of ?_ | refine kext_at rfl ?_ | refine kG_of (by first | exact rfl | omega) ?_ | refine klen_at ?_ | refine eql_at ?_ | refine neq_at ?_ | refine lss_at ?_ | refine leq_at ?_ | refine gtr_at ?_ | refine geq_at ?_ | refine add_at (by omega) (by omega) ?_ | refine sub_at (by omega) (by omega) ?_ | refine not_at ?_ | refine kO_at ?_ | refine kprt_at rfl ?_ | refine kprtN_at rfl ?_ | refine kcap_at ?_ | refine klenStr_at ?_ | refine kN_iat ?_ | refine kN_fat ?_ | refine kIf_T (by first | exact rfl | exact decT (by omega) | exact notT (decF (by omega))) ?_ | refine kIf_F (by first | exact rfl | exact decF (by omega) | exact notF (decT (by omega))) ?_)
  unfold f194_2
  rw [kcnv_int, show IntKind.u8.wrap 0 = 0 by decide, kiv_string]
  refine kG_of (by decide) ?_
  refine kO_of (a := 0) rfl ?_
  rw [kcnv_int, show IntKind.i64.wrap ((UInt8.toNat 0 : Nat) : Int) = 0 by decide]
  repeat (first | refine kN_at ?_ | refine kB_at ?_ | refine kfld_of ?_ | refine kext_at rfl ?_ | refine kG_of (by first | exact rfl | omega) ?_ | refine klen_at ?_ | refine eql_at ?_ | refine neq_at ?_ | refine lss_at ?_ | refine leq_at ?_ | refine gtr_at ?_ | refine geq_at ?_ | refine add_at (by omega) (by omega) ?_ | refine sub_at (by omega) (by omega) ?_ | refine not_at ?_ | refine kO_at ?_ | refine kprt_at rfl ?_ | refine kprtN_at rfl ?_ | refine kcap_at ?_ | refine klenStr_at ?_ | refine kN_iat ?_ | refine kN_fat ?_ | refine kIf_T (by first | exact rfl | exact decT (by omega) | exact notT (decF (by omega))) ?_ | refine kIf_F (by first | exact rfl | exact decF (by omega) | exact notF (decT (by omega))) ?_)
  exact ⟨rfl, rfl⟩
theorem len_0 (w : World) : Meets Tryz.prog 164 #[.int .u64 0] w fun v w' => v = .int .i64 0 ∧ w' = w := by
  refine f164_ok ?_
  unfold f164
  repeat (first | refine kN_at ?_ | refine kB_at ?_ | refine kfld_of ?_ | refine kext_at rfl ?_ | refine kG_of (by first | exact rfl | omega) ?_ | refine klen_at ?_ | refine eql_at ?_ | refine neq_at ?_ | refine lss_at ?_ | refine leq_at ?_ | refine gtr_at ?_ | refine geq_at ?_ | refine add_at (by omega) (by omega) ?_ | refine sub_at (by omega) (by omega) ?_ | refine not_at ?_ | refine kO_at ?_ | refine kprt_at rfl ?_ | refine kprtN_at rfl ?_ | refine kcap_at ?_ | refine klenStr_at ?_ | refine kN_iat ?_ | refine kN_fat ?_ | refine kIf_T (by first | exact rfl | exact decT (by omega) | exact notT (decF (by omega))) ?_ | refine kIf_F (by first | exact rfl | exact decF (by omega) | exact notF (decT (by omega))) ?_)
  unfold f164_0
  refine kcall_of (len64_0 w) ?_
  intro v w' h
  exact h
instance : Inhabited Part := ⟨⟨0, 0, 0, 0, 0, 0⟩⟩
def entC (x : Int × Int) : List Value := [nV x.1, nV x.2]
theorem grow_two (w : World) (a b : Obj) : (w.alloc a).alloc b = grow w #[a, b] := by
  rw [alloc_eq_grow, alloc_eq_grow, grow_grow]; rfl
/-! ### parts -/
theorem cloP_spec (x y : Part) (w : World) : Meets Tryz.prog 149 #[.agg (Part.cells x).toArray, .agg (Part.cells y).toArray] w fun v w' => v = .int .i64 (cmpI (Part.comp x) (Part.comp y)) ∧ w' = grow w #[.cells (Part.cells x).toArray 49, .cells (Part.cells y).toArray 49] := by
  refine f149_ok ?_
  unfold f149
  rw [knew_eq, knew_eq]
  rw [← grow_two]
  have h1 : blk ((w.alloc (.cells (Value.agg (Part.cells x).toArray).cells 49)).alloc (.cells (Value.agg (Part.cells y).toArray).cells 49)) w.heap.size = some (.cells (Part.cells x).toArray 49) := by
    rw [alloc_heap_old (by simp), alloc_heap_new]; rfl
  have h2 : blk ((w.alloc (.cells (Value.agg (Part.cells x).toArray).cells 49)).alloc (.cells (Value.agg (Part.cells y).toArray).cells 49)) (w.alloc (.cells (Value.agg (Part.cells x).toArray).cells 49)).heap.size = some (.cells (Part.cells y).toArray 49) := by
    rw [alloc_heap_new]; rfl
  refine kfld_of ?_
  refine kld_of (v := .int .i64 (Part.comp x)) h1 rfl ?_
  refine kfld_of ?_
  refine kld_of (v := .int .i64 (Part.comp y)) h2 rfl ?_
  refine kcall_of (cmp_spec _ _ _) ?_
  rintro v w' ⟨rfl, rfl⟩
  exact ⟨rfl, rfl⟩
def ltP (x y : Part) : Bool := ltOf (fun x y : Part => cmpI (Part.comp x) (Part.comp y)) x y
theorem ltP_eq (x y : Part) : ltP x y = decide (Part.comp x < Part.comp y) := by
  show decide (cmpI (Part.comp x) (Part.comp y) < 0) = _
  exact ltI _ _
theorem swoP : SWO (ltOf fun x y : Part => cmpI (Part.comp x) (Part.comp y)) where
  irrefl x := by
    show ltP x x = false
    rw [ltP_eq]; simp
  trans x y z h1 h2 := by
    change ltP x y = true at h1
    change ltP y z = true at h2
    show ltP x z = true
    rw [ltP_eq] at *; simp at *; omega
  ntrans x y z h1 h2 := by
    change ltP x y = false at h1
    change ltP y z = false at h2
    show ltP x z = false
    rw [ltP_eq] at *; simp at *; omega
theorem insP_nil (w : World) (cl : Value) : Meets Tryz.prog 213 #[.slice none 0 0, .int .i64 0, .int .i64 0, cl] w fun v w' => v = .tuple #[] ∧ w' = w := by
  refine f213_ok ?_
  unfold f213
  repeat (first | refine kN_at ?_ | refine kB_at ?_ | refine kfld_of ?_ | refine kext_at rfl ?_ | refine kG_of (by first | exact rfl | omega) ?_ | refine klen_at ?_ | refine eql_at ?_ | refine neq_at ?_ | refine lss_at ?_ | refine leq_at ?_ | refine gtr_at ?_ | refine geq_at ?_ | refine add_at (by omega) (by omega) ?_ | refine sub_at (by omega) (by omega) ?_ | refine not_at ?_ | refine kO_at ?_ | refine kprt_at rfl ?_ | refine kprtN_at rfl ?_ | refine kcap_at ?_ | refine klenStr_at ?_ | refine kN_iat ?_ | refine kN_fat ?_ | refine kIf_T (by first | exact rfl | exact decT (by omega) | exact notT (decF (by omega))) ?_ | refine kIf_F (by first | exact rfl | exact decF (by omega) | exact notF (decT (by omega))) ?_)
  refine kL1_of 0 (fun i x wr => x = .int .i64 1 ∧ wr = w) ⟨lI1_0 ⟨rfl, rfl⟩, fun x wr hx => ?_⟩
  obtain ⟨i, hi, ⟨rfl, rfl⟩, hJ⟩ := lI1_step hx
  unfold f213_0
  repeat (first | refine kN_at ?_ | refine kB_at ?_ | refine kfld_of ?_ | refine kext_at rfl ?_ | refine kG_of (by first | exact rfl | omega) ?_ | refine klen_at ?_ | refine eql_at ?_ | refine neq_at ?_ | refine lss_at ?_ | refine leq_at ?_ | refine gtr_at ?_ | refine geq_at ?_ | refine add_at (by omega) (by omega) ?_ | refine sub_at (by omega) (by omega) ?_ | refine not_at ?_ | refine kO_at ?_ | refine kprt_at rfl ?_ | refine kprtN_at rfl ?_ | refine kcap_at ?_ | refine klenStr_at ?_ | refine kN_iat ?_ | refine kN_fat ?_ | refine kIf_T (by first | exact rfl | exact decT (by omega) | exact notT (decF (by omega))) ?_ | refine kIf_F (by first | exact rfl | exact decF (by omega) | exact notF (decT (by omega))) ?_)
  exact ⟨rfl, rfl⟩
def pdqInvP (w : World) (x1 x2 x3 x10 x11 : Value) (wr : World) : Prop := x1 = .int .i64 0 ∧ x2 = .int .i64 0 ∧ wr = w
theorem pdqP_nil (w : World) (cl : Value) (l : Value) : Meets Tryz.prog 178 #[.slice none 0 0, .int .i64 0, .int .i64 0, l, cl] w fun v w' => v = .tuple #[] ∧ w' = w := by
  refine f178_ok ?_
  unfold f178
  refine kL_of (pdqInvP w) (fun _ _ _ _ _ _ => 0) ⟨⟨rfl, rfl, rfl⟩, ?_⟩
  rintro x1 x2 x3 x10 x11 wr ⟨rfl, rfl, rfl⟩
  unfold f178_0
  repeat (first | refine kN_at ?_ | refine kB_at ?_ | refine kfld_of ?_ | refine kext_at rfl ?_ | refine kG_of (by first | exact rfl | omega) ?_ | refine klen_at ?_ | refine eql_at ?_ | refine neq_at ?_ | refine lss_at ?_ | refine leq_at ?_ | refine gtr_at ?_ | refine geq_at ?_ | refine add_at (by omega) (by omega) ?_ | refine sub_at (by omega) (by omega) ?_ | refine not_at ?_ | refine kO_at ?_ | refine kprt_at rfl ?_ | refine kprtN_at rfl ?_ | refine kcap_at ?_ | refine klenStr_at ?_ | refine kN_iat ?_ | refine kN_fat ?_ | refine kIf_T (by first | exact rfl | exact decT (by omega) | exact notT (decF (by omega))) ?_ | refine kIf_F (by first | exact rfl | exact decF (by omega) | exact notF (decT (by omega))) ?_)
  refine kcall_of (insP_nil wr cl) ?_
  rintro v w' ⟨rfl, rfl⟩
  exact ⟨rfl, rfl⟩
theorem sortP_nil (w : World) (cl : Value) : Meets Tryz.prog 148 #[.slice none 0 0, cl] w fun v w' => v = .tuple #[] ∧ w' = w := by
  refine f148_ok ?_
  unfold f148
  refine klen_at ?_
  rw [kcnv_int, show IntKind.u64.wrap ((0 : Nat) : Int) = 0 by decide]
  refine kcall_of (len_0 w) ?_
  rintro v w5 ⟨rfl, rfl⟩
  refine kcall_of (pdqP_nil w5 cl _) ?_
  rintro v w7 ⟨rfl, rfl⟩
  exact ⟨rfl, rfl⟩
theorem sortP_spec {w : World} {v : Value} {L : List Part} (hO : Own w v 6 (L.flatMap Part.cells)) (hl : L.length < 4611686018427387904) :
    Meets Tryz.prog 148 #[v, .func (.func 149) #[] #[]] w fun _ w' => ∃ L' : List Part, L'.Perm L ∧ L'.Pairwise (fun x y => Part.comp x ≤ Part.comp y) ∧ Own w' v 6 (L'.flatMap Part.cells) ∧ Mod (vblk v) w w' := by
  have hO' := hO
  obtain ⟨a, n, c, rfl, h1, h2, h3, h4⟩ := hO'
  rcases h4 with ⟨rfl, hc0⟩ | ⟨b, arr, t, rfl, hb, hs, h5⟩
  · obtain rfl : c = 0 := hc0
    obtain rfl : n = 0 := by omega
    have hL : L = [] := by
      rw [flat_len Part.cells 6 (fun _ => rfl)] at h1
      exact List.eq_nil_of_length_eq_zero (by omega)
    subst hL
    refine (sortP_nil w _).mono ?_
    rintro v w' ⟨rfl, rfl⟩
    exact ⟨[], List.Perm.refl _, List.Pairwise.nil, Own.nil _ _, Mod.refl _ _⟩
  · have eg : ∀ args w, (callFunc 149 args).run Tryz.prog w = .ok (.enter 149 args) w := Go.Proofs.enters_of Tryz.func149 (by kernel_rfl) rfl
    refine (sort_meets (enc := Part.cells) (k := 6) (lt := ltOf fun x y : Part => cmpI (Part.comp x) (Part.comp y)) (by kernel_rfl) (fun _ => rfl) (by omega) hO (fun hH hlt => ?_)).mono ?_
    · have hcmp : CmpLays Tryz.prog 149 #[] Part.cells 6 (fun x y : Part => cmpI (Part.comp x) (Part.comp y)) b 0 L.toArray.size w := by
        intro m os dk hdk x y
        refine ((cloP_spec x y _).2).mono ?_
        rintro e w' ⟨v, rfl, rfl, rfl⟩
        exact ⟨rfl, 0, _, rfl⟩
      have := AnyQ.slices_SortFunc sortPart 6 Tryz.isAgg49 Tryz.sizeOf49 Part.cells (fun _ => rfl) (fun x v hv => by
        simp [Part.cells] at hv
        rcases hv with rfl | rfl | rfl | rfl | rfl | rfl <;> rfl) (fun x y : Part => cmpI (Part.comp x) (Part.comp y)) swoP 149 #[] b 0 c L.toArray w eg hcmp hH hlt (by simpa using hl)
      exact this
    · rintro v w' ⟨L', g1, g2, g3, g4⟩
      refine ⟨L', g1, g2.imp (fun {x y} hxy => ?_), g3, g4.mono fun k _ e => by subst e; exact ⟨_, _, _, rfl⟩⟩
      change ltP y x = false at hxy
      rw [ltP_eq] at hxy
      simp at hxy
      omega
/-! ### entities -/
theorem cloE_spec (x y : (Int × Int)) (w : World) : Meets Tryz.prog 143 #[.agg (entC x).toArray, .agg (entC y).toArray] w fun v w' => v = .int .i64 (cmpI (Prod.fst x) (Prod.fst y)) ∧ w' = grow w #[.cells (entC x).toArray 37, .cells (entC y).toArray 37] := by
  refine f143_ok ?_
  unfold f143
  rw [knew_eq, knew_eq]
  rw [← grow_two]
  have h1 : blk ((w.alloc (.cells (Value.agg (entC x).toArray).cells 37)).alloc (.cells (Value.agg (entC y).toArray).cells 37)) w.heap.size = some (.cells (entC x).toArray 37) := by
    rw [alloc_heap_old (by simp), alloc_heap_new]; rfl
  have h2 : blk ((w.alloc (.cells (Value.agg (entC x).toArray).cells 37)).alloc (.cells (Value.agg (entC y).toArray).cells 37)) (w.alloc (.cells (Value.agg (entC x).toArray).cells 37)).heap.size = some (.cells (entC y).toArray 37) := by
    rw [alloc_heap_new]; rfl
  refine kfld_of ?_
  refine kld_of (v := .int .i64 (Prod.fst x)) h1 rfl ?_
  refine kfld_of ?_
  refine kld_of (v := .int .i64 (Prod.fst y)) h2 rfl ?_
  refine kcall_of (cmp_spec _ _ _) ?_
  rintro v w' ⟨rfl, rfl⟩
  exact ⟨rfl, rfl⟩
def ltE (x y : (Int × Int)) : Bool := ltOf (fun x y : (Int × Int) => cmpI (Prod.fst x) (Prod.fst y)) x y
theorem ltE_eq (x y : (Int × Int)) : ltE x y = decide (Prod.fst x < Prod.fst y) := by
  show decide (cmpI (Prod.fst x) (Prod.fst y) < 0) = _
  exact ltI _ _
theorem swoE : SWO (ltOf fun x y : (Int × Int) => cmpI (Prod.fst x) (Prod.fst y)) where
  irrefl x := by
    show ltE x x = false
    rw [ltE_eq]; simp
  trans x y z h1 h2 := by
    change ltE x y = true at h1
    change ltE y z = true at h2
    show ltE x z = true
    rw [ltE_eq] at *; simp at *; omega
  ntrans x y z h1 h2 := by
    change ltE x y = false at h1
    change ltE y z = false at h2
    show ltE x z = false
    rw [ltE_eq] at *; simp at *; omega
theorem insE_nil (w : World) (cl : Value) : Meets Tryz.prog 205 #[.slice none 0 0, .int .i64 0, .int .i64 0, cl] w fun v w' => v = .tuple #[] ∧ w' = w := by
  refine f205_ok ?_
  unfold f205
  repeat (first | refine kN_at ?_ | refine kB_at ?_ | refine kfld_of ?_ | refine kext_at rfl ?_ | refine kG_of (by first | exact rfl | omega) ?_ | refine klen_at ?_ | refine eql_at ?_ | refine neq_at ?_ | refine lss_at ?_ | refine leq_at ?_ | refine gtr_at ?_ | refine geq_at ?_ | refine add_at (by omega) (by omega) ?_ | refine sub_at (by omega) (by omega) ?_ | refine not_at ?_ | refine kO_at ?_ | refine kprt_at rfl ?_ | refine kprtN_at rfl ?_ | refine kcap_at ?_ | refine klenStr_at ?_ | refine kN_iat ?_ | refine kN_fat ?_ | refine kIf_T (by first | exact rfl | exact decT (by omega) | exact notT (decF (by omega))) ?_ | refine kIf_F (by first | exact rfl | exact decF (by omega) | exact notF (decT (by omega))) ?_)
  refine kL1_of 0 (fun i x wr => x = .int .i64 1 ∧ wr = w) ⟨lI1_0 ⟨rfl, rfl⟩, fun x wr hx => ?_⟩
  obtain ⟨i, hi, ⟨rfl, rfl⟩, hJ⟩ := lI1_step hx
  unfold f205_0
  repeat (first | refine kN_at ?_ | refine kB_at ?_ | refine kfld_of ?_ | refine kext_at rfl ?_ | refine kG_of (by first | exact rfl | omega) ?_ | refine klen_at ?_ | refine eql_at ?_ | refine neq_at ?_ | refine lss_at ?_ | refine leq_at ?_ | refine gtr_at ?_ | refine geq_at ?_ | refine add_at (by omega) (by omega) ?_ | refine sub_at (by omega) (by omega) ?_ | refine not_at ?_ | refine kO_at ?_ | refine kprt_at rfl ?_ | refine kprtN_at rfl ?_ | refine kcap_at ?_ | refine klenStr_at ?_ | refine kN_iat ?_ | refine kN_fat ?_ | refine kIf_T (by first | exact rfl | exact decT (by omega) | exact notT (decF (by omega))) ?_ | refine kIf_F (by first | exact rfl | exact decF (by omega) | exact notF (decT (by omega))) ?_)
  exact ⟨rfl, rfl⟩
def pdqInvE (w : World) (x1 x2 x3 x10 x11 : Value) (wr : World) : Prop := x1 = .int .i64 0 ∧ x2 = .int .i64 0 ∧ wr = w
theorem pdqE_nil (w : World) (cl : Value) (l : Value) : Meets Tryz.prog 176 #[.slice none 0 0, .int .i64 0, .int .i64 0, l, cl] w fun v w' => v = .tuple #[] ∧ w' = w := by
  refine f176_ok ?_
  unfold f176
  refine kL_of (pdqInvE w) (fun _ _ _ _ _ _ => 0) ⟨⟨rfl, rfl, rfl⟩, ?_⟩
  rintro x1 x2 x3 x10 x11 wr ⟨rfl, rfl, rfl⟩
  unfold f176_0
  repeat (first | refine kN_at ?_ | refine kB_at ?_ | refine kfld_of ?_ | refine kext_at rfl ?_ | refine kG_of (by first | exact rfl | omega) ?_ | refine klen_at ?_ | refine eql_at ?_ | refine neq_at ?_ | refine lss_at ?_ | refine leq_at ?_ | refine gtr_at ?_ | refine geq_at ?_ | refine add_at (by omega) (by omega) ?_ | refine sub_at (by omega) (by omega) ?_ | refine not_at ?_ | refine kO_at ?_ | refine kprt_at rfl ?_ | refine kprtN_at rfl ?_ | refine kcap_at ?_ | refine klenStr_at ?_ | refine kN_iat ?_ | refine kN_fat ?_ | refine kIf_T (by first | exact rfl | exact decT (by omega) | exact notT (decF (by omega))) ?_ | refine kIf_F (by first | exact rfl | exact decF (by omega) | exact notF (decT (by omega))) ?_)
  refine kcall_of (insE_nil wr cl) ?_
  rintro v w' ⟨rfl, rfl⟩
  exact ⟨rfl, rfl⟩
theorem sortE_nil (w : World) (cl : Value) : Meets Tryz.prog 142 #[.slice none 0 0, cl] w fun v w' => v = .tuple #[] ∧ w' = w := by
  refine f142_ok ?_
  unfold f142
  refine klen_at ?_
  rw [kcnv_int, show IntKind.u64.wrap ((0 : Nat) : Int) = 0 by decide]
  refine kcall_of (len_0 w) ?_
  rintro v w5 ⟨rfl, rfl⟩
  refine kcall_of (pdqE_nil w5 cl _) ?_
  rintro v w7 ⟨rfl, rfl⟩
  exact ⟨rfl, rfl⟩
theorem sortE_spec {w : World} {v : Value} {L : List (Int × Int)} (hO : Own w v 2 (L.flatMap entC)) (hl : L.length < 4611686018427387904) :
    Meets Tryz.prog 142 #[v, .func (.func 143) #[] #[]] w fun _ w' => ∃ L' : List (Int × Int), L'.Perm L ∧ L'.Pairwise (fun x y => Prod.fst x ≤ Prod.fst y) ∧ Own w' v 2 (L'.flatMap entC) ∧ Mod (vblk v) w w' := by
  have hO' := hO
  obtain ⟨a, n, c, rfl, h1, h2, h3, h4⟩ := hO'
  rcases h4 with ⟨rfl, hc0⟩ | ⟨b, arr, t, rfl, hb, hs, h5⟩
  · obtain rfl : c = 0 := hc0
    obtain rfl : n = 0 := by omega
    have hL : L = [] := by
      rw [flat_len entC 2 (fun _ => rfl)] at h1
      exact List.eq_nil_of_length_eq_zero (by omega)
    subst hL
    refine (sortE_nil w _).mono ?_
    rintro v w' ⟨rfl, rfl⟩
    exact ⟨[], List.Perm.refl _, List.Pairwise.nil, Own.nil _ _, Mod.refl _ _⟩
  · have eg : ∀ args w, (callFunc 143 args).run Tryz.prog w = .ok (.enter 143 args) w := Go.Proofs.enters_of Tryz.func143 (by kernel_rfl) rfl
    refine (sort_meets (enc := entC) (k := 2) (lt := ltOf fun x y : (Int × Int) => cmpI (Prod.fst x) (Prod.fst y)) (by kernel_rfl) (fun _ => rfl) (by omega) hO (fun hH hlt => ?_)).mono ?_
    · have hcmp : CmpLays Tryz.prog 143 #[] entC 2 (fun x y : (Int × Int) => cmpI (Prod.fst x) (Prod.fst y)) b 0 L.toArray.size w := by
        intro m os dk hdk x y
        refine ((cloE_spec x y _).2).mono ?_
        rintro e w' ⟨v, rfl, rfl, rfl⟩
        exact ⟨rfl, 0, _, rfl⟩
      have := AnyQ.slices_SortFunc sortEnt 2 Tryz.isAgg37 Tryz.sizeOf37 entC (fun _ => rfl) (fun x v hv => by
        simp [entC, nV] at hv
        rcases hv with rfl | rfl <;> rfl) (fun x y : (Int × Int) => cmpI (Prod.fst x) (Prod.fst y)) swoE 143 #[] b 0 c L.toArray w eg hcmp hH hlt (by simpa using hl)
      exact this
    · rintro v w' ⟨L', g1, g2, g3, g4⟩
      refine ⟨L', g1, g2.imp (fun {x y} hxy => ?_), g3, g4.mono fun k _ e => by subst e; exact ⟨_, _, _, rfl⟩⟩
      change ltE y x = false at hxy
      rw [ltE_eq] at hxy
      simp at hxy
      omega
theorem sorted_spec {w : World} {v : Value} {L : List Part} (hO : Own w v 6 (L.flatMap Part.cells)) (hl : L.length < 4611686018427387904) :
    Meets Tryz.prog 90 #[v] w fun _ w' => ∃ L' : List Part, L'.Perm L ∧ L'.Pairwise (fun x y => x.comp ≤ y.comp) ∧ Own w' v 6 (L'.flatMap Part.cells) ∧ Mod (vblk v) w w' := by
  refine f90_ok ?_
  unfold f90
  refine kcall_of (sortP_spec hO hl) ?_
  intro v w' h
  exact h
theorem listed_spec {w : World} {v : Value} {L : List (Int × Int)} (hO : Own w v 2 (L.flatMap entC)) (hl : L.length < 4611686018427387904) :
    Meets Tryz.prog 79 #[v] w fun r w' => r = v ∧ ∃ L' : List (Int × Int), L'.Perm L ∧ L'.Pairwise (fun x y => x.1 ≤ y.1) ∧ Own w' v 2 (L'.flatMap entC) ∧ Mod (vblk v) w w' := by
  refine f79_ok ?_
  unfold f79
  refine kcall_of (sortE_spec hO hl) ?_
  intro r w' h
  exact ⟨rfl, h⟩
end Go.Proofs.YtlkpadfkmdgjcaaGreatDoor
end
section
set_option linter.unusedSimpArgs false
set_option linter.unusedVariables false
namespace Go.Proofs.YtlkpadfkmdgjcaaGreatDoor
open Go Go.Ev
set_option linter.unusedVariables false
set_option linter.unusedSimpArgs false
set_option maxRecDepth 100000
attribute [local irreducible] kO kB kStr kInt kN kG kIf kfld kld kldN kst knew kmap kbld kbldS kext kcnv klenStr klen kcap kprt kprtN kbool kint kstr keq kun ksl kix kiv kta kmk kmm ksem ksemU kextf kcallV kcallM kcall kL

/-! ### The store, as it lies -/
theorem ptSto : isPtrT Tryz.prog 26 = true := by kernel_rfl
theorem zCol : zeroO Tryz.prog 157 = some (.pointer none) := by kernel_rfl
structure TabM where
  rows : List (Int × Int)
  col : Nat → List Part
def TabM.empty : TabM := ⟨[], fun _ => []⟩
structure SM where
  gens : List (Int × Bool)
  free : List Nat
  cs : List Comp
  masks : List Nat
  tabs : List TabM
  spots : List (Nat × Nat)
def GoodC (cs : List Comp) : Prop := cs.length ≤ 16 ∧ ∀ c ∈ cs, 1 ≤ c.width ∧ c.width ≤ 4
def wdF (cs : List Comp) (c : Nat) : Nat := match cs[c]? with
  | some x => x.width.toNat
  | none => 1
def compsM (masks : List Nat) (i : Nat) : List Nat := match masks[i]? with
  | some m => listF m
  | none => []
def spotC (x : Nat × Nat) : List Value := [natV x.1, natV x.2]
def tabTag (i : Nat) (t : Tag) : Prop := t = .table i ∨ t = .trows i ∨ t = .tmap i ∨ ∃ c, colTag i c t
def TabAt (o : Lab) (w : World) (b i : Nat) (comps : List Nat) (wd : Nat → Nat) (pc : Nat → Nat) (T : TabM) : Prop :=
  o b = some (.table i) ∧ ∃ rv bm, blk w b = some (.cells #[rv, .map (some bm)] 149) ∧ Own w rv 2 (T.rows.flatMap entC) ∧ (∀ k, vblk rv k → o k = some (.trows i)) ∧ o bm = some (.tmap i) ∧
    MapIs w bm .i64 (comps.map fun (c : Nat) => ((c : Int), ptrV (pc c))) ∧ ∀ c ∈ comps, ColAt o w (pc c) i c (wd c) (T.col c)
theorem TabAt.frame {o o' : Lab} {w w' : World} {b i : Nat} {comps : List Nat} {wd pc : Nat → Nat} {T : TabM} (h : TabAt o w b i comps wd pc T) {fp : Nat → Prop} (hm : Mod fp w w') (hf : ∀ k t, o k = some t → tabTag i t → ¬ fp k) (ho : LabEq w o o') : TabAt o' w' b i comps wd pc T := by
  obtain ⟨h1, rv, bm, hb, hr, hrl, hbm, hM, hC⟩ := h
  refine ⟨by rw [ho b (lt_of_blk hb)]; exact h1, rv, bm, hm.get hb (hf b _ h1 (.inl rfl)), hr.mod hm fun k hk => hf k _ (hrl k hk) (.inr (.inl rfl)), fun k hk => by rw [ho k (hr.vblk_lt hk)]; exact hrl k hk, by rw [ho bm (lt_of_blk hM)]; exact hbm, hM.mod hm (hf bm _ hbm (.inr (.inr (.inl rfl)))), fun c hc => (hC c hc).frame hm (fun k t e1 e2 => hf k t e1 (.inr (.inr (.inr ⟨c, e2⟩)))) ho⟩
theorem lk_comps (f : Nat → Value) (c : Nat) : ∀ comps : List Nat, lkI (c : Int) (comps.map fun (c : Nat) => ((c : Int), f c)) = if c ∈ comps then some (comps.idxOf c, f c) else none
  | [] => by simp [lkI]
  | x :: r => by
    simp only [List.map_cons, lkI]
    by_cases h : c = x
    · subst h; simp
    · rw [if_neg (by omega), lk_comps f c r]
      have hx : (x == c) = false := by simpa using fun e => h e.symm
      by_cases hr : c ∈ r
      · simp [hr, h, List.idxOf_cons, hx]
      · simp [hr, h]
structure Ptrs where
  bR : Nat
  bA : Nat
  ca : Option Addr
  cc : Nat
  rv : Value
  tv : Value
  sv : Value
  pt : Nat → Nat
  pc : Nat → Nat → Nat
structure StoreP (o : Lab) (w : World) (b : Nat) (p : Ptrs) (S : SM) : Prop where
  lab : o b = some .store
  good : GoodC S.cs
  tle : S.tabs.length ≤ S.masks.length
  mle : S.masks.length ≤ 90000
  sle : S.spots.length ≤ 64
  here : blk w b = some (.cells #[ptrV p.bR, .slice p.ca S.cs.length p.cc, p.rv, ptrV p.bA, p.tv, p.sv] 139)
  roll : RollAt o w p.bR S.gens S.free
  atlas : AtlasAt o w p.bA S.cs.length S.masks
  sch : SlIs w p.ca S.cs.length 7 (S.cs.flatMap Comp.cells)
  schl : ∀ k f, p.ca = some ⟨k, f, none⟩ → o k = some .sch ∧ k < w.heap.size
  tabs : Own w p.tv 1 ((List.range S.tabs.length).map fun i => ptrV (p.pt i))
  tabsl : ∀ k, vblk p.tv k → o k = some .tabs
  spots : Own w p.sv 2 (S.spots.flatMap spotC)
  spotsl : ∀ k, vblk p.sv k → o k = some .spots
  tab : ∀ i (hi : i < S.tabs.length), TabAt o w (p.pt i) i (compsM S.masks i) (wdF S.cs) (p.pc i) S.tabs[i]
theorem StoreP.frame {o o' : Lab} {w w' : World} {b : Nat} {p : Ptrs} {S : SM} (h : StoreP o w b p S) {fp : Nat → Prop} (hm : Mod fp w w') (hf : ∀ k t, o k = some t → ¬ fp k) (ho : LabEq w o o') : StoreP o' w' b p S where
  lab := by rw [ho b (lt_of_blk h.here)]; exact h.lab
  good := h.good
  tle := h.tle
  mle := h.mle
  sle := h.sle
  here := hm.get h.here (hf b _ h.lab)
  roll := h.roll.frame hm (fun k t e _ => hf k t e) ho
  atlas := h.atlas.frame hm (fun k t e _ => hf k t e) ho
  sch := h.sch.mod hm fun k f e => hf k _ (h.schl k f e).1
  schl k f e := ⟨by rw [ho k (h.schl k f e).2]; exact (h.schl k f e).1, Nat.lt_of_lt_of_le (h.schl k f e).2 hm.size⟩
  tabs := h.tabs.mod hm fun k e => hf k _ (h.tabsl k e)
  tabsl k e := by rw [ho k (h.tabs.vblk_lt e)]; exact h.tabsl k e
  spots := h.spots.mod hm fun k e => hf k _ (h.spotsl k e)
  spotsl k e := by rw [ho k (h.spots.vblk_lt e)]; exact h.spotsl k e
  tab i hi := (h.tab i hi).frame hm (fun k t e _ => hf k t e) ho
theorem StoreP.same {o : Lab} {w w' : World} {b : Nat} {p : Ptrs} {S : SM} (h : StoreP o w b p S) (hm : Same w w') : StoreP o w' b p S := h.frame hm (fun _ _ _ h => h) (LabEq.refl _ _)
theorem wdF_of {cs : List Comp} (h : GoodC cs) {c : Nat} (hc : c < cs.length) : (cs[c]).width = (wdF cs c : Int) ∧ 1 ≤ wdF cs c ∧ wdF cs c ≤ 4 := by
  have hw := h.2 _ (List.getElem_mem hc)
  unfold wdF
  rw [List.getElem?_eq_getElem hc]
  simp only
  omega
/-! ### Simple questions -/
theorem sAlive_spec {o : Lab} {w : World} {b : Nat} {p : Ptrs} {S : SM} (h : StoreP o w b p S) (idx gen : Int) :
    Meets Tryz.prog 29 #[ptrV b, entV idx gen] w fun v w' => v = .bool (aliveF S.gens idx gen) ∧ Same w w' := by
  have hb := h.here
  rw [ptrV]
  refine f29_ok ?_
  unfold f29
  refine knew_of fun w2 hm2 hs2 hb2 => ?_
  have hb2 : blk w2 w.heap.size = some (.cells #[.int .i64 idx, .int .i64 gen] 37) := hb2
  rw [keq_ptr_nil' ptSto]
  have hbw := hm2.get hb (fun h => h)
  repeat (first | refine kN_at ?_ | refine kB_at ?_ | refine kfld_of ?_ | refine kext_at rfl ?_ | refine kld_at hb2 rfl ?_ | refine kld_at hbw rfl ?_ | refine kldN_at hb2 rfl (by omega) ?_ | refine kldN_at hbw rfl (by omega) ?_ | refine kG_of (by first | exact rfl | omega) ?_ | refine klen_at ?_ | refine eql_at ?_ | refine neq_at ?_ | refine lss_at ?_ | refine leq_at ?_ | refine gtr_at ?_ | refine geq_at ?_ | refine add_at (by omega) (by omega) ?_ | refine sub_at (by omega) (by omega) ?_ | refine not_at ?_ | refine kO_at ?_ | refine kprt_at rfl ?_ | refine kprtN_at rfl ?_ | refine kcap_at ?_ | refine klenStr_at ?_ | refine kN_iat ?_ | refine kN_fat ?_ | refine kIf_T (by first | exact rfl | exact decT (by omega) | exact notT (decF (by omega))) ?_ | refine kIf_F (by first | exact rfl | exact decF (by omega) | exact notF (decT (by omega))) ?_)
  refine kcall_of (rAlive_spec (h.roll.same hm2.drew) idx gen) ?_
  rintro v w' ⟨rfl, h'⟩
  exact ⟨rfl, hm2.drew.trans h'⟩
theorem sCount_spec {o : Lab} {w : World} {b : Nat} {p : Ptrs} {S : SM} (h : StoreP o w b p S) :
    Meets Tryz.prog 17 #[ptrV b] w fun v w' => v = natV (S.gens.length - S.free.length) ∧ Same w w' := by
  have hb := h.here
  rw [ptrV]
  refine f17_ok ?_
  unfold f17
  rw [keq_ptr_nil ptSto]
  repeat (first | refine kN_at ?_ | refine kB_at ?_ | refine kfld_of ?_ | refine kext_at rfl ?_ | refine kld_at hb rfl ?_ | refine kldN_at hb rfl (by omega) ?_ | refine kG_of (by first | exact rfl | omega) ?_ | refine klen_at ?_ | refine eql_at ?_ | refine neq_at ?_ | refine lss_at ?_ | refine leq_at ?_ | refine gtr_at ?_ | refine geq_at ?_ | refine add_at (by omega) (by omega) ?_ | refine sub_at (by omega) (by omega) ?_ | refine not_at ?_ | refine kO_at ?_ | refine kprt_at rfl ?_ | refine kprtN_at rfl ?_ | refine kcap_at ?_ | refine klenStr_at ?_ | refine kN_iat ?_ | refine kN_fat ?_ | refine kIf_T (by first | exact rfl | exact decT (by omega) | exact notT (decF (by omega))) ?_ | refine kIf_F (by first | exact rfl | exact decF (by omega) | exact notF (decT (by omega))) ?_)
  refine kcall_of (rCount_spec h.roll) ?_
  rintro v w' ⟨rfl, h'⟩
  exact ⟨rfl, h'⟩
theorem sTables_spec {o : Lab} {w : World} {b : Nat} {p : Ptrs} {S : SM} (h : StoreP o w b p S) :
    Meets Tryz.prog 26 #[ptrV b] w fun v w' => v = natV S.tabs.length ∧ w' = w := by
  have hb := h.here
  obtain ⟨ta, tn, tc, e, hts, htn⟩ := h.tabs.is
  have htn : tn = S.tabs.length := by simpa using htn rfl
  rw [e] at hb
  subst htn
  rw [ptrV]
  refine f26_ok ?_
  unfold f26
  rw [keq_ptr_nil ptSto]
  repeat (first | refine kN_at ?_ | refine kB_at ?_ | refine kfld_of ?_ | refine kext_at rfl ?_ | refine kld_at hb rfl ?_ | refine kldN_at hb rfl (by omega) ?_ | refine kG_of (by first | exact rfl | omega) ?_ | refine klen_at ?_ | refine eql_at ?_ | refine neq_at ?_ | refine lss_at ?_ | refine leq_at ?_ | refine gtr_at ?_ | refine geq_at ?_ | refine add_at (by omega) (by omega) ?_ | refine sub_at (by omega) (by omega) ?_ | refine not_at ?_ | refine kO_at ?_ | refine kprt_at rfl ?_ | refine kprtN_at rfl ?_ | refine kcap_at ?_ | refine klenStr_at ?_ | refine kN_iat ?_ | refine kN_fat ?_ | refine kIf_T (by first | exact rfl | exact decT (by omega) | exact notT (decF (by omega))) ?_ | refine kIf_F (by first | exact rfl | exact decF (by omega) | exact notF (decT (by omega))) ?_)
  exact ⟨rfl, rfl⟩
end Go.Proofs.YtlkpadfkmdgjcaaGreatDoor
end
section
set_option linter.unusedSimpArgs false
set_option linter.unusedVariables false
namespace Go.Proofs.YtlkpadfkmdgjcaaGreatDoor
open Go Go.Ev
set_option linter.unusedVariables false
set_option linter.unusedSimpArgs false
set_option maxRecDepth 100000
attribute [local irreducible] kO kB kStr kInt kN kG kIf kfld kld kldN kst knew kmap kbld kbldS kext kcnv klenStr klen kcap kprt kprtN kbool kint kstr keq kun ksl kix kiv kta kmk kmm ksem ksemU kextf kcallV kcallM kcall kL

theorem alive_of {gens : List (Int × Bool)} {i : Nat} {g : Int} (h : gens[i]? = some (g, true)) : aliveF gens i g = true := by
  unfold aliveF
  rw [decT (show (0 : Int) ≤ (i : Int) by omega), Int.toNat_natCast, h]
  simp
theorem lk_none (f : Nat → Value) (c : Int) : ∀ comps : List Nat, (∀ x ∈ comps, (x : Int) ≠ c) → lkI c (comps.map fun (c : Nat) => ((c : Int), f c)) = none
  | [], _ => rfl
  | x :: r, h => by
    simp only [List.map_cons, lkI]
    rw [if_neg (fun e => h x (by simp) e.symm), lk_none f c r (fun y hy => h y (by simp [hy]))]
    rfl
theorem keq_ptr_of {P : Program} {w : World} {K : Value → World → Prop} {t : TypeId} {cx cy : Bool} (h : isPtrT P t = true) {a : Option Addr} (hk : K (.bool a.isNone) w) : keq P .eql t cx cy (.pointer a) (.pointer none) w K := by
  rw [keq_ptr_nil h]; exact hk
theorem sWrong_spec {S : Nat → Addr} {k lo : Nat} {x : Value} {w : World} (h : ErrX S k lo x w) (hlo : lo ≤ w.heap.size) : Meets Tryz.prog 68 #[x] w fun v w' => ErrX S k lo v w' ∧ Same w w' := by
  refine f68_ok ?_
  unfold f68
  refine kcall_of (atX_spec _ h hlo) ?_
  intro v w' h
  exact h
theorem sSpot_spec {o : Lab} {w : World} {b : Nat} {p : Ptrs} {S : SM} (h : StoreP o w b p S) {i : Nat} {g : Int} (hg : S.gens[i]? = some (g, true)) {n r : Nat} (hs : S.spots[i]? = some (n, r)) :
    Meets Tryz.prog 81 #[ptrV b, entV i g] w fun v w' => v = .tuple #[.agg #[natV n, natV r], .nilIface] ∧ Same w w' := by
  have hi : i < S.spots.length := (List.getElem?_eq_some_iff.1 hs).1
  have hsi : S.spots[i] = (n, r) := (List.getElem?_eq_some_iff.1 hs).2
  rw [ptrV]
  refine f81_ok ?_
  unfold f81
  refine knew_of fun w2 hm2 hs2 hb2 => ?_
  have hb2 : blk w2 w.heap.size = some (.cells #[.int .i64 i, .int .i64 g] 37) := hb2
  refine knew_of fun w4 hm4 hs4 hb4 => ?_
  have hb2' := hm4.get hb2 (fun h => h)
  have m4 := hm2.trans hm4
  rw [keq_ptr_nil ptSto]
  repeat (first | refine kN_at ?_ | refine kB_at ?_ | refine kfld_of ?_ | refine kext_at rfl ?_ | refine kld_at hb2' rfl ?_ | refine kldN_at hb2' rfl (by omega) ?_ | refine kG_of (by first | exact rfl | omega) ?_ | refine klen_at ?_ | refine eql_at ?_ | refine neq_at ?_ | refine lss_at ?_ | refine leq_at ?_ | refine gtr_at ?_ | refine geq_at ?_ | refine add_at (by omega) (by omega) ?_ | refine sub_at (by omega) (by omega) ?_ | refine not_at ?_ | refine kO_at ?_ | refine kprt_at rfl ?_ | refine kprtN_at rfl ?_ | refine kcap_at ?_ | refine klenStr_at ?_ | refine kN_iat ?_ | refine kN_fat ?_ | refine kIf_T (by first | exact rfl | exact decT (by omega) | exact notT (decF (by omega))) ?_ | refine kIf_F (by first | exact rfl | exact decF (by omega) | exact notF (decT (by omega))) ?_)
  refine kcall_of (sAlive_spec (h.same m4) i g) ?_
  rintro v w15 ⟨rfl, h15⟩
  rw [alive_of hg]
  refine not_at ?_
  refine kB_at ?_
  refine kIf_F rfl ?_
  unfold f81_0
  have m15 := (m4.trans h15).drew
  have hbe : blk w15.drew w.heap.size = _ := h15.get hb2' (fun h => h)
  have hbz : blk w15.drew w2.heap.size = _ := h15.get hb4 (fun h => h)
  generalize w15.drew = wa at *
  have hba := m15.get h.here (fun h => h)
  obtain ⟨bs, cs', arr, t, e, hbs, q1, q2, q3⟩ := (h.spots.same m15).viewF (F := spotC) (sz := 2) (fun _ => rfl) (by omega) (show 0 < S.spots.length by omega)
  rw [e] at hba
  repeat (first | refine kN_at ?_ | refine kB_at ?_ | refine kfld_of ?_ | refine kext_at rfl ?_ | refine kld_at hba rfl ?_ | refine kld_at hbe rfl ?_ | refine kldN_at hba rfl (by omega) ?_ | refine kldN_at hbe rfl (by omega) ?_ | refine kG_of (by first | exact rfl | omega) ?_ | refine klen_at ?_ | refine eql_at ?_ | refine neq_at ?_ | refine lss_at ?_ | refine leq_at ?_ | refine gtr_at ?_ | refine geq_at ?_ | refine add_at (by omega) (by omega) ?_ | refine sub_at (by omega) (by omega) ?_ | refine not_at ?_ | refine kO_at ?_ | refine kprt_at rfl ?_ | refine kprtN_at rfl ?_ | refine kcap_at ?_ | refine klenStr_at ?_ | refine kN_iat ?_ | refine kN_fat ?_ | refine kIf_T (by first | exact rfl | exact decT (by omega) | exact notT (decF (by omega))) ?_ | refine kIf_F (by first | exact rfl | exact decF (by omega) | exact notF (decT (by omega))) ?_)
  rw [kix_slice]
  refine kG_of (by omega) ?_
  rw [add_mk, Nat.zero_add, Int.toNat_natCast]
  refine kldN_at hbs (q3 i hi) (by omega) ?_
  refine kG_of rfl ?_
  rw [hsi]
  refine kst_of (vs := [natV n, natV r]) hbz rfl rfl rfl (by simp) (by simp) fun w29 h29 hs29 hb29 => ?_
  have hb29 : blk w29 w2.heap.size = some (.cells #[natV n, natV r] 153) := hb29
  repeat (first | refine kN_at ?_ | refine kB_at ?_ | refine kfld_of ?_ | refine kext_at rfl ?_ | refine kld_at hb29 rfl ?_ | refine kldN_at hb29 rfl (by omega) ?_ | refine kG_of (by first | exact rfl | omega) ?_ | refine klen_at ?_ | refine eql_at ?_ | refine neq_at ?_ | refine lss_at ?_ | refine leq_at ?_ | refine gtr_at ?_ | refine geq_at ?_ | refine add_at (by omega) (by omega) ?_ | refine sub_at (by omega) (by omega) ?_ | refine not_at ?_ | refine kO_at ?_ | refine kprt_at rfl ?_ | refine kprtN_at rfl ?_ | refine kcap_at ?_ | refine klenStr_at ?_ | refine kN_iat ?_ | refine kN_fat ?_ | refine kIf_T (by first | exact rfl | exact decT (by omega) | exact notT (decF (by omega))) ?_ | refine kIf_F (by first | exact rfl | exact decF (by omega) | exact notF (decT (by omega))) ?_)
  exact ⟨rfl, m15.trans' (h29.mono fun k _ e => .inr (by omega))⟩
theorem sSpot_dead {P : Nat → Prop} {Sa : Nat → Addr} {o : Lab} {w : World} (hL : LaidP P Sa w) (h17 : P 17) {b : Nat} {p : Ptrs} {S : SM} (h : StoreP o w b p S) {idx gen : Int} (hg : aliveF S.gens idx gen = false) :
    Meets Tryz.prog 81 #[ptrV b, entV idx gen] w fun v w' => ∃ x, v = .tuple #[.agg #[.int .i64 0, .int .i64 0], x] ∧ ErrX Sa 17 w.heap.size x w' ∧ Same w w' := by
  rw [ptrV]
  refine f81_ok ?_
  unfold f81
  refine knew_of fun w2 hm2 hs2 hb2 => ?_
  have hb2 : blk w2 w.heap.size = some (.cells #[.int .i64 idx, .int .i64 gen] 37) := hb2
  refine knew_of fun w4 hm4 hs4 hb4 => ?_
  have hb2' := hm4.get hb2 (fun h => h)
  have m4 := hm2.trans hm4
  rw [keq_ptr_nil ptSto]
  repeat (first | refine kN_at ?_ | refine kB_at ?_ | refine kfld_of ?_ | refine kext_at rfl ?_ | refine kld_at hb2' rfl ?_ | refine kldN_at hb2' rfl (by omega) ?_ | refine kG_of (by first | exact rfl | omega) ?_ | refine klen_at ?_ | refine eql_at ?_ | refine neq_at ?_ | refine lss_at ?_ | refine leq_at ?_ | refine gtr_at ?_ | refine geq_at ?_ | refine add_at (by omega) (by omega) ?_ | refine sub_at (by omega) (by omega) ?_ | refine not_at ?_ | refine kO_at ?_ | refine kprt_at rfl ?_ | refine kprtN_at rfl ?_ | refine kcap_at ?_ | refine klenStr_at ?_ | refine kN_iat ?_ | refine kN_fat ?_ | refine kIf_T (by first | exact rfl | exact decT (by omega) | exact notT (decF (by omega))) ?_ | refine kIf_F (by first | exact rfl | exact decF (by omega) | exact notF (decT (by omega))) ?_)
  refine kcall_of (sAlive_spec (h.same m4) idx gen) ?_
  rintro v w15 ⟨rfl, h15⟩
  have m15 := m4.trans h15
  rw [hg]
  repeat (first | refine kN_at ?_ | refine kB_at ?_ | refine kfld_of ?_ | refine kext_at rfl ?_ | refine kG_of (by first | exact rfl | omega) ?_ | refine klen_at ?_ | refine eql_at ?_ | refine neq_at ?_ | refine lss_at ?_ | refine leq_at ?_ | refine gtr_at ?_ | refine geq_at ?_ | refine add_at (by omega) (by omega) ?_ | refine sub_at (by omega) (by omega) ?_ | refine not_at ?_ | refine kO_at ?_ | refine kprt_at rfl ?_ | refine kprtN_at rfl ?_ | refine kcap_at ?_ | refine klenStr_at ?_ | refine kN_iat ?_ | refine kN_fat ?_ | refine kIf_T (by first | exact rfl | exact decT (by omega) | exact notT (decF (by omega))) ?_ | refine kIf_F (by first | exact rfl | exact decF (by omega) | exact notF (decT (by omega))) ?_)
  refine kbld_of (cs := [.int .i64 0, .int .i64 0]) rfl ?_
  refine kld_err (hL.same m15) h17 rfl rfl ?_
  refine kcall_of (sWrong_spec (ErrX.sent Sa 17 w15.heap.size w15) (Nat.le_refl _)) ?_
  rintro v w20 ⟨hx, h20⟩
  refine kst_of (vs := [.int .i64 0, .int .i64 0]) (h20.get (h15.get hb4 (fun h => h)) (fun h => h)) rfl rfl rfl (by simp) (by simp) fun w21 h21 hs21 hb21 => ?_
  have hb21 : blk w21 w2.heap.size = some (.cells #[.int .i64 0, .int .i64 0] 153) := hb21
  have hsz := h15.size
  repeat (first | refine kN_at ?_ | refine kB_at ?_ | refine kfld_of ?_ | refine kext_at rfl ?_ | refine kld_at hb21 rfl ?_ | refine kldN_at hb21 rfl (by omega) ?_ | refine kG_of (by first | exact rfl | omega) ?_ | refine klen_at ?_ | refine eql_at ?_ | refine neq_at ?_ | refine lss_at ?_ | refine leq_at ?_ | refine gtr_at ?_ | refine geq_at ?_ | refine add_at (by omega) (by omega) ?_ | refine sub_at (by omega) (by omega) ?_ | refine not_at ?_ | refine kO_at ?_ | refine kprt_at rfl ?_ | refine kprtN_at rfl ?_ | refine kcap_at ?_ | refine klenStr_at ?_ | refine kN_iat ?_ | refine kN_fat ?_ | refine kIf_T (by first | exact rfl | exact decT (by omega) | exact notT (decF (by omega))) ?_ | refine kIf_F (by first | exact rfl | exact decF (by omega) | exact notF (decT (by omega))) ?_)
  exact ⟨_, rfl, (hx.mod h21 fun k h1 h2 e => by omega).mono (by omega), (m15.trans h20).trans' (h21.mono fun k _ e => .inr (by omega))⟩
theorem sColumn_spec {o : Lab} {w : World} {b : Nat} {p : Ptrs} {S : SM} (h : StoreP o w b p S) {i : Nat} {g : Int} (hg : S.gens[i]? = some (g, true)) {n r : Nat} (hs : S.spots[i]? = some (n, r)) (hn : n < S.tabs.length) {c : Nat} (hc : c ∈ compsM S.masks n) :
    Meets Tryz.prog 98 #[ptrV b, entV i g, .int .i64 c] w fun v w' => v = .tuple #[ptrV (p.pc n c), natV r, .nilIface] ∧ ColAt o w' (p.pc n c) n c (wdF S.cs c) (S.tabs[n].col c) ∧ Same w w' := by
  rw [ptrV]
  refine f98_ok ?_
  unfold f98
  refine knew_of fun w2 hm2 hs2 hb2 => ?_
  have hb2 : blk w2 w.heap.size = some (.cells #[.int .i64 i, .int .i64 g] 37) := hb2
  repeat (first | refine kN_at ?_ | refine kB_at ?_ | refine kfld_of ?_ | refine kext_at rfl ?_ | refine kld_at hb2 rfl ?_ | refine kldN_at hb2 rfl (by omega) ?_ | refine kG_of (by first | exact rfl | omega) ?_ | refine klen_at ?_ | refine eql_at ?_ | refine neq_at ?_ | refine lss_at ?_ | refine leq_at ?_ | refine gtr_at ?_ | refine geq_at ?_ | refine add_at (by omega) (by omega) ?_ | refine sub_at (by omega) (by omega) ?_ | refine not_at ?_ | refine kO_at ?_ | refine kprt_at rfl ?_ | refine kprtN_at rfl ?_ | refine kcap_at ?_ | refine klenStr_at ?_ | refine kN_iat ?_ | refine kN_fat ?_ | refine kIf_T (by first | exact rfl | exact decT (by omega) | exact notT (decF (by omega))) ?_ | refine kIf_F (by first | exact rfl | exact decF (by omega) | exact notF (decT (by omega))) ?_)
  refine kcall_of (sSpot_spec (h.same hm2) hg hs) ?_
  rintro v w5 ⟨rfl, h5⟩
  have m5 := hm2.trans h5
  repeat (first | refine kN_at ?_ | refine kB_at ?_ | refine kfld_of ?_ | refine kext_at rfl ?_ | refine kG_of (by first | exact rfl | omega) ?_ | refine klen_at ?_ | refine eql_at ?_ | refine neq_at ?_ | refine lss_at ?_ | refine leq_at ?_ | refine gtr_at ?_ | refine geq_at ?_ | refine add_at (by omega) (by omega) ?_ | refine sub_at (by omega) (by omega) ?_ | refine not_at ?_ | refine kO_at ?_ | refine kprt_at rfl ?_ | refine kprtN_at rfl ?_ | refine kcap_at ?_ | refine klenStr_at ?_ | refine kN_iat ?_ | refine kN_fat ?_ | refine kIf_T (by first | exact rfl | exact decT (by omega) | exact notT (decF (by omega))) ?_ | refine kIf_F (by first | exact rfl | exact decF (by omega) | exact notF (decT (by omega))) ?_)
  refine knew_of fun w9 hm9 hs9 hb9 => ?_
  refine kst_of (vs := [natV n, natV r]) hb9 rfl rfl rfl (by simp) (by simp) fun w10 h10 hs10 hb10 => ?_
  have hb10 : blk w10 w5.heap.size = some (.cells #[natV n, natV r] 153) := hb10
  have m10 : Same w w10 := (m5.trans hm9).trans' (h10.mono fun k _ e => .inr (by have := m5.size; omega))
  rw [keq_nil_nil' ifErr]
  refine kB_at ?_
  refine kIf_F rfl ?_
  unfold f98_0
  have m10 := m10.drew
  have hb10 : blk w10.drew w5.heap.size = _ := hb10
  generalize w10.drew = wa at *
  have hS := h.same m10
  have hba := hS.here
  obtain ⟨ta, tn, tc, et, hts, htn⟩ := hS.tabs.is
  have htn : tn = (List.range S.tabs.length).length := by simpa using htn rfl
  rw [et] at hba
  subst htn
  obtain ⟨hlab, rv, bm, htb, hr, hrl, hbm, hM, hC⟩ := hS.tab n hn
  repeat (first | refine kN_at ?_ | refine kB_at ?_ | refine kfld_of ?_ | refine kext_at rfl ?_ | refine kld_at hba rfl ?_ | refine kld_at hb10 rfl ?_ | refine kldN_at hba rfl (by omega) ?_ | refine kldN_at hb10 rfl (by omega) ?_ | refine kG_of (by first | exact rfl | omega) ?_ | refine klen_at ?_ | refine eql_at ?_ | refine neq_at ?_ | refine lss_at ?_ | refine leq_at ?_ | refine gtr_at ?_ | refine geq_at ?_ | refine add_at (by omega) (by omega) ?_ | refine sub_at (by omega) (by omega) ?_ | refine not_at ?_ | refine kO_at ?_ | refine kprt_at rfl ?_ | refine kprtN_at rfl ?_ | refine kcap_at ?_ | refine klenStr_at ?_ | refine kN_iat ?_ | refine kN_fat ?_ | refine kIf_T (by first | exact rfl | exact decT (by omega) | exact notT (decF (by omega))) ?_ | refine kIf_F (by first | exact rfl | exact decF (by omega) | exact notF (decT (by omega))) ?_)
  rw [natV]
  refine kixld_of (F := fun i => ptrV (p.pt i)) hts (show n < (List.range S.tabs.length).length by simpa using hn) rfl ?_
  rw [List.getElem_range]
  rw [ptrV]
  repeat (first | refine kN_at ?_ | refine kB_at ?_ | refine kfld_of ?_ | refine kext_at rfl ?_ | refine kld_at htb rfl ?_ | refine kldN_at htb rfl (by omega) ?_ | refine kG_of (by first | exact rfl | omega) ?_ | refine klen_at ?_ | refine eql_at ?_ | refine neq_at ?_ | refine lss_at ?_ | refine leq_at ?_ | refine gtr_at ?_ | refine geq_at ?_ | refine add_at (by omega) (by omega) ?_ | refine sub_at (by omega) (by omega) ?_ | refine not_at ?_ | refine kO_at ?_ | refine kprt_at rfl ?_ | refine kprtN_at rfl ?_ | refine kcap_at ?_ | refine klenStr_at ?_ | refine kN_iat ?_ | refine kN_fat ?_ | refine kIf_T (by first | exact rfl | exact decT (by omega) | exact notT (decF (by omega))) ?_ | refine kIf_F (by first | exact rfl | exact decF (by omega) | exact notF (decT (by omega))) ?_)
  refine klook_of Tryz.underlying147 Tryz.underlying3 zCol hM (r := some (_, _)) (by rw [lk_comps, if_pos hc]) ?_
  refine kG_of rfl ?_
  refine keq_ptr_of ptCol (a := some ⟨p.pc n c, 0, none⟩) ?_
  refine kB_at ?_
  refine kIf_F rfl ?_
  unfold f98_1
  have hb10 : blk wa.drew w5.heap.size = _ := hb10
  repeat (first | refine kN_at ?_ | refine kB_at ?_ | refine kfld_of ?_ | refine kext_at rfl ?_ | refine kld_at hb10 rfl ?_ | refine kldN_at hb10 rfl (by omega) ?_ | refine kG_of (by first | exact rfl | omega) ?_ | refine klen_at ?_ | refine eql_at ?_ | refine neq_at ?_ | refine lss_at ?_ | refine leq_at ?_ | refine gtr_at ?_ | refine geq_at ?_ | refine add_at (by omega) (by omega) ?_ | refine sub_at (by omega) (by omega) ?_ | refine not_at ?_ | refine kO_at ?_ | refine kprt_at rfl ?_ | refine kprtN_at rfl ?_ | refine kcap_at ?_ | refine klenStr_at ?_ | refine kN_iat ?_ | refine kN_fat ?_ | refine kIf_T (by first | exact rfl | exact decT (by omega) | exact notT (decF (by omega))) ?_ | refine kIf_F (by first | exact rfl | exact decF (by omega) | exact notF (decT (by omega))) ?_)
  exact ⟨rfl, (hC c hc).same (Mod.refl _ _).drew, m10.drew⟩
theorem sColumn_none {P : Nat → Prop} {Sa : Nat → Addr} {o : Lab} {w : World} (hL : LaidP P Sa w) (h7 : P 7) {b : Nat} {p : Ptrs} {S : SM} (h : StoreP o w b p S) {i : Nat} {g : Int} (hg : S.gens[i]? = some (g, true)) {n r : Nat} (hs : S.spots[i]? = some (n, r)) (hn : n < S.tabs.length) {c : Int} (hc : ∀ x ∈ compsM S.masks n, (x : Int) ≠ c) :
    Meets Tryz.prog 98 #[ptrV b, entV i g, .int .i64 c] w fun v w' => ∃ x, v = .tuple #[.pointer none, .int .i64 0, x] ∧ ErrX Sa 7 w.heap.size x w' ∧ Same w w' := by
  rw [ptrV]
  refine f98_ok ?_
  unfold f98
  refine knew_of fun w2 hm2 hs2 hb2 => ?_
  have hb2 : blk w2 w.heap.size = some (.cells #[.int .i64 i, .int .i64 g] 37) := hb2
  repeat (first | refine kN_at ?_ | refine kB_at ?_ | refine kfld_of ?_ | refine kext_at rfl ?_ | refine kld_at hb2 rfl ?_ | refine kldN_at hb2 rfl (by omega) ?_ | refine kG_of (by first | exact rfl | omega) ?_ | refine klen_at ?_ | refine eql_at ?_ | refine neq_at ?_ | refine lss_at ?_ | refine leq_at ?_ | refine gtr_at ?_ | refine geq_at ?_ | refine add_at (by omega) (by omega) ?_ | refine sub_at (by omega) (by omega) ?_ | refine not_at ?_ | refine kO_at ?_ | refine kprt_at rfl ?_ | refine kprtN_at rfl ?_ | refine kcap_at ?_ | refine klenStr_at ?_ | refine kN_iat ?_ | refine kN_fat ?_ | refine kIf_T (by first | exact rfl | exact decT (by omega) | exact notT (decF (by omega))) ?_ | refine kIf_F (by first | exact rfl | exact decF (by omega) | exact notF (decT (by omega))) ?_)
  refine kcall_of (sSpot_spec (h.same hm2) hg hs) ?_
  rintro v w5 ⟨rfl, h5⟩
  have m5 := hm2.trans h5
  repeat (first | refine kN_at ?_ | refine kB_at ?_ | refine kfld_of ?_ | refine kext_at rfl ?_ | refine kG_of (by first | exact rfl | omega) ?_ | refine klen_at ?_ | refine eql_at ?_ | refine neq_at ?_ | refine lss_at ?_ | refine leq_at ?_ | refine gtr_at ?_ | refine geq_at ?_ | refine add_at (by omega) (by omega) ?_ | refine sub_at (by omega) (by omega) ?_ | refine not_at ?_ | refine kO_at ?_ | refine kprt_at rfl ?_ | refine kprtN_at rfl ?_ | refine kcap_at ?_ | refine klenStr_at ?_ | refine kN_iat ?_ | refine kN_fat ?_ | refine kIf_T (by first | exact rfl | exact decT (by omega) | exact notT (decF (by omega))) ?_ | refine kIf_F (by first | exact rfl | exact decF (by omega) | exact notF (decT (by omega))) ?_)
  refine knew_of fun w9 hm9 hs9 hb9 => ?_
  refine kst_of (vs := [natV n, natV r]) hb9 rfl rfl rfl (by simp) (by simp) fun w10 h10 hs10 hb10 => ?_
  have hb10 : blk w10 w5.heap.size = some (.cells #[natV n, natV r] 153) := hb10
  have m10 : Same w w10 := (m5.trans hm9).trans' (h10.mono fun k _ e => .inr (by have := m5.size; omega))
  rw [keq_nil_nil' ifErr]
  refine kB_at ?_
  refine kIf_F rfl ?_
  unfold f98_0
  have m10 := m10.drew
  have hb10 : blk w10.drew w5.heap.size = _ := hb10
  generalize w10.drew = wa at *
  have hS := h.same m10
  have hba := hS.here
  obtain ⟨ta, tn, tc, et, hts, htn⟩ := hS.tabs.is
  have htn : tn = (List.range S.tabs.length).length := by simpa using htn rfl
  rw [et] at hba
  subst htn
  obtain ⟨hlab, rv, bm, htb, hr, hrl, hbm, hM, hC⟩ := hS.tab n hn
  repeat (first | refine kN_at ?_ | refine kB_at ?_ | refine kfld_of ?_ | refine kext_at rfl ?_ | refine kld_at hba rfl ?_ | refine kld_at hb10 rfl ?_ | refine kldN_at hba rfl (by omega) ?_ | refine kldN_at hb10 rfl (by omega) ?_ | refine kG_of (by first | exact rfl | omega) ?_ | refine klen_at ?_ | refine eql_at ?_ | refine neq_at ?_ | refine lss_at ?_ | refine leq_at ?_ | refine gtr_at ?_ | refine geq_at ?_ | refine add_at (by omega) (by omega) ?_ | refine sub_at (by omega) (by omega) ?_ | refine not_at ?_ | refine kO_at ?_ | refine kprt_at rfl ?_ | refine kprtN_at rfl ?_ | refine kcap_at ?_ | refine klenStr_at ?_ | refine kN_iat ?_ | refine kN_fat ?_ | refine kIf_T (by first | exact rfl | exact decT (by omega) | exact notT (decF (by omega))) ?_ | refine kIf_F (by first | exact rfl | exact decF (by omega) | exact notF (decT (by omega))) ?_)
  rw [natV]
  refine kixld_of (F := fun i => ptrV (p.pt i)) hts (show n < (List.range S.tabs.length).length by simpa using hn) rfl ?_
  rw [List.getElem_range]
  rw [ptrV]
  repeat (first | refine kN_at ?_ | refine kB_at ?_ | refine kfld_of ?_ | refine kext_at rfl ?_ | refine kld_at htb rfl ?_ | refine kldN_at htb rfl (by omega) ?_ | refine kG_of (by first | exact rfl | omega) ?_ | refine klen_at ?_ | refine eql_at ?_ | refine neq_at ?_ | refine lss_at ?_ | refine leq_at ?_ | refine gtr_at ?_ | refine geq_at ?_ | refine add_at (by omega) (by omega) ?_ | refine sub_at (by omega) (by omega) ?_ | refine not_at ?_ | refine kO_at ?_ | refine kprt_at rfl ?_ | refine kprtN_at rfl ?_ | refine kcap_at ?_ | refine klenStr_at ?_ | refine kN_iat ?_ | refine kN_fat ?_ | refine kIf_T (by first | exact rfl | exact decT (by omega) | exact notT (decF (by omega))) ?_ | refine kIf_F (by first | exact rfl | exact decF (by omega) | exact notF (decT (by omega))) ?_)
  refine klook_of Tryz.underlying147 Tryz.underlying3 zCol hM (r := none) (by rw [lk_none (fun c => ptrV (p.pc n c)) c _ hc]) ?_
  refine kG_of rfl ?_
  refine keq_ptr_of ptCol (a := none) ?_
  refine kB_at ?_
  refine kIf_T rfl ?_
  refine kld_err (hL.same m10) h7 rfl rfl ?_
  refine kcall_of (sWrong_spec (ErrX.sent Sa 7 wa.heap.size wa) (Nat.le_refl _)) ?_
  rintro v w26 ⟨hx, h26⟩
  exact ⟨_, rfl, hx.mono m10.size, m10.trans h26⟩
theorem sColumn_dead {P : Nat → Prop} {Sa : Nat → Addr} {o : Lab} {w : World} (hL : LaidP P Sa w) (h17 : P 17) {b : Nat} {p : Ptrs} {S : SM} (h : StoreP o w b p S) {idx gen : Int} (hg : aliveF S.gens idx gen = false) (c : Int) :
    Meets Tryz.prog 98 #[ptrV b, entV idx gen, .int .i64 c] w fun v w' => ∃ x, v = .tuple #[.pointer none, .int .i64 0, x] ∧ ErrX Sa 17 w.heap.size x w' ∧ Same w w' := by
  rw [ptrV]
  refine f98_ok ?_
  unfold f98
  refine knew_of fun w2 hm2 hs2 hb2 => ?_
  have hb2 : blk w2 w.heap.size = some (.cells #[.int .i64 idx, .int .i64 gen] 37) := hb2
  repeat (first | refine kN_at ?_ | refine kB_at ?_ | refine kfld_of ?_ | refine kext_at rfl ?_ | refine kld_at hb2 rfl ?_ | refine kldN_at hb2 rfl (by omega) ?_ | refine kG_of (by first | exact rfl | omega) ?_ | refine klen_at ?_ | refine eql_at ?_ | refine neq_at ?_ | refine lss_at ?_ | refine leq_at ?_ | refine gtr_at ?_ | refine geq_at ?_ | refine add_at (by omega) (by omega) ?_ | refine sub_at (by omega) (by omega) ?_ | refine not_at ?_ | refine kO_at ?_ | refine kprt_at rfl ?_ | refine kprtN_at rfl ?_ | refine kcap_at ?_ | refine klenStr_at ?_ | refine kN_iat ?_ | refine kN_fat ?_ | refine kIf_T (by first | exact rfl | exact decT (by omega) | exact notT (decF (by omega))) ?_ | refine kIf_F (by first | exact rfl | exact decF (by omega) | exact notF (decT (by omega))) ?_)
  refine kcall_of (sSpot_dead (hL.same hm2) h17 (h.same hm2) hg) ?_
  rintro v w5 ⟨x, rfl, hx, h5⟩
  have m5 := hm2.trans h5
  repeat (first | refine kN_at ?_ | refine kB_at ?_ | refine kfld_of ?_ | refine kext_at rfl ?_ | refine kG_of (by first | exact rfl | omega) ?_ | refine klen_at ?_ | refine eql_at ?_ | refine neq_at ?_ | refine lss_at ?_ | refine leq_at ?_ | refine gtr_at ?_ | refine geq_at ?_ | refine add_at (by omega) (by omega) ?_ | refine sub_at (by omega) (by omega) ?_ | refine not_at ?_ | refine kO_at ?_ | refine kprt_at rfl ?_ | refine kprtN_at rfl ?_ | refine kcap_at ?_ | refine klenStr_at ?_ | refine kN_iat ?_ | refine kN_fat ?_ | refine kIf_T (by first | exact rfl | exact decT (by omega) | exact notT (decF (by omega))) ?_ | refine kIf_F (by first | exact rfl | exact decF (by omega) | exact notF (decT (by omega))) ?_)
  refine knew_of fun w9 hm9 hs9 hb9 => ?_
  refine kst_of (vs := [.int .i64 0, .int .i64 0]) hb9 rfl rfl rfl (by simp) (by simp) fun w10 h10 hs10 hb10 => ?_
  have m10 : Same w w10 := (m5.trans hm9).trans' (h10.mono fun k _ e => .inr (by have := m5.size; omega))
  have hx10 := hx.same (hm9.trans' (h10.mono fun k _ e => .inr (by omega)) : Same w5 w10)
  obtain ⟨t, y, rfl⟩ := hx.if
  rw [keq_if_nil' ifErr]
  refine kB_at ?_
  refine kIf_T rfl ?_
  exact ⟨_, rfl, hx10.mono (by omega), m10⟩
/-! ### Get and Set -/
def zPartV : Value := .agg #[.int .i64 0, .int .i64 0, .int .i64 0, .int .i64 0, .int .i64 0, .int .i64 0]
theorem sGet_spec {o : Lab} {w : World} {b : Nat} {p : Ptrs} {S : SM} (h : StoreP o w b p S) {i : Nat} {g : Int} (hg : S.gens[i]? = some (g, true)) {n r : Nat} (hs : S.spots[i]? = some (n, r)) (hn : n < S.tabs.length) {c : Nat} (hc : c ∈ compsM S.masks n) (hr : r < (S.tabs[n].col c).length) :
    Meets Tryz.prog 28 #[ptrV b, entV i g, .int .i64 c] w fun v w' => v = .tuple #[.agg ((S.tabs[n].col c)[r]).cells.toArray, .nilIface] ∧ Same w w' := by
  refine f28_ok ?_
  unfold f28
  refine knew_of fun w2 hm2 hs2 hb2 => ?_
  have hb2 : blk w2 w.heap.size = some (.cells #[.int .i64 i, .int .i64 g] 37) := hb2
  refine knew_of fun w4 hm4 hs4 hb4 => ?_
  have m4 := hm2.trans hm4
  have hb2' := hm4.get hb2 (fun h => h)
  repeat (first | refine kN_at ?_ | refine kB_at ?_ | refine kfld_of ?_ | refine kext_at rfl ?_ | refine kld_at hb2' rfl ?_ | refine kldN_at hb2' rfl (by omega) ?_ | refine kG_of (by first | exact rfl | omega) ?_ | refine klen_at ?_ | refine eql_at ?_ | refine neq_at ?_ | refine lss_at ?_ | refine leq_at ?_ | refine gtr_at ?_ | refine geq_at ?_ | refine add_at (by omega) (by omega) ?_ | refine sub_at (by omega) (by omega) ?_ | refine not_at ?_ | refine kO_at ?_ | refine kprt_at rfl ?_ | refine kprtN_at rfl ?_ | refine kcap_at ?_ | refine klenStr_at ?_ | refine kN_iat ?_ | refine kN_fat ?_ | refine kIf_T (by first | exact rfl | exact decT (by omega) | exact notT (decF (by omega))) ?_ | refine kIf_F (by first | exact rfl | exact decF (by omega) | exact notF (decT (by omega))) ?_)
  refine kcall_of (sColumn_spec (h.same m4) hg hs hn hc) ?_
  rintro v w7 ⟨rfl, hC, h7⟩
  have m7 := m4.trans h7
  repeat (first | refine kN_at ?_ | refine kB_at ?_ | refine kfld_of ?_ | refine kext_at rfl ?_ | refine kG_of (by first | exact rfl | omega) ?_ | refine klen_at ?_ | refine eql_at ?_ | refine neq_at ?_ | refine lss_at ?_ | refine leq_at ?_ | refine gtr_at ?_ | refine geq_at ?_ | refine add_at (by omega) (by omega) ?_ | refine sub_at (by omega) (by omega) ?_ | refine not_at ?_ | refine kO_at ?_ | refine kprt_at rfl ?_ | refine kprtN_at rfl ?_ | refine kcap_at ?_ | refine klenStr_at ?_ | refine kN_iat ?_ | refine kN_fat ?_ | refine kIf_T (by first | exact rfl | exact decT (by omega) | exact notT (decF (by omega))) ?_ | refine kIf_F (by first | exact rfl | exact decF (by omega) | exact notF (decT (by omega))) ?_)
  rw [keq_nil_nil' ifErr]
  repeat (first | refine kN_at ?_ | refine kB_at ?_ | refine kfld_of ?_ | refine kext_at rfl ?_ | refine kG_of (by first | exact rfl | omega) ?_ | refine klen_at ?_ | refine eql_at ?_ | refine neq_at ?_ | refine lss_at ?_ | refine leq_at ?_ | refine gtr_at ?_ | refine geq_at ?_ | refine add_at (by omega) (by omega) ?_ | refine sub_at (by omega) (by omega) ?_ | refine not_at ?_ | refine kO_at ?_ | refine kprt_at rfl ?_ | refine kprtN_at rfl ?_ | refine kcap_at ?_ | refine klenStr_at ?_ | refine kN_iat ?_ | refine kN_fat ?_ | refine kIf_T (by first | exact rfl | exact decT (by omega) | exact notT (decF (by omega))) ?_ | refine kIf_F (by first | exact rfl | exact decF (by omega) | exact notF (decT (by omega))) ?_)
  refine kcall_of (cRow_spec hC hr) ?_
  rintro v w17 ⟨rfl, h17⟩
  repeat (first | refine kN_at ?_ | refine kB_at ?_ | refine kfld_of ?_ | refine kext_at rfl ?_ | refine kG_of (by first | exact rfl | omega) ?_ | refine klen_at ?_ | refine eql_at ?_ | refine neq_at ?_ | refine lss_at ?_ | refine leq_at ?_ | refine gtr_at ?_ | refine geq_at ?_ | refine add_at (by omega) (by omega) ?_ | refine sub_at (by omega) (by omega) ?_ | refine not_at ?_ | refine kO_at ?_ | refine kprt_at rfl ?_ | refine kprtN_at rfl ?_ | refine kcap_at ?_ | refine klenStr_at ?_ | refine kN_iat ?_ | refine kN_fat ?_ | refine kIf_T (by first | exact rfl | exact decT (by omega) | exact notT (decF (by omega))) ?_ | refine kIf_F (by first | exact rfl | exact decF (by omega) | exact notF (decT (by omega))) ?_)
  have hb17 := h17.get (h7.get hb4 (fun h => h)) (fun h => h)
  refine kst_of (vs := ((S.tabs[n].col c)[r]).cells) hb17 rfl rfl rfl (by simp) (by simp [Part.cells]) fun w20 h20 hs20 hb20 => ?_
  have hb20 : blk w20 w2.heap.size = some (.cells ((S.tabs[n].col c)[r]).cells.toArray 49) := hb20
  repeat (first | refine kN_at ?_ | refine kB_at ?_ | refine kfld_of ?_ | refine kext_at rfl ?_ | refine kld_at hb20 rfl ?_ | refine kldN_at hb20 rfl (by omega) ?_ | refine kG_of (by first | exact rfl | omega) ?_ | refine klen_at ?_ | refine eql_at ?_ | refine neq_at ?_ | refine lss_at ?_ | refine leq_at ?_ | refine gtr_at ?_ | refine geq_at ?_ | refine add_at (by omega) (by omega) ?_ | refine sub_at (by omega) (by omega) ?_ | refine not_at ?_ | refine kO_at ?_ | refine kprt_at rfl ?_ | refine kprtN_at rfl ?_ | refine kcap_at ?_ | refine klenStr_at ?_ | refine kN_iat ?_ | refine kN_fat ?_ | refine kIf_T (by first | exact rfl | exact decT (by omega) | exact notT (decF (by omega))) ?_ | refine kIf_F (by first | exact rfl | exact decF (by omega) | exact notF (decT (by omega))) ?_)
  exact ⟨rfl, (m7.trans h17).trans' (h20.mono fun k _ e => .inr (by omega))⟩
theorem sGet_err {Sa : Nat → Addr} {k : Nat} {w : World} {b : Nat} {idx gen c : Int}
    (h : ∀ w2, Same w w2 → Meets Tryz.prog 98 #[ptrV b, entV idx gen, .int .i64 c] w2 fun v w' => ∃ x, v = .tuple #[.pointer none, .int .i64 0, x] ∧ ErrX Sa k w2.heap.size x w' ∧ Same w2 w') :
    Meets Tryz.prog 28 #[ptrV b, entV idx gen, .int .i64 c] w fun v w' => ∃ x, v = .tuple #[zPartV, x] ∧ ErrX Sa k w.heap.size x w' ∧ Same w w' := by
  refine f28_ok ?_
  unfold f28
  refine knew_of fun w2 hm2 hs2 hb2 => ?_
  have hb2 : blk w2 w.heap.size = some (.cells #[.int .i64 idx, .int .i64 gen] 37) := hb2
  refine knew_of fun w4 hm4 hs4 hb4 => ?_
  have m4 := hm2.trans hm4
  have hb2' := hm4.get hb2 (fun h => h)
  repeat (first | refine kN_at ?_ | refine kB_at ?_ | refine kfld_of ?_ | refine kext_at rfl ?_ | refine kld_at hb2' rfl ?_ | refine kldN_at hb2' rfl (by omega) ?_ | refine kG_of (by first | exact rfl | omega) ?_ | refine klen_at ?_ | refine eql_at ?_ | refine neq_at ?_ | refine lss_at ?_ | refine leq_at ?_ | refine gtr_at ?_ | refine geq_at ?_ | refine add_at (by omega) (by omega) ?_ | refine sub_at (by omega) (by omega) ?_ | refine not_at ?_ | refine kO_at ?_ | refine kprt_at rfl ?_ | refine kprtN_at rfl ?_ | refine kcap_at ?_ | refine klenStr_at ?_ | refine kN_iat ?_ | refine kN_fat ?_ | refine kIf_T (by first | exact rfl | exact decT (by omega) | exact notT (decF (by omega))) ?_ | refine kIf_F (by first | exact rfl | exact decF (by omega) | exact notF (decT (by omega))) ?_)
  refine kcall_of (h w4 m4) ?_
  rintro v w7 ⟨x, rfl, hx, h7⟩
  have m7 := m4.trans h7
  have hb7 := h7.get hb4 (fun h => h)
  obtain ⟨t, y, rfl⟩ := hx.if
  repeat (first | refine kN_at ?_ | refine kB_at ?_ | refine kfld_of ?_ | refine kext_at rfl ?_ | refine kG_of (by first | exact rfl | omega) ?_ | refine klen_at ?_ | refine eql_at ?_ | refine neq_at ?_ | refine lss_at ?_ | refine leq_at ?_ | refine gtr_at ?_ | refine geq_at ?_ | refine add_at (by omega) (by omega) ?_ | refine sub_at (by omega) (by omega) ?_ | refine not_at ?_ | refine kO_at ?_ | refine kprt_at rfl ?_ | refine kprtN_at rfl ?_ | refine kcap_at ?_ | refine klenStr_at ?_ | refine kN_iat ?_ | refine kN_fat ?_ | refine kIf_T (by first | exact rfl | exact decT (by omega) | exact notT (decF (by omega))) ?_ | refine kIf_F (by first | exact rfl | exact decF (by omega) | exact notF (decT (by omega))) ?_)
  rw [keq_if_nil' ifErr]
  repeat (first | refine kN_at ?_ | refine kB_at ?_ | refine kfld_of ?_ | refine kext_at rfl ?_ | refine kG_of (by first | exact rfl | omega) ?_ | refine klen_at ?_ | refine eql_at ?_ | refine neq_at ?_ | refine lss_at ?_ | refine leq_at ?_ | refine gtr_at ?_ | refine geq_at ?_ | refine add_at (by omega) (by omega) ?_ | refine sub_at (by omega) (by omega) ?_ | refine not_at ?_ | refine kO_at ?_ | refine kprt_at rfl ?_ | refine kprtN_at rfl ?_ | refine kcap_at ?_ | refine klenStr_at ?_ | refine kN_iat ?_ | refine kN_fat ?_ | refine kIf_T (by first | exact rfl | exact decT (by omega) | exact notT (decF (by omega))) ?_ | refine kIf_F (by first | exact rfl | exact decF (by omega) | exact notF (decT (by omega))) ?_)
  refine kbld_of (cs := [.int .i64 0, .int .i64 0, .int .i64 0, .int .i64 0, .int .i64 0, .int .i64 0]) rfl ?_
  refine kst_of (vs := [.int .i64 0, .int .i64 0, .int .i64 0, .int .i64 0, .int .i64 0, .int .i64 0]) hb7 rfl rfl rfl (by simp) (by simp) fun w20 h20 hs20 hb20 => ?_
  have hb20 : blk w20 w2.heap.size = some (.cells #[.int .i64 0, .int .i64 0, .int .i64 0, .int .i64 0, .int .i64 0, .int .i64 0] 49) := hb20
  repeat (first | refine kN_at ?_ | refine kB_at ?_ | refine kfld_of ?_ | refine kext_at rfl ?_ | refine kld_at hb20 rfl ?_ | refine kldN_at hb20 rfl (by omega) ?_ | refine kG_of (by first | exact rfl | omega) ?_ | refine klen_at ?_ | refine eql_at ?_ | refine neq_at ?_ | refine lss_at ?_ | refine leq_at ?_ | refine gtr_at ?_ | refine geq_at ?_ | refine add_at (by omega) (by omega) ?_ | refine sub_at (by omega) (by omega) ?_ | refine not_at ?_ | refine kO_at ?_ | refine kprt_at rfl ?_ | refine kprtN_at rfl ?_ | refine kcap_at ?_ | refine klenStr_at ?_ | refine kN_iat ?_ | refine kN_fat ?_ | refine kIf_T (by first | exact rfl | exact decT (by omega) | exact notT (decF (by omega))) ?_ | refine kIf_F (by first | exact rfl | exact decF (by omega) | exact notF (decT (by omega))) ?_)
  exact ⟨_, rfl, (hx.mod h20 fun k h1 h2 e => by omega).mono (by omega), m7.trans' (h20.mono fun k _ e => .inr (by omega))⟩
end Go.Proofs.YtlkpadfkmdgjcaaGreatDoor
end
section
set_option linter.unusedSimpArgs false
set_option linter.unusedVariables false
namespace Go.Proofs.YtlkpadfkmdgjcaaGreatDoor
open Go Go.Ev
set_option linter.unusedVariables false
set_option linter.unusedSimpArgs false
set_option maxRecDepth 100000
attribute [local irreducible] kO kB kStr kInt kN kG kIf kfld kld kldN kst knew kmap kbld kbldS kext kcnv klenStr klen kcap kprt kprtN kbool kint kstr keq kun ksl kix kiv kta kmk kmm ksem ksemU kextf kcallV kcallM kcall kL

/-! ### One table turned -/
theorem tabTag_inj {i j : Nat} {t : Tag} (h1 : tabTag i t) (h2 : tabTag j t) : i = j := by
  rcases h1 with rfl | rfl | rfl | ⟨c, rfl | rfl | rfl⟩ <;> rcases h2 with h | h | h | ⟨d, h | h | h⟩ <;> cases h <;> rfl
theorem StoreP.setTab {o o' : Lab} {w w' : World} {b : Nat} {p : Ptrs} {S : SM} (h : StoreP o w b p S) {n : Nat} (hn : n < S.tabs.length) {T' : TabM} (hl : LabEq w o o') (hm : Mod (FP o (tabTag n)) w w')
    (hT : TabAt o' w' (p.pt n) n (compsM S.masks n) (wdF S.cs) (p.pc n) T') : StoreP o' w' b p { S with tabs := S.tabs.set n T' } where
  lab := by rw [hl b (lt_of_blk h.here)]; exact h.lab
  good := h.good
  tle := by simpa using h.tle
  mle := h.mle
  sle := h.sle
  here := hm.get h.here fun ⟨t, e1, e2⟩ => by
    rw [h.lab] at e1; cases e1
    rcases e2 with h | h | h | ⟨c, h | h | h⟩ <;> cases h
  roll := h.roll.frame hm (fun k t e et ⟨t', e1, e2⟩ => by
    rw [e] at e1; cases e1
    rcases et with rfl | rfl | rfl <;> (rcases e2 with h | h | h | ⟨c, h | h | h⟩ <;> cases h)) hl
  atlas := h.atlas.frame hm (fun k t e et ⟨t', e1, e2⟩ => by
    rw [e] at e1; cases e1
    rcases et with rfl | rfl | rfl | ⟨i, rfl⟩ <;> (rcases e2 with h | h | h | ⟨c, h | h | h⟩ <;> cases h)) hl
  sch := h.sch.mod hm fun k f e ⟨t', e1, e2⟩ => by
    rw [(h.schl k f e).1] at e1; cases e1
    rcases e2 with h | h | h | ⟨c, h | h | h⟩ <;> cases h
  schl k f e := ⟨by rw [hl k (h.schl k f e).2]; exact (h.schl k f e).1, Nat.lt_of_lt_of_le (h.schl k f e).2 hm.size⟩
  tabs := by
    have := h.tabs.mod hm fun k e ⟨t', e1, e2⟩ => by
      rw [h.tabsl k e] at e1; cases e1
      rcases e2 with h | h | h | ⟨c, h | h | h⟩ <;> cases h
    simpa using this
  tabsl k e := by rw [hl k (h.tabs.vblk_lt e)]; exact h.tabsl k e
  spots := h.spots.mod hm fun k e ⟨t', e1, e2⟩ => by
    rw [h.spotsl k e] at e1; cases e1
    rcases e2 with h | h | h | ⟨c, h | h | h⟩ <;> cases h
  spotsl k e := by rw [hl k (h.spots.vblk_lt e)]; exact h.spotsl k e
  tab i hi := by
    simp only [List.length_set] at hi
    simp only [List.getElem_set]
    by_cases hin : n = i
    · subst hin
      simp only [if_true]
      exact hT
    · simp only [hin, if_false]
      exact (h.tab i hi).frame hm (fun k t e et ⟨t', e1, e2⟩ => by
        rw [e] at e1; cases e1
        exact hin (tabTag_inj e2 et)) hl
theorem StoreP.setTS {o o' : Lab} {w w' : World} {b : Nat} {p : Ptrs} {S : SM} (h : StoreP o w b p S) {n : Nat} (hn : n < S.tabs.length) {T' : TabM} (hl : LabEq w o o') (hm : Mod (FP o fun t => tabTag n t ∨ t = .spots) w w') {sp' : List (Nat × Nat)} (hsp : Own w' p.sv 2 (sp'.flatMap spotC)) (hspl : sp'.length = S.spots.length)
    (hT : TabAt o' w' (p.pt n) n (compsM S.masks n) (wdF S.cs) (p.pc n) T') : StoreP o' w' b p { S with tabs := S.tabs.set n T', spots := sp' } where
  lab := by rw [hl b (lt_of_blk h.here)]; exact h.lab
  good := h.good
  tle := by simpa using h.tle
  mle := h.mle
  sle := by rw [hspl]; exact h.sle
  here := hm.get h.here fun ⟨t, e1, e2⟩ => by
    rw [h.lab] at e1; cases e1
    rcases e2 with (h | h | h | ⟨c, h | h | h⟩) | h <;> cases h
  roll := h.roll.frame hm (fun k t e et ⟨t', e1, e2⟩ => by
    rw [e] at e1; cases e1
    rcases et with rfl | rfl | rfl <;> (rcases e2 with (h | h | h | ⟨c, h | h | h⟩) | h <;> cases h)) hl
  atlas := h.atlas.frame hm (fun k t e et ⟨t', e1, e2⟩ => by
    rw [e] at e1; cases e1
    rcases et with rfl | rfl | rfl | ⟨i, rfl⟩ <;> (rcases e2 with (h | h | h | ⟨c, h | h | h⟩) | h <;> cases h)) hl
  sch := h.sch.mod hm fun k f e ⟨t', e1, e2⟩ => by
    rw [(h.schl k f e).1] at e1; cases e1
    rcases e2 with (h | h | h | ⟨c, h | h | h⟩) | h <;> cases h
  schl k f e := ⟨by rw [hl k (h.schl k f e).2]; exact (h.schl k f e).1, Nat.lt_of_lt_of_le (h.schl k f e).2 hm.size⟩
  tabs := by
    have := h.tabs.mod hm fun k e ⟨t', e1, e2⟩ => by
      rw [h.tabsl k e] at e1; cases e1
      rcases e2 with (h | h | h | ⟨c, h | h | h⟩) | h <;> cases h
    simpa using this
  tabsl k e := by rw [hl k (h.tabs.vblk_lt e)]; exact h.tabsl k e
  spots := hsp
  spotsl k e := by rw [hl k (h.spots.vblk_lt e)]; exact h.spotsl k e
  tab i hi := by
    simp only [List.length_set] at hi
    simp only [List.getElem_set]
    by_cases hin : n = i
    · subst hin
      simp only [if_true]
      exact hT
    · simp only [hin, if_false]
      exact (h.tab i hi).frame hm (fun k t e et ⟨t', e1, e2⟩ => by
        rw [e] at e1; cases e1
        rcases e2 with e2 | e2
        · exact hin (tabTag_inj e2 et)
        · subst e2
          rcases et with h | h | h | ⟨c, h | h | h⟩ <;> cases h) hl
def updC (f : Nat → List Part) (c : Nat) (l : List Part) (d : Nat) : List Part := if d = c then l else f d
theorem updC_same (f : Nat → List Part) (c : Nat) (l : List Part) : updC f c l c = l := if_pos rfl
theorem updC_ne (f : Nat → List Part) {c : Nat} {l : List Part} {d : Nat} (h : d ≠ c) : updC f c l d = f d := if_neg h
theorem colTag_inj {i c d : Nat} {t : Tag} (h1 : colTag i c t) (h2 : colTag i d t) : c = d := by
  rcases h1 with rfl | rfl | rfl <;> rcases h2 with h | h | h <;> cases h <;> rfl
/-- One column turned. -/
theorem TabAt.setCol {o o' : Lab} {w w' : World} {b i : Nat} {comps : List Nat} {wd pc : Nat → Nat} {T : TabM} (h : TabAt o w b i comps wd pc T) {c : Nat} (hc : c ∈ comps) {l : List Part} (hl : LabEq w o o') {Tg : Tag → Prop} (hTg : ∀ t, Tg t → colTag i c t) (hm : Mod (FP o Tg) w w')
    (hC : ColAt o' w' (pc c) i c (wd c) l) : TabAt o' w' b i comps wd pc ⟨T.rows, updC T.col c l⟩ := by
  obtain ⟨h1, rv, bm, hb, hr, hrl, hbm, hM, hCs⟩ := h
  refine ⟨by rw [hl b (lt_of_blk hb)]; exact h1, rv, bm, hm.get hb fun ⟨t, e1, e2⟩ => ?_, hr.mod hm fun k hk ⟨t, e1, e2⟩ => ?_, fun k hk => by rw [hl k (hr.vblk_lt hk)]; exact hrl k hk, by rw [hl bm (lt_of_blk hM)]; exact hbm, hM.mod hm fun ⟨t, e1, e2⟩ => ?_, fun d hd => ?_⟩
  · rw [h1] at e1; cases e1
    rcases hTg _ e2 with h | h | h <;> cases h
  · rw [hrl k hk] at e1; cases e1
    rcases hTg _ e2 with h | h | h <;> cases h
  · rw [hbm] at e1; cases e1
    rcases hTg _ e2 with h | h | h <;> cases h
  · show ColAt o' w' (pc d) i d (wd d) (updC T.col c l d)
    by_cases hdc : d = c
    · subst hdc
      rw [updC_same]; exact hC
    · rw [updC_ne _ hdc]
      exact (hCs d hd).frame hm (fun k t e et ⟨t', e1, e2⟩ => by
        rw [e] at e1; cases e1
        exact hdc (colTag_inj et (hTg _ e2))) hl
/-- Labels of what is there alone. -/
def cutL (o : Lab) (n k : Nat) : Option Tag := if k < n then o k else none
theorem LabEq.cut (w : World) (o : Lab) : LabEq w o (cutL o w.heap.size) := fun k hk => if_pos hk
theorem FP.cut {o : Lab} {n : Nat} {T : Tag → Prop} {k : Nat} (h : FP (cutL o n) T k) : FP o T k ∧ k < n := by
  obtain ⟨t, e1, e2⟩ := h
  unfold cutL at e1
  split at e1
  · exact ⟨⟨t, e1, e2⟩, by assumption⟩
  · cases e1
theorem StoreP.cut {o : Lab} {w w' : World} {b : Nat} {p : Ptrs} {S : SM} (h : StoreP o w b p S) (hm : Same w w') : StoreP (cutL o w.heap.size) w' b p S := h.frame hm (fun _ _ _ h => h) (LabEq.cut w o)
theorem cutL_none {o : Lab} {n k : Nat} (h : n ≤ k) : cutL o n k = none := if_neg (by omega)
/-- The store is S' now; what changed was its own; what is new is labelled as far as it is the store's. -/
def Turned (o : Lab) (w : World) (b : Nat) (S' : SM) (w' : World) : Prop := ∃ o' p', LabEq w o o' ∧ StoreP o' w' b p' S' ∧ Mod (FP o fun _ => True) w w' ∧ ∀ k, w'.heap.size ≤ k → o' k = none
/-- .. behind local blocks, and ahead of writes into them. -/
theorem Turned.wrap {o : Lab} {w w4 w5 w6 : World} {b : Nat} {S' : SM} (m : Same w w4) (t : Turned (cutL o w.heap.size) w4 b S' w5) (hz : Mod (fun k => w.heap.size ≤ k ∧ k < w4.heap.size) w5 w6) : Turned o w b S' w6 := by
  obtain ⟨o', p', hl, hP, hm, hc⟩ := t
  have ml := m.size
  have hl' : LabEq w o (cutL o' w6.heap.size) := fun k hk => by
    have := hm.size
    have := hz.size
    have e := hl k (by omega)
    unfold cutL at *
    rw [if_pos (by omega), e, if_pos hk]
  refine ⟨cutL o' w6.heap.size, p', hl', hP.frame hz (fun k t e ⟨e1, e2⟩ => ?_) (fun k hk => ?_), ((Mod.of_same m).trans (hm.mono fun k _ hk => hk.cut.1)).trans' (hz.mono fun k _ hk => .inr hk.1), fun k hk => cutL_none hk⟩
  · rw [hl k e2] at e
    rw [cutL_none e1] at e; cases e
  · have := hz.size
    unfold cutL
    rw [if_pos (by omega)]
theorem Turned.of {o o' : Lab} {w w4 w' w'' : World} {b : Nat} {S' : SM} {p' : Ptrs} {T : Tag → Prop} (m4 : Same w w4) (hl : LabEq w4 (cutL o w.heap.size) o') (hP : StoreP o' w' b p' S') (hm : Mod (FP (cutL o w.heap.size) T) w4 w') (hz : Mod (fun k => w.heap.size ≤ k ∧ k < w4.heap.size) w' w'') : Turned o w b S' w'' := by
  refine Turned.wrap m4 ⟨cutL o' w'.heap.size, p', fun k hk => ?_, hP.frame (Mod.refl (fun _ => False) _) (fun _ _ _ h => h) (LabEq.cut w' o'), hm.mono fun k _ hk => FP.mono (fun _ _ => trivial) hk, fun k hk => cutL_none hk⟩ hz
  have := hm.size
  unfold cutL at *
  rw [if_pos (by omega), hl k hk]
theorem Turned.seq {o o1 : Lab} {w w1 w2 w3 : World} {b : Nat} {S' : SM} (hl : LabEq w o o1) (hm : Mod (FP o fun _ => True) w w1) (m : Same w1 w2) (t : Turned o1 w2 b S' w3) : Turned o w b S' w3 := by
  obtain ⟨o', p', hl', hP, hm', hc⟩ := t
  have hm2 := hm.trans (Mod.of_same m)
  exact ⟨o', p', hl.trans hl' hm2.size, hP, Mod.labs hm2 hl hm', hc⟩
theorem sSet_spec {o : Lab} {w : World} {b : Nat} {p : Ptrs} {S : SM} (h : StoreP o w b p S) {i : Nat} {g : Int} (hg : S.gens[i]? = some (g, true)) {n r : Nat} (hs : S.spots[i]? = some (n, r)) (hn : n < S.tabs.length) {c : Nat} (hc : c ∈ compsM S.masks n) (hr : r < (S.tabs[n].col c).length) {cell : Nat} (hcell : cell < wdF S.cs c) (value frame : Int) :
    Meets Tryz.prog 32 #[ptrV b, entV i g, .int .i64 c, .int .i64 cell, .int .i64 value, .int .i64 frame] w fun v w' => v = .tuple #[.agg ((S.tabs[n].col c)[r]).cells.toArray, .nilIface] ∧
      Turned o w b { S with tabs := S.tabs.set n ⟨S.tabs[n].rows, updC S.tabs[n].col c ((S.tabs[n].col c).set r (((S.tabs[n].col c)[r]).setCell cell value frame))⟩ } w' := by
  refine f32_ok ?_
  unfold f32
  refine knew_of fun w2 hm2 hs2 hb2 => ?_
  have hb2 : blk w2 w.heap.size = some (.cells #[.int .i64 i, .int .i64 g] 37) := hb2
  refine knew_of fun w4 hm4 hs4 hb4 => ?_
  have m4 := hm2.trans hm4
  have hb2' := hm4.get hb2 (fun h => h)
  have hS4 := h.cut m4
  repeat (first | refine kN_at ?_ | refine kB_at ?_ | refine kfld_of ?_ | refine kext_at rfl ?_ | refine kld_at hb2' rfl ?_ | refine kldN_at hb2' rfl (by omega) ?_ | refine kG_of (by first | exact rfl | omega) ?_ | refine klen_at ?_ | refine eql_at ?_ | refine neq_at ?_ | refine lss_at ?_ | refine leq_at ?_ | refine gtr_at ?_ | refine geq_at ?_ | refine add_at (by omega) (by omega) ?_ | refine sub_at (by omega) (by omega) ?_ | refine not_at ?_ | refine kO_at ?_ | refine kprt_at rfl ?_ | refine kprtN_at rfl ?_ | refine kcap_at ?_ | refine klenStr_at ?_ | refine kN_iat ?_ | refine kN_fat ?_ | refine kIf_T (by first | exact rfl | exact decT (by omega) | exact notT (decF (by omega))) ?_ | refine kIf_F (by first | exact rfl | exact decF (by omega) | exact notF (decT (by omega))) ?_)
  refine kcall_of (sColumn_spec hS4 hg hs hn hc) ?_
  rintro v w7 ⟨rfl, hC, h7⟩
  have m7 := m4.trans h7
  have hS7 := hS4.same h7
  repeat (first | refine kN_at ?_ | refine kB_at ?_ | refine kfld_of ?_ | refine kext_at rfl ?_ | refine kG_of (by first | exact rfl | omega) ?_ | refine klen_at ?_ | refine eql_at ?_ | refine neq_at ?_ | refine lss_at ?_ | refine leq_at ?_ | refine gtr_at ?_ | refine geq_at ?_ | refine add_at (by omega) (by omega) ?_ | refine sub_at (by omega) (by omega) ?_ | refine not_at ?_ | refine kO_at ?_ | refine kprt_at rfl ?_ | refine kprtN_at rfl ?_ | refine kcap_at ?_ | refine klenStr_at ?_ | refine kN_iat ?_ | refine kN_fat ?_ | refine kIf_T (by first | exact rfl | exact decT (by omega) | exact notT (decF (by omega))) ?_ | refine kIf_F (by first | exact rfl | exact decF (by omega) | exact notF (decT (by omega))) ?_)
  rw [keq_nil_nil' ifErr]
  repeat (first | refine kN_at ?_ | refine kB_at ?_ | refine kfld_of ?_ | refine kext_at rfl ?_ | refine kG_of (by first | exact rfl | omega) ?_ | refine klen_at ?_ | refine eql_at ?_ | refine neq_at ?_ | refine lss_at ?_ | refine leq_at ?_ | refine gtr_at ?_ | refine geq_at ?_ | refine add_at (by omega) (by omega) ?_ | refine sub_at (by omega) (by omega) ?_ | refine not_at ?_ | refine kO_at ?_ | refine kprt_at rfl ?_ | refine kprtN_at rfl ?_ | refine kcap_at ?_ | refine klenStr_at ?_ | refine kN_iat ?_ | refine kN_fat ?_ | refine kIf_T (by first | exact rfl | exact decT (by omega) | exact notT (decF (by omega))) ?_ | refine kIf_F (by first | exact rfl | exact decF (by omega) | exact notF (decT (by omega))) ?_)
  refine kcall_of (cSet_spec hC hr hcell value frame) ?_
  rintro v w17 ⟨rfl, hC17, h17⟩
  repeat (first | refine kN_at ?_ | refine kB_at ?_ | refine kfld_of ?_ | refine kext_at rfl ?_ | refine kG_of (by first | exact rfl | omega) ?_ | refine klen_at ?_ | refine eql_at ?_ | refine neq_at ?_ | refine lss_at ?_ | refine leq_at ?_ | refine gtr_at ?_ | refine geq_at ?_ | refine add_at (by omega) (by omega) ?_ | refine sub_at (by omega) (by omega) ?_ | refine not_at ?_ | refine kO_at ?_ | refine kprt_at rfl ?_ | refine kprtN_at rfl ?_ | refine kcap_at ?_ | refine klenStr_at ?_ | refine kN_iat ?_ | refine kN_fat ?_ | refine kIf_T (by first | exact rfl | exact decT (by omega) | exact notT (decF (by omega))) ?_ | refine kIf_F (by first | exact rfl | exact decF (by omega) | exact notF (decT (by omega))) ?_)
  have hb17 : blk w17 w2.heap.size = _ := h17.get (h7.get hb4 (fun h => h)) (fun e => by have := e.cut.2; omega)
  refine kst_of (vs := ((S.tabs[n].col c)[r]).cells) hb17 rfl rfl rfl (by simp) (by simp [Part.cells]) fun w20 h20 hs20 hb20 => ?_
  have hb20 : blk w20 w2.heap.size = some (.cells ((S.tabs[n].col c)[r]).cells.toArray 49) := hb20
  repeat (first | refine kN_at ?_ | refine kB_at ?_ | refine kfld_of ?_ | refine kext_at rfl ?_ | refine kld_at hb20 rfl ?_ | refine kldN_at hb20 rfl (by omega) ?_ | refine kG_of (by first | exact rfl | omega) ?_ | refine klen_at ?_ | refine eql_at ?_ | refine neq_at ?_ | refine lss_at ?_ | refine leq_at ?_ | refine gtr_at ?_ | refine geq_at ?_ | refine add_at (by omega) (by omega) ?_ | refine sub_at (by omega) (by omega) ?_ | refine not_at ?_ | refine kO_at ?_ | refine kprt_at rfl ?_ | refine kprtN_at rfl ?_ | refine kcap_at ?_ | refine klenStr_at ?_ | refine kN_iat ?_ | refine kN_fat ?_ | refine kIf_T (by first | exact rfl | exact decT (by omega) | exact notT (decF (by omega))) ?_ | refine kIf_F (by first | exact rfl | exact decF (by omega) | exact notF (decT (by omega))) ?_)
  have hT := (hS7.tab n hn).setCol hc (LabEq.refl w7 _) (fun t ht => ht.elim (fun h => .inr (.inl h)) (fun h => .inr (.inr h))) h17 hC17
  have hP := hS7.setTab hn (LabEq.refl w7 _) (h17.mono fun k _ hk => FP.mono (fun t ht => .inr (.inr (.inr ⟨c, ht.elim (fun h => .inr (.inl h)) (fun h => .inr (.inr h))⟩))) hk) hT
  exact ⟨rfl, Turned.of m7 (LabEq.refl w7 _) hP h17 (h20.mono fun k _ e => by subst e; exact ⟨by omega, by have := h7.size; omega⟩)⟩
end Go.Proofs.YtlkpadfkmdgjcaaGreatDoor
end
section
set_option linter.unusedSimpArgs false
set_option linter.unusedVariables false
namespace Go.Proofs.YtlkpadfkmdgjcaaGreatDoor
open Go Go.Ev
set_option linter.unusedVariables false
set_option linter.unusedSimpArgs false
set_option maxRecDepth 100000

/-! ### Tables that are laid -/
theorem listF_mem {m c : Nat} : c ∈ listF m ↔ c < 32 ∧ m.testBit c = true := by simp [listF]
theorem listF_lt {m n c : Nat} (hm : m < 2 ^ n) (hc : c ∈ listF m) : c < n := by
  have h := (listF_mem.1 hc).2
  by_cases h1 : c < n
  · exact h1
  · have : m < 2 ^ c := Nat.lt_of_lt_of_le hm (Nat.pow_le_pow_right (by omega) (by omega))
    rw [Nat.testBit_lt_two_pow this] at h; cases h
theorem listF_nodup (m : Nat) : (listF m).Nodup := List.Pairwise.filter _ List.nodup_range
theorem apTab : appT Tryz.prog 137 1 8 = true := by kernel_rfl
theorem slTab_is : ∃ e, Tryz.prog.underlying 137 = some (.slice e) := slT_of (by kernel_rfl)
def tabLab (o : Lab) (n bm bt i k : Nat) : Option Tag := if k < n then o k else if k = bm then some (.tmap i) else if k = bt then some (.table i) else none
/-- A table of which the columns of l are there. -/
def TabUp (o : Lab) (w : World) (bt bm i : Nat) (l : List Nat) (wd pc : Nat → Nat) : Prop :=
  o bt = some (.table i) ∧ blk w bt = some (.cells #[.slice none 0 0, .map (some bm)] 149) ∧ o bm = some (.tmap i) ∧ MapIs w bm .i64 (l.map fun (c : Nat) => ((c : Int), ptrV (pc c))) ∧ ∀ c ∈ l, ColAt o w (pc c) i c (wd c) []
theorem TabUp.done {o : Lab} {w : World} {bt bm i : Nat} {l : List Nat} {wd pc : Nat → Nat} (h : TabUp o w bt bm i l wd pc) : TabAt o w bt i l wd pc TabM.empty := by
  obtain ⟨h1, h2, h3, h4, h5⟩ := h
  exact ⟨h1, _, bm, h2, Own.nil _ _, (fun k hk => by obtain ⟨_, _, _, e⟩ := hk; cases e), h3, h4, h5⟩
theorem mk_of {o : Lab} {w : World} {b : Nat} {p : Ptrs} {S : SM} (h : StoreP o w b p S) : ∀ m ∈ S.masks, m < 2 ^ S.cs.length := by
  obtain ⟨pn, nodes, hN, e, hnd, hE, hlt⟩ := h.atlas
  exact hlt
/-- The state behind some tables more. -/
def layS (S : SM) (j : Nat) : SM := { S with tabs := S.tabs ++ List.replicate j TabM.empty }
theorem StoreP.addTab {o o' : Lab} {w w' : World} {b : Nat} {p : Ptrs} {S : SM} (h : StoreP o w b p S) {tv' : Value} {bt : Nat} {pc' : Nat → Nat} (hlt : S.tabs.length < S.masks.length) (hl : LabEq w o o') (hm : Mod (fun k => k = b ∨ vblk p.tv k) w w')
    (hb : blk w' b = some (.cells #[ptrV p.bR, .slice p.ca S.cs.length p.cc, p.rv, ptrV p.bA, tv', p.sv] 139))
    (ht : Own w' tv' 1 (((List.range S.tabs.length).map fun i => ptrV (p.pt i)) ++ [ptrV bt])) (htl : ∀ k, vblk tv' k → o' k = some .tabs)
    (hT : TabAt o' w' bt S.tabs.length (compsM S.masks S.tabs.length) (wdF S.cs) pc' TabM.empty) :
    StoreP o' w' b { p with tv := tv', pt := updN p.pt S.tabs.length bt, pc := fun i => if i = S.tabs.length then pc' else p.pc i } (layS S 1) := by
  have hlabT : ∀ k t, o k = some t → t ≠ .store → t ≠ .tabs → ¬ (k = b ∨ vblk p.tv k) := by
    rintro k t e n1 n2 (rfl | e2)
    · rw [h.lab] at e; cases e; exact n1 rfl
    · rw [h.tabsl k e2] at e; cases e; exact n2 rfl
  exact {
    lab := by rw [hl b (lt_of_blk h.here)]; exact h.lab
    good := h.good
    tle := by simp [layS]; omega
    mle := h.mle
    sle := h.sle
    here := hb
    roll := h.roll.frame hm (fun k t e et => hlabT k t e (by rintro rfl; rcases et with h | h | h <;> cases h) (by rintro rfl; rcases et with h | h | h <;> cases h)) hl
    atlas := h.atlas.frame hm (fun k t e et => hlabT k t e (by rintro rfl; rcases et with h | h | h | ⟨i, h⟩ <;> cases h) (by rintro rfl; rcases et with h | h | h | ⟨i, h⟩ <;> cases h)) hl
    sch := h.sch.mod hm fun k f e => hlabT k _ (h.schl k f e).1 (fun h => by cases h) (fun h => by cases h)
    schl := fun k f e => ⟨by rw [hl k (h.schl k f e).2]; exact (h.schl k f e).1, Nat.lt_of_lt_of_le (h.schl k f e).2 hm.size⟩
    tabs := by
      have e : (List.range (layS S 1).tabs.length).map (fun i => ptrV (updN p.pt S.tabs.length bt i)) = ((List.range S.tabs.length).map fun i => ptrV (p.pt i)) ++ [ptrV bt] := by
        show (List.range (S.tabs ++ List.replicate 1 TabM.empty).length).map _ = _
        rw [List.length_append, List.length_replicate, List.range_succ, List.map_append, List.map_cons, List.map_nil, updN_same]
        congr 1
        apply List.map_congr_left
        intro i hi
        rw [updN_ne _ (by simp at hi; omega)]
      exact e ▸ ht
    tabsl := htl
    spots := h.spots.mod hm fun k e => hlabT k _ (h.spotsl k e) (fun h => by cases h) (fun h => by cases h)
    spotsl := fun k e => by rw [hl k (h.spots.vblk_lt e)]; exact h.spotsl k e
    tab := fun i hi => by
      have hi' : i < S.tabs.length + 1 := by simpa [layS] using hi
      by_cases hin : i = S.tabs.length
      · subst hin
        have e : (layS S 1).tabs[S.tabs.length]'hi = TabM.empty := by simp [layS]
        simp only [e, if_true, updN_same]
        exact hT
      · have hi2 : i < S.tabs.length := by omega
        have e : (layS S 1).tabs[i]'hi = S.tabs[i] := by simp [layS, List.getElem_append_left hi2]
        simp only [e, hin, if_false, updN_ne _ hin]
        exact (h.tab i hi2).frame hm (fun k t e et => hlabT k t e (by rintro rfl; rcases et with h | h | h | ⟨c, h | h | h⟩ <;> cases h) (by rintro rfl; rcases et with h | h | h | ⟨c, h | h | h⟩ <;> cases h)) hl }
end Go.Proofs.YtlkpadfkmdgjcaaGreatDoor
end
section
set_option linter.unusedSimpArgs false
set_option linter.unusedVariables false
namespace Go.Proofs.YtlkpadfkmdgjcaaGreatDoor
open Go Go.Ev
set_option linter.unusedVariables false
set_option linter.unusedSimpArgs false
set_option maxRecDepth 100000
attribute [local irreducible] kO kB kStr kInt kN kG kIf kfld kld kldN kst knew kmap kbld kbldS kext kcnv klenStr klen kcap kprt kprtN kbool kint kstr keq kun ksl kix kiv kta kmk kmm ksem ksemU kextf kcallV kcallM kcall kL

theorem layS_0 (S : SM) : layS S 0 = S := by simp [layS]
theorem layS_1 (S : SM) (j : Nat) : layS (layS S j) 1 = layS S (j + 1) := by
  unfold layS
  simp only [List.append_assoc]
  have e : List.replicate j TabM.empty ++ List.replicate 1 TabM.empty = List.replicate (j + 1) TabM.empty := by
    rw [List.replicate_succ' (n := j)]; rfl
  rw [e]
theorem sLay_spec {o : Lab} {w : World} (hD : DeAt w) {b : Nat} {p : Ptrs} {S : SM} (h : StoreP o w b p S) (hDo : o 18 = none) :
    Meets Tryz.prog 73 #[ptrV b] w fun v w' => v = .nilIface ∧ Turned o w b (layS S (S.masks.length - S.tabs.length)) w' := by
  have hDlt := hD.lt
  rw [ptrV]
  refine f73_ok ?_
  unfold f73
  have hb0 := h.here
  obtain ⟨ta0, tn0, tc0, et0, hts0, htn0⟩ := h.tabs.is
  have htn0 : tn0 = S.tabs.length := by simpa using htn0 rfl
  rw [et0] at hb0
  subst htn0
  repeat (first | refine kN_at ?_ | refine kB_at ?_ | refine kfld_of ?_ | refine kext_at rfl ?_ | refine kld_at hb0 rfl ?_ | refine kldN_at hb0 rfl (by omega) ?_ | refine kG_of (by first | exact rfl | omega) ?_ | refine klen_at ?_ | refine eql_at ?_ | refine neq_at ?_ | refine lss_at ?_ | refine leq_at ?_ | refine gtr_at ?_ | refine geq_at ?_ | refine add_at (by omega) (by omega) ?_ | refine sub_at (by omega) (by omega) ?_ | refine not_at ?_ | refine kO_at ?_ | refine kprt_at rfl ?_ | refine kprtN_at rfl ?_ | refine kcap_at ?_ | refine klenStr_at ?_ | refine kN_iat ?_ | refine kN_fat ?_ | refine kIf_T (by first | exact rfl | exact decT (by omega) | exact notT (decF (by omega))) ?_ | refine kIf_F (by first | exact rfl | exact decF (by omega) | exact notF (decT (by omega))) ?_)
  refine kL1_of (S.masks.length - S.tabs.length) (fun j x wr => x = natV (S.tabs.length + j) ∧ j ≤ S.masks.length - S.tabs.length ∧ Turned o w b (layS S j) wr) ⟨lI1_0 ⟨rfl, by omega, cutL o w.heap.size, p, LabEq.cut w o, ?_, Mod.refl _ _, fun k hk => cutL_none hk⟩, fun x wr hx => ?_⟩
  · rw [layS_0]; exact h.cut (Mod.refl _ _)
  obtain ⟨j, hj, ⟨rfl, _, o1, p1, hl1, hP1, hm1, hc1⟩, hJ⟩ := lI1_step hx
  have hDr : DeAt wr := hD.mod hm1 fun ⟨t, e1, _⟩ => by rw [hDo] at e1; cases e1
  have hbr := hP1.here
  have hcs : (layS S j).cs = S.cs := rfl
  have hms : (layS S j).masks = S.masks := rfl
  have htl : (layS S j).tabs.length = S.tabs.length + j := by simp [layS]
  unfold f73_0
  repeat (first | refine kN_at ?_ | refine kB_at ?_ | refine kfld_of ?_ | refine kext_at rfl ?_ | refine kld_at hbr rfl ?_ | refine kldN_at hbr rfl (by omega) ?_ | refine kG_of (by first | exact rfl | omega) ?_ | refine klen_at ?_ | refine eql_at ?_ | refine neq_at ?_ | refine lss_at ?_ | refine leq_at ?_ | refine gtr_at ?_ | refine geq_at ?_ | refine add_at (by omega) (by omega) ?_ | refine sub_at (by omega) (by omega) ?_ | refine not_at ?_ | refine kO_at ?_ | refine kprt_at rfl ?_ | refine kprtN_at rfl ?_ | refine kcap_at ?_ | refine klenStr_at ?_ | refine kN_iat ?_ | refine kN_fat ?_ | refine kIf_T (by first | exact rfl | exact decT (by omega) | exact notT (decF (by omega))) ?_ | refine kIf_F (by first | exact rfl | exact decF (by omega) | exact notF (decT (by omega))) ?_)
  refine kcall_of (lenAt_spec hP1.atlas) ?_
  rintro v w8 ⟨rfl, rfl⟩
  rw [natV, natV]
  refine lss_at ?_
  refine kB_at ?_
  refine kIf_dec (fun hlt => ?_) (fun hge => ?_)
  · have hlt : S.tabs.length + j < S.masks.length := by rw [hms] at hlt; omega
    have hi : S.tabs.length + j < (layS S j).masks.length := hlt
    unfold f73_1
    repeat (first | refine kN_at ?_ | refine kB_at ?_ | refine kfld_of ?_ | refine kext_at rfl ?_ | refine kld_at hbr rfl ?_ | refine kldN_at hbr rfl (by omega) ?_ | refine kG_of (by first | exact rfl | omega) ?_ | refine klen_at ?_ | refine eql_at ?_ | refine neq_at ?_ | refine lss_at ?_ | refine leq_at ?_ | refine gtr_at ?_ | refine geq_at ?_ | refine add_at (by omega) (by omega) ?_ | refine sub_at (by omega) (by omega) ?_ | refine not_at ?_ | refine kO_at ?_ | refine kprt_at rfl ?_ | refine kprtN_at rfl ?_ | refine kcap_at ?_ | refine klenStr_at ?_ | refine kN_iat ?_ | refine kN_fat ?_ | refine kIf_T (by first | exact rfl | exact decT (by omega) | exact notT (decF (by omega))) ?_ | refine kIf_F (by first | exact rfl | exact decF (by omega) | exact notF (decT (by omega))) ?_)
    refine kcall_of (maskAt_spec hP1.atlas (S.tabs.length + j) hi) ?_
    rintro v w13 ⟨rfl, rfl⟩
    repeat (first | refine kN_at ?_ | refine kB_at ?_ | refine kfld_of ?_ | refine kext_at rfl ?_ | refine kG_of (by first | exact rfl | omega) ?_ | refine klen_at ?_ | refine eql_at ?_ | refine neq_at ?_ | refine lss_at ?_ | refine leq_at ?_ | refine gtr_at ?_ | refine geq_at ?_ | refine add_at (by omega) (by omega) ?_ | refine sub_at (by omega) (by omega) ?_ | refine not_at ?_ | refine kO_at ?_ | refine kprt_at rfl ?_ | refine kprtN_at rfl ?_ | refine kcap_at ?_ | refine klenStr_at ?_ | refine kN_iat ?_ | refine kN_fat ?_ | refine kIf_T (by first | exact rfl | exact decT (by omega) | exact notT (decF (by omega))) ?_ | refine kIf_F (by first | exact rfl | exact decF (by omega) | exact notF (decT (by omega))) ?_)
    rw [keq_nil_nil' ifErr]
    repeat (first | refine kN_at ?_ | refine kB_at ?_ | refine kfld_of ?_ | refine kext_at rfl ?_ | refine kG_of (by first | exact rfl | omega) ?_ | refine klen_at ?_ | refine eql_at ?_ | refine neq_at ?_ | refine lss_at ?_ | refine leq_at ?_ | refine gtr_at ?_ | refine geq_at ?_ | refine add_at (by omega) (by omega) ?_ | refine sub_at (by omega) (by omega) ?_ | refine not_at ?_ | refine kO_at ?_ | refine kprt_at rfl ?_ | refine kprtN_at rfl ?_ | refine kcap_at ?_ | refine klenStr_at ?_ | refine kN_iat ?_ | refine kN_fat ?_ | refine kIf_T (by first | exact rfl | exact decT (by omega) | exact notT (decF (by omega))) ?_ | refine kIf_F (by first | exact rfl | exact decF (by omega) | exact notF (decT (by omega))) ?_)
    have hmlt := mk_of hP1 _ (List.getElem_mem hi)
    have hmi : (layS S j).masks[S.tabs.length + j] = S.masks[S.tabs.length + j] := rfl
    have hcomps : compsM S.masks (S.tabs.length + j) = listF (S.masks[S.tabs.length + j]) := by
      unfold compsM; rw [List.getElem?_eq_getElem hlt]; rfl
    rw [hmi] at hmlt
    rw [hmi]
    rw [hcs] at hmlt
    generalize hm : S.masks[S.tabs.length + j] = m at *
    have hg16 := hP1.good.1
    rw [hcs] at hg16
    have hm32 : m < 4294967296 := by
      have : 2 ^ S.cs.length ≤ 2 ^ 16 := Nat.pow_le_pow_right (by omega) hg16
      omega
    unfold f73_2
    refine kmap_of fun w19 h19 hs19 hm19 => ?_
    refine kbld_of (cs := [.slice none 0 0, .map (some w13.heap.size)]) rfl ?_
    refine knew_of fun w22 h22 hs22 hb22 => ?_
    have hb22 : blk w22 w19.heap.size = some (.cells #[.slice none 0 0, .map (some w13.heap.size)] 149) := hb22
    have m22 := h19.trans h22
    refine kcall_of (List_spec (hDr.same m22) m hm32) ?_
    rintro v w24 ⟨la, lc, rfl, hls, h24, hlf⟩
    have m24 := m22.trans h24
    refine klen_at ?_
    have hl32 := listF_len m
    have hmle0 : S.masks.length ≤ 90000 := hP1.mle
    have hT0 : TabUp (tabLab o1 w13.heap.size w13.heap.size w19.heap.size (S.tabs.length + j)) w24 w19.heap.size w13.heap.size (S.tabs.length + j) [] (wdF S.cs) (fun _ => 0) :=
      ⟨by unfold tabLab; rw [if_neg (by omega), if_neg (by omega), if_pos rfl], h24.get hb22 (fun h => h), by unfold tabLab; rw [if_neg (by omega), if_pos rfl], ((hm19 .i64).same h22).same h24, fun c hc => by cases hc⟩
    refine kL1_of (listF m).length (fun q x wi => x = .int .i64 q ∧ ∃ o' pc, LabEq w13 o1 o' ∧ Mod (fun k => k = w13.heap.size) w24 wi ∧ TabUp o' wi w19.heap.size w13.heap.size (S.tabs.length + j) ((listF m).take q) (wdF S.cs) pc)
      ⟨lI1_0 ⟨rfl, tabLab o1 w13.heap.size w13.heap.size w19.heap.size (S.tabs.length + j), fun _ => 0, (fun k hk => by unfold tabLab; rw [if_pos hk]), Mod.refl _ _, by simpa using hT0⟩, fun x wi hx2 => ?_⟩
    obtain ⟨q, hq, ⟨rfl, o', pc, hlo, hmi2, hTU⟩, hJ2⟩ := lI1_step hx2
    have hbmlt : w13.heap.size < w22.heap.size := by omega
    have mi : Same w13 wi := m24.trans' (hmi2.mono fun k _ e => .inr (by omega))
    have hlsi : SlIs wi la (listF m).length 1 ((listF m).map natV) := hls.mod hmi2 fun bb oo e ek => by have := hlf bb oo e; omega
    unfold f73_3
    refine lss_at ?_
    refine kB_at ?_
    refine kIf_dec (fun hlq => ?_) (fun hgq => ?_)
    · have hlq : q < (listF m).length := by omega
      have hbi := mi.get hbr (fun h => h)
      have hcmem : (listF m)[q] ∈ listF m := List.getElem_mem hlq
      have hclt := listF_lt hmlt hcmem
      obtain ⟨hw1, hw2, hw3⟩ := wdF_of (cs := S.cs) hP1.good hclt
      have hsch := hP1.sch.same mi
      have hnin : (listF m)[q] ∉ (listF m).take q := by
        intro hin
        obtain ⟨a, ha, e⟩ := List.mem_iff_getElem.1 hin
        rw [List.getElem_take] at e
        have hal : a < q := by simp at ha; omega
        have := (List.pairwise_iff_getElem.1 (listF_nodup m)) a q (by omega) hlq hal
        exact this e
      generalize hcq : (listF m)[q] = c at *
      unfold f73_4
      refine kixld_of (F := natV) hlsi hlq rfl ?_
      rw [hcq]
      repeat (first | refine kN_at ?_ | refine kB_at ?_ | refine kfld_of ?_ | refine kext_at rfl ?_ | refine kld_at hbi rfl ?_ | refine kldN_at hbi rfl (by omega) ?_ | refine kG_of (by first | exact rfl | omega) ?_ | refine klen_at ?_ | refine eql_at ?_ | refine neq_at ?_ | refine lss_at ?_ | refine leq_at ?_ | refine gtr_at ?_ | refine geq_at ?_ | refine add_at (by omega) (by omega) ?_ | refine sub_at (by omega) (by omega) ?_ | refine not_at ?_ | refine kO_at ?_ | refine kprt_at rfl ?_ | refine kprtN_at rfl ?_ | refine kcap_at ?_ | refine klenStr_at ?_ | refine kN_iat ?_ | refine kN_fat ?_ | refine kIf_T (by first | exact rfl | exact decT (by omega) | exact notT (decF (by omega))) ?_ | refine kIf_F (by first | exact rfl | exact decF (by omega) | exact notF (decT (by omega))) ?_)
      rw [natV]
      refine kixfld_of (F := Comp.cells) (fun _ => rfl) hsch hclt (v := .int .i64 (wdF S.cs c)) (congrArg (fun z : Int => some (Value.int .i64 z)) hw1) rfl ?_
      refine kcall_of (cNew_spec o' wi (S.tabs.length + j) c (wdF S.cs c) (by omega) hw2 hw3) ?_
      rintro v w37 ⟨rfl, h37, hs37, hC37⟩
      repeat (first | refine kN_at ?_ | refine kB_at ?_ | refine kfld_of ?_ | refine kext_at rfl ?_ | refine kG_of (by first | exact rfl | omega) ?_ | refine klen_at ?_ | refine eql_at ?_ | refine neq_at ?_ | refine lss_at ?_ | refine leq_at ?_ | refine gtr_at ?_ | refine geq_at ?_ | refine add_at (by omega) (by omega) ?_ | refine sub_at (by omega) (by omega) ?_ | refine not_at ?_ | refine kO_at ?_ | refine kprt_at rfl ?_ | refine kprtN_at rfl ?_ | refine kcap_at ?_ | refine klenStr_at ?_ | refine kN_iat ?_ | refine kN_fat ?_ | refine kIf_T (by first | exact rfl | exact decT (by omega) | exact notT (decF (by omega))) ?_ | refine kIf_F (by first | exact rfl | exact decF (by omega) | exact notF (decT (by omega))) ?_)
      rw [keq_nil_nil' ifErr]
      obtain ⟨t1, t2, t3, t4, t5⟩ := hTU
      have t2' := h37.get t2 (fun h => h)
      have lb1 := lt_of_blk t2
      have lb2 := lt_of_blk t4
      repeat (first | refine kN_at ?_ | refine kB_at ?_ | refine kfld_of ?_ | refine kext_at rfl ?_ | refine kld_at t2' rfl ?_ | refine kldN_at t2' rfl (by omega) ?_ | refine kG_of (by first | exact rfl | omega) ?_ | refine klen_at ?_ | refine eql_at ?_ | refine neq_at ?_ | refine lss_at ?_ | refine leq_at ?_ | refine gtr_at ?_ | refine geq_at ?_ | refine add_at (by omega) (by omega) ?_ | refine sub_at (by omega) (by omega) ?_ | refine not_at ?_ | refine kO_at ?_ | refine kprt_at rfl ?_ | refine kprtN_at rfl ?_ | refine kcap_at ?_ | refine klenStr_at ?_ | refine kN_iat ?_ | refine kN_fat ?_ | refine kIf_T (by first | exact rfl | exact decT (by omega) | exact notT (decF (by omega))) ?_ | refine kIf_F (by first | exact rfl | exact decF (by omega) | exact notF (decT (by omega))) ?_)
      have hlkn := lk_none (fun d => ptrV (pc d)) (c : Int) ((listF m).take q) (fun x hx e => hnin (by
        have : x = c := by omega
        exact this ▸ hx))
      refine kmapUp_of Tryz.underlying147 Tryz.underlying3 (t4.same h37) hlkn fun w45 h45 hs45 hM45 => ?_
      repeat (first | refine kN_at ?_ | refine kB_at ?_ | refine kfld_of ?_ | refine kext_at rfl ?_ | refine kG_of (by first | exact rfl | omega) ?_ | refine klen_at ?_ | refine eql_at ?_ | refine neq_at ?_ | refine lss_at ?_ | refine leq_at ?_ | refine gtr_at ?_ | refine geq_at ?_ | refine add_at (by omega) (by omega) ?_ | refine sub_at (by omega) (by omega) ?_ | refine not_at ?_ | refine kO_at ?_ | refine kprt_at rfl ?_ | refine kprtN_at rfl ?_ | refine kcap_at ?_ | refine klenStr_at ?_ | refine kN_iat ?_ | refine kN_fat ?_ | refine kIf_T (by first | exact rfl | exact decT (by omega) | exact notT (decF (by omega))) ?_ | refine kIf_F (by first | exact rfl | exact decF (by omega) | exact notF (decT (by omega))) ?_)
      rw [cast_succ]
      have hsi := mi.size
      have m45 : Mod (fun k => k = w13.heap.size) w24 w45 := (hmi2.trans (Mod.of_same h37)).trans h45
      have lwi := mi.size
      have ecl : (listF m).take (q + 1) = (listF m).take q ++ [c] := by
        rw [List.take_add_one, List.getElem?_eq_getElem hlq, hcq]; rfl
      refine hJ2 _ _ hlq ⟨rfl, ext o' wi.heap.size (.col (S.tabs.length + j) c), updN pc c wi.heap.size, hlo.trans (LabEq.ext wi o' _) mi.size, m45, ?_, ?_, ?_, ?_, ?_⟩
      · unfold ext; rw [if_pos lb1]; exact t1
      · exact h45.get t2' (by omega)
      · unfold ext; rw [if_pos lb2]; exact t3
      · have e : ((listF m).take (q + 1)).map (fun (d : Nat) => ((d : Int), ptrV (updN pc c wi.heap.size d))) = ((listF m).take q).map (fun (d : Nat) => ((d : Int), ptrV (pc d))) ++ [((c : Int), ptrV wi.heap.size)] := by
          rw [ecl, List.map_append, List.map_cons, List.map_nil, updN_same]
          congr 1
          apply List.map_congr_left
          intro d hd
          rw [updN_ne _ (by rintro rfl; exact hnin hd)]
        rw [e]; exact hM45
      · intro d hd
        rw [ecl] at hd
        rcases List.mem_append.1 hd with hd1 | hd1
        · rw [updN_ne _ (fun e : d = c => hnin (e ▸ hd1))]
          refine (((t5 d hd1).frame h37 (fun _ _ _ _ h => h) (LabEq.ext wi o' _)).frame h45 (fun k t e et ek => ?_) (LabEq.refl _ _))
          subst ek
          unfold ext at e
          rw [if_pos lb2, t3] at e
          cases e
          rcases et with h | h | h <;> cases h
        · have : d = c := by simpa using hd1
          subst this
          rw [updN_same]
          refine hC37.frame h45 (fun k t e et ek => ?_) (LabEq.refl _ _)
          subst ek
          unfold ext at e
          rw [if_pos lb2, t3] at e
          cases e
          rcases et with h | h | h <;> cases h
    · have : q = (listF m).length := by omega
      subst this
      rw [List.take_length] at hTU
      have hPi := hP1.frame mi (fun _ _ _ h => h) hlo
      have hbi := hPi.here
      obtain ⟨ta, tn, tc, et, hts, htn⟩ := hPi.tabs.is
      have htn : tn = S.tabs.length + j := by
        have := htn rfl
        rw [List.length_map, List.length_range, htl] at this
        exact this
      rw [et] at hbi
      subst htn
      repeat (first | refine kN_at ?_ | refine kB_at ?_ | refine kfld_of ?_ | refine kext_at rfl ?_ | refine kld_at hbi rfl ?_ | refine kldN_at hbi rfl (by omega) ?_ | refine kG_of (by first | exact rfl | omega) ?_ | refine klen_at ?_ | refine eql_at ?_ | refine neq_at ?_ | refine lss_at ?_ | refine leq_at ?_ | refine gtr_at ?_ | refine geq_at ?_ | refine add_at (by omega) (by omega) ?_ | refine sub_at (by omega) (by omega) ?_ | refine not_at ?_ | refine kO_at ?_ | refine kprt_at rfl ?_ | refine kprtN_at rfl ?_ | refine kcap_at ?_ | refine klenStr_at ?_ | refine kN_iat ?_ | refine kN_fat ?_ | refine kIf_T (by first | exact rfl | exact decT (by omega) | exact notT (decF (by omega))) ?_ | refine kIf_F (by first | exact rfl | exact decF (by omega) | exact notF (decT (by omega))) ?_)
      refine kbldS_of (cs := [ptrV w19.heap.size]) rfl fun w51 h51 hs51 hb51 => ?_
      have hP51 := hPi.frame h51 (fun _ _ _ h => h) (LabEq.cut wi o')
      have ht51 := hP51.tabs
      rw [et] at ht51
      have hmle := hP1.mle
      refine ksem_append apTab (by omega) ht51 (Src.ofSlIs (hk := slTab_is.choose_spec) 1 (SlIs.blk hb51 rfl) rfl) (by simp; omega) (by simp; omega) ?_
      intro v' w53 ho53 hm53 hf53
      have hb53 := hm53.get (h51.get hbi (fun h => h)) (fun e => by
        have := hP51.tabsl b (by rw [et]; exact e)
        rw [hP51.lab] at this; cases this)
      obtain ⟨a', n', c', rfl, _⟩ := ho53.is
      repeat (first | refine kN_at ?_ | refine kB_at ?_ | refine kfld_of ?_ | refine kext_at rfl ?_ | refine kG_of (by first | exact rfl | omega) ?_ | refine klen_at ?_ | refine eql_at ?_ | refine neq_at ?_ | refine lss_at ?_ | refine leq_at ?_ | refine gtr_at ?_ | refine geq_at ?_ | refine add_at (by omega) (by omega) ?_ | refine sub_at (by omega) (by omega) ?_ | refine not_at ?_ | refine kO_at ?_ | refine kprt_at rfl ?_ | refine kprtN_at rfl ?_ | refine kcap_at ?_ | refine klenStr_at ?_ | refine kN_iat ?_ | refine kN_fat ?_ | refine kIf_T (by first | exact rfl | exact decT (by omega) | exact notT (decF (by omega))) ?_ | refine kIf_F (by first | exact rfl | exact decF (by omega) | exact notF (decT (by omega))) ?_)
      refine kst1_of hb53 rfl rfl (by simp) fun w55 h55 hs55 hb55 => ?_
      simp only [List.setIfInBounds_toArray, List.set_cons_succ, List.set_cons_zero] at hb55
      repeat (first | refine kN_at ?_ | refine kB_at ?_ | refine kfld_of ?_ | refine kext_at rfl ?_ | refine kG_of (by first | exact rfl | omega) ?_ | refine klen_at ?_ | refine eql_at ?_ | refine neq_at ?_ | refine lss_at ?_ | refine leq_at ?_ | refine gtr_at ?_ | refine geq_at ?_ | refine add_at (by omega) (by omega) ?_ | refine sub_at (by omega) (by omega) ?_ | refine not_at ?_ | refine kO_at ?_ | refine kprt_at rfl ?_ | refine kprtN_at rfl ?_ | refine kcap_at ?_ | refine klenStr_at ?_ | refine kN_iat ?_ | refine kN_fat ?_ | refine kIf_T (by first | exact rfl | exact decT (by omega) | exact notT (decF (by omega))) ?_ | refine kIf_F (by first | exact rfl | exact decF (by omega) | exact notF (decT (by omega))) ?_)
      have hm55 : Mod (fun k => k = b ∨ vblk p1.tv k) w51 w55 := (hm53.mono fun k _ e => .inr (by rw [et]; exact e)).trans (h55.mono fun k _ e => .inl e)
      have lb51 := lt_of_blk hP51.here
      have hTA := hTU.done
      have lw51 : wi.heap.size ≤ w51.heap.size := h51.size
      have hlt1 : LabEq w51 (cutL o' wi.heap.size) (ext (cutL o' wi.heap.size) w51.heap.size .tabs) := LabEq.ext _ _ _
      have hTA51 : TabAt (ext (cutL o' wi.heap.size) w51.heap.size .tabs) w55 w19.heap.size (S.tabs.length + j) (compsM S.masks (S.tabs.length + j)) (wdF S.cs) pc TabM.empty := by
        rw [hcomps]
        refine ((hTA.frame h51 (fun _ _ _ _ h => h) (LabEq.cut wi o')).frame hm55 (fun k t e et2 ek => ?_) hlt1)
        rcases ek with rfl | ek
        · rw [hP51.lab] at e; cases e
          rcases et2 with h | h | h | ⟨d, h | h | h⟩ <;> cases h
        · rw [hP51.tabsl k ek] at e; cases e
          rcases et2 with h | h | h | ⟨d, h | h | h⟩ <;> cases h
      have hnew := hP51.addTab (tv' := .slice a' n' c') (bt := w19.heap.size) (pc' := pc) (by rw [htl]; exact hi) hlt1 hm55 hb55 (ho53.mod h55 fun k hk e => by
          subst e
          rcases hf53 _ hk with h | h
          · have := hP51.tabsl _ (by rw [et]; exact h)
            rw [hP51.lab] at this; cases this
          · omega) (fun k hk => by
          unfold ext
          rcases hf53 k hk with h | h
          · have h' : vblk p1.tv k := by rw [et]; exact h
            have := hP51.tabs.vblk_lt h'
            rw [if_pos this]
            exact hP51.tabsl k h'
          · rw [if_neg (by omega)]) (by rw [htl]; exact hTA51)
      rw [layS_1] at hnew
      have hJt : natV (S.tabs.length + (j + 1)) = .int .i64 (((S.tabs.length + j : Nat) : Int) + 1) := by
        unfold natV
        congr 1
      rw [← hJt]
      have lwi := mi.size
      refine hJ _ _ (by omega) ⟨rfl, by omega, cutL (ext (cutL o' wi.heap.size) w51.heap.size .tabs) w55.heap.size, _, fun k hk => ?_, hnew.frame (Mod.refl (fun _ => False) _) (fun _ _ _ h => h) (LabEq.cut w55 _), ?_, fun k hk => cutL_none hk⟩
      · have h1 := hm1.size
        have h2 := hm55.size
        unfold cutL ext
        rw [if_pos (by omega), if_pos (by omega)]
        show (if k < wi.heap.size then o' k else none) = o k
        rw [if_pos (by omega), hlo k (by omega)]
        exact hl1 k hk
      · refine hm1.trans' ((Mod.of_same (mi.trans h51)).trans (hm55.mono fun k hk e => ?_))
        rcases Nat.lt_or_ge k w.heap.size with hkw | hkw
        · left
          have hlab : ∃ t, o k = some t := by
            have h1 := hm1.size
            have e1 : cutL o' wi.heap.size k = o k := by
              unfold cutL
              rw [if_pos (by omega), hlo k (by omega)]
              exact hl1 k hkw
            rw [← e1]
            rcases e with rfl | e
            · exact ⟨_, hP51.lab⟩
            · exact ⟨_, hP51.tabsl k e⟩
          obtain ⟨t, ht⟩ := hlab
          exact ⟨t, ht, trivial⟩
        · exact .inr hkw
  · have : j = S.masks.length - S.tabs.length := by rw [hms] at hge; omega
    subst this
    exact ⟨rfl, o1, p1, hl1, hP1, hm1, hc1⟩
end Go.Proofs.YtlkpadfkmdgjcaaGreatDoor
end
section
set_option linter.unusedSimpArgs false
set_option linter.unusedVariables false
namespace Go.Proofs.YtlkpadfkmdgjcaaGreatDoor
open Go Go.Ev
set_option linter.unusedVariables false
set_option linter.unusedSimpArgs false
set_option maxRecDepth 100000
attribute [local irreducible] kO kB kStr kInt kN kG kIf kfld kld kldN kst knew kmap kbld kbldS kext kcnv klenStr klen kcap kprt kprtN kbool kint kstr keq kun ksl kix kiv kta kmk kmm ksem ksemU kextf kcallV kcallM kcall kL

/-! ### Parts that fit, and gathered -/
def FitsP (cs : List Comp) (q : Part) : Prop := ∃ c : Nat, q.comp = c ∧ c < cs.length ∧ q.clean (wdF cs c)
theorem clean_get {q : Part} {wd j : Nat} (h : q.clean wd) (h1 : 1 ≤ wd) (hj : j < 4 - wd) : q.cells[1 + wd + j]? = some (.int .i64 0) := by
  unfold Part.clean Part.vals at h
  have hw' : wd = 1 ∨ wd = 2 ∨ wd = 3 := by omega
  have hj' : j = 0 ∨ j = 1 ∨ j = 2 := by omega
  rcases hw' with rfl | rfl | rfl <;> rcases hj' with rfl | rfl | rfl <;> first | omega | (simp at h; simp [Part.cells, h])
theorem sFits_spec {o : Lab} {w : World} {b : Nat} {p : Ptrs} {S : SM} (h : StoreP o w b p S) (q : Part) (hq : FitsP S.cs q) :
    Meets Tryz.prog 82 #[ptrV b, .agg q.cells.toArray] w fun v w' => v = .bool true ∧ Same w w' := by
  obtain ⟨c, hqc, hcl, hcln⟩ := hq
  obtain ⟨hw1, hw2, hw3⟩ := wdF_of h.good hcl
  have hg := h.good.1
  rw [ptrV]
  refine f82_ok ?_
  unfold f82
  refine knew_of fun w2 hm2 hs2 hb2 => ?_
  have hb2 : blk w2.drew w.heap.size = some (.cells q.cells.toArray 49) := hb2
  have m2 := hm2.drew
  generalize w2.drew = wa at *
  have hba := m2.get h.here (fun h => h)
  refine kfld_of ?_
  refine kld_of (v := .int .i64 c) hb2 (by simp [Part.cells, hqc]) ?_
  refine kG_of rfl ?_
  refine lss_at ?_
  refine kB_at ?_
  refine kIf_T (notT (decF (by omega))) ?_
  refine kfld_of ?_
  refine kld_of (v := .int .i64 c) hb2 (by simp [Part.cells, hqc]) ?_
  repeat (first | refine kN_at ?_ | refine kB_at ?_ | refine kfld_of ?_ | refine kext_at rfl ?_ | refine kld_at hba rfl ?_ | refine kldN_at hba rfl (by omega) ?_ | refine kG_of (by first | exact rfl | omega) ?_ | refine klen_at ?_ | refine eql_at ?_ | refine neq_at ?_ | refine lss_at ?_ | refine leq_at ?_ | refine gtr_at ?_ | refine geq_at ?_ | refine add_at (by omega) (by omega) ?_ | refine sub_at (by omega) (by omega) ?_ | refine not_at ?_ | refine kO_at ?_ | refine kprt_at rfl ?_ | refine kprtN_at rfl ?_ | refine kcap_at ?_ | refine klenStr_at ?_ | refine kN_iat ?_ | refine kN_fat ?_ | refine kIf_T (by first | exact rfl | exact decT (by omega) | exact notT (decF (by omega))) ?_ | refine kIf_F (by first | exact rfl | exact decF (by omega) | exact notF (decT (by omega))) ?_)
  have hb2 : blk wa.drew w.heap.size = _ := hb2
  have hba : blk wa.drew b = _ := hba
  have m2 := m2.drew
  generalize wa.drew = wb at *
  refine kld_of (v := .int .i64 c) hb2 (by simp [Part.cells, hqc]) ?_
  refine kG_of rfl ?_
  refine kixfld_of (F := Comp.cells) (fun _ => rfl) (h.sch.same m2) hcl (v := .int .i64 (wdF S.cs c)) (congrArg (fun z : Int => some (Value.int .i64 z)) hw1) rfl ?_
  refine kG_of rfl ?_
  refine ksl_arr_lo hw3 ?_
  repeat (first | refine kN_at ?_ | refine kB_at ?_ | refine kfld_of ?_ | refine kext_at rfl ?_ | refine kG_of (by first | exact rfl | omega) ?_ | refine klen_at ?_ | refine eql_at ?_ | refine neq_at ?_ | refine lss_at ?_ | refine leq_at ?_ | refine gtr_at ?_ | refine geq_at ?_ | refine add_at (by omega) (by omega) ?_ | refine sub_at (by omega) (by omega) ?_ | refine not_at ?_ | refine kO_at ?_ | refine kprt_at rfl ?_ | refine kprtN_at rfl ?_ | refine kcap_at ?_ | refine klenStr_at ?_ | refine kN_iat ?_ | refine kN_fat ?_ | refine kIf_T (by first | exact rfl | exact decT (by omega) | exact notT (decF (by omega))) ?_ | refine kIf_F (by first | exact rfl | exact decF (by omega) | exact notF (decT (by omega))) ?_)
  refine kL1_of (4 - wdF S.cs c) (fun j x wr => x = .int .i64 j ∧ Same wb wr) ⟨lI1_0 ⟨rfl, Mod.refl _ _⟩, fun x wr hx => ?_⟩
  obtain ⟨j, hj, ⟨rfl, hm⟩, hJ⟩ := lI1_step hx
  unfold f82_2
  refine lss_at ?_
  refine kB_at ?_
  refine kIf_dec (fun hlt => ?_) (fun hge => ?_)
  · have hlt : j < 4 - wdF S.cs c := by omega
    unfold f82_3
    rw [kix_slice]
    refine kG_of (by omega) ?_
    rw [add_mk, if_neg (by omega)]
    refine kld_of (v := .int .i64 0) (hm.get hb2 (fun h => h)) ?_ ?_
    · have := clean_get hcln hw2 hlt
      simpa using this
    repeat (first | refine kN_at ?_ | refine kB_at ?_ | refine kfld_of ?_ | refine kext_at rfl ?_ | refine kG_of (by first | exact rfl | omega) ?_ | refine klen_at ?_ | refine eql_at ?_ | refine neq_at ?_ | refine lss_at ?_ | refine leq_at ?_ | refine gtr_at ?_ | refine geq_at ?_ | refine add_at (by omega) (by omega) ?_ | refine sub_at (by omega) (by omega) ?_ | refine not_at ?_ | refine kO_at ?_ | refine kprt_at rfl ?_ | refine kprtN_at rfl ?_ | refine kcap_at ?_ | refine klenStr_at ?_ | refine kN_iat ?_ | refine kN_fat ?_ | refine kIf_T (by first | exact rfl | exact decT (by omega) | exact notT (decF (by omega))) ?_ | refine kIf_F (by first | exact rfl | exact decF (by omega) | exact notF (decT (by omega))) ?_)
    rw [cast_succ]
    exact hJ _ _ hlt ⟨rfl, hm⟩
  · unfold f82_5
    exact ⟨rfl, m2.trans hm⟩
theorem has_spec (m : Nat) (n : Int) (hm : m < 4294967296) (h1 : -9223372036854775808 ≤ n) (h2 : n ≤ 9223372036854775807) (w : World) : Meets Tryz.prog 19 #[msk m, .int .i64 n] w fun v w' => v = .bool (decide (m &&& bitF n ≠ 0)) ∧ w' = w := by
  refine f19_ok ?_
  unfold f19
  refine kcall_of (bit_spec n h1 h2 w) ?_
  rintro v w' ⟨rfl, rfl⟩
  rw [msk, msk, kint_and, u32_and hm (bitF_lt n), kint_neq]
  refine ⟨?_, rfl⟩
  congr 1
  simp
/-- The set of parts. -/
def maskP (L : List Part) : Nat := L.foldl (fun m q => m ||| bitF q.comp) 0
theorem maskP_snoc (L : List Part) (q : Part) : maskP (L ++ [q]) = maskP L ||| bitF q.comp := by simp [maskP]
theorem mask_fold (cs : List Comp) (hcs : cs.length ≤ 16) (c : Nat) : ∀ (L : List Part) (m : Nat), (∀ q ∈ L, FitsP cs q) → ((L.foldl (fun m q => m ||| bitF q.comp) m).testBit c = true ↔ m.testBit c = true ∨ ∃ q ∈ L, q.comp = (c : Int))
  | [], m, _ => by simp
  | q :: L, m, h => by
    rw [List.foldl_cons, mask_fold cs hcs c L _ (fun x hx => h x (by simp [hx])), Nat.testBit_or, Bool.or_eq_true]
    obtain ⟨d, e, hd, _⟩ := h q (by simp)
    have hb : (bitF q.comp).testBit c = true ↔ q.comp = (c : Int) := by
      rw [e, bitF_nat (by omega), Nat.testBit_two_pow]
      simp only [decide_eq_true_eq]
      omega
    rw [hb]
    constructor
    · rintro ((h1 | h1) | ⟨x, hx, e⟩)
      · exact .inl h1
      · exact .inr ⟨q, by simp, h1⟩
      · exact .inr ⟨x, by simp [hx], e⟩
    · rintro (h1 | ⟨x, hx, ex⟩)
      · exact .inl (.inl h1)
      · rcases List.mem_cons.1 hx with rfl | hx
        · exact .inl (.inr ex)
        · exact .inr ⟨x, hx, ex⟩
theorem maskP_bit (cs : List Comp) (hcs : cs.length ≤ 16) (L : List Part) (h : ∀ q ∈ L, FitsP cs q) (c : Nat) : (maskP L).testBit c = true ↔ ∃ q ∈ L, q.comp = (c : Int) := by
  unfold maskP
  rw [mask_fold cs hcs c L 0 h]
  simp
theorem maskP_lt (cs : List Comp) (hcs : cs.length ≤ 16) (L : List Part) (h : ∀ q ∈ L, FitsP cs q) : maskP L < 2 ^ cs.length := by
  apply Nat.lt_pow_two_of_testBit
  intro i hi
  cases hb : (maskP L).testBit i with
  | false => rfl
  | true =>
    obtain ⟨q, hq, e⟩ := (maskP_bit cs hcs L h i).1 hb
    obtain ⟨d, e2, hd, _⟩ := h q hq
    omega
theorem apPart : appT Tryz.prog 40 6 48 = true := by kernel_rfl
theorem slPart : isSlT Tryz.prog 40 = true := by kernel_rfl
theorem slPart_is : ∃ e, Tryz.prog.underlying 40 = some (.slice e) := slT_of (by kernel_rfl)
theorem ones_parts : ∀ L : List Part, oneCells (L.flatMap Part.cells) = true
  | [] => rfl
  | q :: L => by
    rw [List.flatMap_cons]
    show oneCells (.int .i64 q.comp :: .int .i64 q.v0 :: .int .i64 q.v1 :: .int .i64 q.v2 :: .int .i64 q.v3 :: .int .i64 q.tick :: L.flatMap Part.cells) = true
    simp only [oneCells, ones_parts L]; rfl
theorem cloneP_spec {w : World} {a : Option Addr} {L : List Part} {c : Nat} (hs : SlIs w a L.length 6 (L.flatMap Part.cells)) (hn : L.length ≤ 1000000) :
    Meets Tryz.prog 139 #[.slice a L.length c] w fun v w' => Own w' v 6 (L.flatMap Part.cells) ∧ Same w w' ∧ (∀ k, vblk v k → w.heap.size ≤ k) := by
  have hfl := flat_len Part.cells 6 (fun _ => rfl) L
  refine f139_ok ?_
  unfold f139
  rw [keq_sl_nil slPart]
  cases a with
  | none =>
    have hL : L.length = 0 := by rcases hs.2 with h | ⟨_, _, _, _, _, h, _⟩; exact h; cases h
    have : L = [] := List.eq_nil_of_length_eq_zero hL
    subst this
    repeat (first | refine kN_at ?_ | refine kB_at ?_ | refine kfld_of ?_ | refine kext_at rfl ?_ | refine kG_of (by first | exact rfl | omega) ?_ | refine klen_at ?_ | refine eql_at ?_ | refine neq_at ?_ | refine lss_at ?_ | refine leq_at ?_ | refine gtr_at ?_ | refine geq_at ?_ | refine add_at (by omega) (by omega) ?_ | refine sub_at (by omega) (by omega) ?_ | refine not_at ?_ | refine kO_at ?_ | refine kprt_at rfl ?_ | refine kprtN_at rfl ?_ | refine kcap_at ?_ | refine klenStr_at ?_ | refine kN_iat ?_ | refine kN_fat ?_ | refine kIf_T (by first | exact rfl | exact decT (by omega) | exact notT (decF (by omega))) ?_ | refine kIf_F (by first | exact rfl | exact decF (by omega) | exact notF (decT (by omega))) ?_)
    exact ⟨Own.nil _ _, Mod.refl _ _, fun b hb => by obtain ⟨_, _, _, h⟩ := hb; cases h⟩
  | some a =>
    repeat (first | refine kN_at ?_ | refine kB_at ?_ | refine kfld_of ?_ | refine kext_at rfl ?_ | refine kG_of (by first | exact rfl | omega) ?_ | refine klen_at ?_ | refine eql_at ?_ | refine neq_at ?_ | refine lss_at ?_ | refine leq_at ?_ | refine gtr_at ?_ | refine geq_at ?_ | refine add_at (by omega) (by omega) ?_ | refine sub_at (by omega) (by omega) ?_ | refine not_at ?_ | refine kO_at ?_ | refine kprt_at rfl ?_ | refine kprtN_at rfl ?_ | refine kcap_at ?_ | refine klenStr_at ?_ | refine kN_iat ?_ | refine kN_fat ?_ | refine kIf_T (by first | exact rfl | exact decT (by omega) | exact notT (decF (by omega))) ?_ | refine kIf_F (by first | exact rfl | exact decF (by omega) | exact notF (decT (by omega))) ?_)
    unfold f139_0
    refine kbldS_of (cs := []) rfl fun w5 h5 hs5 hb5 => ?_
    refine ksem_append apPart (by omega) (vs := []) (Own.blk hb5 (n := 0) (by simp) (by simp [maxLen])) (Src.ofSlIs (hk := slPart_is.choose_spec) c (hs.same h5) (ones_parts L)) (by simp [hfl]; omega) (by simp [hfl]; omega) ?_
    intro v' w' ho hm hf
    refine ⟨by simpa using ho, Mod.after h5 hm (fun b hb => by rw [vblk_new hb]; exact Nat.le_refl _), fun b hb => ?_⟩
    rcases hf b hb with h | h
    · rw [vblk_new h]; exact Nat.le_refl _
    · omega
end Go.Proofs.YtlkpadfkmdgjcaaGreatDoor
end
section
set_option linter.unusedSimpArgs false
set_option linter.unusedVariables false
namespace Go.Proofs.YtlkpadfkmdgjcaaGreatDoor
open Go Go.Ev
set_option linter.unusedVariables false
set_option linter.unusedSimpArgs false
set_option maxRecDepth 100000
attribute [local irreducible] kO kB kStr kInt kN kG kIf kfld kld kldN kst knew kmap kbld kbldS kext kcnv klenStr klen kcap kprt kprtN kbool kint kstr keq kun ksl kix kiv kta kmk kmm ksem ksemU kextf kcallV kcallM kcall kL

/-! ### Parts, gathered -/
def NoTwice (L : List Part) : Prop := (L.map (·.comp)).Nodup
theorem sGathered_spec {o : Lab} {w : World} {b : Nat} {p : Ptrs} {S : SM} (h : StoreP o w b p S) {L : List Part} {a : Option Addr} {c : Nat} (hs : SlIs w a L.length 6 (L.flatMap Part.cells)) (hn : L.length ≤ 1000000) (hf : ∀ q ∈ L, FitsP S.cs q) (hnt : NoTwice L) :
    Meets Tryz.prog 74 #[ptrV b, .slice a L.length c] w fun v w' => ∃ (sv : Value) (L' : List Part), v = .tuple #[msk (maskP L), sv, .nilIface] ∧ L'.Perm L ∧ L'.Pairwise (fun x y => x.comp ≤ y.comp) ∧ Own w' sv 6 (L'.flatMap Part.cells) ∧ Same w w' ∧ ∀ k, vblk sv k → w.heap.size ≤ k := by
  have hg := h.good.1
  have hp16 : 2 ^ S.cs.length ≤ 2 ^ 16 := Nat.pow_le_pow_right (by omega) hg
  refine f74_ok ?_
  unfold f74
  refine klen_at ?_
  refine kL3_of L.length (fun j x y z wr => z = .int .i64 j ∧ x = msk (maskP (L.take j)) ∧ y = .bool false ∧ Same w wr) ⟨lI3_0 ⟨rfl, rfl, rfl, Mod.refl _ _⟩, fun x y z wr hx => ?_⟩
  obtain ⟨j, hj, ⟨rfl, rfl, rfl, hm⟩, hJ⟩ := lI3_step hx
  unfold f74_0
  refine lss_at ?_
  refine kB_at ?_
  refine kIf_dec (fun hlt => ?_) (fun hge => ?_)
  · have hlt : j < L.length := by omega
    have hfj := hf _ (List.getElem_mem hlt)
    obtain ⟨d, e1, e2, e3⟩ := id hfj
    have hft : ∀ q ∈ L.take j, FitsP S.cs q := fun q hq => hf q (List.mem_of_mem_take hq)
    have hml := maskP_lt S.cs hg _ hft
    have hsn : maskP (L.take (j + 1)) = maskP (L.take j) ||| bitF L[j].comp := by
      rw [List.take_add_one, List.getElem?_eq_getElem hlt]; exact maskP_snoc _ _
    unfold f74_1
    refine kixldN_of (F := Part.cells) (sz := 6) (fun _ => rfl) (by omega) (hs.same hm) hlt rfl ?_
    refine knew_of fun w7 h7 hs7 hb7 => ?_
    refine kst_of (vs := (L[j]).cells) hb7 rfl rfl rfl (by simp) (by simp [Part.cells]) fun w8 h8 hs8 hb8 => ?_
    have hb8 : blk w8 wr.heap.size = some (.cells (L[j]).cells.toArray 49) := hb8
    have m8 : Same wr w8 := h7.trans' (h8.mono fun k _ e => .inr (by omega))
    repeat (first | refine kN_at ?_ | refine kB_at ?_ | refine kfld_of ?_ | refine kext_at rfl ?_ | refine kld_at hb8 rfl ?_ | refine kldN_at hb8 rfl (by omega) ?_ | refine kG_of (by first | exact rfl | omega) ?_ | refine klen_at ?_ | refine eql_at ?_ | refine neq_at ?_ | refine lss_at ?_ | refine leq_at ?_ | refine gtr_at ?_ | refine geq_at ?_ | refine add_at (by omega) (by omega) ?_ | refine sub_at (by omega) (by omega) ?_ | refine not_at ?_ | refine kO_at ?_ | refine kprt_at rfl ?_ | refine kprtN_at rfl ?_ | refine kcap_at ?_ | refine klenStr_at ?_ | refine kN_iat ?_ | refine kN_fat ?_ | refine kIf_T (by first | exact rfl | exact decT (by omega) | exact notT (decF (by omega))) ?_ | refine kIf_F (by first | exact rfl | exact decF (by omega) | exact notF (decT (by omega))) ?_)
    refine kcall_of (sFits_spec (h.same (hm.trans m8)) L[j] hfj) ?_
    rintro v w11 ⟨rfl, h11⟩
    have hb11 := h11.get hb8 (fun h => h)
    have m11 := m8.trans h11
    repeat (first | refine kN_at ?_ | refine kB_at ?_ | refine kfld_of ?_ | refine kext_at rfl ?_ | refine kG_of (by first | exact rfl | omega) ?_ | refine klen_at ?_ | refine eql_at ?_ | refine neq_at ?_ | refine lss_at ?_ | refine leq_at ?_ | refine gtr_at ?_ | refine geq_at ?_ | refine add_at (by omega) (by omega) ?_ | refine sub_at (by omega) (by omega) ?_ | refine not_at ?_ | refine kO_at ?_ | refine kprt_at rfl ?_ | refine kprtN_at rfl ?_ | refine kcap_at ?_ | refine klenStr_at ?_ | refine kN_iat ?_ | refine kN_fat ?_ | refine kIf_T (by first | exact rfl | exact decT (by omega) | exact notT (decF (by omega))) ?_ | refine kIf_F (by first | exact rfl | exact decF (by omega) | exact notF (decT (by omega))) ?_)
    refine kld_of (v := .int .i64 d) hb11 (by simp [Part.cells, e1]) ?_
    refine kcall_of (has_spec (maskP (L.take j)) (d : Int) (by omega) (by omega) (by omega) w11) ?_
    rintro v w20 ⟨rfl, rfl⟩
    have hno : maskP (L.take j) &&& bitF (d : Int) = 0 := by
      apply Nat.eq_of_testBit_eq
      intro i
      rw [Nat.testBit_and, Nat.zero_testBit, bitF_nat (by omega), Nat.testBit_two_pow]
      by_cases hdi : d = i
      · subst hdi
        have : (maskP (L.take j)).testBit d = false := by
          cases hb : (maskP (L.take j)).testBit d with
          | false => rfl
          | true =>
            obtain ⟨q, hq, e⟩ := (maskP_bit S.cs hg _ hft d).1 hb
            obtain ⟨k, hk, rfl⟩ := List.mem_iff_getElem.1 hq
            have hkj : k < j := by simp at hk; omega
            rw [List.getElem_take] at e
            have hp := (List.pairwise_iff_getElem.1 hnt) k j (by simp; omega) (by simpa using hlt) hkj
            simp only [List.getElem_map] at hp
            exact absurd (e.trans e1.symm) hp
        rw [this]; simp
      · simp [hdi]
    rw [hno, show decide ((0 : Nat) ≠ 0) = false from rfl]
    refine kfld_of ?_
    refine kld_of (v := .int .i64 d) hb11 (by simp [Part.cells, e1]) ?_
    refine kcall_of (with_spec (maskP (L.take j)) (d : Int) (by omega) (by omega) (by omega) w20) ?_
    rintro v w24 ⟨rfl, rfl⟩
    repeat (first | refine kN_at ?_ | refine kB_at ?_ | refine kfld_of ?_ | refine kext_at rfl ?_ | refine kG_of (by first | exact rfl | omega) ?_ | refine klen_at ?_ | refine eql_at ?_ | refine neq_at ?_ | refine lss_at ?_ | refine leq_at ?_ | refine gtr_at ?_ | refine geq_at ?_ | refine add_at (by omega) (by omega) ?_ | refine sub_at (by omega) (by omega) ?_ | refine not_at ?_ | refine kO_at ?_ | refine kprt_at rfl ?_ | refine kprtN_at rfl ?_ | refine kcap_at ?_ | refine klenStr_at ?_ | refine kN_iat ?_ | refine kN_fat ?_ | refine kIf_T (by first | exact rfl | exact decT (by omega) | exact notT (decF (by omega))) ?_ | refine kIf_F (by first | exact rfl | exact decF (by omega) | exact notF (decT (by omega))) ?_)
    rw [cast_succ]
    refine hJ _ _ _ _ hlt ⟨rfl, ?_, rfl, hm.trans m11⟩
    rw [hsn, e1]
  · have : j = L.length := by omega
    subst this
    rw [List.take_length]
    unfold f74_5
    refine kB_at ?_
    refine kIf_F rfl ?_
    unfold f74_6
    refine kcall_of (cloneP_spec (hs.same hm) hn) ?_
    rintro v w31 ⟨ho, h31, hf31⟩
    refine kcall_of (sorted_spec ho (by omega)) ?_
    rintro v2 w33 ⟨L', g1, g2, g3, g4⟩
    exact ⟨v, L', rfl, g1, g2, g3, (hm.trans h31).trans' (g4.mono fun k _ e => .inr (by have := hf31 k e; have := hm.size; omega)), fun k e => by have := hf31 k e; have := hm.size; omega⟩
end Go.Proofs.YtlkpadfkmdgjcaaGreatDoor
end
section
set_option linter.unusedSimpArgs false
set_option linter.unusedVariables false
namespace Go.Proofs.YtlkpadfkmdgjcaaGreatDoor
open Go Go.Ev
set_option linter.unusedVariables false
set_option linter.unusedSimpArgs false
set_option maxRecDepth 100000
attribute [local irreducible] kO kB kStr kInt kN kG kIf kfld kld kldN kst knew kmap kbld kbldS kext kcnv klenStr klen kcap kprt kprtN kbool kint kstr keq kun ksl kix kiv kta kmk kmm ksem ksemU kextf kcallV kcallM kcall kL

/-! ### An entity comes into a table -/
/-- A table's columns behind some parts more. -/
def pushC (T : TabM) (L : List Part) : TabM := ⟨T.rows, fun c => T.col c ++ L.filter fun q => decide (q.comp = (c : Int))⟩
theorem pushC_nil (T : TabM) : pushC T [] = T := by simp [pushC]
theorem apEnt : appT Tryz.prog 42 2 16 = true := by kernel_rfl
theorem slEnt_is : ∃ e, Tryz.prog.underlying 42 = some (.slice e) := slT_of (by kernel_rfl)
theorem ones_ent : ∀ L : List (Int × Int), oneCells (L.flatMap entC) = true
  | [] => rfl
  | q :: L => by
    rw [List.flatMap_cons]
    show oneCells (.int .i64 q.1 :: .int .i64 q.2 :: L.flatMap entC) = true
    simp only [oneCells, ones_ent L]; rfl
theorem TabAt.col {o : Lab} {w : World} {b i : Nat} {comps : List Nat} {wd pc : Nat → Nat} {T : TabM} (h : TabAt o w b i comps wd pc T) {c : Nat} (hc : c ∈ comps) : ColAt o w (pc c) i c (wd c) (T.col c) := by
  obtain ⟨_, _, _, _, _, _, _, _, hC⟩ := h
  exact hC c hc
theorem TabAt.ext {o : Lab} {w : World} {b i : Nat} {comps : List Nat} {wd pc : Nat → Nat} {T T' : TabM} (h : TabAt o w b i comps wd pc T) (hr : T'.rows = T.rows) (hc : ∀ c ∈ comps, T'.col c = T.col c) : TabAt o w b i comps wd pc T' := by
  obtain ⟨h1, rv, bm, h2, h3, h4, h5, h6, hC⟩ := h
  exact ⟨h1, rv, bm, h2, hr ▸ h3, h4, h5, h6, fun c hcm => by rw [hc c hcm]; exact hC c hcm⟩
theorem StoreP.ptab {o : Lab} {w : World} {b : Nat} {p : Ptrs} {S : SM} (h : StoreP o w b p S) {n : Nat} (hn : n < S.tabs.length) : ∃ ta tc, p.tv = .slice ta S.tabs.length tc ∧ SlIs w ta (List.range S.tabs.length).length 1 ((List.range S.tabs.length).map fun i => ptrV (p.pt i)) := by
  obtain ⟨ta, tn, tc, et, hts, htn⟩ := h.tabs.is
  have htn : tn = S.tabs.length := by simpa using htn rfl
  subst htn
  exact ⟨ta, tc, et, by simpa using hts⟩
theorem tab_set {S : SM} {n : Nat} (hn : n < S.tabs.length) (X : TabM) (h : n < (S.tabs.set n X).length) : (S.tabs.set n X)[n]'h = X := by simp
/-- Columns of table n turned, by what a part pushed leaves. -/
theorem StoreP.pushed {o o' : Lab} {w w' : World} {b : Nat} {p : Ptrs} {S : SM} {n : Nat} (hn : n < S.tabs.length) {L : List Part} {q : Part} {c : Nat} (h : StoreP o w b p { S with tabs := S.tabs.set n (pushC S.tabs[n] L) }) (hq : q.comp = (c : Int)) (hc : c ∈ compsM S.masks n)
    (hl : LabEq w o o') (hm : Mod (FP o (colTag n c)) w w') (hC : ColAt o' w' (p.pc n c) n c (wdF S.cs c) ((pushC S.tabs[n] L).col c ++ [q])) : StoreP o' w' b p { S with tabs := S.tabs.set n (pushC S.tabs[n] (L ++ [q])) } := by
  have hn' : n < (S.tabs.set n (pushC S.tabs[n] L)).length := by simpa using hn
  have hT := h.tab n hn'
  have e : ({ S with tabs := S.tabs.set n (pushC S.tabs[n] L) } : SM).tabs[n] = pushC S.tabs[n] L := tab_set hn _ hn'
  rw [e] at hT
  have hT' := (hT.setCol hc hl (fun _ h => h) hm hC).ext (T' := pushC S.tabs[n] (L ++ [q])) rfl (fun d hd => by
    unfold pushC
    show S.tabs[n].col d ++ (L ++ [q]).filter _ = updC (pushC S.tabs[n] L).col c _ d
    rw [List.filter_append]
    by_cases hdc : d = c
    · subst hdc
      rw [updC_same]
      simp [pushC, hq]
    · rw [updC_ne _ hdc]
      have : ¬ (c : Int) = (d : Int) := by omega
      simp [pushC, hq, this])
  have := h.setTab hn' hl (hm.mono fun k _ hk => FP.mono (fun t ht => .inr (.inr (.inr ⟨c, ht⟩))) hk) hT'
  simpa using this
/-- The state behind 'enter'. -/
def enterS (S : SM) (n : Nat) (i : Nat) (g : Int) (L : List Part) (hn : n < S.tabs.length) : SM :=
  { S with tabs := S.tabs.set n ⟨S.tabs[n].rows ++ [((i : Int), g)], (pushC S.tabs[n] L).col⟩, spots := S.spots.set i (n, S.tabs[n].rows.length) }
theorem sEnter_spec {o : Lab} {w : World} {b : Nat} {p : Ptrs} {S : SM} (h : StoreP o w b p S) {n : Nat} (hn : n < S.tabs.length) {i : Nat} (hi : i < S.spots.length) (g : Int) {L : List Part} {a : Option Addr} {c : Nat} (hs : SlIs w a L.length 6 (L.flatMap Part.cells))
    (hLb : ∀ k f, a = some ⟨k, f, none⟩ → o k = none) (hn16 : L.length ≤ 64) (hf : ∀ q ∈ L, FitsP S.cs q) (hin : ∀ q ∈ L, ∃ c : Nat, q.comp = (c : Int) ∧ c ∈ compsM S.masks n) (hcol : ∀ c ∈ compsM S.masks n, (S.tabs[n].col c).length + L.length < 1000000) (hrows : S.tabs[n].rows.length < 1000000) :
    Meets Tryz.prog 77 #[ptrV b, entV i g, natV n, .slice a L.length c] w fun v w' => v = .nilIface ∧ Turned o w b (enterS S n i g L hn) w' := by
  refine f77_ok ?_
  unfold f77
  refine knew_of fun w2 hm2 hs2 hb2 => ?_
  have hb2 : blk w2 w.heap.size = some (.cells #[.int .i64 i, .int .i64 g] 37) := hb2
  have hP2 := h.cut hm2
  have hs2' := hs.same hm2
  have hLb2 : ∀ k f, a = some ⟨k, f, none⟩ → cutL o w.heap.size k = none := fun k f e => by
    unfold cutL; split
    · exact hLb k f e
    · rfl
  generalize ho0 : cutL o w.heap.size = o0 at *
  have ho0n : ∀ k, w.heap.size ≤ k → o0 k = none := fun k hk => by rw [← ho0]; exact cutL_none hk
  obtain ⟨ta, tc, et, hts⟩ := hP2.ptab hn
  have hb2b := hP2.here
  rw [et] at hb2b
  rw [ptrV]
  repeat (first | refine kN_at ?_ | refine kB_at ?_ | refine kfld_of ?_ | refine kext_at rfl ?_ | refine kld_at hb2b rfl ?_ | refine kldN_at hb2b rfl (by omega) ?_ | refine kG_of (by first | exact rfl | omega) ?_ | refine klen_at ?_ | refine eql_at ?_ | refine neq_at ?_ | refine lss_at ?_ | refine leq_at ?_ | refine gtr_at ?_ | refine geq_at ?_ | refine add_at (by omega) (by omega) ?_ | refine sub_at (by omega) (by omega) ?_ | refine not_at ?_ | refine kO_at ?_ | refine kprt_at rfl ?_ | refine kprtN_at rfl ?_ | refine kcap_at ?_ | refine klenStr_at ?_ | refine kN_iat ?_ | refine kN_fat ?_ | refine kIf_T (by first | exact rfl | exact decT (by omega) | exact notT (decF (by omega))) ?_ | refine kIf_F (by first | exact rfl | exact decF (by omega) | exact notF (decT (by omega))) ?_)
  rw [natV]
  have ele : (List.range S.tabs.length).length = S.tabs.length := List.length_range
  refine kixld_of (F := fun i => ptrV (p.pt i)) (c := tc) (l := List.range S.tabs.length) hts (show n < (List.range S.tabs.length).length by omega) rfl ?_ |> fun h => by rw [ele] at h; exact h
  rw [List.getElem_range]
  refine klen_at ?_
  refine kL1_of L.length (fun j x wr => x = .int .i64 j ∧ ∃ o', LabEq w2 o0 o' ∧ StoreP o' wr b p { S with tabs := S.tabs.set n (pushC S.tabs[n] (L.take j)) } ∧ Mod (FP o0 (tabTag n)) w2 wr) ⟨lI1_0 ⟨rfl, o0, LabEq.refl _ _, ?_, Mod.refl _ _⟩, fun x wr hx => ?_⟩
  · rw [List.take_zero, pushC_nil, List.set_getElem_self]; exact hP2
  obtain ⟨j, hj, ⟨rfl, o', hl', hP', hm'⟩, hJ⟩ := lI1_step hx
  have hsL : SlIs wr a L.length 6 (L.flatMap Part.cells) := hs2'.mod hm' fun k f e ⟨t, e1, _⟩ => by rw [hLb2 k f e] at e1; cases e1
  have hn' : n < (S.tabs.set n (pushC S.tabs[n] (L.take j))).length := by simpa using hn
  unfold f77_0
  refine lss_at ?_
  refine kB_at ?_
  refine kIf_dec (fun hlt => ?_) (fun hge => ?_)
  · have hlt : j < L.length := by omega
    obtain ⟨d, hd1, hd2⟩ := hin _ (List.getElem_mem hlt)
    obtain ⟨d', hf1, hf2, hf3⟩ := hf _ (List.getElem_mem hlt)
    obtain rfl : d' = d := by omega
    have hLj : L.take (j + 1) = L.take j ++ [L[j]] := by rw [List.take_add_one, List.getElem?_eq_getElem hlt]; rfl
    unfold f77_1
    refine kixldN_of (F := Part.cells) (sz := 6) (fun _ => rfl) (by omega) hsL hlt rfl ?_
    refine knew_of fun w13 h13 hs13 hb13 => ?_
    refine kst_of (vs := (L[j]).cells) hb13 rfl rfl rfl (by simp) (by simp [Part.cells]) fun w14 h14 hs14 hb14 => ?_
    have hb14 : blk w14 wr.heap.size = some (.cells (L[j]).cells.toArray 49) := hb14
    have m14 : Same wr w14 := h13.trans' (h14.mono fun k _ e => .inr (by omega))
    have m14 := m14.drew
    have hb14 : blk w14.drew wr.heap.size = _ := hb14
    have hsz14 : w14.drew.heap.size = wr.heap.size + 1 := by show w14.heap.size = _; omega
    generalize w14.drew = wa at *
    have hPa := hP'.frame m14 (fun _ _ _ h => h) (LabEq.cut wr o')
    have hT := hPa.tab n hn'
    rw [show ({ S with tabs := S.tabs.set n (pushC S.tabs[n] (L.take j)) } : SM).tabs[n] = pushC S.tabs[n] (L.take j) from tab_set hn _ hn'] at hT
    have hCol := hT.col hd2
    obtain ⟨q1, rv, bm, q2, q3, q4, q5, q6, q7⟩ := id hT
    rw [ptrV]
    repeat (first | refine kN_at ?_ | refine kB_at ?_ | refine kfld_of ?_ | refine kext_at rfl ?_ | refine kld_at q2 rfl ?_ | refine kldN_at q2 rfl (by omega) ?_ | refine kG_of (by first | exact rfl | omega) ?_ | refine klen_at ?_ | refine eql_at ?_ | refine neq_at ?_ | refine lss_at ?_ | refine leq_at ?_ | refine gtr_at ?_ | refine geq_at ?_ | refine add_at (by omega) (by omega) ?_ | refine sub_at (by omega) (by omega) ?_ | refine not_at ?_ | refine kO_at ?_ | refine kprt_at rfl ?_ | refine kprtN_at rfl ?_ | refine kcap_at ?_ | refine klenStr_at ?_ | refine kN_iat ?_ | refine kN_fat ?_ | refine kIf_T (by first | exact rfl | exact decT (by omega) | exact notT (decF (by omega))) ?_ | refine kIf_F (by first | exact rfl | exact decF (by omega) | exact notF (decT (by omega))) ?_)
    refine kld_of (v := .int .i64 d') hb14 (by simp [Part.cells, hd1]) ?_
    refine kG_of rfl ?_
    refine klook_of Tryz.underlying147 Tryz.underlying3 zCol q6 (r := some (_, _)) (by rw [lk_comps, if_pos hd2]) ?_
    refine kG_of rfl ?_
    repeat (first | refine kN_at ?_ | refine kB_at ?_ | refine kfld_of ?_ | refine kext_at rfl ?_ | refine kld_at hb14 rfl ?_ | refine kldN_at hb14 rfl (by omega) ?_ | refine kG_of (by first | exact rfl | omega) ?_ | refine klen_at ?_ | refine eql_at ?_ | refine neq_at ?_ | refine lss_at ?_ | refine leq_at ?_ | refine gtr_at ?_ | refine geq_at ?_ | refine add_at (by omega) (by omega) ?_ | refine sub_at (by omega) (by omega) ?_ | refine not_at ?_ | refine kO_at ?_ | refine kprt_at rfl ?_ | refine kprtN_at rfl ?_ | refine kcap_at ?_ | refine klenStr_at ?_ | refine kN_iat ?_ | refine kN_fat ?_ | refine kIf_T (by first | exact rfl | exact decT (by omega) | exact notT (decF (by omega))) ?_ | refine kIf_F (by first | exact rfl | exact decF (by omega) | exact notF (decT (by omega))) ?_)
    have hlenc : ((pushC S.tabs[n] (L.take j)).col d').length < 1000000 := by
      have h1 := hcol d' hd2
      have h2 := List.length_filter_le (fun q : Part => decide (q.comp = (d' : Int))) (L.take j)
      have h3 : (L.take j).length ≤ L.length := by rw [List.length_take]; omega
      show (S.tabs[n].col d' ++ (L.take j).filter _).length < 1000000
      rw [List.length_append]
      omega
    refine kcall_of (cPush_spec hCol (L[j]) ⟨hd1, hf3⟩ hlenc) ?_
    rintro v w23 ⟨rfl, o2, hl2, hC2, hm23⟩
    repeat (first | refine kN_at ?_ | refine kB_at ?_ | refine kfld_of ?_ | refine kext_at rfl ?_ | refine kG_of (by first | exact rfl | omega) ?_ | refine klen_at ?_ | refine eql_at ?_ | refine neq_at ?_ | refine lss_at ?_ | refine leq_at ?_ | refine gtr_at ?_ | refine geq_at ?_ | refine add_at (by omega) (by omega) ?_ | refine sub_at (by omega) (by omega) ?_ | refine not_at ?_ | refine kO_at ?_ | refine kprt_at rfl ?_ | refine kprtN_at rfl ?_ | refine kcap_at ?_ | refine klenStr_at ?_ | refine kN_iat ?_ | refine kN_fat ?_ | refine kIf_T (by first | exact rfl | exact decT (by omega) | exact notT (decF (by omega))) ?_ | refine kIf_F (by first | exact rfl | exact decF (by omega) | exact notF (decT (by omega))) ?_)
    rw [keq_nil_nil' ifErr]
    repeat (first | refine kN_at ?_ | refine kB_at ?_ | refine kfld_of ?_ | refine kext_at rfl ?_ | refine kG_of (by first | exact rfl | omega) ?_ | refine klen_at ?_ | refine eql_at ?_ | refine neq_at ?_ | refine lss_at ?_ | refine leq_at ?_ | refine gtr_at ?_ | refine geq_at ?_ | refine add_at (by omega) (by omega) ?_ | refine sub_at (by omega) (by omega) ?_ | refine not_at ?_ | refine kO_at ?_ | refine kprt_at rfl ?_ | refine kprtN_at rfl ?_ | refine kcap_at ?_ | refine klenStr_at ?_ | refine kN_iat ?_ | refine kN_fat ?_ | refine kIf_T (by first | exact rfl | exact decT (by omega) | exact notT (decF (by omega))) ?_ | refine kIf_F (by first | exact rfl | exact decF (by omega) | exact notF (decT (by omega))) ?_)
    rw [cast_succ]
    have hPn := hPa.pushed hn hd1 hd2 hl2 hm23 hC2
    rw [← hLj] at hPn
    refine hJ _ _ hlt ⟨rfl, o2, fun k hk => ?_, hPn, ?_⟩
    · have h1 := hm'.size
      rw [hl2 k (by omega)]
      unfold cutL
      rw [if_pos (by omega)]
      exact hl' k hk
    · refine hm'.trans' ((Mod.of_same m14).trans (hm23.mono fun k _ hk => ?_))
      obtain ⟨⟨t, e1, e2⟩, e3⟩ := hk.cut
      rcases Nat.lt_or_ge k w2.heap.size with hk2 | hk2
      · left
        exact ⟨t, by rw [← hl' k hk2]; exact e1, .inr (.inr (.inr ⟨d', e2⟩))⟩
      · exact .inr hk2
  · have : j = L.length := by omega
    subst this
    rw [List.take_length] at hP' hn'
    clear hJ hx
    unfold f77_3
    have m3 := (Mod.refl (fun _ => False) wr).drew
    have hPa := hP'.frame m3 (fun _ _ _ h => h) (LabEq.cut wr o')
    have hbe : blk wr.drew w.heap.size = some (.cells #[.int .i64 i, .int .i64 g] 37) := hm'.get hb2 fun ⟨t, e1, _⟩ => by rw [ho0n _ (Nat.le_refl _)] at e1; cases e1
    have hszr : w2.heap.size ≤ wr.drew.heap.size := hm'.size
    have hm3 : Mod (FP o0 (tabTag n)) w2 wr.drew := hm'.drew
    have hlab3 : LabEq w2 o0 (cutL o' wr.heap.size) := fun k hk => by
      have := hm'.size
      unfold cutL
      rw [if_pos (by omega)]
      exact hl' k hk
    have hcut3 : ∀ k, wr.drew.heap.size ≤ k → cutL o' wr.heap.size k = none := fun k hk => cutL_none hk
    generalize hoc : cutL o' wr.heap.size = oc at *
    generalize wr.drew = wa at *
    have hba := hPa.here
    have hT := hPa.tab n hn'
    rw [show ({ S with tabs := S.tabs.set n (pushC S.tabs[n] L) } : SM).tabs[n] = pushC S.tabs[n] L from tab_set hn _ hn'] at hT
    obtain ⟨q1, rv, bm, q2, q3, q4, q5, q6, q7⟩ := id hT
    obtain ⟨ra, rn, rc, rfl, hrs, _⟩ := q3.is
    have hrn : rn = S.tabs[n].rows.length := by
      have := hrs.1
      rw [flat_len entC 2 (fun _ => rfl)] at this
      show rn = (pushC S.tabs[n] L).rows.length
      omega
    subst hrn
    obtain ⟨bs, csc, arr, t, es, hbs, s1, s2, s3⟩ := hPa.spots.viewF (F := spotC) (sz := 2) (fun _ => rfl) (by omega) (show 0 < S.spots.length by omega)
    have hspl := hPa.spotsl bs (by rw [es]; exact ⟨_, _, _, rfl⟩)
    have hsp0 := hPa.spots
    rw [es] at hba hsp0
    rw [ptrV]
    have nbt : bs ≠ p.pt n := fun e => by rw [e, q1] at hspl; cases hspl
    have nbb : b ≠ p.pt n := fun e => by
      have := hPa.lab
      rw [e, q1] at this; cases this
    have lbs := lt_of_blk hbs
    have lpt := lt_of_blk q2
    have he0 : oc w.heap.size = none := by rw [hlab3 _ (by omega)]; exact ho0n _ (Nat.le_refl _)
    have neb : bs ≠ w.heap.size := fun e => by rw [e, he0] at hspl; cases hspl
    have net : p.pt n ≠ w.heap.size := fun e => by rw [e, he0] at q1; cases q1
    repeat (first | refine kN_at ?_ | refine kB_at ?_ | refine kfld_of ?_ | refine kext_at rfl ?_ | refine kld_at hba rfl ?_ | refine kld_at hbe rfl ?_ | refine kld_at q2 rfl ?_ | refine kldN_at hba rfl (by omega) ?_ | refine kldN_at hbe rfl (by omega) ?_ | refine kldN_at q2 rfl (by omega) ?_ | refine kG_of (by first | exact rfl | omega) ?_ | refine klen_at ?_ | refine eql_at ?_ | refine neq_at ?_ | refine lss_at ?_ | refine leq_at ?_ | refine gtr_at ?_ | refine geq_at ?_ | refine add_at (by omega) (by omega) ?_ | refine sub_at (by omega) (by omega) ?_ | refine not_at ?_ | refine kO_at ?_ | refine kprt_at rfl ?_ | refine kprtN_at rfl ?_ | refine kcap_at ?_ | refine klenStr_at ?_ | refine kN_iat ?_ | refine kN_fat ?_ | refine kIf_T (by first | exact rfl | exact decT (by omega) | exact notT (decF (by omega))) ?_ | refine kIf_F (by first | exact rfl | exact decF (by omega) | exact notF (decT (by omega))) ?_)
    refine kbld_of (cs := [.int .i64 n, .int .i64 S.tabs[n].rows.length]) rfl ?_
    rw [kix_slice]
    refine kG_of (by simp; omega) ?_
    rw [add_mk, Nat.zero_add, Int.toNat_natCast]
    have hsl := (segL_spec _ _ _ _ (s3 i hi)).1
    rw [Array.length_toList] at hsl
    refine kst_of (vs := spotC (n, S.tabs[n].rows.length)) hbs rfl rfl rfl hsl (by simp [spotC]) fun w40 h40 hs40 hb40 => ?_
    have hb40 : blk w40.drew bs = _ := hb40
    have h40 : Mod (fun k => k = bs) wa w40.drew := h40.drew
    have hbe40 := h40.get hbe neb.symm
    have q240 := h40.get q2 nbt.symm
    have hrv40 : Own w40.drew (.slice ra S.tabs[n].rows.length rc) 2 (S.tabs[n].rows.flatMap entC) := q3.mod h40 fun k hk e => by
      subst e
      rw [q4 _ hk] at hspl; cases hspl
    have hs40' : w40.drew.heap.size = wa.heap.size := hs40
    generalize w40.drew = wb at *
    repeat (first | refine kN_at ?_ | refine kB_at ?_ | refine kfld_of ?_ | refine kext_at rfl ?_ | refine kld_at q240 rfl ?_ | refine kld_at hbe40 rfl ?_ | refine kldN_at q240 rfl (by omega) ?_ | refine kldN_at hbe40 rfl (by omega) ?_ | refine kG_of (by first | exact rfl | omega) ?_ | refine klen_at ?_ | refine eql_at ?_ | refine neq_at ?_ | refine lss_at ?_ | refine leq_at ?_ | refine gtr_at ?_ | refine geq_at ?_ | refine add_at (by omega) (by omega) ?_ | refine sub_at (by omega) (by omega) ?_ | refine not_at ?_ | refine kO_at ?_ | refine kprt_at rfl ?_ | refine kprtN_at rfl ?_ | refine kcap_at ?_ | refine klenStr_at ?_ | refine kN_iat ?_ | refine kN_fat ?_ | refine kIf_T (by first | exact rfl | exact decT (by omega) | exact notT (decF (by omega))) ?_ | refine kIf_F (by first | exact rfl | exact decF (by omega) | exact notF (decT (by omega))) ?_)
    refine kbldS_of (cs := [.int .i64 i, .int .i64 g]) rfl fun w45 h45 hs45 hb45 => ?_
    have q245 := h45.get q240 (fun h => h)
    refine kG_of (kld_at q245 rfl ⟨rfl, rfl⟩) ?_
    refine ksem_append apEnt (by omega) (hrv40.same h45) (Src.ofSlIs (hk := slEnt_is.choose_spec) 1 (SlIs.blk hb45 rfl) rfl) (by rw [flat_len entC 2 (fun _ => rfl)]; simp; omega) (by rw [flat_len entC 2 (fun _ => rfl)]; simp; omega) ?_
    intro v' w47 ho47 hm47 hf47
    have q247 := hm47.get q245 (fun e => by have := q4 _ e; rw [q1] at this; cases this)
    obtain ⟨a', n', c', rfl, _⟩ := ho47.is
    repeat (first | refine kN_at ?_ | refine kB_at ?_ | refine kfld_of ?_ | refine kext_at rfl ?_ | refine kG_of (by first | exact rfl | omega) ?_ | refine klen_at ?_ | refine eql_at ?_ | refine neq_at ?_ | refine lss_at ?_ | refine leq_at ?_ | refine gtr_at ?_ | refine geq_at ?_ | refine add_at (by omega) (by omega) ?_ | refine sub_at (by omega) (by omega) ?_ | refine not_at ?_ | refine kO_at ?_ | refine kprt_at rfl ?_ | refine kprtN_at rfl ?_ | refine kcap_at ?_ | refine klenStr_at ?_ | refine kN_iat ?_ | refine kN_fat ?_ | refine kIf_T (by first | exact rfl | exact decT (by omega) | exact notT (decF (by omega))) ?_ | refine kIf_F (by first | exact rfl | exact decF (by omega) | exact notF (decT (by omega))) ?_)
    refine kst1_of q247 rfl rfl (by simp) fun w49 h49 hs49 hb49 => ?_
    simp only [List.setIfInBounds_toArray, List.set_cons_succ, List.set_cons_zero] at hb49
    have hall : Mod (fun k => k = bs ∨ k = p.pt n ∨ vblk (.slice ra S.tabs[n].rows.length rc) k) wa w49 := (h40.mono fun k _ e => .inl e).trans ((Mod.of_same h45).trans ((hm47.mono fun k _ e => .inr (.inr e)).trans (h49.mono fun k _ e => .inr (.inl e))))
    have hFP : Mod (FP oc fun t => tabTag n t ∨ t = .spots) wa w49 := hall.mono fun k _ e => by
      rcases e with rfl | rfl | e
      · exact ⟨_, hspl, .inr rfl⟩
      · exact ⟨_, q1, .inl (.inl rfl)⟩
      · exact ⟨_, q4 k e, .inl (.inr (.inl rfl))⟩
    have hlx : LabEq wa oc (ext oc wa.heap.size (.trows n)) := LabEq.ext _ _ _
    have hTn : TabAt (ext oc wa.heap.size (.trows n)) w49 (p.pt n) n (compsM S.masks n) (wdF S.cs) (p.pc n) ⟨S.tabs[n].rows ++ [((i : Int), g)], (pushC S.tabs[n] L).col⟩ := by
      refine ⟨by unfold ext; rw [if_pos lpt]; exact q1, _, bm, hb49, ?_, ?_, by unfold ext; rw [if_pos (lt_of_blk q6)]; exact q5, q6.mod hall ?_, fun d hd => (q7 d hd).frame hall (fun k t e et ek => ?_) hlx⟩
      · show Own w49 _ 2 ((S.tabs[n].rows ++ [((i : Int), g)]).flatMap entC)
        rw [List.flatMap_append]
        exact ho47.mod h49 fun k hk e => by
          subst e
          rcases hf47 _ hk with h | h
          · have := q4 _ h; rw [q1] at this; cases this
          · omega
      · intro k hk
        unfold ext
        rcases hf47 k hk with h | h
        · have := q3.vblk_lt h
          rw [if_pos this]; exact q4 k h
        · rw [if_neg (by have := h45.size; omega)]
      · rintro (e | e | e)
        · rw [e, hspl] at q5; cases q5
        · rw [e, q1] at q5; cases q5
        · have := q4 _ e; rw [q5] at this; cases this
      · rcases ek with rfl | rfl | ek
        · rw [hspl] at e; cases e; rcases et with h | h | h <;> cases h
        · rw [q1] at e; cases e; rcases et with h | h | h <;> cases h
        · rw [q4 k ek] at e; cases e; rcases et with h | h | h <;> cases h
    have hspn : Own w49 p.sv 2 ((S.spots.set i (n, S.tabs[n].rows.length)).flatMap spotC) := by
      rw [es]
      refine Own.setF (F := spotC) (fun _ => rfl) hsp0 hbs (x := (n, S.tabs[n].rows.length)) (i := i) ?_ hi
      exact h49.get (hm47.get (h45.get hb40 (fun h => h)) (fun e => by have := q4 _ e; rw [hspl] at this; cases this)) nbt
    have hPn := hPa.setTS hn' hlx hFP hspn (by simp) hTn
    have hSn : ({ ({ S with tabs := S.tabs.set n (pushC S.tabs[n] L) } : SM) with tabs := (S.tabs.set n (pushC S.tabs[n] L)).set n ⟨S.tabs[n].rows ++ [((i : Int), g)], (pushC S.tabs[n] L).col⟩, spots := S.spots.set i (n, S.tabs[n].rows.length) } : SM) = enterS S n i g L hn := by
      unfold enterS
      simp
    rw [hSn] at hPn
    refine ⟨rfl, ?_⟩
    subst ho0
    refine Turned.of (T := fun t => True) hm2 (fun k hk => ?_) hPn (hm3.mono (fun k _ hk => FP.mono (fun _ _ => trivial) hk) |>.trans' (hFP.mono fun k hk e => ?_)) (Mod.refl _ _)
    · unfold ext
      rw [if_pos (by omega)]
      exact hlab3 k hk
    · rcases Nat.lt_or_ge k w2.heap.size with hk2 | hk2
      · left
        obtain ⟨t, e1, _⟩ := e
        exact ⟨t, by rw [← hlab3 k hk2]; exact e1, trivial⟩
      · exact .inr hk2
end Go.Proofs.YtlkpadfkmdgjcaaGreatDoor
end
section
set_option linter.unusedSimpArgs false
set_option linter.unusedVariables false
namespace Go.Proofs.YtlkpadfkmdgjcaaGreatDoor
open Go Go.Ev
set_option linter.unusedVariables false
set_option linter.unusedSimpArgs false
set_option maxRecDepth 100000
attribute [local irreducible] kO kB kStr kInt kN kG kIf kfld kld kldN kst knew kmap kbld kbldS kext kcnv klenStr klen kcap kprt kprtN kbool kint kstr keq kun ksl kix kiv kta kmk kmm ksem ksemU kextf kcallV kcallM kcall kL

/-! ### The roll turned, the atlas turned -/
theorem tag_roll_atlas {t : Tag} (h1 : rollTag t) (h2 : atlasTag t) : False := by
  rcases h1 with rfl | rfl | rfl <;> rcases h2 with h | h | h | ⟨i, h⟩ <;> cases h
theorem tag_roll_tab {t : Tag} {i : Nat} (h1 : rollTag t) (h2 : tabTag i t) : False := by
  rcases h1 with rfl | rfl | rfl <;> rcases h2 with h | h | h | ⟨c, h | h | h⟩ <;> cases h
theorem tag_atlas_tab {t : Tag} {i : Nat} (h1 : atlasTag t) (h2 : tabTag i t) : False := by
  rcases h1 with rfl | rfl | rfl | ⟨j, rfl⟩ <;> rcases h2 with h | h | h | ⟨c, h | h | h⟩ <;> cases h
theorem not_FP {o : Lab} {T : Tag → Prop} {k : Nat} {t : Tag} (e : o k = some t) (h : ¬ T t) : ¬ FP o T k := fun ⟨t', e1, e2⟩ => by
  rw [e] at e1; cases e1; exact h e2
theorem StoreP.setRoll {o o' : Lab} {w w' : World} {b : Nat} {p : Ptrs} {S : SM} (h : StoreP o w b p S) {gens : List (Int × Bool)} {free : List Nat} (hl : LabEq w o o') (hm : Mod (FP o rollTag) w w') (hR : RollAt o' w' p.bR gens free) :
    StoreP o' w' b p { S with gens := gens, free := free } where
  lab := by rw [hl b (lt_of_blk h.here)]; exact h.lab
  good := h.good
  tle := h.tle
  mle := h.mle
  sle := h.sle
  here := hm.get h.here (not_FP h.lab (by rintro (h | h | h) <;> cases h))
  roll := hR
  atlas := h.atlas.frame hm (fun k t e et => not_FP e fun h => tag_roll_atlas h et) hl
  sch := h.sch.mod hm fun k f e => not_FP (h.schl k f e).1 (by rintro (h | h | h) <;> cases h)
  schl k f e := ⟨by rw [hl k (h.schl k f e).2]; exact (h.schl k f e).1, Nat.lt_of_lt_of_le (h.schl k f e).2 hm.size⟩
  tabs := h.tabs.mod hm fun k e => not_FP (h.tabsl k e) (by rintro (h | h | h) <;> cases h)
  tabsl k e := by rw [hl k (h.tabs.vblk_lt e)]; exact h.tabsl k e
  spots := h.spots.mod hm fun k e => not_FP (h.spotsl k e) (by rintro (h | h | h) <;> cases h)
  spotsl k e := by rw [hl k (h.spots.vblk_lt e)]; exact h.spotsl k e
  tab i hi := (h.tab i hi).frame hm (fun k t e et => not_FP e fun h => tag_roll_tab h et) hl
theorem compsM_addM {ms : List Nat} {m i : Nat} (hi : i < ms.length) : compsM (addM ms m) i = compsM ms i := by
  have e : (addM ms m)[i]? = ms[i]? := by
    unfold addM
    split
    · rfl
    · rw [List.getElem?_append_left hi]
  unfold compsM
  rw [e]
theorem StoreP.setAtlas {o o' : Lab} {w w' : World} {b : Nat} {p : Ptrs} {S : SM} (h : StoreP o w b p S) {m : Nat} (hlen : S.masks.length < 90000) (hl : LabEq w o o') (hm : Mod (FP o atlasTag) w w') (hA : AtlasAt o' w' p.bA S.cs.length (addM S.masks m)) :
    StoreP o' w' b p { S with masks := addM S.masks m } where
  lab := by rw [hl b (lt_of_blk h.here)]; exact h.lab
  good := h.good
  tle := by
    have := h.tle
    show S.tabs.length ≤ (addM S.masks m).length
    unfold addM; split
    · exact this
    · simp; omega
  mle := by
    show (addM S.masks m).length ≤ 90000
    unfold addM; split
    · omega
    · simp; omega
  sle := h.sle
  here := hm.get h.here (not_FP h.lab (by rintro (h | h | h | ⟨i, h⟩) <;> cases h))
  roll := h.roll.frame hm (fun k t e et => not_FP e fun h => tag_roll_atlas et h) hl
  atlas := hA
  sch := h.sch.mod hm fun k f e => not_FP (h.schl k f e).1 (by rintro (h | h | h | ⟨i, h⟩) <;> cases h)
  schl k f e := ⟨by rw [hl k (h.schl k f e).2]; exact (h.schl k f e).1, Nat.lt_of_lt_of_le (h.schl k f e).2 hm.size⟩
  tabs := h.tabs.mod hm fun k e => not_FP (h.tabsl k e) (by rintro (h | h | h | ⟨i, h⟩) <;> cases h)
  tabsl k e := by rw [hl k (h.tabs.vblk_lt e)]; exact h.tabsl k e
  spots := h.spots.mod hm fun k e => not_FP (h.spotsl k e) (by rintro (h | h | h | ⟨i, h⟩) <;> cases h)
  spotsl k e := by rw [hl k (h.spots.vblk_lt e)]; exact h.spotsl k e
  tab i hi := by
    have hi' : i < S.masks.length := Nat.lt_of_lt_of_le hi h.tle
    have := (h.tab i hi).frame hm (fun k t e et => not_FP e fun h => tag_atlas_tab h et) hl
    show TabAt o' w' (p.pt i) i (compsM (addM S.masks m) i) _ _ _
    rw [compsM_addM hi']
    exact this
theorem idx_addM_lt (ms : List Nat) (m : Nat) : (addM ms m).idxOf m < (addM ms m).length := List.idxOf_lt_length_of_mem (addM_mem ms m)
theorem idx_addM (ms : List Nat) (m : Nat) : (addM ms m)[(addM ms m).idxOf m]? = some m := by
  rw [List.getElem?_eq_getElem (idx_addM_lt ms m), List.getElem_idxOf (idx_addM_lt ms m)]
/-- The tables behind a set more. -/
def laidS (S : SM) (m : Nat) : SM := layS { S with masks := addM S.masks m } ((addM S.masks m).length - S.tabs.length)
theorem laidS_len {S : SM} (h : S.tabs.length ≤ S.masks.length) (m : Nat) : (laidS S m).tabs.length = (addM S.masks m).length := by
  have : S.masks.length ≤ (addM S.masks m).length := by unfold addM; split <;> simp
  simp [laidS, layS]; omega
def rollS (S : SM) (gens : List (Int × Bool)) (free : List Nat) : SM := { S with gens := gens, free := free }
/-- The state behind a Spawn. -/
def spawnS (S : SM) (m i : Nat) (g : Int) (L : List Part) (h : S.tabs.length ≤ S.masks.length) (gens : List (Int × Bool)) (free : List Nat) : SM :=
  enterS (laidS (rollS S gens free) m) ((addM S.masks m).idxOf m) i g L (by
    have := laidS_len (S := rollS S gens free) h m
    rw [this]; exact idx_addM_lt _ _)
/-- No table is long. -/
def Bnd (S : SM) : Prop := ∀ n T, S.tabs[n]? = some T → T.rows.length ≤ 999000 ∧ ∀ c ∈ compsM S.masks n, (T.col c).length ≤ 999000
theorem Bnd.laid {S : SM} (h : Bnd S) (ht : S.tabs.length ≤ S.masks.length) (m : Nat) : Bnd (laidS S m) := by
  intro n T hT
  have hT : (S.tabs ++ List.replicate ((addM S.masks m).length - S.tabs.length) TabM.empty)[n]? = some T := hT
  rcases Nat.lt_or_ge n S.tabs.length with hn | hn
  · rw [List.getElem?_append_left hn] at hT
    obtain ⟨h1, h2⟩ := h n T hT
    refine ⟨h1, fun c hc => h2 c ?_⟩
    rw [← compsM_addM (m := m) (by omega)]; exact hc
  · rw [List.getElem?_append_right hn] at hT
    obtain ⟨h1, h2⟩ := List.getElem?_eq_some_iff.1 hT
    rw [List.getElem_replicate] at h2
    subst h2
    exact ⟨by decide, fun c _ => by show ([] : List Part).length ≤ _; decide⟩
theorem sSpawn_spec {o : Lab} {w : World} (hD : DeAt w) {b : Nat} {p : Ptrs} {S : SM} (h : StoreP o w b p S) (hDo : o 18 = none) {K : Nat} (hK : K + 1 = S.free.length) {i : Nat} (hi : S.free[K]'(by omega) = i) (hlt : i < S.gens.length) (hg : 0 ≤ (S.gens[i]).1 ∧ (S.gens[i]).1 ≤ 1000000) (hisp : i < S.spots.length) (hml : S.masks.length < 80000) (hB : Bnd S)
    {L : List Part} {a : Option Addr} {c : Nat} (hs : SlIs w a L.length 6 (L.flatMap Part.cells)) (hLb : ∀ k f, a = some ⟨k, f, none⟩ → o k = none) (hn16 : L.length ≤ 64) (hf : ∀ q ∈ L, FitsP S.cs q) (hnt : NoTwice L) :
    Meets Tryz.prog 14 #[ptrV b, .slice a L.length c] w fun v w' => v = .tuple #[entV i ((S.gens[i]).1 + 1), .nilIface] ∧ ∃ L' : List Part, L'.Perm L ∧ L'.Pairwise (fun x y => x.comp ≤ y.comp) ∧
      Turned o w b (spawnS S (maskP L) i ((S.gens[i]).1 + 1) L' h.tle (S.gens.set i ((S.gens[i]).1 + 1, true)) (S.free.take K)) w' := by
  have hg16 := h.good.1
  have hmlt := maskP_lt S.cs hg16 L hf
  have hp16 : 2 ^ S.cs.length ≤ 2 ^ 16 := Nat.pow_le_pow_right (by omega) hg16
  refine f14_ok ?_
  unfold f14
  refine knew_of fun w2 hm2 hs2 hb2 => ?_
  have hP2 := h.cut hm2
  have hcutn : ∀ k, w.heap.size ≤ k → cutL o w.heap.size k = none := fun k hk => cutL_none hk
  have hDo0 : cutL o w.heap.size 18 = none := by
    unfold cutL; split
    · exact hDo
    · rfl
  rw [ptrV]
  rw [keq_ptr_nil ptSto]
  refine kB_at ?_
  refine kIf_F rfl ?_
  unfold f14_0
  refine kcall_of (sGathered_spec hP2 (hs.same hm2) (by omega) hf hnt) ?_
  rintro v w12 ⟨sv, L', rfl, hL1, hL2, hL3, h12, hf12⟩
  have m12 := hm2.trans h12
  have hP12 := hP2.same h12
  have hb12 := h12.get hb2 (fun h => h)
  repeat (first | refine kN_at ?_ | refine kB_at ?_ | refine kfld_of ?_ | refine kext_at rfl ?_ | refine kG_of (by first | exact rfl | omega) ?_ | refine klen_at ?_ | refine eql_at ?_ | refine neq_at ?_ | refine lss_at ?_ | refine leq_at ?_ | refine gtr_at ?_ | refine geq_at ?_ | refine add_at (by omega) (by omega) ?_ | refine sub_at (by omega) (by omega) ?_ | refine not_at ?_ | refine kO_at ?_ | refine kprt_at rfl ?_ | refine kprtN_at rfl ?_ | refine kcap_at ?_ | refine klenStr_at ?_ | refine kN_iat ?_ | refine kN_fat ?_ | refine kIf_T (by first | exact rfl | exact decT (by omega) | exact notT (decF (by omega))) ?_ | refine kIf_F (by first | exact rfl | exact decF (by omega) | exact notF (decT (by omega))) ?_)
  rw [keq_nil_nil' ifErr]
  refine kB_at ?_
  refine kIf_F rfl ?_
  unfold f14_1
  have hh12 := hP12.here
  rw [ptrV] at hh12
  repeat (first | refine kN_at ?_ | refine kB_at ?_ | refine kfld_of ?_ | refine kext_at rfl ?_ | refine kld_at hh12 rfl ?_ | refine kldN_at hh12 rfl (by omega) ?_ | refine kG_of (by first | exact rfl | omega) ?_ | refine klen_at ?_ | refine eql_at ?_ | refine neq_at ?_ | refine lss_at ?_ | refine leq_at ?_ | refine gtr_at ?_ | refine geq_at ?_ | refine add_at (by omega) (by omega) ?_ | refine sub_at (by omega) (by omega) ?_ | refine not_at ?_ | refine kO_at ?_ | refine kprt_at rfl ?_ | refine kprtN_at rfl ?_ | refine kcap_at ?_ | refine klenStr_at ?_ | refine kN_iat ?_ | refine kN_fat ?_ | refine kIf_T (by first | exact rfl | exact decT (by omega) | exact notT (decF (by omega))) ?_ | refine kIf_F (by first | exact rfl | exact decF (by omega) | exact notF (decT (by omega))) ?_)
  refine kcall_of (rTake_spec hP12.roll hK hi hlt hg) ?_
  rintro v w24 ⟨rfl, hR24, hm24⟩
  have hP24 := hP12.setRoll (LabEq.refl _ _) hm24 hR24
  have hb24 := hm24.get hb12 (fun e => by have := e.cut.2; omega)
  have hsz12 : w.heap.size + 1 ≤ w12.heap.size := by have := h12.size; omega
  repeat (first | refine kN_at ?_ | refine kB_at ?_ | refine kfld_of ?_ | refine kext_at rfl ?_ | refine kG_of (by first | exact rfl | omega) ?_ | refine klen_at ?_ | refine eql_at ?_ | refine neq_at ?_ | refine lss_at ?_ | refine leq_at ?_ | refine gtr_at ?_ | refine geq_at ?_ | refine add_at (by omega) (by omega) ?_ | refine sub_at (by omega) (by omega) ?_ | refine not_at ?_ | refine kO_at ?_ | refine kprt_at rfl ?_ | refine kprtN_at rfl ?_ | refine kcap_at ?_ | refine klenStr_at ?_ | refine kN_iat ?_ | refine kN_fat ?_ | refine kIf_T (by first | exact rfl | exact decT (by omega) | exact notT (decF (by omega))) ?_ | refine kIf_F (by first | exact rfl | exact decF (by omega) | exact notF (decT (by omega))) ?_)
  refine knew_of fun w28 h28 hs28 hb28 => ?_
  refine kst_of (vs := [.int .i64 i, .int .i64 ((S.gens[i]).1 + 1)]) hb28 rfl rfl rfl (by simp) (by simp) fun w29 h29 hs29 hb29 => ?_
  have hb29 : blk w29 w24.heap.size = some (.cells #[.int .i64 i, .int .i64 ((S.gens[i]).1 + 1)] 37) := hb29
  have m29 : Same w24 w29 := h28.trans' (h29.mono fun k _ e => .inr (by omega))
  rw [keq_nil_nil' ifErr]
  refine kB_at ?_
  refine kIf_F rfl ?_
  unfold f14_2
  have hP29 := hP24.same m29
  have hh29 := hP29.here
  rw [ptrV] at hh29
  have hc29 : cutL o w.heap.size w24.heap.size = none := hcutn _ (by have := hm24.size; omega)
  repeat (first | refine kN_at ?_ | refine kB_at ?_ | refine kfld_of ?_ | refine kext_at rfl ?_ | refine kld_at hh29 rfl ?_ | refine kldN_at hh29 rfl (by omega) ?_ | refine kG_of (by first | exact rfl | omega) ?_ | refine klen_at ?_ | refine eql_at ?_ | refine neq_at ?_ | refine lss_at ?_ | refine leq_at ?_ | refine gtr_at ?_ | refine geq_at ?_ | refine add_at (by omega) (by omega) ?_ | refine sub_at (by omega) (by omega) ?_ | refine not_at ?_ | refine kO_at ?_ | refine kprt_at rfl ?_ | refine kprtN_at rfl ?_ | refine kcap_at ?_ | refine klenStr_at ?_ | refine kN_iat ?_ | refine kN_fat ?_ | refine kIf_T (by first | exact rfl | exact decT (by omega) | exact notT (decF (by omega))) ?_ | refine kIf_F (by first | exact rfl | exact decF (by omega) | exact notF (decT (by omega))) ?_)
  refine kcall_of (at_spec hP29.atlas (maskP L) hmlt (by show S.masks.length < 100000; omega)) ?_
  rintro v w40 ⟨rfl, o3, hl3, hA3, hm40⟩
  have hP40 := hP29.setAtlas (m := maskP L) (by show S.masks.length < 90000; omega) hl3 hm40 hA3
  have hb40 := hm40.get (m29.get hb24 (fun h => h)) (fun e => by have := e.cut.2; omega)
  have he40 := hm40.get hb29 (fun e => by obtain ⟨t, e1, _⟩ := e; rw [hc29] at e1; cases e1)
  repeat (first | refine kN_at ?_ | refine kB_at ?_ | refine kfld_of ?_ | refine kext_at rfl ?_ | refine kG_of (by first | exact rfl | omega) ?_ | refine klen_at ?_ | refine eql_at ?_ | refine neq_at ?_ | refine lss_at ?_ | refine leq_at ?_ | refine gtr_at ?_ | refine geq_at ?_ | refine add_at (by omega) (by omega) ?_ | refine sub_at (by omega) (by omega) ?_ | refine not_at ?_ | refine kO_at ?_ | refine kprt_at rfl ?_ | refine kprtN_at rfl ?_ | refine kcap_at ?_ | refine klenStr_at ?_ | refine kN_iat ?_ | refine kN_fat ?_ | refine kIf_T (by first | exact rfl | exact decT (by omega) | exact notT (decF (by omega))) ?_ | refine kIf_F (by first | exact rfl | exact decF (by omega) | exact notF (decT (by omega))) ?_)
  rw [keq_nil_nil' ifErr]
  refine kB_at ?_
  refine kIf_F rfl ?_
  unfold f14_3
  have hsz24 := hm24.size
  have hsz29 := m29.size
  have hsz40 := hm40.size
  have hP40c := hP40.frame (Mod.refl (fun _ => False) _) (fun _ _ _ h => h) (LabEq.cut w40 o3)
  have hD40 : DeAt w40 := by
    have d12 := hD.same m12
    have d24 := d12.mod hm24 fun ⟨t, e1, _⟩ => by rw [hDo0] at e1; cases e1
    exact (d24.same m29).mod hm40 fun ⟨t, e1, _⟩ => by rw [hDo0] at e1; cases e1
  have hDlt := hD.lt
  have hDo3 : cutL o3 w40.heap.size 18 = none := by
    unfold cutL
    rw [if_pos (by have := hm2.size; omega), hl3 _ (by have := hm2.size; omega)]
    exact hDo0
  refine kcall_of (sLay_spec hD40 hP40c hDo3) ?_
  rintro v w51 ⟨rfl, o4, p4, hl4, hP51, hm51, hc51⟩
  repeat (first | refine kN_at ?_ | refine kB_at ?_ | refine kfld_of ?_ | refine kext_at rfl ?_ | refine kG_of (by first | exact rfl | omega) ?_ | refine klen_at ?_ | refine eql_at ?_ | refine neq_at ?_ | refine lss_at ?_ | refine leq_at ?_ | refine gtr_at ?_ | refine geq_at ?_ | refine add_at (by omega) (by omega) ?_ | refine sub_at (by omega) (by omega) ?_ | refine not_at ?_ | refine kO_at ?_ | refine kprt_at rfl ?_ | refine kprtN_at rfl ?_ | refine kcap_at ?_ | refine klenStr_at ?_ | refine kN_iat ?_ | refine kN_fat ?_ | refine kIf_T (by first | exact rfl | exact decT (by omega) | exact notT (decF (by omega))) ?_ | refine kIf_F (by first | exact rfl | exact decF (by omega) | exact notF (decT (by omega))) ?_)
  rw [keq_nil_nil' ifErr]
  repeat (first | refine kN_at ?_ | refine kB_at ?_ | refine kfld_of ?_ | refine kext_at rfl ?_ | refine kG_of (by first | exact rfl | omega) ?_ | refine klen_at ?_ | refine eql_at ?_ | refine neq_at ?_ | refine lss_at ?_ | refine leq_at ?_ | refine gtr_at ?_ | refine geq_at ?_ | refine add_at (by omega) (by omega) ?_ | refine sub_at (by omega) (by omega) ?_ | refine not_at ?_ | refine kO_at ?_ | refine kprt_at rfl ?_ | refine kprtN_at rfl ?_ | refine kcap_at ?_ | refine klenStr_at ?_ | refine kN_iat ?_ | refine kN_fat ?_ | refine kIf_T (by first | exact rfl | exact decT (by omega) | exact notT (decF (by omega))) ?_ | refine kIf_F (by first | exact rfl | exact decF (by omega) | exact notF (decT (by omega))) ?_)
  generalize hn : (addM S.masks (maskP L)).idxOf (maskP L) = n at *
  have hnl : n < (laidS (rollS S (S.gens.set i ((S.gens[i]).1 + 1, true)) (S.free.take K)) (maskP L)).tabs.length := by
    have e := laidS_len (S := rollS S (S.gens.set i ((S.gens[i]).1 + 1, true)) (S.free.take K)) h.tle (maskP L)
    rw [e, ← hn]; exact idx_addM_lt _ _
  have hP51 : StoreP o4 w51 b p4 (laidS (rollS S (S.gens.set i ((S.gens[i]).1 + 1, true)) (S.free.take K)) (maskP L)) := hP51
  have hsz51 := hm51.size
  have hsz2 := hm2.size
  have hunl : ∀ k, w.heap.size ≤ k → k < w29.heap.size → cutL o w.heap.size k = none ∧ cutL o3 w40.heap.size k = none ∧ o4 k = none := fun k h1 h2 => by
    have e1 := hcutn k h1
    have e2 : cutL o3 w40.heap.size k = none := by
      unfold cutL
      rw [if_pos (by omega), hl3 k h2]
      exact e1
    exact ⟨e1, e2, by rw [hl4 k (by omega)]; exact e2⟩
  have he51 := hm51.get he40 (fun ⟨t, e1, _⟩ => by rw [(hunl _ (by omega) (by omega)).2.1] at e1; cases e1)
  have hr51 := hm51.get hb40 (fun ⟨t, e1, _⟩ => by rw [(hunl _ (by omega) (by omega)).2.1] at e1; cases e1)
  have hsv51 : Own w51 sv 6 (L'.flatMap Part.cells) := by
    have hvl : ∀ k, vblk sv k → k < w12.heap.size := fun k hk => hL3.vblk_lt hk
    have g1 := hL3.mod hm24 fun k hk ⟨t, e1, _⟩ => by rw [hcutn k (by have := hf12 k hk; omega)] at e1; cases e1
    have g2 := (g1.same m29).mod hm40 fun k hk ⟨t, e1, _⟩ => by rw [hcutn k (by have := hf12 k hk; omega)] at e1; cases e1
    exact g2.mod hm51 fun k hk ⟨t, e1, _⟩ => by rw [(hunl k (by have := hf12 k hk; omega) (by have := hvl k hk; omega)).2.1] at e1; cases e1
  have hvl : ∀ k, vblk sv k → k < w12.heap.size := fun k hk => hL3.vblk_lt hk
  obtain ⟨sa, sn, sc, rfl, hsl, _⟩ := hsv51.is
  have hsn : sn = L'.length := by
    have := hsl.1
    rw [flat_len Part.cells 6 (fun _ => rfl)] at this
    omega
  subst hsn
  have hLl : L'.length = L.length := hL1.length_eq
  unfold f14_4
  repeat (first | refine kN_at ?_ | refine kB_at ?_ | refine kfld_of ?_ | refine kext_at rfl ?_ | refine kld_at he51 rfl ?_ | refine kldN_at he51 rfl (by omega) ?_ | refine kG_of (by first | exact rfl | omega) ?_ | refine klen_at ?_ | refine eql_at ?_ | refine neq_at ?_ | refine lss_at ?_ | refine leq_at ?_ | refine gtr_at ?_ | refine geq_at ?_ | refine add_at (by omega) (by omega) ?_ | refine sub_at (by omega) (by omega) ?_ | refine not_at ?_ | refine kO_at ?_ | refine kprt_at rfl ?_ | refine kprtN_at rfl ?_ | refine kcap_at ?_ | refine klenStr_at ?_ | refine kN_iat ?_ | refine kN_fat ?_ | refine kIf_T (by first | exact rfl | exact decT (by omega) | exact notT (decF (by omega))) ?_ | refine kIf_F (by first | exact rfl | exact decF (by omega) | exact notF (decT (by omega))) ?_)
  refine kcall_of (sEnter_spec (hP51.same (Mod.refl (fun _ => False) _).drew) hnl (show i < S.spots.length from hisp) ((S.gens[i]).1 + 1) (hsl.same (Mod.refl (fun _ => False) _).drew) (fun k f e => (hunl k (by have := hf12 k ⟨f, L'.length, sc, by rw [e]⟩; omega) (by have := hvl k ⟨f, L'.length, sc, by rw [e]⟩; omega)).2.2) (by omega) (fun q hq => hf q (hL1.mem_iff.1 hq)) ?_ ?_ ?_) ?_
  · intro q hq
    have hq := hL1.mem_iff.1 hq
    obtain ⟨d, e1, e2, _⟩ := hf q hq
    refine ⟨d, e1, ?_⟩
    show d ∈ compsM (addM S.masks (maskP L)) n
    unfold compsM
    rw [← hn, idx_addM]
    exact listF_mem.2 ⟨by omega, (maskP_bit S.cs hg16 L hf d).2 ⟨q, hq, e1⟩⟩
  · intro d hd
    have := ((Bnd.laid (S := rollS S (S.gens.set i ((S.gens[i]).1 + 1, true)) (S.free.take K)) hB h.tle (maskP L)) n _ (List.getElem?_eq_getElem hnl)).2 d hd
    omega
  · have := ((Bnd.laid (S := rollS S (S.gens.set i ((S.gens[i]).1 + 1, true)) (S.free.take K)) hB h.tle (maskP L)) n _ (List.getElem?_eq_getElem hnl)).1
    omega
  rintro v w60 ⟨rfl, h60⟩
  obtain ⟨o5, p5, hl5, hP5, hm5, hc5⟩ := id h60
  have ms : Same w51 w51.drew := (Mod.refl (fun _ => False) _).drew
  have he60 := hm5.get (ms.get he51 (fun h => h)) (fun ⟨t, e1, _⟩ => by rw [(hunl _ (by omega) (by omega)).2.2] at e1; cases e1)
  have hr60 := hm5.get (ms.get hr51 (fun h => h)) (fun ⟨t, e1, _⟩ => by rw [(hunl _ (by omega) (by omega)).2.2] at e1; cases e1)
  refine kG_of (kldN_at he60 rfl (by omega) ⟨rfl, rfl⟩) ?_
  refine kst_of (vs := [.int .i64 i, .int .i64 ((S.gens[i]).1 + 1)]) hr60 rfl rfl rfl (by simp) (by simp) fun w61 h61 hs61 hb61 => ?_
  have hb61 : blk w61 w.heap.size = some (.cells #[.int .i64 i, .int .i64 ((S.gens[i]).1 + 1)] 37) := hb61
  repeat (first | refine kN_at ?_ | refine kB_at ?_ | refine kfld_of ?_ | refine kext_at rfl ?_ | refine kld_at hb61 rfl ?_ | refine kldN_at hb61 rfl (by omega) ?_ | refine kG_of (by first | exact rfl | omega) ?_ | refine klen_at ?_ | refine eql_at ?_ | refine neq_at ?_ | refine lss_at ?_ | refine leq_at ?_ | refine gtr_at ?_ | refine geq_at ?_ | refine add_at (by omega) (by omega) ?_ | refine sub_at (by omega) (by omega) ?_ | refine not_at ?_ | refine kO_at ?_ | refine kprt_at rfl ?_ | refine kprtN_at rfl ?_ | refine kcap_at ?_ | refine klenStr_at ?_ | refine kN_iat ?_ | refine kN_fat ?_ | refine kIf_T (by first | exact rfl | exact decT (by omega) | exact notT (decF (by omega))) ?_ | refine kIf_F (by first | exact rfl | exact decF (by omega) | exact notF (decT (by omega))) ?_)
  refine ⟨rfl, L', hL1, hL2, ?_⟩
  refine Turned.wrap hm2 ?_ (h61.mono fun k _ e => by subst e; omega)
  refine Turned.seq (o1 := cutL o w.heap.size) (w1 := w24) (LabEq.refl _ _) ((Mod.of_same h12).trans (hm24.mono fun k _ hk => FP.mono (fun _ _ => trivial) hk)) m29 ?_
  refine Turned.seq (o1 := cutL o3 w40.heap.size) (w1 := w40) (hl3.trans (LabEq.cut _ _) hm40.size) (hm40.mono fun k _ hk => FP.mono (fun _ _ => trivial) hk) (Mod.refl _ _) ?_
  refine Turned.seq (o1 := o4) (w1 := w51) hl4 (hm51.mono fun k _ hk => FP.mono (fun _ _ => trivial) hk) ms ?_
  have h60 : Turned o4 w51.drew b _ w60 := h60
  unfold spawnS
  simp only [hn]
  exact h60
end Go.Proofs.YtlkpadfkmdgjcaaGreatDoor
end
section
set_option linter.unusedSimpArgs false
set_option linter.unusedVariables false
namespace Go.Proofs.YtlkpadfkmdgjcaaGreatDoor
open Go Go.Ev
set_option linter.unusedVariables false
set_option linter.unusedSimpArgs false
set_option maxRecDepth 100000
attribute [local irreducible] kO kB kStr kInt kN kG kIf kfld kld kldN kst knew kmap kbld kbldS kext kcnv klenStr klen kcap kprt kprtN kbool kint kstr keq kun ksl kix kiv kta kmk kmm ksem ksemU kextf kcallV kcallM kcall kL

/-! ### An entity leaves its table -/
theorem apParts : appT Tryz.prog 40 6 48 = true := by kernel_rfl
def partAt (T : TabM) (r c : Nat) : Part := ((T.col c)[r]?).getD ⟨0, 0, 0, 0, 0, 0⟩
def takeC (T : TabM) (r : Nat) (l : List Nat) : TabM := ⟨T.rows, fun c => if c ∈ l then takeRow (T.col c) r else T.col c⟩
theorem takeC_nil (T : TabM) (r : Nat) : takeC T r [] = T := by simp [takeC]
/-- The state behind 'leave'. -/
def leaveS (S : SM) (n r m : Nat) (hn : n < S.tabs.length) : SM :=
  { S with tabs := S.tabs.set n ⟨takeRow S.tabs[n].rows r, fun c => takeRow (S.tabs[n].col c) r⟩, spots := S.spots.set m (n, r) }
def seenL (comps seen : List Nat) : List Nat := seen.map fun i => comps.getD i 0
theorem seenL_snoc (comps seen : List Nat) (i : Nat) (h : i < comps.length) : seenL comps (seen ++ [i]) = seenL comps seen ++ [comps[i]] := by
  simp [seenL, List.getElem?_eq_getElem h]
theorem seenL_notin {comps seen : List Nat} (hc : comps.Nodup) (hs : ∀ i ∈ seen, i < comps.length) {i : Nat} (hi : i < comps.length) (h : i ∉ seen) : comps[i] ∉ seenL comps seen := by
  intro hm
  obtain ⟨k, hk, e⟩ := List.mem_map.1 hm
  have hkl := hs k hk
  simp only [List.getD_eq_getElem?_getD, List.getElem?_eq_getElem hkl, Option.getD_some] at e
  exact h (by
    have : k = i := (List.getElem_inj hc).1 e
    subst this; exact hk)
theorem seenL_perm {comps seen : List Nat} (hn : seen.Nodup) (hs : ∀ i ∈ seen, i < comps.length) (ha : ∀ i, i < comps.length → i ∈ seen) : (seenL comps seen).Perm comps := by
  have hp : seen.Perm (List.range comps.length) := (List.perm_ext_iff_of_nodup hn List.nodup_range).2 fun a => ⟨fun h => by simpa using hs a h, fun h => ha a (by simpa using h)⟩
  have h2 := hp.map (fun i => comps.getD i 0)
  have e : (List.range comps.length).map (fun i => comps.getD i 0) = comps := by
    apply List.ext_getElem
    · simp
    · intro i h1 h2
      simp [List.getElem?_eq_getElem h2]
  rw [e] at h2
  exact h2
theorem listF_sorted (m : Nat) : (listF m).Pairwise (fun a b => a < b) := List.Pairwise.filter _ List.pairwise_lt_range
theorem compsM_sorted (ms : List Nat) (n : Nat) : (compsM ms n).Pairwise (fun a b => a < b) := by
  unfold compsM
  split
  · exact listF_sorted _
  · exact .nil
theorem compsM_nodup (ms : List Nat) (n : Nat) : (compsM ms n).Nodup := (compsM_sorted ms n).imp (fun h => by omega)
theorem sort_unique {comps : List Nat} (hc : comps.Pairwise (fun a b => a < b)) {f : Nat → Part} (hf : ∀ c ∈ comps, (f c).comp = (c : Int)) {L l : List Part} (hl : l.Perm (comps.map f)) (hL : L.Perm l) (hs : L.Pairwise (fun x y => x.comp ≤ y.comp)) : L = comps.map f := by
  refine List.Perm.eq_of_pairwise (le := fun x y : Part => x.comp ≤ y.comp) ?_ hs ?_ (hL.trans hl)
  · intro a b ha hb h1 h2
    have ha := (hL.trans hl).mem_iff.1 ha
    obtain ⟨c, hcm, rfl⟩ := List.mem_map.1 ha
    obtain ⟨d, hdm, rfl⟩ := List.mem_map.1 hb
    have e1 := hf c hcm
    have e2 := hf d hdm
    have : c = d := by omega
    rw [this]
  · rw [List.pairwise_map]
    refine hc.imp_of_mem fun ha hb h => ?_
    have e1 := hf _ ha
    have e2 := hf _ hb
    omega
def colsTag (n : Nat) (t : Tag) : Prop := ∃ c, colTag n c t
/-- What holds in the loop of 'leave'. -/
def LvInv (o : Lab) (w0 : World) (b : Nat) (p : Ptrs) (S : SM) (n r rI bm : Nat) (hn : n < S.tabs.length) (j : Nat) (x : Value) (w : World) : Prop :=
  ∃ seen : List Nat, seen.length = j ∧ seen.Nodup ∧ (∀ i ∈ seen, i < (compsM S.masks n).length) ∧
    blk w rI = some (.mapIter (some bm) ((compsM S.masks n).map fun (c : Nat) => ((c : Int), ptrV (p.pc n c))).length seen.toArray ((compsM S.masks n).map fun (c : Nat) => ((c : Int), ptrV (p.pc n c))).length) ∧
    Own w x 6 (((seenL (compsM S.masks n) seen).map (partAt S.tabs[n] r)).flatMap Part.cells) ∧ (∀ k, vblk x k → rI < k) ∧
    StoreP o w b p { S with tabs := S.tabs.set n (takeC S.tabs[n] r (seenL (compsM S.masks n) seen)) } ∧ Mod (fun k => FP o (colsTag n) k ∨ k = rI) w0 w
theorem sLeave_spec {o : Lab} {w : World} {b : Nat} {p : Ptrs} {S : SM} (h : StoreP o w b p S) {i : Nat} {g : Int} {n r m : Nat} {gm : Int} (hs : S.spots[i]? = some (n, r)) (hn : n < S.tabs.length) (hr : r < S.tabs[n].rows.length) (hcol : ∀ c ∈ compsM S.masks n, (S.tabs[n].col c).length = S.tabs[n].rows.length)
    (hlast : S.tabs[n].rows[S.tabs[n].rows.length - 1]'(by omega) = ((m : Int), gm)) (hm : m < S.spots.length) (hrl : S.tabs[n].rows.length ≤ 1000000) :
    Meets Tryz.prog 96 #[ptrV b, entV i g] w fun v w' => ∃ sv, v = .tuple #[sv, .nilIface] ∧ Own w' sv 6 (((compsM S.masks n).map (partAt S.tabs[n] r)).flatMap Part.cells) ∧ (∀ k, vblk sv k → w.heap.size ≤ k) ∧
      StoreP (cutL o w.heap.size) w' b p (leaveS S n r m hn) ∧ Mod (FP o fun _ => True) w w' := by
  have hi : i < S.spots.length := (List.getElem?_eq_some_iff.1 hs).1
  have hsi : S.spots[i] = (n, r) := (List.getElem?_eq_some_iff.1 hs).2
  refine f96_ok ?_
  unfold f96
  refine knew_of fun w2 hm2 hs2 hb2 => ?_
  have hb2 : blk w2 w.heap.size = some (.cells #[.int .i64 i, .int .i64 g] 37) := hb2
  have hP2 := h.cut hm2
  generalize ho0 : cutL o w.heap.size = o0 at *
  have ho0n : ∀ k, w.heap.size ≤ k → o0 k = none := fun k hk => by rw [← ho0]; exact cutL_none hk
  obtain ⟨bs, csc, arr, t, es, hbs, s1, s2, s3⟩ := hP2.spots.viewF (F := spotC) (sz := 2) (fun _ => rfl) (by omega) (show 0 < S.spots.length by omega)
  have hspl := hP2.spotsl bs (by rw [es]; exact ⟨_, _, _, rfl⟩)
  have hba := hP2.here
  rw [es] at hba
  have hsii := s3 i hi
  rw [hsi] at hsii
  rw [ptrV]
  have mst : Same w2 w2.drew := (Mod.refl (fun _ => False) _).drew
  have hbd : blk w2.drew bs = _ := hbs
  repeat (first | refine kN_at ?_ | refine kB_at ?_ | refine kfld_of ?_ | refine kext_at rfl ?_ | refine kld_at hba rfl ?_ | refine kld_at hb2 rfl ?_ | refine kldN_at hba rfl (by omega) ?_ | refine kldN_at hb2 rfl (by omega) ?_ | refine kG_of (by first | exact rfl | omega) ?_ | refine klen_at ?_ | refine eql_at ?_ | refine neq_at ?_ | refine lss_at ?_ | refine leq_at ?_ | refine gtr_at ?_ | refine geq_at ?_ | refine add_at (by omega) (by omega) ?_ | refine sub_at (by omega) (by omega) ?_ | refine not_at ?_ | refine kO_at ?_ | refine kprt_at rfl ?_ | refine kprtN_at rfl ?_ | refine kcap_at ?_ | refine klenStr_at ?_ | refine kN_iat ?_ | refine kN_fat ?_ | refine kIf_T (by first | exact rfl | exact decT (by omega) | exact notT (decF (by omega))) ?_ | refine kIf_F (by first | exact rfl | exact decF (by omega) | exact notF (decT (by omega))) ?_)
  rw [kix_slice]
  refine kG_of (by omega) ?_
  rw [add_mk, Nat.zero_add, Int.toNat_natCast]
  refine kldN_at hbs hsii (by omega) ?_
  refine kG_of rfl ?_
  refine knew_of fun w10 h10 hs10 hb10 => ?_
  have hbs10 := h10.get hbd (fun h => h)
  have hbe10 := h10.get (show blk w2.drew w.heap.size = _ from hb2) (fun h => h)
  have hba10 := h10.get (show blk w2.drew b = _ from hba) (fun h => h)
  refine kG_of (kldN_at hbs10 hsii (by omega) ⟨rfl, rfl⟩) ?_
  refine kG_of (kld_at hbe10 rfl ⟨rfl, rfl⟩) ?_
  refine kG_of (kld_at hba10 rfl ⟨rfl, rfl⟩) ?_
  have hs10 : w10.heap.size = w.heap.size + 2 := by rw [hs10]; show w2.heap.size + 1 = _; omega
  have hb10 : blk w10 w2.heap.size = some (.cells #[.int .i64 0, .int .i64 0] 153) := hb10
  refine kst_of (vs := [natV n, natV r]) hb10 rfl rfl rfl (by simp) (by simp) fun w11 h11 hs11 hb11 => ?_
  have hb11 : blk w11.drew w2.heap.size = some (.cells #[.int .i64 n, .int .i64 r] 153) := hb11
  have m11 : Same w2 w11.drew := (mst.trans h10).trans' (h11.drew.mono fun k _ e => .inr (by omega))
  have hs11 : w11.drew.heap.size = w.heap.size + 2 := by show w11.heap.size = _; omega
  generalize w11.drew = wa at *
  have hPa := hP2.same m11
  have hba11 := m11.get hba (fun h => h)
  have hT := hPa.tab n hn
  obtain ⟨q1, rv, bm, q2, q3, q4, q5, q6, q7⟩ := id hT
  obtain ⟨ta, tc, et, hts⟩ := hPa.ptab hn
  rw [et] at hba11
  repeat (first | refine kN_at ?_ | refine kB_at ?_ | refine kfld_of ?_ | refine kext_at rfl ?_ | refine kld_at hba11 rfl ?_ | refine kld_at hb11 rfl ?_ | refine kldN_at hba11 rfl (by omega) ?_ | refine kldN_at hb11 rfl (by omega) ?_ | refine kG_of (by first | exact rfl | omega) ?_ | refine klen_at ?_ | refine eql_at ?_ | refine neq_at ?_ | refine lss_at ?_ | refine leq_at ?_ | refine gtr_at ?_ | refine geq_at ?_ | refine add_at (by omega) (by omega) ?_ | refine sub_at (by omega) (by omega) ?_ | refine not_at ?_ | refine kO_at ?_ | refine kprt_at rfl ?_ | refine kprtN_at rfl ?_ | refine kcap_at ?_ | refine klenStr_at ?_ | refine kN_iat ?_ | refine kN_fat ?_ | refine kIf_T (by first | exact rfl | exact decT (by omega) | exact notT (decF (by omega))) ?_ | refine kIf_F (by first | exact rfl | exact decF (by omega) | exact notF (decT (by omega))) ?_)
  have ele : (List.range S.tabs.length).length = S.tabs.length := List.length_range
  refine kixld_of (F := fun i => ptrV (p.pt i)) (c := tc) (l := List.range S.tabs.length) hts (show n < (List.range S.tabs.length).length by omega) rfl ?_ |> fun h => by rw [ele] at h; exact h
  rw [List.getElem_range, ptrV]
  refine kG_of rfl ?_
  repeat (first | refine kN_at ?_ | refine kB_at ?_ | refine kfld_of ?_ | refine kext_at rfl ?_ | refine kld_at q2 rfl ?_ | refine kldN_at q2 rfl (by omega) ?_ | refine kG_of (by first | exact rfl | omega) ?_ | refine klen_at ?_ | refine eql_at ?_ | refine neq_at ?_ | refine lss_at ?_ | refine leq_at ?_ | refine gtr_at ?_ | refine geq_at ?_ | refine add_at (by omega) (by omega) ?_ | refine sub_at (by omega) (by omega) ?_ | refine not_at ?_ | refine kO_at ?_ | refine kprt_at rfl ?_ | refine kprtN_at rfl ?_ | refine kcap_at ?_ | refine klenStr_at ?_ | refine kN_iat ?_ | refine kN_fat ?_ | refine kIf_T (by first | exact rfl | exact decT (by omega) | exact notT (decF (by omega))) ?_ | refine kIf_F (by first | exact rfl | exact decF (by omega) | exact notF (decT (by omega))) ?_)
  refine krange_of Tryz.underlying147 q6 fun w21 h21 hs21 hb21 => ?_
  have hlr : p.pt n < wa.heap.size := lt_of_blk q2
  have hP21 := hPa.same h21
  have hcsl : ((compsM S.masks n).map fun (c : Nat) => ((c : Int), ptrV (p.pc n c))).length = (compsM S.masks n).length := by simp
  refine kL1_of (compsM S.masks n).length (LvInv o0 w21 b p S n r wa.heap.size bm hn) ⟨lI1_0 ?_, fun x wr hx => ?_⟩
  · refine ⟨[], rfl, List.nodup_nil, fun i hi => by simp at hi, hb21, Own.nil _ _, (fun k hk => by obtain ⟨_, _, _, e⟩ := hk; cases e), ?_, Mod.refl _ _⟩
    show StoreP o0 w21 b p { S with tabs := S.tabs.set n (takeC S.tabs[n] r []) }
    rw [takeC_nil, List.set_getElem_self]; exact hP21
  obtain ⟨j, hj, ⟨seen, hsl, hnd, hsb, hit, hOx, hfx, hPr, hmr⟩, hJ⟩ := lI1_step hx
  have q1n : ¬ (FP o0 (colsTag n) (p.pt n) ∨ p.pt n = wa.heap.size) := by
    rintro (⟨t, e1, c, e2⟩ | e)
    · rw [q1] at e1; cases e1
      rcases e2 with h | h | h <;> cases h
    · omega
  have q6r : MapIs wr bm .i64 _ := (q6.mod h21 (fun h => h)).mod hmr (by
    rintro (⟨t, e1, c, e2⟩ | e)
    · rw [q5] at e1; cases e1
      rcases e2 with h | h | h <;> cases h
    · have := lt_of_blk q6; omega)
  unfold f96_0
  refine knext_of hit q6r (fun hall => ?_) (fun ix hix hnix w2' hm2' hs2' hit2 => ?_)
  · have hperm := seenL_perm hnd hsb (fun i hi => hall i (by simpa using hi))
    have hn' : n < (S.tabs.set n (takeC S.tabs[n] r (seenL (compsM S.masks n) seen))).length := by simpa using hn
    have hTr := hPr.tab n hn'
    rw [show ({ S with tabs := S.tabs.set n (takeC S.tabs[n] r (seenL (compsM S.masks n) seen)) } : SM).tabs[n] = _ from tab_set hn _ hn'] at hTr
    obtain ⟨x1, rv', bm', x2, x3, x4, x5, x6, x7⟩ := id hTr
    have x3 : Own wr rv' 2 (S.tabs[n].rows.flatMap entC) := x3
    have x4' := x4
    have x3' := x3
    obtain ⟨br, cp, ar, tr, er, hbr, u1, u2, u3⟩ := x3.viewF (F := entC) (sz := 2) (fun _ => rfl) (by omega) (show 0 < S.tabs[n].rows.length by omega)
    subst er
    have hbrl := x4 br ⟨_, _, _, rfl⟩
    have hzr := hmr.size
    have hb2r : blk wr w2.heap.size = some (.cells #[.int .i64 n, .int .i64 r] 153) := by
      refine hmr.get (h21.get hb11 (fun h => h)) ?_
      rintro (⟨t, e1, _⟩ | e)
      · rw [ho0n _ (by omega)] at e1; cases e1
      · omega
    obtain ⟨L, hL⟩ : ∃ L, L + 1 = S.tabs[n].rows.length := ⟨S.tabs[n].rows.length - 1, by omega⟩
    have hLlt : L < S.tabs[n].rows.length := by omega
    have hlL : S.tabs[n].rows[L] = ((m : Int), gm) := by rw [← hlast]; congr 1; omega
    have u3L := u3 L hLlt
    rw [hlL] at u3L
    have nbt : br ≠ p.pt n := fun e => by rw [e, x1] at hbrl; cases hbrl
    have nbs : bs ≠ p.pt n := fun e => by rw [e, x1] at hspl; cases hspl
    have nbr : bs ≠ br := fun e => by rw [e, hbrl] at hspl; cases hspl
    have lbr := lt_of_blk hbr
    have lpt := lt_of_blk x2
    have bsr := hPr.spots.viewF (F := spotC) (sz := 2) (fun _ => rfl) (by omega) (show 0 < S.spots.length by omega)
    rw [es] at bsr
    obtain ⟨bs', csc', arr', t', es', hbs', s1', s2', s3'⟩ := bsr
    cases es'
    have lbs := lt_of_blk hbs'
    have hbar := hPr.here
    rw [es] at hbar
    have lb := lt_of_blk hbar
    have nb1 : b ≠ p.pt n := fun e => by have := hPr.lab; rw [e, x1] at this; cases this
    have nb2 : b ≠ br := fun e => by have := hPr.lab; rw [e, hbrl] at this; cases this
    have hu2 : o0 w2.heap.size = none := ho0n _ (by omega)
    have n2b : w2.heap.size ≠ br := fun e => by rw [e, hbrl] at hu2; cases hu2
    have n2t : w2.heap.size ≠ p.pt n := fun e => by rw [e, x1] at hu2; cases hu2
    repeat (first | refine kN_at ?_ | refine kB_at ?_ | refine kfld_of ?_ | refine kext_at rfl ?_ | refine kld_at x2 rfl ?_ | refine kldN_at x2 rfl (by omega) ?_ | refine kG_of (by first | exact rfl | omega) ?_ | refine klen_at ?_ | refine eql_at ?_ | refine neq_at ?_ | refine lss_at ?_ | refine leq_at ?_ | refine gtr_at ?_ | refine geq_at ?_ | refine add_at (by omega) (by omega) ?_ | refine sub_at (by omega) (by omega) ?_ | refine not_at ?_ | refine kO_at ?_ | refine kprt_at rfl ?_ | refine kprtN_at rfl ?_ | refine kcap_at ?_ | refine klenStr_at ?_ | refine kN_iat ?_ | refine kN_fat ?_ | refine kIf_T (by first | exact rfl | exact decT (by omega) | exact notT (decF (by omega))) ?_ | refine kIf_F (by first | exact rfl | exact decF (by omega) | exact notF (decT (by omega))) ?_)
    rw [show ((S.tabs[n].rows.length : Nat) : Int) - 1 = ((L : Nat) : Int) by omega]
    repeat (first | refine kN_at ?_ | refine kB_at ?_ | refine kfld_of ?_ | refine kext_at rfl ?_ | refine kld_at x2 rfl ?_ | refine kldN_at x2 rfl (by omega) ?_ | refine kG_of (by first | exact rfl | omega) ?_ | refine klen_at ?_ | refine eql_at ?_ | refine neq_at ?_ | refine lss_at ?_ | refine leq_at ?_ | refine gtr_at ?_ | refine geq_at ?_ | refine add_at (by omega) (by omega) ?_ | refine sub_at (by omega) (by omega) ?_ | refine not_at ?_ | refine kO_at ?_ | refine kprt_at rfl ?_ | refine kprtN_at rfl ?_ | refine kcap_at ?_ | refine klenStr_at ?_ | refine kN_iat ?_ | refine kN_fat ?_ | refine kIf_T (by first | exact rfl | exact decT (by omega) | exact notT (decF (by omega))) ?_ | refine kIf_F (by first | exact rfl | exact decF (by omega) | exact notF (decT (by omega))) ?_)
    rw [kix_slice]
    refine kG_of (by omega) ?_
    rw [add_mk, Nat.zero_add, Int.toNat_natCast]
    refine kldN_at hbr u3L (by omega) ?_
    refine knew_of fun w55 h55 hs55 hb55 => ?_
    refine kst_of (vs := [.int .i64 m, .int .i64 gm]) hb55 rfl rfl rfl (by simp) (by simp) fun w56 h56 hs56 hb56 => ?_
    have hb56 : blk w56.drew wr.heap.size = some (.cells #[.int .i64 m, .int .i64 gm] 37) := hb56
    have m56 : Same wr w56.drew := h55.trans' (h56.drew.mono fun k _ e => .inr (by omega))
    have hs56 : w56.drew.heap.size = wr.heap.size + 1 := by show w56.heap.size = _; omega
    generalize w56.drew = wc at *
    have x2c := m56.get x2 (fun h => h)
    have h2c := m56.get hb2r (fun h => h)
    have hbrc := m56.get hbr (fun h => h)
    repeat (first | refine kN_at ?_ | refine kB_at ?_ | refine kfld_of ?_ | refine kext_at rfl ?_ | refine kld_at x2c rfl ?_ | refine kld_at h2c rfl ?_ | refine kld_at hb56 rfl ?_ | refine kldN_at x2c rfl (by omega) ?_ | refine kldN_at h2c rfl (by omega) ?_ | refine kldN_at hb56 rfl (by omega) ?_ | refine kG_of (by first | exact rfl | omega) ?_ | refine klen_at ?_ | refine eql_at ?_ | refine neq_at ?_ | refine lss_at ?_ | refine leq_at ?_ | refine gtr_at ?_ | refine geq_at ?_ | refine add_at (by omega) (by omega) ?_ | refine sub_at (by omega) (by omega) ?_ | refine not_at ?_ | refine kO_at ?_ | refine kprt_at rfl ?_ | refine kprtN_at rfl ?_ | refine kcap_at ?_ | refine klenStr_at ?_ | refine kN_iat ?_ | refine kN_fat ?_ | refine kIf_T (by first | exact rfl | exact decT (by omega) | exact notT (decF (by omega))) ?_ | refine kIf_F (by first | exact rfl | exact decF (by omega) | exact notF (decT (by omega))) ?_)
    rw [kix_slice]
    refine kG_of (by omega) ?_
    rw [add_mk, Nat.zero_add, Int.toNat_natCast]
    have hsg := (segL_spec _ _ _ _ (u3 r hr)).1
    rw [Array.length_toList] at hsg
    refine kst_of (vs := entC ((m : Int), gm)) hbrc rfl rfl rfl hsg (by simp [entC]) fun w63 h63 hs63 hb63 => ?_
    have x263 := h63.get x2c nbt.symm
    have h263 := h63.get h2c n2b
    have he63 := h63.get hb56 (by omega)
    repeat (first | refine kN_at ?_ | refine kB_at ?_ | refine kfld_of ?_ | refine kext_at rfl ?_ | refine kld_at x263 rfl ?_ | refine kldN_at x263 rfl (by omega) ?_ | refine kG_of (by first | exact rfl | omega) ?_ | refine klen_at ?_ | refine eql_at ?_ | refine neq_at ?_ | refine lss_at ?_ | refine leq_at ?_ | refine gtr_at ?_ | refine geq_at ?_ | refine add_at (by omega) (by omega) ?_ | refine sub_at (by omega) (by omega) ?_ | refine not_at ?_ | refine kO_at ?_ | refine kprt_at rfl ?_ | refine kprtN_at rfl ?_ | refine kcap_at ?_ | refine klenStr_at ?_ | refine kN_iat ?_ | refine kN_fat ?_ | refine kIf_T (by first | exact rfl | exact decT (by omega) | exact notT (decF (by omega))) ?_ | refine kIf_F (by first | exact rfl | exact decF (by omega) | exact notF (decT (by omega))) ?_)
    refine ksl_sl_hi (by omega) ?_
    repeat (first | refine kN_at ?_ | refine kB_at ?_ | refine kfld_of ?_ | refine kext_at rfl ?_ | refine kG_of (by first | exact rfl | omega) ?_ | refine klen_at ?_ | refine eql_at ?_ | refine neq_at ?_ | refine lss_at ?_ | refine leq_at ?_ | refine gtr_at ?_ | refine geq_at ?_ | refine add_at (by omega) (by omega) ?_ | refine sub_at (by omega) (by omega) ?_ | refine not_at ?_ | refine kO_at ?_ | refine kprt_at rfl ?_ | refine kprtN_at rfl ?_ | refine kcap_at ?_ | refine klenStr_at ?_ | refine kN_iat ?_ | refine kN_fat ?_ | refine kIf_T (by first | exact rfl | exact decT (by omega) | exact notT (decF (by omega))) ?_ | refine kIf_F (by first | exact rfl | exact decF (by omega) | exact notF (decT (by omega))) ?_)
    refine kst1_of x263 rfl rfl (by simp) fun w68 h68 hs68 hb68 => ?_
    simp only [List.setIfInBounds_toArray, List.set_cons_succ, List.set_cons_zero] at hb68
    have h268 : blk w68.drew w2.heap.size = _ := h68.get h263 n2t
    have he68 : blk w68.drew wr.heap.size = _ := h68.get he63 (by omega)
    have hba68 : blk w68.drew b = _ := h68.get (h63.get (m56.get hbar (fun h => h)) nb2) nb1
    have hbs68 : blk w68.drew bs = _ := h68.get (h63.get (m56.get hbs' (fun h => h)) nbr) nbs
    have hbr68 : blk w68.drew br = _ := h68.get hb63 nbt
    have hb68 : blk w68.drew (p.pt n) = _ := hb68
    have hs68 : w68.drew.heap.size = wc.heap.size := by show w68.heap.size = _; omega
    have m68 : Mod (fun k => k = br ∨ k = p.pt n ∨ k = bs) wr w68.drew := (Mod.of_same m56).trans ((h63.mono fun k _ e => .inl e).trans (h68.drew.mono fun k _ e => .inr (.inl e)))
    generalize w68.drew = wd at *
    repeat (first | refine kN_at ?_ | refine kB_at ?_ | refine kfld_of ?_ | refine kext_at rfl ?_ | refine kld_at hba68 rfl ?_ | refine kld_at he68 rfl ?_ | refine kld_at h268 rfl ?_ | refine kldN_at hba68 rfl (by omega) ?_ | refine kldN_at he68 rfl (by omega) ?_ | refine kldN_at h268 rfl (by omega) ?_ | refine kG_of (by first | exact rfl | omega) ?_ | refine klen_at ?_ | refine eql_at ?_ | refine neq_at ?_ | refine lss_at ?_ | refine leq_at ?_ | refine gtr_at ?_ | refine geq_at ?_ | refine add_at (by omega) (by omega) ?_ | refine sub_at (by omega) (by omega) ?_ | refine not_at ?_ | refine kO_at ?_ | refine kprt_at rfl ?_ | refine kprtN_at rfl ?_ | refine kcap_at ?_ | refine klenStr_at ?_ | refine kN_iat ?_ | refine kN_fat ?_ | refine kIf_T (by first | exact rfl | exact decT (by omega) | exact notT (decF (by omega))) ?_ | refine kIf_F (by first | exact rfl | exact decF (by omega) | exact notF (decT (by omega))) ?_)
    rw [kix_slice]
    refine kG_of (by omega) ?_
    rw [add_mk, Nat.zero_add, Int.toNat_natCast]
    have hsg2 := (segL_spec _ _ _ _ (s3' m hm)).1
    rw [Array.length_toList] at hsg2
    refine kst_of (vs := spotC (n, r)) hbs68 rfl rfl rfl hsg2 (by simp [spotC]) fun w75 h75 hs75 hb75 => ?_
    have m75 : Mod (fun k => k = br ∨ k = p.pt n ∨ k = bs) wr w75 := m68.trans (h75.mono fun k _ e => .inr (.inr e))
    have hb75t := h75.get hb68 nbs.symm
    have hbr75 := h75.get hbr68 nbr.symm
    have hFP : Mod (FP o0 fun t => tabTag n t ∨ t = .spots) wr w75 := m75.mono fun k _ e => by
      rcases e with rfl | rfl | rfl
      · exact ⟨_, hbrl, .inl (.inr (.inl rfl))⟩
      · exact ⟨_, x1, .inl (.inl rfl)⟩
      · exact ⟨_, hspl, .inr rfl⟩
    have hTn : TabAt o0 w75 (p.pt n) n (compsM S.masks n) (wdF S.cs) (p.pc n) ⟨takeRow S.tabs[n].rows r, fun c => takeRow (S.tabs[n].col c) r⟩ := by
      refine ⟨x1, _, bm', hb75t, ?_, ?_, x5, x6.mod m75 ?_, fun d hd => ?_⟩
      · have g1 := Own.setF (F := entC) (fun _ => rfl) x3' hbr (x := ((m : Int), gm)) (i := r) hbr75 hr
        have g2 := g1.cutN (k := L) (by omega)
        rw [← flat_take (F := entC) (fun _ => rfl)] at g2
        have e1 := takeRow_eq (rows := S.tabs[n].rows) (by omega) r
        rw [hlast, show S.tabs[n].rows.length - 1 = L by omega] at e1
        show Own w75 _ 2 ((takeRow S.tabs[n].rows r).flatMap entC)
        rw [e1]
        exact g2
      · rintro k ⟨_, _, _, e⟩; cases e; exact hbrl
      · rintro (e | e | e)
        · rw [e, hbrl] at x5; cases x5
        · rw [e, x1] at x5; cases x5
        · rw [e, hspl] at x5; cases x5
      · have := (x7 d hd).frame m75 (fun k t e et ek => by
          rcases ek with rfl | rfl | rfl
          · rw [hbrl] at e; cases e; rcases et with h | h | h <;> cases h
          · rw [x1] at e; cases e; rcases et with h | h | h <;> cases h
          · rw [hspl] at e; cases e; rcases et with h | h | h <;> cases h) (LabEq.refl _ _)
        have e : (takeC S.tabs[n] r (seenL (compsM S.masks n) seen)).col d = takeRow (S.tabs[n].col d) r := by
          show (if d ∈ _ then _ else _) = _
          rw [if_pos (hperm.mem_iff.2 hd)]
        rw [e] at this
        exact this
    have hspn : Own w75 p.sv 2 ((S.spots.set m (n, r)).flatMap spotC) := by
      have hsp0 := hPr.spots
      rw [es] at hsp0 ⊢
      exact Own.setF (F := spotC) (fun _ => rfl) hsp0 hbs' (x := (n, r)) (i := m) hb75 hm
    have hPn := hPr.setTS hn' (LabEq.refl _ _) hFP hspn (by simp) hTn
    have hSn : ({ ({ S with tabs := S.tabs.set n (takeC S.tabs[n] r (seenL (compsM S.masks n) seen)) } : SM) with tabs := (S.tabs.set n (takeC S.tabs[n] r (seenL (compsM S.masks n) seen))).set n ⟨takeRow S.tabs[n].rows r, fun c => takeRow (S.tabs[n].col c) r⟩, spots := S.spots.set m (n, r) } : SM) = leaveS S n r m hn := by
      unfold leaveS
      simp
    rw [hSn] at hPn
    have hx75 : ∀ k, vblk x k → ¬ (k = br ∨ k = p.pt n ∨ k = bs) := fun k hk e => by
      have e0 := ho0n k (by have := hfx k hk; omega)
      rcases e with rfl | rfl | rfl
      · rw [hbrl] at e0; cases e0
      · rw [x1] at e0; cases e0
      · rw [hspl] at e0; cases e0
    have hc64 : (compsM S.masks n).length ≤ 32 := by
      unfold compsM; split
      · exact listF_len _
      · exact Nat.zero_le _
    refine kcall_of (sorted_spec (hOx.mod m75 hx75) (by simp [hperm.length_eq]; omega)) ?_
    rintro v w77 ⟨L', g1, g2, g3, g4⟩
    have hL' := sort_unique (compsM_sorted S.masks n) (f := partAt S.tabs[n] r) (fun c hc => by
      have hrc : r < (S.tabs[n].col c).length := by rw [hcol c hc]; exact hr
      obtain ⟨_, _, _, _, _, h6, _⟩ := hT.col hc
      have := (h6 _ (List.getElem_mem hrc)).1
      simp only [partAt, List.getElem?_eq_getElem hrc, Option.getD_some]
      exact this) (hperm.map _) g1 g2
    rw [hL'] at g3
    refine ⟨x, rfl, g3, fun k hk => by have := hfx k hk; omega, hPn.frame g4 (fun k t e ek => by rw [ho0n k (by have := hfx k ek; omega)] at e; cases e) (LabEq.refl _ _), ?_⟩
    have hcut : ∀ {T : Tag → Prop} {k : Nat}, FP o0 T k → FP o (fun _ => True) k := fun hk => by
      subst ho0
      exact FP.mono (fun _ _ => trivial) hk.cut.1
    have y0 : Same w w21 := (hm2.trans m11).trans h21
    have y1 : Mod (fun i => FP o (fun _ => True) i ∨ w.heap.size ≤ i) w21 wr := hmr.mono fun k _ e => by
      rcases e with e | e
      · exact .inl (hcut e)
      · exact .inr (by omega)
    have y2 : Mod (fun i => FP o (fun _ => True) i ∨ w.heap.size ≤ i) wr w75 := hFP.mono fun k _ e => .inl (hcut e)
    have y3 : Mod (fun i => FP o (fun _ => True) i ∨ w.heap.size ≤ i) w75 w77 := g4.mono fun k _ e => .inr (by have := hfx k e; omega)
    exact (Mod.of_same y0).trans' (y1.trans (y2.trans y3))
  · have hixc : ix < (compsM S.masks n).length := by simpa using hix
    have hpn := seenL_notin (compsM_nodup S.masks n) hsb hixc hnix
    have hgi : ((compsM S.masks n).map fun (c : Nat) => ((c : Int), ptrV (p.pc n c)))[ix] = (((compsM S.masks n)[ix] : Int), ptrV (p.pc n (compsM S.masks n)[ix])) := by simp
    have hjl : j < (compsM S.masks n).length := by
      have hnd2 : (seen ++ [ix]).Nodup := List.nodup_append.2 ⟨hnd, by simp, fun a ha b hb e => by simp at hb; subst hb; subst e; exact hnix ha⟩
      have := List.Nodup.length_le_of_subset hnd2 (l₂ := List.range (compsM S.masks n).length) (fun a ha => by
        rcases List.mem_append.1 ha with h | h
        · simpa using hsb a h
        · simp at h; subst h; simpa using hixc)
      simp at this; omega
    repeat (first | refine kN_at ?_ | refine kB_at ?_ | refine kfld_of ?_ | refine kext_at rfl ?_ | refine kG_of (by first | exact rfl | omega) ?_ | refine klen_at ?_ | refine eql_at ?_ | refine neq_at ?_ | refine lss_at ?_ | refine leq_at ?_ | refine gtr_at ?_ | refine geq_at ?_ | refine add_at (by omega) (by omega) ?_ | refine sub_at (by omega) (by omega) ?_ | refine not_at ?_ | refine kO_at ?_ | refine kprt_at rfl ?_ | refine kprtN_at rfl ?_ | refine kcap_at ?_ | refine klenStr_at ?_ | refine kN_iat ?_ | refine kN_fat ?_ | refine kIf_T (by first | exact rfl | exact decT (by omega) | exact notT (decF (by omega))) ?_ | refine kIf_F (by first | exact rfl | exact decF (by omega) | exact notF (decT (by omega))) ?_)
    unfold f96_1
    refine kentry_of hix hit2 (q6r.mod hm2' (fun e => by have := lt_of_blk q6; omega)) ?_
    rw [hgi]
    generalize hc : (compsM S.masks n)[ix] = c at *
    have hcm : c ∈ compsM S.masks n := hc ▸ List.getElem_mem hixc
    have hPr2 : StoreP o0 w2' b p _ := hPr.frame hm2' (fun k t e ek => by subst ek; rw [ho0n _ (by omega)] at e; cases e) (LabEq.refl _ _)
    have hn' : n < (S.tabs.set n (takeC S.tabs[n] r (seenL (compsM S.masks n) seen))).length := by simpa using hn
    have hTr := hPr2.tab n hn'
    rw [show ({ S with tabs := S.tabs.set n (takeC S.tabs[n] r (seenL (compsM S.masks n) seen)) } : SM).tabs[n] = _ from tab_set hn _ hn'] at hTr
    have hCol := hTr.col hcm
    have hTc : (takeC S.tabs[n] r (seenL (compsM S.masks n) seen)).col c = S.tabs[n].col c := by
      show (if c ∈ _ then _ else _) = _
      rw [if_neg hpn]
    rw [hTc] at hCol
    have hb2r : blk w2' w2.heap.size = some (.cells #[.int .i64 n, .int .i64 r] 153) := by
      refine hm2'.get (hmr.get (h21.get hb11 (fun h => h)) ?_) (by omega)
      rintro (⟨t, e1, _⟩ | e)
      · rw [ho0n _ (by omega)] at e1; cases e1
      · omega
    repeat (first | refine kN_at ?_ | refine kB_at ?_ | refine kfld_of ?_ | refine kext_at rfl ?_ | refine kld_at hb2r rfl ?_ | refine kldN_at hb2r rfl (by omega) ?_ | refine kG_of (by first | exact rfl | omega) ?_ | refine klen_at ?_ | refine eql_at ?_ | refine neq_at ?_ | refine lss_at ?_ | refine leq_at ?_ | refine gtr_at ?_ | refine geq_at ?_ | refine add_at (by omega) (by omega) ?_ | refine sub_at (by omega) (by omega) ?_ | refine not_at ?_ | refine kO_at ?_ | refine kprt_at rfl ?_ | refine kprtN_at rfl ?_ | refine kcap_at ?_ | refine klenStr_at ?_ | refine kN_iat ?_ | refine kN_fat ?_ | refine kIf_T (by first | exact rfl | exact decT (by omega) | exact notT (decF (by omega))) ?_ | refine kIf_F (by first | exact rfl | exact decF (by omega) | exact notF (decT (by omega))) ?_)
    have hrc : r < (S.tabs[n].col c).length := by rw [hcol c hcm]; exact hr
    refine kcall_of (cTake_spec hCol hrc) ?_
    rintro v w31 ⟨rfl, hC31, hm31⟩
    repeat (first | refine kN_at ?_ | refine kB_at ?_ | refine kfld_of ?_ | refine kext_at rfl ?_ | refine kG_of (by first | exact rfl | omega) ?_ | refine klen_at ?_ | refine eql_at ?_ | refine neq_at ?_ | refine lss_at ?_ | refine leq_at ?_ | refine gtr_at ?_ | refine geq_at ?_ | refine add_at (by omega) (by omega) ?_ | refine sub_at (by omega) (by omega) ?_ | refine not_at ?_ | refine kO_at ?_ | refine kprt_at rfl ?_ | refine kprtN_at rfl ?_ | refine kcap_at ?_ | refine klenStr_at ?_ | refine kN_iat ?_ | refine kN_fat ?_ | refine kIf_T (by first | exact rfl | exact decT (by omega) | exact notT (decF (by omega))) ?_ | refine kIf_F (by first | exact rfl | exact decF (by omega) | exact notF (decT (by omega))) ?_)
    refine knew_of fun w35 h35 hs35 hb35 => ?_
    refine kst_of (vs := ((S.tabs[n].col c)[r]).cells) hb35 rfl rfl rfl (by simp) (by simp [Part.cells]) fun w36 h36 hs36 hb36 => ?_
    have hb36 : blk w36 w31.heap.size = some (.cells ((S.tabs[n].col c)[r]).cells.toArray 49) := hb36
    rw [keq_nil_nil' ifErr]
    refine kB_at ?_
    refine kIf_F rfl ?_
    unfold f96_2
    repeat (first | refine kN_at ?_ | refine kB_at ?_ | refine kfld_of ?_ | refine kext_at rfl ?_ | refine kld_at hb36 rfl ?_ | refine kldN_at hb36 rfl (by omega) ?_ | refine kG_of (by first | exact rfl | omega) ?_ | refine klen_at ?_ | refine eql_at ?_ | refine neq_at ?_ | refine lss_at ?_ | refine leq_at ?_ | refine gtr_at ?_ | refine geq_at ?_ | refine add_at (by omega) (by omega) ?_ | refine sub_at (by omega) (by omega) ?_ | refine not_at ?_ | refine kO_at ?_ | refine kprt_at rfl ?_ | refine kprtN_at rfl ?_ | refine kcap_at ?_ | refine klenStr_at ?_ | refine kN_iat ?_ | refine kN_fat ?_ | refine kIf_T (by first | exact rfl | exact decT (by omega) | exact notT (decF (by omega))) ?_ | refine kIf_F (by first | exact rfl | exact decF (by omega) | exact notF (decT (by omega))) ?_)
    refine kbldS_of (cs := ((S.tabs[n].col c)[r]).cells) rfl fun w41 h41 hs41 hb41 => ?_
    have hz2 := hm2'.size
    have hz31 := hm31.size
    have hzr := hmr.size
    have m41 : Same w31 w41 := (h35.trans' (h36.mono fun k _ e => .inr (by omega))).trans h41
    have hO41 : Own w41 x 6 _ := ((hOx.mod hm2' (fun k hk e => by have := hfx k hk; omega)).mod hm31 (fun k hk ⟨t, e1, _⟩ => by rw [ho0n k (by have := hfx k hk; omega)] at e1; cases e1)).same m41
    have hpl : (seenL (compsM S.masks n) seen).length = j := by simp [seenL, hsl]
    have hc64 : (compsM S.masks n).length ≤ 32 := by
      unfold compsM; split
      · exact listF_len _
      · exact Nat.zero_le _
    refine ksem_append apParts (by omega) hO41 (Src.ofSlIs (hk := slPart_is.choose_spec) 1 (SlIs.blk hb41 rfl) (ones_parts [(S.tabs[n].col c)[r]])) (by rw [flat_len Part.cells 6 (fun _ => rfl)]; simp [hpl, Part.cells]; omega) (by rw [flat_len Part.cells 6 (fun _ => rfl)]; simp [hpl, Part.cells]; omega) ?_
    intro v' w43 ho43 hm43 hf43
    have hit31 := (hm31.get hit2 (fun ⟨t, e1, _⟩ => by rw [ho0n _ (by omega)] at e1; cases e1))
    have hit43 := hm43.get (m41.get hit31 (fun h => h)) (fun e => by have := hfx _ e; omega)
    refine hJ _ _ hjl ⟨seen ++ [ix], by simp [hsl], ?_, ?_, hit43, ?_, ?_, ?_, ?_⟩
    · exact List.nodup_append.2 ⟨hnd, by simp, fun a ha b hb e => by simp at hb; subst hb; subst e; exact hnix ha⟩
    · intro a ha
      rcases List.mem_append.1 ha with h | h
      · exact hsb a h
      · simp at h; subst h; exact hixc
    · rw [seenL_snoc _ _ _ hixc, hc, List.map_append, List.flatMap_append]
      have e : ([c].map (partAt S.tabs[n] r)).flatMap Part.cells = ((S.tabs[n].col c)[r]).cells := by
        simp [partAt, List.getElem?_eq_getElem hrc]
      rw [e]
      exact ho43
    · intro k hk
      rcases hf43 k hk with h | h
      · exact hfx k h
      · have := m41.size; omega
    · rw [seenL_snoc _ _ _ hixc, hc]
      have hT31 := (hTr.setCol hcm (LabEq.refl _ _) (fun _ h => h) hm31 hC31).ext (T' := takeC S.tabs[n] r (seenL (compsM S.masks n) seen ++ [c])) rfl (fun d hd => by
        show (if d ∈ seenL (compsM S.masks n) seen ++ [c] then _ else _) = updC _ c _ d
        by_cases hdc : d = c
        · subst hdc
          rw [updC_same, if_pos (by simp)]
        · rw [updC_ne _ hdc]
          simp [takeC, hdc])
      have hP31 := hPr2.setTab hn' (LabEq.refl _ _) (hm31.mono fun k _ hk => FP.mono (fun t ht => .inr (.inr (.inr ⟨c, ht⟩))) hk) hT31
      have := (hP31.same m41).frame hm43 (fun k t e ek => by rw [ho0n k (by have := hfx k ek; omega)] at e; cases e) (LabEq.refl _ _)
      simpa using this
    · have y1 : Mod (fun i => (FP o0 (colsTag n) i ∨ i = wa.heap.size) ∨ w21.heap.size ≤ i) wr w2' := hm2'.mono fun k _ e => .inl (.inr e)
      have y2 : Mod (fun i => (FP o0 (colsTag n) i ∨ i = wa.heap.size) ∨ w21.heap.size ≤ i) w2' w31 := hm31.mono fun k _ hk => .inl (.inl (FP.mono (fun t ht => ⟨c, ht⟩) hk))
      have y3 : Mod (fun i => (FP o0 (colsTag n) i ∨ i = wa.heap.size) ∨ w21.heap.size ≤ i) w41 w43 := hm43.mono fun k _ e => .inr (by have := hfx k e; omega)
      exact hmr.trans' (y1.trans (y2.trans ((Mod.of_same m41).trans y3)))
end Go.Proofs.YtlkpadfkmdgjcaaGreatDoor
end
section
set_option linter.unusedSimpArgs false
set_option linter.unusedVariables false
namespace Go.Proofs.YtlkpadfkmdgjcaaGreatDoor
open Go Go.Ev
set_option linter.unusedVariables false
set_option linter.unusedSimpArgs false
set_option maxRecDepth 100000
attribute [local irreducible] kO kB kStr kInt kN kG kIf kfld kld kldN kst knew kmap kbld kbldS kext kcnv klenStr klen kcap kprt kprtN kbool kint kstr keq kun ksl kix kiv kta kmk kmm ksem ksemU kextf kcallV kcallM kcall kL

/-! ### Parts, turned by a function value -/
theorem kcallC_of {P : Program} {f : FuncId} {args : List Value} {caps : Array Value} {w : World} {K Q : Value → World → Prop} (h : Meets P f (args.toArray ++ caps) w Q) (hk : ∀ v w', Q v w' → K v w') : kcallV P (.func (.func f) #[] caps) args w K := by
  have : Meets P f (#[] ++ args.toArray ++ caps) w K := by simpa using h.mono hk
  unfold kcallV
  exact this
theorem zPartA : zeroO Tryz.prog 49 = some (.agg #[.int .i64 0, .int .i64 0, .int .i64 0, .int .i64 0, .int .i64 0, .int .i64 0]) := by kernel_rfl
theorem elPart : Tryz.prog.underlying 40 = some (.slice 49) := by kernel_rfl
theorem ksem_clear1 {w : World} {ty : TypeId} {K : Value → World → Prop} {b o cp : Nat} {arr : Array Value} {tt : TypeId} (hb : blk w b = some (.cells arr tt)) (hle : o + 6 ≤ arr.size)
    (h : ∀ w2, Mod (fun k => k = b) w w2 → w2.heap.size = w.heap.size → blk w2 b = some (.cells (setAll (Part.cells ⟨0, 0, 0, 0, 0, 0⟩) arr o) tt) → K (.tuple #[]) w2) :
    ksem Tryz.prog (Builtin.clear_ #[40] ty #[.slice (some ⟨b, o, none⟩) 1 cp]) w K := by
  have hz : ∀ w, (zeroValue 49).run Tryz.prog w = .ok (.agg #[.int .i64 0, .int .i64 0, .int .i64 0, .int .i64 0, .int .i64 0, .int .i64 0]) w := fun w => run_zero' zPartA
  have hst := run_storeCells_cells (P := Tryz.prog) b o (Part.cells ⟨0, 0, 0, 0, 0, 0⟩) 0 w
    (fun j hj => by
      have : j < 6 := hj
      rw [Nat.add_zero, cell_mk, hb, cellO_some]; simp; omega)
    (fun j hj => by simp [World.frozen?, show w.heap[b]? = _ from hb]) (by intro v hv; simp [Part.cells] at hv; rcases hv with rfl | rfl | rfl | rfl | rfl | rfl <;> rfl)
  have hr : (Builtin.clear_ #[40] ty #[.slice (some ⟨b, o, none⟩) 1 cp]).run Tryz.prog w = .ok (.tuple #[]) (w.setCells b o (Part.cells ⟨0, 0, 0, 0, 0, 0⟩)) := by
    have hzc : (Builtin.zeroCells #[.int .i64 0, .int .i64 0, .int .i64 0, .int .i64 0, .int .i64 0, .int .i64 0] 1).toList = Part.cells ⟨0, 0, 0, 0, 0, 0⟩ := by kernel_rfl
    simp only [Nat.add_zero] at hst
    simp only [Builtin.clear_]
    simp [run_underlying elPart, hz, hzc, hst, Result.andThen]
  rw [ksem_ok hr, setCells_blk _ _ _ _ hb]
  exact h _ ((Mod.refl _ _).setBlk _ (.inl rfl)) (setBlk_size _ _ _) (by rw [setBlk_heap, if_pos rfl, hb]; rfl)
theorem isComp_spec (q : Part) {w : World} {bc : Nat} {c : Int} (hb : blk w bc = some (.cells #[.int .i64 c] 3)) : Meets Tryz.prog 95 #[.agg q.cells.toArray, .pointer (some ⟨bc, 0, none⟩)] w fun v w' => v = .bool (decide (q.comp = c)) ∧ Same w w' := by
  refine f95_ok ?_
  unfold f95
  refine knew_of fun w2 hm2 hs2 hb2 => ?_
  have hb2 : blk w2 w.heap.size = some (.cells q.cells.toArray 49) := hb2
  have hbc := hm2.get hb (fun h => h)
  refine kfld_of ?_
  refine kld_of (v := .int .i64 q.comp) hb2 (by simp [Part.cells]) ?_
  repeat (first | refine kN_at ?_ | refine kB_at ?_ | refine kfld_of ?_ | refine kext_at rfl ?_ | refine kld_at hbc rfl ?_ | refine kldN_at hbc rfl (by omega) ?_ | refine kG_of (by first | exact rfl | omega) ?_ | refine klen_at ?_ | refine eql_at ?_ | refine neq_at ?_ | refine lss_at ?_ | refine leq_at ?_ | refine gtr_at ?_ | refine geq_at ?_ | refine add_at (by omega) (by omega) ?_ | refine sub_at (by omega) (by omega) ?_ | refine not_at ?_ | refine kO_at ?_ | refine kprt_at rfl ?_ | refine kprtN_at rfl ?_ | refine kcap_at ?_ | refine klenStr_at ?_ | refine kN_iat ?_ | refine kN_fat ?_ | refine kIf_T (by first | exact rfl | exact decT (by omega) | exact notT (decF (by omega))) ?_ | refine kIf_F (by first | exact rfl | exact decF (by omega) | exact notF (decT (by omega))) ?_)
  exact ⟨rfl, hm2⟩
theorem indexP_spec {w : World} {a : Option Addr} {L : List Part} {cp : Nat} (hs : SlIs w a L.length 6 (L.flatMap Part.cells)) {bc : Nat} {c : Int} (hb : blk w bc = some (.cells #[.int .i64 c] 3)) {k : Nat} (hk : k < L.length) (hkc : (L[k]).comp = c) (hbef : ∀ j (hj : j < L.length), j < k → (L[j]).comp ≠ c) (hlen : L.length ≤ 1000000) :
    Meets Tryz.prog 150 #[.slice a L.length cp, .func (.func 95) #[] #[.pointer (some ⟨bc, 0, none⟩)]] w fun v w' => v = .int .i64 k ∧ Same w w' := by
  refine f150_ok ?_
  unfold f150
  refine klen_at ?_
  refine kL1_of L.length (fun j x wr => x = .int .i64 j ∧ j ≤ k ∧ Same w wr) ⟨lI1_0 ⟨rfl, by omega, Mod.refl _ _⟩, fun x wr hx => ?_⟩
  obtain ⟨j, hj, ⟨rfl, hjk, hm⟩, hJ⟩ := lI1_step hx
  unfold f150_0
  refine lss_at ?_
  refine kB_at ?_
  refine kIf_dec (fun hlt => ?_) (fun hge => ?_)
  · have hlt : j < L.length := by omega
    unfold f150_1
    refine kixldN_of (F := Part.cells) (sz := 6) (fun _ => rfl) (by omega) (hs.same hm) hlt rfl ?_
    refine kcallC_of (isComp_spec L[j] (hm.get hb (fun h => h))) ?_
    rintro v w7 ⟨rfl, h7⟩
    by_cases hjk' : j = k
    · subst hjk'
      rw [hkc]
      rw [decT rfl]
      refine kB_at ?_
      refine kIf_T rfl ?_
      exact ⟨rfl, hm.trans h7⟩
    · rw [decF (hbef j hlt (by omega))]
      refine kB_at ?_
      refine kIf_F rfl ?_
      unfold f150_2
      repeat (first | refine kN_at ?_ | refine kB_at ?_ | refine kfld_of ?_ | refine kext_at rfl ?_ | refine kG_of (by first | exact rfl | omega) ?_ | refine klen_at ?_ | refine eql_at ?_ | refine neq_at ?_ | refine lss_at ?_ | refine leq_at ?_ | refine gtr_at ?_ | refine geq_at ?_ | refine add_at (by omega) (by omega) ?_ | refine sub_at (by omega) (by omega) ?_ | refine not_at ?_ | refine kO_at ?_ | refine kprt_at rfl ?_ | refine kprtN_at rfl ?_ | refine kcap_at ?_ | refine klenStr_at ?_ | refine kN_iat ?_ | refine kN_fat ?_ | refine kIf_T (by first | exact rfl | exact decT (by omega) | exact notT (decF (by omega))) ?_ | refine kIf_F (by first | exact rfl | exact decF (by omega) | exact notF (decT (by omega))) ?_)
      rw [cast_succ]
      exact hJ _ _ hlt ⟨rfl, by omega, hm.trans h7⟩
  · omega
/-- A list from which an element goes: those behind it move up, one by one. -/
def Moved (L M : List Part) (k t : Nat) : Prop := M.length = L.length ∧ ∀ x, M[x]? = if x < k ∨ k + t ≤ x then L[x]? else L[x + 1]?
theorem Moved.zero (L : List Part) (k : Nat) : Moved L L k 0 := ⟨rfl, fun x => by rw [if_pos (by omega)]⟩
theorem Moved.step {L M : List Part} {k t : Nat} (h : Moved L M k t) (hk : k + t + 1 < L.length) : Moved L (M.set (k + t) L[k + t + 1]) k (t + 1) := by
  obtain ⟨h1, h2⟩ := h
  refine ⟨by simpa using h1, fun x => ?_⟩
  rw [List.getElem?_set]
  by_cases hx : k + t = x
  · subst hx
    rw [if_pos rfl, if_pos (by omega), if_neg (by omega), List.getElem?_eq_getElem hk]
  · rw [if_neg hx, h2 x]
    by_cases h3 : x < k ∨ k + t ≤ x
    · rw [if_pos h3, if_pos (by omega)]
    · rw [if_neg h3, if_neg (by omega)]
theorem Moved.done {L M : List Part} {k t : Nat} (h : Moved L M k t) (hk : k + t + 1 = L.length) : M.take (L.length - 1) = L.eraseIdx k := by
  obtain ⟨h1, h2⟩ := h
  apply List.ext_getElem?
  intro x
  rw [List.getElem?_take, List.getElem?_eraseIdx, h2 x]
  by_cases hx : x < L.length - 1
  · rw [if_pos hx]
    by_cases h3 : x < k
    · rw [if_pos (.inl h3), if_pos h3]
    · rw [if_neg (by omega), if_neg h3]
  · rw [if_neg hx]
    by_cases h3 : x < k
    · omega
    · rw [if_neg h3]
      symm
      simp; omega
theorem deleteP_spec {w : World} {v : Value} {L : List Part} (hO : Own w v 6 (L.flatMap Part.cells)) {bc : Nat} {c : Int} (hb : blk w bc = some (.cells #[.int .i64 c] 3)) (hvb : ¬ vblk v bc) {k : Nat} (hk : k < L.length) (hkc : (L[k]).comp = c) (hone : ∀ j (hj : j < L.length), j ≠ k → (L[j]).comp ≠ c) (hlen : L.length ≤ 1000000) :
    Meets Tryz.prog 94 #[v, .func (.func 95) #[] #[.pointer (some ⟨bc, 0, none⟩)]] w fun v' w' => Own w' v' 6 ((L.eraseIdx k).flatMap Part.cells) ∧ Mod (vblk v) w w' ∧ ∀ b, vblk v' b → vblk v b := by
  obtain ⟨bv, cp, arr, t, rfl, hbv, s1, s2, s3⟩ := hO.viewF (F := Part.cells) (sz := 6) (fun _ => rfl) (by omega) (show 0 < L.length by omega)
  obtain ⟨sa, sn, sc, e, hsl, _⟩ := hO.is
  cases e
  have nvc : bc ≠ bv := fun e => hvb (by subst e; exact ⟨0, _, _, rfl⟩)
  have hmv : ∀ {w1 w2 : World}, Mod (fun k => k = bv) w1 w2 → Mod (vblk (.slice (some ⟨bv, 0, none⟩) L.length cp)) w1 w2 := fun h => h.mono fun k _ e => by subst e; exact ⟨0, _, _, rfl⟩
  refine f94_ok ?_
  unfold f94
  refine kcall_of (indexP_spec hsl hb hk hkc (fun j hj hjk => hone j hj (by omega)) hlen) ?_
  rintro v w2 ⟨rfl, h2⟩
  rw [show IntKind.i64 = IntKind.i64 from rfl]
  refine eql_at ?_
  rw [decF (by omega)]
  refine kB_at ?_
  refine kIf_F rfl ?_
  unfold f94_0
  repeat (first | refine kN_at ?_ | refine kB_at ?_ | refine kfld_of ?_ | refine kext_at rfl ?_ | refine kG_of (by first | exact rfl | omega) ?_ | refine klen_at ?_ | refine eql_at ?_ | refine neq_at ?_ | refine lss_at ?_ | refine leq_at ?_ | refine gtr_at ?_ | refine geq_at ?_ | refine add_at (by omega) (by omega) ?_ | refine sub_at (by omega) (by omega) ?_ | refine not_at ?_ | refine kO_at ?_ | refine kprt_at rfl ?_ | refine kprtN_at rfl ?_ | refine kcap_at ?_ | refine klenStr_at ?_ | refine kN_iat ?_ | refine kN_fat ?_ | refine kIf_T (by first | exact rfl | exact decT (by omega) | exact notT (decF (by omega))) ?_ | refine kIf_F (by first | exact rfl | exact decF (by omega) | exact notF (decT (by omega))) ?_)
  rw [cast_succ]
  refine kL2_of (L.length - 1 - k) (fun t x y wr => x = .int .i64 ((k + t : Nat) : Int) ∧ y = .int .i64 ((k + t + 1 : Nat) : Int) ∧ k + t + 1 ≤ L.length ∧ ∃ M, Moved L M k t ∧ Own wr (.slice (some ⟨bv, 0, none⟩) L.length cp) 6 (M.flatMap Part.cells) ∧ Mod (fun k => k = bv) w wr) ⟨lI2_0 ⟨rfl, rfl, by omega, L, Moved.zero L k, hO.same h2, Mod.of_same h2⟩, fun x y wr hx => ?_⟩
  obtain ⟨u, hu, ⟨rfl, rfl, hle, M, hM, hOM, hm⟩, hJ⟩ := lI2_step hx
  have hbr := hm.get hb nvc
  obtain ⟨hMl, hMx⟩ := id hM
  obtain ⟨bv', cp', arr', t', e', hbv', s1', s2', s3'⟩ := hOM.viewF (F := Part.cells) (sz := 6) (fun _ => rfl) (by omega) (show 0 < M.length by omega)
  rw [hMl] at e' s1' s2'
  cases e'
  unfold f94_1
  refine klen_at ?_
  refine lss_at ?_
  refine kB_at ?_
  refine kIf_dec (fun hlt => ?_) (fun hge => ?_)
  · have hlt : k + u + 1 < L.length := by omega
    have hMj : M[k + u + 1]'(by omega) = L[k + u + 1] := by
      have := hMx (k + u + 1)
      rw [if_pos (by omega), List.getElem?_eq_getElem (by omega), List.getElem?_eq_getElem hlt] at this
      exact Option.some.inj this
    have hsj := s3' (k + u + 1) (by omega)
    rw [hMj] at hsj
    have hqc := hone (k + u + 1) hlt (by omega)
    have hstep := hM.step hlt
    generalize hq : L[k + u + 1] = q at *
    unfold f94_2
    rw [kix_slice]
    refine kG_of (by omega) ?_
    rw [add_mk, Nat.zero_add, Int.toNat_natCast]
    refine kldN_at hbv' hsj (by omega) ?_
    refine knew_of fun w11 h11 hs11 hb11 => ?_
    refine kst_of (vs := q.cells) hb11 rfl rfl rfl (by simp) (by simp [Part.cells]) fun w12 h12 hs12 hb12 => ?_
    have hb12 : blk w12 wr.heap.size = some (.cells q.cells.toArray 49) := hb12
    have m12 : Same wr w12 := h11.trans' (h12.mono fun k _ e => .inr (by omega))
    repeat (first | refine kN_at ?_ | refine kB_at ?_ | refine kfld_of ?_ | refine kext_at rfl ?_ | refine kld_at hb12 rfl ?_ | refine kldN_at hb12 rfl (by omega) ?_ | refine kG_of (by first | exact rfl | omega) ?_ | refine klen_at ?_ | refine eql_at ?_ | refine neq_at ?_ | refine lss_at ?_ | refine leq_at ?_ | refine gtr_at ?_ | refine geq_at ?_ | refine add_at (by omega) (by omega) ?_ | refine sub_at (by omega) (by omega) ?_ | refine not_at ?_ | refine kO_at ?_ | refine kprt_at rfl ?_ | refine kprtN_at rfl ?_ | refine kcap_at ?_ | refine klenStr_at ?_ | refine kN_iat ?_ | refine kN_fat ?_ | refine kIf_T (by first | exact rfl | exact decT (by omega) | exact notT (decF (by omega))) ?_ | refine kIf_F (by first | exact rfl | exact decF (by omega) | exact notF (decT (by omega))) ?_)
    refine kcallC_of (isComp_spec q (m12.get hbr (fun h => h))) ?_
    rintro v w15 ⟨rfl, h15⟩
    rw [decF hqc]
    refine not_at ?_
    refine kB_at ?_
    refine kIf_T rfl ?_
    have hb15 := h15.get hb12 (fun h => h)
    have m15 := m12.trans h15
    have hbv15 := m15.get hbv' (fun h => h)
    repeat (first | refine kN_at ?_ | refine kB_at ?_ | refine kfld_of ?_ | refine kext_at rfl ?_ | refine kld_at hb15 rfl ?_ | refine kldN_at hb15 rfl (by omega) ?_ | refine kG_of (by first | exact rfl | omega) ?_ | refine klen_at ?_ | refine eql_at ?_ | refine neq_at ?_ | refine lss_at ?_ | refine leq_at ?_ | refine gtr_at ?_ | refine geq_at ?_ | refine add_at (by omega) (by omega) ?_ | refine sub_at (by omega) (by omega) ?_ | refine not_at ?_ | refine kO_at ?_ | refine kprt_at rfl ?_ | refine kprtN_at rfl ?_ | refine kcap_at ?_ | refine klenStr_at ?_ | refine kN_iat ?_ | refine kN_fat ?_ | refine kIf_T (by first | exact rfl | exact decT (by omega) | exact notT (decF (by omega))) ?_ | refine kIf_F (by first | exact rfl | exact decF (by omega) | exact notF (decT (by omega))) ?_)
    rw [kix_slice]
    refine kG_of (by omega) ?_
    rw [add_mk, Nat.zero_add, Int.toNat_natCast]
    have hsg := (segL_spec _ _ _ _ (s3' (k + u) (by omega))).1
    rw [Array.length_toList] at hsg
    refine kst_of (vs := q.cells) hbv15 rfl rfl rfl hsg (by simp [Part.cells]) fun w19 h19 hs19 hb19 => ?_
    repeat (first | refine kN_at ?_ | refine kB_at ?_ | refine kfld_of ?_ | refine kext_at rfl ?_ | refine kG_of (by first | exact rfl | omega) ?_ | refine klen_at ?_ | refine eql_at ?_ | refine neq_at ?_ | refine lss_at ?_ | refine leq_at ?_ | refine gtr_at ?_ | refine geq_at ?_ | refine add_at (by omega) (by omega) ?_ | refine sub_at (by omega) (by omega) ?_ | refine not_at ?_ | refine kO_at ?_ | refine kprt_at rfl ?_ | refine kprtN_at rfl ?_ | refine kcap_at ?_ | refine klenStr_at ?_ | refine kN_iat ?_ | refine kN_fat ?_ | refine kIf_T (by first | exact rfl | exact decT (by omega) | exact notT (decF (by omega))) ?_ | refine kIf_F (by first | exact rfl | exact decF (by omega) | exact notF (decT (by omega))) ?_)
    rw [cast_succ, cast_succ]
    refine hJ _ _ _ (by omega) ⟨by rw [Nat.add_assoc], by congr 1, by omega, _, hstep, ?_, hm.trans ((Mod.of_same m15).trans h19)⟩
    exact Own.setF (F := Part.cells) (fun _ => rfl) hOM hbv' (x := q) (i := k + u) hb19 (by omega)
  · have hge : k + u + 1 = L.length := by omega
    unfold f94_4
    refine ksl_sl_lo (by omega) s1 (by omega) ?_
    rw [show L.length - (k + u) = 1 by omega, Nat.zero_add]
    have hsg := (segL_spec _ _ _ _ (s3' (k + u) (by omega))).1
    rw [Array.length_toList] at hsg
    refine ksem_clear1 hbv' hsg fun w25 h25 hs25 hb25 => ?_
    refine ksl_sl_hi (by omega) ?_
    refine ⟨?_, hmv (hm.trans h25), ?_⟩
    · have g1 := Own.setF (F := Part.cells) (fun _ => rfl) hOM hbv' (x := ⟨0, 0, 0, 0, 0, 0⟩) (i := k + u) hb25 (by omega)
      have g2 := g1.cutN (k := k + u) (by omega)
      rw [← flat_take (F := Part.cells) (fun _ => rfl), List.take_set_of_le (by omega)] at g2
      have e := hM.done hge
      rw [show L.length - 1 = k + u by omega] at e
      rw [e] at g2
      exact g2
    · rintro b ⟨_, _, _, e⟩; cases e; exact ⟨_, _, _, rfl⟩
end Go.Proofs.YtlkpadfkmdgjcaaGreatDoor
end
