/-
Lemmas for the statements of this seat: no statement of the seat is proved in this part (7 of 7); the conditions stand in each theorem.
-/
import Derived.Test.YtmdcoaljjnbhlaaGreatDoorMsam6
import Derived.Test.YtmdcoaljjnbhlaaGreatDoorChecked
set_option linter.unusedSimpArgs false
set_option linter.unusedVariables false
set_option maxRecDepth 100000
namespace Go.Proofs.YtmdcoaljjnbhlaaGreatDoor
open Go Go.Ev
section
attribute [local irreducible] kO kB kStr kInt kN kG kIf kfld kld kldN kst knew kmap kbld kbldS kext kcnv klenStr klen kcap kprt kprtN kbool kint kstr keq kun ksl kix kiv kta kmk kmm ksem ksemU kextf kcallV kcallM kcall kL
theorem ptHost : isPtrT Tryz.prog 29 = true := by kernel_rfl
theorem BsAt.mod {lo : Nat} {fp : Nat → Prop} {w w' : World} {x : Value} {bl : List BeV} (h : BsAt lo w x bl) (m : Mod fp w w') (hx : ∀ k, vblk x k → ¬ fp k) (hp : ∀ b ∈ bl, ∀ k, vblk b.pv k → ¬ fp k) : BsAt lo w' x bl :=
 ⟨h.own.mod m hx, fun b hb => (h.parts b hb).mod m (hp b hb), h.xlo, h.plo, h.ne, h.apart⟩
theorem BsAt.read {lo : Nat} {w : World} {x : Value} {bl : List BeV} (h : BsAt lo w x bl) : ∃ a c, x = .slice a bl.length c ∧ SlIs w a bl.length 2 (bl.flatMap BeV.cells) := by
 obtain ⟨a, n, c, rfl, hs, _⟩ := h.own.is
 have := hs.1
 rw [flat_len BeV.cells 2 (fun _ => rfl)] at this
 obtain rfl : n = bl.length := by omega
 exact ⟨a, c, rfl, hs⟩
theorem BeV.read {w : World} {b : BeV} (h : Own w b.pv 6 (b.parts.flatMap Part.cells)) : SlIs w b.pa b.parts.length 6 (b.parts.flatMap Part.cells) := by
 obtain ⟨a, n, c, e, hs, _⟩ := h.is
 unfold BeV.pv at e
 cases e
 exact hs
section
variable {w : World} {p : Nat → Prop} {Sa : Nat → Addr}
theorem fuel0_le (fuel : Int) : fuel0 fuel ≤ 4096 := by unfold fuel0; omega
end
end
end Go.Proofs.YtmdcoaljjnbhlaaGreatDoor
namespace Go.Proofs.YtmdcoaljjnbhlaaGreatDoor
open Go Go.Ev Go.RowKit Go.ChangeShapes Go.WideShapes Go.ChangeAt
section
namespace ST
theorem cU8 : Tryz.prog.cellsOf 5 = 1 := by kernel_rfl
theorem cMask : Tryz.prog.cellsOf 98 = 1 := by kernel_rfl
theorem gDe : Tryz.prog.globalNamed "math/bits.deBruijn32tab" = some 19 := by kernel_rfl
theorem tDe : (Tryz.prog.globals[19]?).map (·.type) = some 357 := by kernel_rfl
theorem cDe : Tryz.prog.cellsOf 357 = 32 := by kernel_rfl
theorem deTab_lits : Rows.laid_math_bits_deBruijn32tab (H := Unit) = .agg (deTab.map fun n : Nat => .lit (.int .u8 (n : Int))) := by rfl
theorem deAt_of {W : World} (h : ∃ g t cs f p, Tryz.prog.globalNamed "math/bits.deBruijn32tab" = some g ∧ (Tryz.prog.globals[g]?).map (·.type) = some t ∧ W.var? Tryz.prog "math/bits.deBruijn32tab" = some cs ∧ DataW.trod (fun _ => ()) Tryz.prog W 0 (fun _ => true) false f t cs.toList = some (Rows.laid_math_bits_deBruijn32tab, p)) : DeAt W := by
 obtain ⟨g0, t0, cs0, f0, p0, hg0, ht0, hv0, hd0⟩ := h
 obtain rfl := Option.some.inj (gDe.symm.trans hg0)
 obtain rfl := Option.some.inj (tDe.symm.trans ht0)
 obtain ⟨xs, m, _, hx, hl, hxl, hel⟩ := DataW.trod_array Tryz.underlying357 hd0
 rw [cDe] at hl
 rw [deTab_lits] at hx
 simp only [Prod.mk.injEq, DataW.agg.injEq] at hx
 obtain ⟨t, f, hb⟩ := blk_of_var gDe hv0
 refine ⟨t, f, ?_⟩
 rw [hb]
 congr 2
 apply Array.ext'
 apply List.ext_getElem?
 intro i
 simp only [List.getElem?_map]
 by_cases hi : i < 32
 ·have h1 := hel i hi
  rw [cU8, Nat.mul_one, List.getElem?_eq_getElem (show i < xs.length by omega)] at h1
  obtain ⟨n, e1, e2, _⟩ := DataW.trod_int Tryz.underlying5 h1
  have h2 := congrArg (fun l : List (DataW Unit) => l[i]?) hx.1
  simp only [List.getElem?_map, List.getElem?_eq_getElem (show i < xs.length by omega), Option.map_some] at h2
  have hdl : i < deTab.length := hi
  rw [List.getElem?_eq_getElem hdl, Option.map_some] at h2 ⊢
  rw [e2] at h2
  simp only [Option.some.injEq, DataW.lit.injEq, Lit.int.injEq] at h2
  have h3 : cs0.toList[i]? = some (.int .u8 n) := by
   have := congrArg (fun l : List Value => l[0]?) e1
   simpa [List.getElem?_take, List.getElem?_drop] using this
  rw [h3, ← h2.2]
 ·rw [List.getElem?_eq_none (by omega), List.getElem?_eq_none (show deTab.length ≤ i by show 32 ≤ i; omega)]; rfl
def rowD (r : OpRow) : DataW Unit := .agg [.lit (.string r.1), .lit (.int .i64 r.2.1), .lit (.int .i64 r.2.2.1), .lit (.int .i64 r.2.2.2)]
theorem rows_lits : Rows.laid_pasodoble_code_rows (H := Unit) = .agg (opRows.map rowD) := by rfl
theorem cRow : Tryz.prog.cellsOf 178 = 4 := by kernel_rfl
theorem gRows : Tryz.prog.globalNamed "pasodoble/code.rows" = some 10 := by kernel_rfl
theorem tRows : (Tryz.prog.globals[10]?).map (·.type) = some 261 := by kernel_rfl
theorem cRows : Tryz.prog.cellsOf 261 = 144 := by kernel_rfl
theorem tx_of (s : ByteArray) : tx s.data.toList = s := by
 unfold tx; cases s; simp
theorem row_cells {W : World} {f : Nat} {cs : List Value} {r : OpRow} {p : List MemPlace} (h : DataW.trod (fun _ => ()) Tryz.prog W 0 (fun _ => true) false f 178 cs = some (rowD r, p)) : cs = rowC r := by
 obtain ⟨xs, m, _, hx, hl, hxl, hel⟩ := DataW.trod_struct Tryz.underlying178 h
 rw [cRow] at hl
 match cs, hl with
 | [a, b, c, d], _ =>
  have e0 := hel 0 _ rfl
  have e1 := hel 1 _ rfl
  have e2 := hel 2 _ rfl
  have e3 := hel 3 _ rfl
  simp only [List.getElem_toArray, List.getElem_cons_zero, List.getElem_cons_succ, cStr, c3] at e0 e1 e2 e3
  have hxl4 : xs.length = 4 := hxl
  match xs, hxl4 with
  | [x0, x1, x2, x3], _ =>
   obtain ⟨s, f0, g0, _⟩ := DataW.trod_string Tryz.underlying9 e0
   obtain ⟨i, f1, g1, _⟩ := DataW.trod_int Tryz.underlying3 e1
   obtain ⟨j, f2, g2, _⟩ := DataW.trod_int Tryz.underlying3 e2
   obtain ⟨k, f3, g3, _⟩ := DataW.trod_int Tryz.underlying3 e3
   simp at f0 f1 f2 f3
   subst g0 g1 g2 g3 f0 f1 f2 f3
   simp only [rowD, List.map_cons, List.map_nil, Prod.mk.injEq, DataW.agg.injEq, List.cons.injEq, DataW.lit.injEq, Lit.string.injEq, Lit.int.injEq, true_and, and_true] at hx
   obtain ⟨⟨h0, h1, h2, h3⟩, _⟩ := hx
   simp only [rowC, h0, h1, h2, h3, tx_of]
theorem rowsAt_of {W : World} (h : ∃ g t cs f p, Tryz.prog.globalNamed "pasodoble/code.rows" = some g ∧ (Tryz.prog.globals[g]?).map (·.type) = some t ∧ W.var? Tryz.prog "pasodoble/code.rows" = some cs ∧ DataW.trod (fun _ => ()) Tryz.prog W 0 (fun _ => true) false f t cs.toList = some (Rows.laid_pasodoble_code_rows, p)) : RowsAt W := by
 obtain ⟨g0, t0, cs0, f0, p0, hg0, ht0, hv0, hd0⟩ := h
 obtain rfl := Option.some.inj (gRows.symm.trans hg0)
 obtain rfl := Option.some.inj (tRows.symm.trans ht0)
 obtain ⟨xs, m, _, hx, hl, hxl, hel⟩ := DataW.trod_array Tryz.underlying261 hd0
 rw [cRows] at hl
 rw [rows_lits] at hx
 simp only [Prod.mk.injEq, DataW.agg.injEq] at hx
 obtain ⟨t, f, hb⟩ := blk_of_var gRows hv0
 refine ⟨t, f, ?_⟩
 rw [hb]
 congr 2
 apply Array.ext'
 show cs0.toList = opRows.flatMap rowC
 have hgr : ∀ i (hi : i < 36), (cs0.toList.drop (i * 4)).take 4 = rowC (opRows[i]'hi) := by
  intro i hi
  have h1 := hel i hi
  rw [cRow, List.getElem?_eq_getElem (show i < xs.length by omega)] at h1
  have h2 := congrArg (fun l : List (DataW Unit) => l[i]?) hx.1
  simp only [List.getElem?_map, List.getElem?_eq_getElem (show i < xs.length by omega), List.getElem?_eq_getElem (show i < opRows.length from hi), Option.map_some, Option.some.injEq] at h2
  exact row_cells (W := W) (p := (xs[i]'(by omega)).2) (f := m) (h1.trans (congrArg some (Prod.ext h2.symm rfl)))
 have hfl : (opRows.flatMap rowC).length = 144 := flat_len rowC 4 (fun _ => rfl) opRows
 apply List.ext_getElem?
 intro j
 by_cases hj : j < 144
 ·have hq : j / 4 < 36 := by omega
  have e1 := congrArg (fun l : List Value => l[j % 4]?) (hgr (j / 4) hq)
  have e2 := flat_cell (F := rowC) (sz := 4) (fun _ => rfl) (l := opRows) (i := j / 4) (j := j % 4) hq (by omega)
  simp only [List.getElem?_take_of_lt (show j % 4 < 4 by omega), List.getElem?_drop] at e1
  rw [show j / 4 * 4 + j % 4 = j by omega] at e1 e2
  rw [e1, e2]
 ·rw [List.getElem?_eq_none (by omega), List.getElem?_eq_none (by omega)]
def ks : List Nat := [1, 2, 4, 6, 7, 8, 9, 10, 12, 13, 14, 15, 17]
theorem ks_at (k : Nat) (h : k ∈ ks) : Tryz.prog.globalNamed (errG k) = some (gErr k) ∧ (Tryz.prog.globals[gErr k]?).map (·.type) = some 41 := by
 simp only [ks, List.mem_cons, List.not_mem_nil, or_false] at h
 rcases h with rfl | rfl | rfl | rfl | rfl | rfl | rfl | rfl | rfl | rfl | rfl | rfl | rfl <;> exact ⟨by kernel_rfl, by kernel_rfl⟩
theorem laid_of {W : World} (h : laidMetH Tryz.prog Rows.millNobodyRow.laid W) : (∃ S, Tld (· ∈ ks) S W) ∧ DeAt W := by
 obtain ⟨S, hS⟩ := laidP_ofG ks ((Rows.millNobodyRow.laid.filter isSent).map sentOf) (by kernel_rfl) (by rfl) (by rfl) ks_at (by decide) h
 exact ⟨⟨S, hS, rowsAt_of (laidD_of (by kernel_rfl) (fun x => x.1 == "pasodoble/code.rows") _ _ (by rfl) h), by decide, by decide, by decide, by decide⟩,
  deAt_of (laidD_of (by kernel_rfl) (fun x => x.1 == "math/bits.deBruijn32tab") _ _ (by rfl) h)⟩
theorem i64_of {n : Int} (h : (Lit.int .i64 n).wf = true) : I64 n := i64_wf h
theorem cIn : Tryz.prog.cellsOf 24 = 2 := by kernel_rfl
theorem cBool : Tryz.prog.cellsOf 4 = 1 := by kernel_rfl
theorem cMks : Tryz.prog.cellsOf 22 = 1 := by kernel_rfl
theorem cLay : Tryz.prog.cellsOf 26 = 7 := by kernel_rfl
theorem cInstr : Tryz.prog.cellsOf 88 = 3 := by kernel_rfl
theorem flat_msk : ∀ l : List Nat, l.flatMap (fun m : Nat => [msk m]) = l.map msk
 | [] => rfl
 | m :: l => by rw [List.flatMap_cons, flat_msk l]; rfl
theorem lay_of {w : World} {n : Nat} {cs : List Value} (h : Rd Tryz.prog w (n + 3) 26 cs) : ∃ (a : Option Addr) (M : List Nat) (c : Nat) (i0 i1 who seed : Int) (wd og : Bool), layC a M.length c i0 i1 who seed wd og = cs ∧ (∀ m ∈ M, m < 4294967296) ∧ SlIs w a M.length 1 (M.map msk) ∧ I64 i0 ∧ I64 i1 ∧ I64 who := by
 obtain ⟨hl, hf⟩ := rd_struct Tryz.underlying26 h
 rw [cLay] at hl
 match cs, hl with
 | [a0, a1, a2, a3, a4, a5, a6], _ =>
  simp only [RdF] at hf
  obtain ⟨h0, h1, h2, h3, h4, h5, _⟩ := hf
  simp only [c3, cIn, cBool, cMks] at h0 h1 h2 h3 h4 h5
  obtain ⟨ta, M, c, e0, hM, _, _, hs⟩ := slIs_of_rd (F := fun m : Nat => [msk m]) (sz := 1) (ok := fun m => m < 4294967296) (fun _ => rfl) (by omega) Tryz.underlying22 cMask (fun ec h => by
   obtain ⟨i, e, g⟩ := rd_int Tryz.underlying98 h
   obtain ⟨u0, u1⟩ := u32_wf g
   exact ⟨i.toNat, by omega, by rw [e, msk, Int.toNat_of_nonneg u0]⟩) h0
  obtain ⟨_, h1⟩ := rd_array Tryz.underlying24 h1
  simp only [c3] at h1
  obtain ⟨i0, e1, g1⟩ := rd_int Tryz.underlying3 (h1 0 (by decide))
  obtain ⟨i1, e2, g2⟩ := rd_int Tryz.underlying3 (h1 1 (by decide))
  obtain ⟨who, e3, g3⟩ := rd_int Tryz.underlying3 h2
  obtain ⟨seed, e4, _⟩ := rd_int Tryz.underlying3 h3
  obtain ⟨wd, e5⟩ := rd_bool Tryz.underlying4 h4
  obtain ⟨og, e6⟩ := rd_bool Tryz.underlying4 h5
  simp at e0 e1 e2 e3 e4 e5 e6
  subst e0 e1 e2 e3 e4 e5 e6
  exact ⟨ta, M, c, i0, i1, who, seed, wd, og, rfl, hM, by rw [← flat_msk]; exact hs, i64_of g1, i64_of g2, i64_of g3⟩
theorem agg_of {v : Value} {cs1 : Array Value} {l : List Value} (h : v = .agg cs1) (h2 : l = v.cells.toList) : v = .agg l.toArray := by
 subst h h2
 rfl
theorem in_of {w : World} {n : Nat} {cs : List Value} (h : Rd Tryz.prog w (n + 2) 88 cs) : ∃ x : IN, okIN x ∧ x.cells = cs := by
 obtain ⟨hl, hf⟩ := rd_struct Tryz.underlying88 h
 rw [cInstr] at hl
 match cs, hl with
 | [a0, a1, a2], _ =>
  simp only [RdF] at hf
  obtain ⟨h0, h1, h2, _⟩ := hf
  simp only [c3] at h0 h1 h2
  obtain ⟨i0, e0, g0⟩ := rd_int Tryz.underlying3 h0
  obtain ⟨i1, e1, g1⟩ := rd_int Tryz.underlying3 h1
  obtain ⟨i2, e2, g2⟩ := rd_int Tryz.underlying3 h2
  simp at e0 e1 e2
  subst e0 e1 e2
  exact ⟨⟨i0, i1, i2⟩, i64_of g1, rfl⟩
theorem ins_of {W : World} {cs : List Value} (h : Rd Tryz.prog W 9 27 cs) : ∃ (a : Option Addr) (l : List IN) (c : Nat), cs = [.slice a l.length c] ∧ (∀ x ∈ l, okIN x) ∧ SlIs W a l.length 3 (l.flatMap IN.cells) := by
 obtain ⟨a, l, c, e, h1, _, _, h2⟩ := slIs_of_rd (F := IN.cells) (sz := 3) (ok := okIN) (fun _ => rfl) (by omega) Tryz.underlying27 cInstr (fun ec h => in_of h) h
 exact ⟨a, l, c, e, h1, h2⟩
end ST
end
end Go.Proofs.YtmdcoaljjnbhlaaGreatDoor
namespace Go.Proofs.YtmdcoaljjnbhlaaGreatDoor
open Go Go.Ev
section
attribute [local irreducible] kO kB kStr kInt kN kG kIf kfld kld kldN kst knew kmap kbld kbldS kext kcnv klenStr klen kcap kprt kprtN kbool kint kstr keq kun ksl kix kiv kta kmk kmm ksem ksemU kextf kcallV kcallM kcall kL
theorem cWrong {Sa : Nat → Addr} {k lo : Nat} {x : Value} {w : World} (h : ErrX Sa k lo x w) (hlo : lo ≤ w.heap.size) : Meets Tryz.prog 205 #[x] w fun v w' => ErrX Sa k lo v w' ∧ Same w w' := by
 refine f205_ok ?_
 unfold f205
 refine kcall_of (atX_spec _ h hlo) ?_
 rintro v w' ⟨h1, h2⟩
 exact ⟨h1, h2⟩
theorem cSet_bad {pr : Nat → Prop} {Sa : Nat → Addr} {o : Lab} {w : World} (hL : LaidP pr Sa w) (h1 : pr 1) {b i c wd : Nat} {rows : List Part} (h : ColAt o w b i c wd rows) {n : Nat} (hn : n < rows.length) {cell : Int} (hcell : cell < 0 ∨ (wd : Int) ≤ cell) (value frame : Int) :
  Meets Tryz.prog 218 #[.pointer (some ⟨b, 0, none⟩), .int .i64 n, .int .i64 cell, .int .i64 value, .int .i64 frame] w fun v w' => ∃ x, v = .tuple #[zPartV, x] ∧ ErrX Sa 1 w.heap.size x w' ∧ Same w w' := by
 obtain ⟨bc, cp, bt, ct, arr, arrt, tc, tt, hv, hbcl, hbtl, hO1, hO2⟩ := h.view (by omega)
 refine f218_ok ?_
 unfold f218
 refine knew_of fun w2 h2 hs2 hb2 => ?_
 refine kcall_of (crow_spec (h.same h2) hn (hv.same h2)) ?_
 rintro v w4 ⟨rfl, h4⟩
 have m4 := h2.trans h4
 have hb4 := h4.get hb2 (fun h => h)
 refine kext_at rfl ?_
 refine kext_at rfl ?_
 rw [keq_nil_nil' ifErr]
 refine kB_at ?_
 refine kIf_F rfl ?_
 refine lss_at ?_
 refine kB_at ?_
 have fin : f218_0 (.pointer (some ⟨b, 0, none⟩)) (.int .i64 n) (.int .i64 cell) (.int .i64 value) (.int .i64 frame) (.pointer (some ⟨w.heap.size, 0, none⟩)) (.slice (some ⟨bc, n * wd, none⟩) wd (cp - n * wd)) (.bool true) (fun v w' => ∃ x, v = .tuple #[zPartV, x] ∧ ErrX Sa 1 w.heap.size x w' ∧ Same w w') w4 := by
  unfold f218_0
  refine kB_at ?_
  refine kIf_T rfl ?_
  refine kbld_of (cs := [.int .i64 0, .int .i64 0, .int .i64 0, .int .i64 0, .int .i64 0, .int .i64 0]) rfl ?_
  refine kld_err (hL.same m4) h1 rfl rfl ?_
  refine kcall_of (cWrong (ErrX.sent Sa 1 w4.heap.size w4) (Nat.le_refl _)) ?_
  rintro v w20 ⟨hE, h20⟩
  refine kst_of (vs := [.int .i64 0, .int .i64 0, .int .i64 0, .int .i64 0, .int .i64 0, .int .i64 0]) (h20.get hb4 (fun h => h)) rfl rfl rfl (by simp) (by simp) fun w21 h21 hs21 hb21 => ?_
  have hb21 : blk w21 w.heap.size = some (.cells #[.int .i64 0, .int .i64 0, .int .i64 0, .int .i64 0, .int .i64 0, .int .i64 0] 49) := hb21
  refine kldN_at hb21 rfl (by omega) ?_
  have hz := m4.size
  have hl := lt_of_blk hb4
  exact ⟨_, rfl, (hE.mod h21 fun k h1 h2 e => by omega).mono (by omega), (m4.trans h20).trans' (h21.mono fun k _ e => .inr (by omega))⟩
 refine kIf_ndec (fun hc => ?_) (fun hc => fin)
 refine klen_at ?_
 refine geq_at ?_
 rw [decT (by omega)]
 exact fin
theorem sSet_bad {pr : Nat → Prop} {Sa : Nat → Addr} {o : Lab} {w : World} (hL : LaidP pr Sa w) (h1 : pr 1) {b : Nat} {p : Ptrs} {S : SM} (h : StoreP o w b p S) {i : Nat} {g : Int} (hg : S.gens[i]? = some (g, true)) {n r : Nat} (hs : S.spots[i]? = some (n, r)) (hn : n < S.tabs.length) {c : Nat} (hc : c ∈ compsM S.masks n) (hr : r < (S.tabs[n].col c).length) {cell : Int} (hcell : cell < 0 ∨ (wdF S.cs c : Int) ≤ cell) (value frame : Int) :
  Meets Tryz.prog 188 #[ptrV b, entV i g, .int .i64 c, .int .i64 cell, .int .i64 value, .int .i64 frame] w fun v w' => ∃ x, v = .tuple #[zPartV, x] ∧ ErrX Sa 1 w.heap.size x w' ∧ Same w w' := by
 refine f188_ok ?_
 unfold f188
 refine knew_of fun w2 hm2 hs2 hb2 => ?_
 have hb2 : blk w2 w.heap.size = some (.cells #[.int .i64 i, .int .i64 g] 160) := hb2
 refine knew_of fun w4 hm4 hs4 hb4 => ?_
 have m4 := hm2.trans hm4
 have hb2' := hm4.get hb2 (fun h => h)
 have hS4 := h.same m4
 refine kldN_at hb2' rfl (by omega) ?_
 refine kcall_of (sColumn_spec hS4 hg hs hn hc) ?_
 rintro v w7 ⟨rfl, hC, h7⟩
 have m7 := m4.trans h7
 refine kext_at rfl ?_
 refine kext_at rfl ?_
 refine kext_at rfl ?_
 rw [keq_nil_nil' ifErr]
 refine kB_at ?_
 refine kIf_F rfl ?_
 refine kcall_of (cSet_bad (hL.same m7) h1 hC hr hcell value frame) ?_
 rintro v w17 ⟨x, rfl, hx, h17⟩
 refine kext_at rfl ?_
 refine kext_at rfl ?_
 have hz7 := m7.size
 refine kst_of (vs := [.int .i64 0, .int .i64 0, .int .i64 0, .int .i64 0, .int .i64 0, .int .i64 0]) ((h7.trans h17).get hb4 (fun h => h)) rfl rfl rfl (by simp) (by simp) fun w20 h20 hs20 hb20 => ?_
 have hb20 : blk w20 w2.heap.size = some (.cells #[.int .i64 0, .int .i64 0, .int .i64 0, .int .i64 0, .int .i64 0, .int .i64 0] 49) := hb20
 refine kldN_at hb20 rfl (by omega) ?_
 have hz4 := h7.size
 exact ⟨_, rfl, (hx.mod h20 fun k h1 h2 e => by omega).mono (by omega), (m7.trans h17).trans' (h20.mono fun k _ e => .inr (by omega))⟩
section
variable {pr : Nat → Prop} {Sa : Nat → Addr} {c : WC} {w0 : World} {fx : Nat → Prop} {w : World} {S : SM} {t : Nat} {B : BdM}
def Cells (S S' : SM) : Prop := S'.gens = S.gens ∧ S'.cs = S.cs ∧ S'.masks = S.masks ∧ S'.tabs.length = S.tabs.length ∧ S'.free = S.free
theorem Link.cells {S' : SM} (h : Link S B) (k : Cells S S') : Link S' B := by
 obtain ⟨k1, k2, k3, k4, k5⟩ := k
 exact ⟨fun x hx => by rw [k1]; exact h.live x hx, fun i g hg => h.all i g (k1 ▸ hg), by rw [k4, k3]; exact h.tm, by rw [k5, k1]; exact h.cnt⟩
theorem wSet_gen (h : WdAt c w0 fx w S t B) {x : Int} {y : Nat × EK} (hf : B.l.find? (fun z => decide (((z.1 : Nat) : Int) = x)) = some y) {i : Nat} (hyi : y.2.i = (i : Int)) {n cell value : Int} {R : SM → Prop} (hR : ∀ S', R S' → Cells S S')
  (hst : ∀ (o : Lab) (p : Ptrs) (w1 : World), Same w0 w1 → StoreP o w1 c.bs p S → GS S t → Meets Tryz.prog 188 #[ptrV c.bs, entV i y.2.g, .int .i64 n, .int .i64 cell, .int .i64 value, .int .i64 c.frame] w1 fun v w' => ∃ (q : Part) (e : Value), v = .tuple #[.agg q.cells.toArray, e] ∧ ((e = .nilIface ∧ I64 q.comp ∧ ∃ S', R S' ∧ GS S' t ∧ Turned o w1 c.bs S' w') ∨ (R S ∧ (∃ k, ErrX Sa k w1.heap.size e w') ∧ Same w1 w'))) :
  Meets Tryz.prog 142 #[.pointer (some ⟨c.bw, 0, none⟩), .int .i64 x, .int .i64 n, .int .i64 cell, .int .i64 value] w fun v w' => ∃ S', R S' ∧ WdAt c w0 fx w' S' t B ∧ Mod (fun k => w0.heap.size ≤ k ∧ ¬ fx k) w w' := by
 have hwl := lt_of_blk h.here
 refine f142_ok ?_
 unfold f142
 refine kcall_of (wEntity_ok h hf) ?_
 rintro v w2 ⟨rfl, h2⟩
 unfold EK.v entV
 rw [hyi]
 refine kext_at rfl ?_
 refine kext_at rfl ?_
 refine knew_of fun w6 h6 hs6 hb6 => ?_
 refine kst_of (vs := [.int .i64 i, .int .i64 y.2.g]) hb6 rfl rfl rfl (by simp) (by simp) fun w7 h7 hs7 hb7 => ?_
 have hb7 : blk w7 w2.heap.size = some (.cells #[.int .i64 i, .int .i64 y.2.g] 160) := hb7
 have m7 : Same w2 w7 := h6.trans' (h7.mono fun k _ e => .inr (by omega))
 rw [keq_nil_nil' ifErr]
 refine kB_at ?_
 refine kIf_F rfl ?_
 unfold f142_0
 have md : Same w w7.drew := (h2.trans m7).drew
 have hbd : blk w7.drew w2.heap.size = some (.cells #[.int .i64 i, .int .i64 y.2.g] 160) := hb7
 have hz2 := h2.size
 have hz7 : w2.heap.size < w7.drew.heap.size := lt_of_blk hbd
 generalize w7.drew = wd at *
 have hcall : ∀ w1, Same wd w1 → Meets Tryz.prog 188 #[.pointer (some ⟨c.bs, 0, none⟩), .agg #[.int .i64 i, .int .i64 y.2.g], .int .i64 n, .int .i64 cell, .int .i64 value, .int .i64 c.frame] w1 fun v w' => ∃ (q : Part) (e : Value), v = .tuple #[.agg q.cells.toArray, e] ∧ (∃ S', R S' ∧ WdAt c w0 (fun k => fx k ∨ (w.heap.size ≤ k ∧ k < w1.heap.size)) w' S' t B ∧ Mod (fun k => w0.heap.size ≤ k ∧ ¬ (fx k ∨ (w.heap.size ≤ k ∧ k < w1.heap.size))) w1 w') ∧ ((e = .nilIface ∧ I64 q.comp) ∨ ∃ k, ErrX Sa k w1.heap.size e w') := by
  intro w1 m
  have h1 := h.ext (md.trans m)
  obtain ⟨o, p, U, C, hb, hU, hfx⟩ := id h1.A
  have := hst o p w1 C.same C.sp C.gs
  rw [ptrV, entV] at this
  refine this.mono ?_
  rintro v w' ⟨q, e, rfl, ⟨rfl, hq, S', hRS, hG, T⟩ | ⟨hRS, hE, m'⟩⟩
  ·obtain ⟨hA, hm⟩ := WAt.turned C hb hU hfx T hG
   exact ⟨q, _, rfl, ⟨S', hRS, h1.step hA hm (h.link.cells (hR S' hRS)) (hR S' hRS).2.1, hm⟩, .inl ⟨rfl, hq⟩⟩
  ·exact ⟨q, e, rfl, ⟨S, hRS, h1.loc m', Mod.of_same m'⟩, .inr hE⟩
 have tail : ∀ (w1 : World) (bp lo : Nat) (q : Part) (e : Value) (S' : SM) (fx1 : Nat → Prop), R S' → WdAt c w0 fx1 w1 S' t B → (∀ k, fx k → fx1 k) → Mod (fun k => w0.heap.size ≤ k ∧ ¬ fx k) w w1 → lo ≤ w1.heap.size → ((e = .nilIface ∧ I64 q.comp) ∨ ∃ k, ErrX Sa k lo e w1) → blk w1 bp = some (.cells q.cells.toArray 49) → f142_1 (.pointer (some ⟨c.bw, 0, none⟩)) (.int .i64 x) e (.pointer (some ⟨bp, 0, none⟩)) (fun v w' => ∃ S', R S' ∧ WdAt c w0 fx w' S' t B ∧ Mod (fun k => w0.heap.size ≤ k ∧ ¬ fx k) w w') w1 := by
  intro w1 bp lo q e S' fx1 hRS h1 hs hm hlo he hbp
  unfold f142_1
  have h1' := h1.less hs h.fm
  rcases he with ⟨rfl, hq⟩ | ⟨k, hE⟩
  ·rw [keq_nil_nil' ifErr]
   refine kB_at ?_
   refine kIf_F rfl ?_
   unfold f142_2
   refine kldN_at (cs := q.cells) hbp rfl (by omega) ?_
   refine kcall_of (wNoteOf h1.here h1.rl 1 x q hq) ?_
   rintro v w28 ⟨_, h28⟩
   exact ⟨S', hRS, h1'.loc h28, hm.trans (Mod.of_same h28)⟩
  ·obtain ⟨ty, y', rfl⟩ := hE.if
   rw [keq_if_nil' ifErr]
   refine kB_at ?_
   refine kIf_T rfl ?_
   refine kcall_of (wWrong hE hlo) ?_
   rintro v w25 ⟨_, h25⟩
   exact ⟨S', hRS, h1'.loc h25, hm.trans (Mod.of_same h25)⟩
 have hdw := h.loc md
 refine ⟨?_, ?_⟩
 ·refine kN_at ?_
  refine kfld_of ?_
  refine kld_of (v := .pointer (some ⟨c.bs, 0, none⟩)) hdw.here rfl ?_
  refine kG_of rfl ?_
  refine kldN_at (cs := [.int .i64 i, .int .i64 y.2.g]) hbd rfl (by omega) ?_
  refine kG_of rfl ?_
  refine kN_at ?_
  refine kfld_of ?_
  refine kld_of (v := .int .i64 c.frame) hdw.here rfl ?_
  refine kG_of rfl ?_
  refine kcall_of (hcall wd (Mod.refl _ _)) ?_
  rintro v w16 ⟨q, e, rfl, ⟨S', hRS, h1, hm⟩, he⟩
  have hz16 := hm.size
  refine knew_of fun w18 h18 hs18 hb18 => ?_
  have h1' := h1.loc h18
  refine kG_of (kld_of (v := .int .i64 c.frame) h1'.here rfl ⟨rfl, rfl⟩) ?_
  refine kG_of (kldN_at (cs := [.int .i64 i, .int .i64 y.2.g]) (h18.get (hm.get hbd (fun hk => hk.2 (.inr ⟨by omega, by omega⟩))) (fun h => h)) rfl (by omega) ⟨rfl, rfl⟩) ?_
  refine kG_of (kld_of (v := .pointer (some ⟨c.bs, 0, none⟩)) h1'.here rfl ⟨rfl, rfl⟩) ?_
  refine kext_at rfl ?_
  refine kst_of (vs := q.cells) hb18 rfl rfl rfl (by simp) (by simp [Part.cells]) fun w20 h20 hs20 hb20 => ?_
  have hb20 : blk w20 w16.heap.size = some (.cells q.cells.toArray 49) := hb20
  have m20 : Same w16 w20 := h18.trans' (h20.mono fun k _ e => .inr (by omega))
  refine kext_at rfl ?_
  refine tail w20 _ wd.heap.size q e S' _ hRS (h1.loc m20) (fun k hk => .inl hk) (((Mod.of_same md).trans (hm.mono fun k _ hk => ⟨hk.1, fun hx => hk.2 (.inl hx)⟩)).trans (Mod.of_same m20)) (by have := m20.size; omega) (he.imp id fun ⟨k, hE⟩ => ⟨k, hE.same m20⟩) hb20
 ·refine knew_of fun w34 h34 hs34 hb34 => ?_
  refine kN_at ?_
  refine kfld_of ?_
  have hd34 := hdw.loc h34
  refine kld_of (v := .pointer (some ⟨c.bs, 0, none⟩)) hd34.here rfl ?_
  refine kG_of rfl ?_
  refine kG_of (kld_of (v := .pointer (some ⟨c.bs, 0, none⟩)) hdw.here rfl ⟨rfl, rfl⟩) ?_
  refine kldN_at (cs := [.int .i64 i, .int .i64 y.2.g]) (h34.get hbd (fun h => h)) rfl (by omega) ?_
  refine kG_of rfl ?_
  refine kG_of (kldN_at (cs := [.int .i64 i, .int .i64 y.2.g]) hbd rfl (by omega) ⟨rfl, rfl⟩) ?_
  refine kN_at ?_
  refine kfld_of ?_
  refine kld_of (v := .int .i64 c.frame) hd34.here rfl ?_
  refine kG_of rfl ?_
  refine kG_of (kld_of (v := .int .i64 c.frame) hdw.here rfl ⟨rfl, rfl⟩) ?_
  refine kcall_of (hcall w34 h34) ?_
  rintro v w41 ⟨q, e, rfl, ⟨S', hRS, h1, hm⟩, he⟩
  have hz34 := h34.size
  have hl34 := lt_of_blk hb34
  refine kext_at rfl ?_
  refine kst_of (vs := q.cells) (hm.get hb34 (fun hk => hk.2 (.inr ⟨by omega, by omega⟩))) rfl rfl rfl (by simp) (by simp [Part.cells]) fun w43 h43 hs43 hb43 => ?_
  have hb43 : blk w43 wd.heap.size = some (.cells q.cells.toArray 49) := hb43
  have h143 := h1.other h43 fun k hk => ⟨.inr ⟨by omega, by omega⟩, fun e => by have := (h.A.lt (h.fm k e)).2; omega⟩
  refine kext_at rfl ?_
  have hm43 : Mod (fun k => w0.heap.size ≤ k ∧ ¬ fx k) w w43 := ((Mod.of_same (md.trans h34)).trans (hm.mono fun k _ hk => ⟨hk.1, fun hx => hk.2 (.inl hx)⟩)).trans' (h43.mono fun k _ e => .inr (by omega))
  have hz41 := hm.size
  refine tail w43 _ w34.heap.size q e S' _ hRS h143 (fun k hk => .inl (.inl hk)) hm43 (by omega) (he.imp id fun ⟨k, hE⟩ => ⟨k, hE.mod h43 fun j h1 h2 e => by omega⟩) hb43
end
end
section
attribute [local irreducible] kO kB kStr kInt kN kG kIf kfld kld kldN kst knew kmap kbld kbldS kext kcnv klenStr klen kcap kprt kprtN kbool kint kstr keq kun ksl kix kiv kta kmk kmm ksem ksemU kextf kcallV kcallM kcall kL
def compIs (c : Int) (q : Part) : Bool := decide (q.comp = c)
def setL (L : List Part) (c : Int) (cell : Nat) (n frame : Int) : List Part := L.map fun q => if q.comp = c then q.setCell cell n frame else q
def getV (V : ViewT) (x c : Int) : Option Part := (findV V x).bind fun y => y.2.find? (compIs c)
def setC (cs : List Comp) (frame : Int) (V : ViewT) (x c i n : Int) : ViewT := match findV V x with
 | some y => if (y.2.find? (compIs c)).isSome ∧ 0 ≤ i ∧ i < (wdF cs c.toNat : Int) then setV V y.1 (setL y.2 c i.toNat n frame) else V
 | none => V
theorem compIs_eq {L : List Part} {c : Int} {q : Part} (h : L.find? (compIs c) = some q) : q.comp = c := by
 have := List.find?_some h
 exact of_decide_eq_true this
theorem setCell_ok {q : Part} (hq : q.ok) {cell : Nat} {n frame : Int} (hn : I64 n) (hf : I64 frame) : (q.setCell cell n frame).ok := by
 obtain ⟨h1, h2, h3, h4, h5, h6⟩ := hq
 unfold Part.setCell
 split
 ·exact ⟨h1, hn, h3, h4, h5, hf⟩
 ·exact ⟨h1, h2, hn, h4, h5, hf⟩
 ·exact ⟨h1, h2, h3, hn, h5, hf⟩
 ·exact ⟨h1, h2, h3, h4, hn, hf⟩
theorem setC_ok {cs : List Comp} {frame : Int} {V : ViewT} (h : okV V) (x c i : Int) {n : Int} (hn : I64 n) (hf : I64 frame) : okV (setC cs frame V x c i n) := by
 unfold setC
 cases hv : findV V x with
 | none => exact h
 | some y =>
  show okV (if _ then _ else _)
  have hy := (findV_mem hv).1
  split
  ·intro z hz q hq
   obtain ⟨u, hu, rfl⟩ := List.mem_map.1 hz
   split at hq
   ·obtain ⟨r, hr, rfl⟩ := List.mem_map.1 hq
    split
    ·exact setCell_ok (h y hy r hr) hn hf
    ·exact h y hy r hr
   ·exact h u hu q hq
  ·exact h
theorem view_put {S S' : SM} {B : BdM} (h : Link S B) (hwf : B.WF) {i c : Nat} {q : Part} (hW : PutS S S' i c q) {y : Nat × EK} (hy : y ∈ B.l) (hyi : y.2.i = (i : Int)) : viewS S' B = setV (viewS S B) y.1 ((partsOf S i).map fun x => if x.comp = (c : Int) then q else x) := by
 unfold viewS setV
 rw [List.map_map]
 apply List.map_congr_left
 intro x hx
 show (x.1, partsOf S' x.2.i.toNat) = if x.1 = y.1 then (y.1, _) else (x.1, partsOf S x.2.i.toNat)
 by_cases he : x.1 = y.1
 ·have := nd_num hwf hx hy he
  subst this
  rw [if_pos rfl, hyi, Int.toNat_natCast, hW.parts]
 ·rw [if_neg he]
  obtain ⟨j, h1, h2⟩ := h.live x hx
  rw [h1, Int.toNat_natCast, hW.others j _ (fun e => he ?_) h2]
  have : x.2 = y.2 := h.index hx hy (by rw [h1, hyi, e])
  rw [nd_key hwf hx hy this]
section
variable {pr : Nat → Prop} {Sa : Nat → Addr} {c : WC} {w0 : World} {fx : Nat → Prop} {w : World} {S : SM} {t : Nat} {B : BdM}
theorem wGet_none (hL : LaidP pr Sa w0) (h7 : pr 7) (h : WdAt c w0 fx w S t B) {x : Int} {n : Int} {y : Nat × EK} (hf : B.l.find? (fun z => decide (((z.1 : Nat) : Int) = x)) = some y) (hno : ∀ q ∈ partsOf S y.2.i.toNat, q.comp ≠ n) :
  Meets Tryz.prog 185 #[.pointer (some ⟨c.bw, 0, none⟩), .int .i64 x, .int .i64 n] w fun v w' => (∃ e, v = .tuple #[.agg (⟨0, 0, 0, 0, 0, 0⟩ : Part).cells.toArray, e] ∧ ErrI e) ∧ Same w w' := by
 have hym := List.mem_of_find?_eq_some hf
 obtain ⟨i, hyi, hg⟩ := h.link.live y hym
 rw [hyi, Int.toNat_natCast] at hno
 have hs0 := h.A.same0
 refine f185_ok ?_
 unfold f185
 refine knew_of fun w2 h2 hs2 hb2 => ?_
 refine kcall_of (wEntity_ok (h.loc h2) hf) ?_
 rintro v w4 ⟨rfl, h4⟩
 unfold EK.v entV
 rw [hyi]
 refine kext_at rfl ?_
 refine kext_at rfl ?_
 refine knew_of fun w8 h8 hs8 hb8 => ?_
 refine kst_of (vs := [.int .i64 i, .int .i64 y.2.g]) hb8 rfl rfl rfl (by simp) (by simp) fun w9 h9 hs9 hb9 => ?_
 have hb9 : blk w9 w4.heap.size = some (.cells #[.int .i64 i, .int .i64 y.2.g] 160) := hb9
 have m9 : Same w4 w9 := h8.trans' (h9.mono fun k _ e => .inr (by omega))
 rw [keq_nil_nil' ifErr]
 refine kB_at ?_
 refine kIf_F rfl ?_
 unfold f185_0
 have md : Same w9 w9.drew := (Mod.refl (fun _ => False) _).drew
 have m29 : Same w2 w9.drew := (h4.trans m9).trans md
 have hd := h.loc (h2.trans m29)
 have hbd := md.get hb9 (fun h => h)
 have hb2d := m29.get hb2 (fun h => h)
 have hz2 := m29.size
 generalize w9.drew = wd at *
 have key : ∀ {w1 : World}, Same wd w1 → blk w1 c.bw = some (.cells c.cells 106) := fun m => m.get hd.here (fun h => h)
 have tail : ∀ (w1 : World) (bp lo : Nat) (e : Value), Same wd w1 → lo ≤ w1.heap.size → ErrX Sa 7 lo e w1 → f185_1 (.pointer (some ⟨w.heap.size, 0, none⟩)) e (.pointer (some ⟨bp, 0, none⟩)) (fun v w' => (∃ e, v = .tuple #[.agg (⟨0, 0, 0, 0, 0, 0⟩ : Part).cells.toArray, e] ∧ ErrI e) ∧ Same w w') w1 := by
  intro w1 bp lo e m hlo hE
  unfold f185_1
  obtain ⟨ty, y', rfl⟩ := hE.if
  rw [keq_if_nil' ifErr]
  refine kB_at ?_
  refine kIf_T rfl ?_
  refine kbld_of (cs := (⟨0, 0, 0, 0, 0, 0⟩ : Part).cells) rfl ?_
  refine kcall_of (wWrong hE hlo) ?_
  rintro v w29 ⟨hE2, h29⟩
  refine kst_of (vs := (⟨0, 0, 0, 0, 0, 0⟩ : Part).cells) ((m.trans h29).get hb2d (fun h => h)) rfl rfl rfl (by simp [Part.cells]) (by simp [Part.cells]) fun w33 h33 hs33 hb33 => ?_
  have hb33 : blk w33 w.heap.size = some (.cells (⟨0, 0, 0, 0, 0, 0⟩ : Part).cells.toArray 49) := hb33
  refine kldN_at hb33 rfl (by omega) ?_
  obtain ⟨ty2, y2, rfl⟩ := hE2.if
  exact ⟨⟨_, rfl, _, _, rfl⟩, (((h2.trans m29).trans m).trans h29).trans' (h33.mono fun k _ e => .inr (by omega))⟩
 obtain ⟨o, p, U, C, hb, hU, hfx⟩ := hd.A
 obtain ⟨nn, r, hsp, hn, hnc⟩ := none_at C.sp C.gs hg hno
 have hget : ∀ w1, Same wd w1 → Meets Tryz.prog 214 #[.pointer (some ⟨c.bs, 0, none⟩), .agg #[.int .i64 i, .int .i64 y.2.g], .int .i64 n] w1 fun v w' => ∃ x, v = .tuple #[zPartV, x] ∧ ErrX Sa 7 w1.heap.size x w' ∧ Same w1 w' := by
  intro w1 m
  have := sGet_err (Sa := Sa) (k := 7) (b := c.bs) (idx := i) (gen := y.2.g) (c := n) (w := w1) fun w2 m2 => sColumn_none (hL.same ((C.same.trans m).trans m2)) h7 (C.sp.same (m.trans m2)) hg hsp hn hnc
  rw [ptrV, entV] at this
  exact this
 refine ⟨?_, ?_⟩
 ·refine kN_at ?_
  refine kfld_of ?_
  refine kld_of (v := .pointer (some ⟨c.bs, 0, none⟩)) hd.here rfl ?_
  refine kG_of rfl ?_
  refine kldN_at (cs := [.int .i64 i, .int .i64 y.2.g]) hbd rfl (by omega) ?_
  refine kG_of rfl ?_
  refine kcall_of (hget _ (Mod.refl _ _)) ?_
  rintro v w19 ⟨e, rfl, hE, h19⟩
  refine knew_of fun w21 h21 hs21 hb21 => ?_
  refine kG_of (kldN_at (cs := [.int .i64 i, .int .i64 y.2.g]) ((h19.trans h21).get hbd (fun h => h)) rfl (by omega) ⟨rfl, rfl⟩) ?_
  refine kG_of (kld_of (v := .pointer (some ⟨c.bs, 0, none⟩)) (key (h19.trans h21)) rfl ⟨rfl, rfl⟩) ?_
  refine kext_at rfl ?_
  refine kst_of (vs := (⟨0, 0, 0, 0, 0, 0⟩ : Part).cells) hb21 rfl rfl rfl (by simp [Part.cells]) (by simp [Part.cells]) fun w23 h23 hs23 hb23 => ?_
  have m23 : Same w19 w23 := h21.trans' (h23.mono fun k _ e => .inr (by omega))
  refine kext_at rfl ?_
  exact tail _ _ wd.heap.size _ (h19.trans m23) (h19.trans m23).size (hE.same m23)
 ·refine knew_of fun w39 h39 hs39 hb39 => ?_
  refine kN_at ?_
  refine kfld_of ?_
  refine kld_of (v := .pointer (some ⟨c.bs, 0, none⟩)) (key h39) rfl ?_
  refine kG_of rfl ?_
  refine kG_of (kld_of (v := .pointer (some ⟨c.bs, 0, none⟩)) hd.here rfl ⟨rfl, rfl⟩) ?_
  refine kldN_at (cs := [.int .i64 i, .int .i64 y.2.g]) (h39.get hbd (fun h => h)) rfl (by omega) ?_
  refine kG_of rfl ?_
  refine kG_of (kldN_at (cs := [.int .i64 i, .int .i64 y.2.g]) hbd rfl (by omega) ⟨rfl, rfl⟩) ?_
  refine kcall_of (hget _ h39) ?_
  rintro v w44 ⟨e, rfl, hE, h44⟩
  have hl39 := lt_of_blk hb39
  refine kext_at rfl ?_
  refine kst_of (vs := (⟨0, 0, 0, 0, 0, 0⟩ : Part).cells) (h44.get hb39 (fun h => h)) rfl rfl rfl (by simp [Part.cells]) (by simp [Part.cells]) fun w46 h46 hs46 hb46 => ?_
  refine kext_at rfl ?_
  have hz44 := h44.size
  exact tail _ _ w39.heap.size _ ((h39.trans h44).trans' (h46.mono fun k _ e => .inr (by omega))) (by omega) (hE.mod h46 fun k h1 h2 e => by omega)
theorem wGet_any (hL : LaidP pr Sa w0) (h7 : pr 7) (h17 : pr 17) (h : WdAt c w0 fx w S t B) (x n : Int) :
  Meets Tryz.prog 185 #[.pointer (some ⟨c.bw, 0, none⟩), .int .i64 x, .int .i64 n] w fun v w' => (∃ q e, v = .tuple #[.agg q.cells.toArray, e] ∧ (getV (viewS S B) x n = some q ∧ e = .nilIface ∨ getV (viewS S B) x n = none ∧ ErrI e)) ∧ Same w w' := by
 unfold getV
 rw [findV_view]
 cases hf : B.l.find? (fun z => decide (((z.1 : Nat) : Int) = x)) with
 | none =>
  refine (wGet_dead hL h17 h hf _).mono ?_
  rintro v w' ⟨⟨e, rfl, hE⟩, h'⟩
  exact ⟨⟨_, e, rfl, .inr ⟨rfl, hE⟩⟩, h'⟩
 | some y =>
  have hym := List.mem_of_find?_eq_some hf
  obtain ⟨i, hyi, hg⟩ := h.link.live y hym
  show Meets _ _ _ _ fun v w' => (∃ q e, _ ∧ ((partsOf S y.2.i.toNat).find? (compIs n) = some q ∧ _ ∨ (partsOf S y.2.i.toNat).find? (compIs n) = none ∧ _)) ∧ _
  cases hq : (partsOf S y.2.i.toNat).find? (compIs n) with
  | none =>
   refine (wGet_none hL h7 h hf (n := n) fun q hq' e => ?_).mono ?_
   ·have := List.find?_eq_none.1 hq q hq'
    exact this (decide_eq_true e)
   ·rintro v w' ⟨⟨e, rfl, hE⟩, h'⟩
    exact ⟨⟨_, e, rfl, .inr ⟨rfl, hE⟩⟩, h'⟩
  | some q =>
   have hqm := List.mem_of_find?_eq_some hq
   have hqc : q.comp = n := compIs_eq hq
   obtain ⟨o, p, U, C, _⟩ := id h.A
   obtain ⟨_, _, _, _, _, _, _, _, _, hfit, _⟩ := parts_ok C.sp C.gs hg
   obtain ⟨m, hm, _⟩ := hfit q (by rw [hyi] at hqm; exact hqm)
   obtain rfl : n = (m : Int) := by omega
   refine (wGet_ok h hf hqm hm).mono ?_
   rintro v w' ⟨rfl, h'⟩
   exact ⟨⟨_, _, rfl, .inl ⟨rfl, rfl⟩⟩, h'⟩
theorem wSet_any (hL : LaidP pr Sa w0) (h1 : pr 1) (h7 : pr 7) (h17 : pr 17) (h : WdAt c w0 fx w S t B) (x n cell value : Int) :
  Meets Tryz.prog 142 #[.pointer (some ⟨c.bw, 0, none⟩), .int .i64 x, .int .i64 n, .int .i64 cell, .int .i64 value] w fun v w' => ∃ S', viewS S' B = setC c.L c.frame (viewS S B) x n cell value ∧ S'.gens = S.gens ∧ WdAt c w0 fx w' S' t B ∧ Mod (fun k => w0.heap.size ≤ k ∧ ¬ fx k) w w' := by
 have hwf := h.wf
 have hl := h.link
 unfold setC
 rw [findV_view]
 cases hf : B.l.find? (fun z => decide (((z.1 : Nat) : Int) = x)) with
 | none =>
  refine (wSet_dead hL h17 h hf _ _ _).mono ?_
  intro v w' h'
  exact ⟨S, rfl, rfl, h.loc h', Mod.of_same h'⟩
 | some y =>
  have hym := List.mem_of_find?_eq_some hf
  obtain ⟨i, hyi, hg⟩ := hl.live y hym
  show Meets _ _ _ _ fun v w' => ∃ S', viewS S' B = (if ((partsOf S y.2.i.toNat).find? (compIs n)).isSome ∧ 0 ≤ cell ∧ cell < (wdF c.L n.toNat : Int) then setV (viewS S B) y.1 (setL (partsOf S y.2.i.toNat) n cell.toNat value c.frame) else viewS S B) ∧ _
  rw [hyi, Int.toNat_natCast]
  have stay : Cells S S := ⟨rfl, rfl, rfl, rfl, rfl⟩
  cases hq : (partsOf S i).find? (compIs n) with
  | none =>
   rw [if_neg (fun e => by simp at e)]
   refine (wSet_gen (Sa := Sa) h hf hyi (R := fun S' => S' = S) (fun S' e => by subst e; exact stay) fun o p w1 hs0 hsp hG => ?_).mono ?_
   ·obtain ⟨nn, r, hsp', hn, hnc⟩ := none_at hsp hG hg (c := n) fun q hq' e => List.find?_eq_none.1 hq q hq' (decide_eq_true e)
    refine (sSet_err (Sa := Sa) (k := 7) fun w2 m2 => sColumn_none (hL.same (hs0.trans m2)) h7 (hsp.same m2) hg hsp' hn hnc).mono ?_
    rintro v w' ⟨e, rfl, hE, h'⟩
    exact ⟨⟨0, 0, 0, 0, 0, 0⟩, e, rfl, .inr ⟨rfl, ⟨7, hE⟩, h'⟩⟩
   ·rintro v w' ⟨S', rfl, hW, hm⟩
    exact ⟨_, rfl, rfl, hW, hm⟩
  | some q =>
   have hqm := List.mem_of_find?_eq_some hq
   have hqc : q.comp = n := compIs_eq hq
   obtain ⟨o, p, U, C, _⟩ := id h.A
   obtain ⟨_, _, _, _, _, _, _, _, hmap, hfit, _⟩ := parts_ok C.sp C.gs hg
   obtain ⟨m, hm, _⟩ := hfit q hqm
   obtain rfl : n = (m : Int) := by omega
   by_cases hc : 0 ≤ cell ∧ cell < (wdF c.L m : Int)
   ·rw [if_pos ⟨rfl, hc⟩]
    obtain ⟨k, rfl⟩ : ∃ k : Nat, cell = (k : Int) := ⟨cell.toNat, by omega⟩
    refine (wSet_gen (Sa := Sa) h hf hyi (R := fun S' => PutS S S' i m (q.setCell k value c.frame)) (fun S' e => ⟨e.gens, e.cs, e.masks, e.tabs, e.free⟩) fun o p w1 hs0 hsp hG => ?_).mono ?_
    ·refine (set_at hsp hG hg hqm hm (cell := k) (by rw [h.cs]; omega) value c.frame).mono ?_
     rintro v w' ⟨rfl, S', hG', hP, T⟩
     obtain ⟨j, hj, hjl, _⟩ := hfit q hqm
     have hl16 := h.good.len
     have hcs := h.cs
     exact ⟨q, _, rfl, .inl ⟨rfl, by rw [hj]; rw [hcs] at hjl; unfold I64; omega, S', hP, hG', T⟩⟩
    ·rintro v w' ⟨S', hP, hW, hm'⟩
     refine ⟨S', ?_, hP.gens, hW, hm'⟩
     rw [view_put hl hwf hP hym hyi]
     congr 1
     unfold setL
     apply List.map_congr_left
     intro z hz
     by_cases hzc : z.comp = (m : Int)
     ·rw [if_pos hzc, if_pos hzc]
      rw [Int.toNat_natCast]
      have : z = q := by
       have hnd : ((partsOf S i).map (·.comp)).Nodup := by
        rw [hmap]
        exact List.Pairwise.map _ (fun a b hab e => hab (by omega)) (listF_nodup _)
       obtain ⟨a, ha, rfl⟩ := List.mem_iff_getElem.1 hz
       obtain ⟨b, hb, rfl⟩ := List.mem_iff_getElem.1 hqm
       have := (List.getElem_inj (h₀ := by simpa using ha) (h₁ := by simpa using hb) hnd).1 (by rw [List.getElem_map, List.getElem_map, hzc, hqc])
       subst this
       rfl
      rw [this]
     ·rw [if_neg hzc, if_neg hzc]
   ·rw [if_neg (fun e => hc e.2)]
    refine (wSet_gen (Sa := Sa) h hf hyi (R := fun S' => S' = S) (fun S' e => by subst e; exact stay) fun o p w1 hs0 hsp hG => ?_).mono ?_
    ·obtain ⟨nn, r, hsp', hn, hcm, hr, _, _⟩ := part_at hsp hG hg hqm hm
     refine (sSet_bad (hL.same hs0) h1 hsp hg hsp' hn hcm hr (cell := cell) (by rw [h.cs]; omega) value c.frame).mono ?_
     rintro v w' ⟨e, rfl, hE, h'⟩
     exact ⟨⟨0, 0, 0, 0, 0, 0⟩, e, rfl, .inr ⟨rfl, ⟨1, hE⟩, h'⟩⟩
    ·rintro v w' ⟨S', rfl, hW, hm⟩
     exact ⟨_, rfl, rfl, hW, hm⟩
end
end
section
abbrev LS : Type := ViewT × NB
def lvW (cs : List Comp) (og : Bool) (n most : Nat) (frame who : Int) : WM LS where
 get s c := getV s.1 who c
 res s i := getR s.2.R i
 fr _ := frame
 set s c i v := (setC cs frame s.1 who c i v, s.2)
 asg s i v := (s.1, { s.2 with R := setR s.2.R i v })
 dr s v := ((s.1, { s.2 with seed := (drawD s.2.seed v).1 }), (drawD s.2.seed v).2)
 add s x := (s.1, nbAdd og n most s.2 x)
structure LvI (c0 : WC) (w0 : World) (o : OC) (nx : Nat) (X : Nat → Prop) (w : World) (s : LS) : Prop where
 pr : ∃ gn S t B, Pair (c0.tune s.2.R c0.frame s.2.seed gn) w0 o X w S t B s.2.l s.2.gv s.2.dr ∧ viewS S B = s.1 ∧ B.nx = nx
 ap : ∀ k, X k → ¬ c0.mine k
 num : numL s.2.R
 few : s.2.l.length ≤ s.2.gv
 ok : okV s.1
 rl : s.2.R.length ≤ 1000
section
variable {pr : Nat → Prop} {Sa : Nat → Addr} {c0 : WC} {w0 : World} {o : OC} {nx : Nat} {X : Nat → Prop} {w : World}
theorem LvI.ap' {s : LS} {w' : World} (h : LvI c0 w0 o nx X w s) : ∀ k, newB w w' X k → ¬ c0.mine k := by
 obtain ⟨gn, S, t, B, ⟨⟨fx, U, hW, _⟩, _⟩, _⟩ := h.pr
 intro k hk
 rcases hk with hk | hk
 ·exact h.ap k hk
 ·intro e
  have := (hW.A.lt (hW.fm k e)).2
  omega
theorem setR_len (R : List Int) (i n : Int) : (setR R i n).length = R.length := by
 unfold setR
 split
 ·rfl
 ·rw [List.length_set]
theorem add_num {og : Bool} {n most : Nat} {s : NB} {x : OrdM} : (nbAdd og n most s x).R = s.R ∧ (nbAdd og n most s x).seed = s.seed := by
 unfold nbAdd
 split
 ·split
  ·split
   ·exact ⟨rfl, rfl⟩
   ·exact ⟨rfl, rfl⟩
  ·exact ⟨rfl, rfl⟩
 ·exact ⟨rfl, rfl⟩
theorem add_any (hL : LaidP pr Sa w0) (h1 : pr 1) (h2 : pr 2) (h6 : pr 6) (og : Bool) {c : WC} {S : SM} {t : Nat} {B : BdM} {s : NB} (hP : Pair c w0 o X w S t B s.l s.gv s.dr) (hmo : o.most ≤ 1000000) (hfew : s.l.length ≤ s.gv) {x : OrdM} (hx : x.ok) (hc : s.dr + s.gv ≤ 5000) :
  Meets Tryz.prog 144 #[.pointer (if og = true then some ⟨o.bo, 0, none⟩ else none), x.val] w fun v w' => (Pair c w0 o X w' S t B (nbAdd og o.L.length o.most s x).l (nbAdd og o.L.length o.most s x).gv (nbAdd og o.L.length o.most s x).dr ∧ (nbAdd og o.L.length o.most s x).l.length ≤ (nbAdd og o.L.length o.most s x).gv) ∧ Mod (fun k => w0.heap.size ≤ k ∧ ¬ X k) w w' := by
 unfold nbAdd
 by_cases ho : og = true
 ·rw [if_pos ho, if_pos ho]
  by_cases hfit : x.fit o.L.length
  ·rw [if_pos hfit]
   by_cases hf : o.most ≤ s.gv
   ·rw [if_pos hf]
    refine (pAdd_full hL h6 hP x hx hfit hf (by omega)).mono ?_
    rintro v w' ⟨_, hP', hm⟩
    exact ⟨⟨hP'.less fun k hk => .inl hk, hfew⟩, hm⟩
   ·rw [if_neg hf]
    refine (pAdd_ok hP x hx hfit (by omega) hmo (by omega)).mono ?_
    rintro v w' ⟨_, hP', hm⟩
    exact ⟨⟨hP', by show (s.l ++ [x]).length ≤ s.gv + 1; rw [List.length_append, List.length_singleton]; omega⟩, hm⟩
  ·rw [if_neg hfit]
   refine (pAdd_bad hL h1 hP x hx hfit).mono ?_
   rintro v w' ⟨_, hm⟩
   exact ⟨⟨hP.loc hm, hfew⟩, Mod.of_same hm⟩
 ·rw [if_neg ho, if_neg ho]
  refine (oAdd_nobody (hL.same hP.same0) h2 x).mono ?_
  rintro v w' ⟨_, hm⟩
  exact ⟨⟨hP.loc hm, hfew⟩, Mod.of_same hm⟩
theorem add_cost (og : Bool) (n most : Nat) (s : NB) (x : OrdM) : nbCost (nbAdd og n most s x) ≤ nbCost s + 1 := by
 unfold nbAdd nbCost
 split
 ·split
  ·split
   ·show s.dr + 1 + s.gv ≤ _; omega
   ·show s.dr + (s.gv + 1) ≤ _; omega
  ·omega
 ·omega
theorem getV_ok {V : ViewT} (h : okV V) {x c : Int} {q : Part} (hq : getV V x c = some q) : q.ok := by
 unfold getV at hq
 obtain ⟨y, hy, hq⟩ := Option.bind_eq_some_iff.1 hq
 exact h y (findV_mem hy).1 q (List.mem_of_find?_eq_some hq)
theorem lv_host (hL : LaidP pr Sa w0) (h1 : pr 1) (h2 : pr 2) (h6 : pr 6) (h7 : pr 7) (h17 : pr 17) (og : Bool) {i0 i1 who : Int} (hi0 : I64 i0) (hi1 : I64 i1) (hwho : I64 who) (hmo : o.most ≤ 1000000) (hfr : I64 c0.frame) :
  WI (lvW c0.L og o.L.length o.most c0.frame who) (nbH c0 o og i0 i1 who) w0 (fun s : LS => nbCost s.2) (LvI c0 w0 o nx) where
 base h := by obtain ⟨gn, S, t, B, hP, _⟩ := h.pr; exact hP.same0
 lt h := by obtain ⟨gn, S, t, B, hP, _⟩ := h.pr; exact fun k hk => hP.lt hk
 loc h m := by obtain ⟨gn, S, t, B, hP, h2⟩ := h.pr; exact ⟨⟨gn, S, t, B, hP.loc m, h2⟩, h.ap, h.num, h.few, h.ok, h.rl⟩
 less h hs := by obtain ⟨gn, S, t, B, hP, h2⟩ := h.pr; exact ⟨⟨gn, S, t, B, hP.less hs, h2⟩, fun k hk => h.ap k (hs k hk), h.num, h.few, h.ok, h.rl⟩
 grow h m hf := by
  obtain ⟨gn, S, t, B, hP, h2⟩ := id h.pr
  exact ⟨⟨gn, S, t, B, hP.grow m fun k hk => ⟨hf k hk, h.ap k (hf k hk)⟩, h2⟩, h.ap', h.num, h.few, h.ok, h.rl⟩
 get {X w s} c h hc := by
  obtain ⟨gn, S, t, B, ⟨⟨fx, U, hW, _⟩, _⟩, hv, _⟩ := h.pr
  show Meets _ _ _ _ fun v w' => (∃ q e, _ ∧ (getV s.1 who c = some q ∧ _ ∨ getV s.1 who c = none ∧ _)) ∧ _
  rw [← hv]
  exact wGet_any hL h7 h17 hW who c
 res i h := by
  obtain ⟨gn, S, t, B, ⟨⟨fx, U, hW, _⟩, _⟩, _⟩ := h.pr
  refine (wResource hW i).mono ?_
  rintro v w' ⟨rfl, rfl⟩
  exact ⟨⟨_, rfl⟩, Mod.refl _ _⟩
 fr h := by
  obtain ⟨gn, S, t, B, ⟨⟨fx, U, hW, _⟩, _⟩, _⟩ := h.pr
  refine (wFrame hW.here).mono ?_
  rintro v w' ⟨rfl, rfl⟩
  exact ⟨rfl, Mod.refl _ _⟩
 set {X w s} c i n h hc _ hn := by
  obtain ⟨gn, S, t, B, ⟨⟨fx, U, hW, hO, hU, hX⟩, h0⟩, hv, hnx⟩ := h.pr
  refine (wSet_any hL h1 h7 h17 hW who c i n).mono ?_
  rintro v w' ⟨S', hv', hg, hW', hm⟩
  obtain ⟨hP, hm⟩ := Pair.act h0 hO hU hX hW' hm
  exact ⟨⟨⟨gn, S', t, B, hP, by rw [hv', hv]; rfl, hnx⟩, h.ap, h.num, h.few, setC_ok h.ok _ _ _ hn hfr, h.rl⟩, hm⟩
 asg {X w s} i n h _ hn := by
  obtain ⟨gn, S, t, B, ⟨⟨fx, U, hW, hO, hU, hX⟩, h0⟩, h2⟩ := h.pr
  refine (wAssign hL h7 hW i n).mono ?_
  rintro v w' ⟨gn', hW', hm⟩
  obtain ⟨hP, hm⟩ := Pair.tune (c := c0.tune s.2.R c0.frame s.2.seed gn) (c' := c0.tune (setR s.2.R i n) c0.frame s.2.seed gn') h0 hO hU hX h.ap rfl hW' hm
  exact ⟨⟨⟨gn', S, t, B, hP, h2⟩, h.ap, setR64 h.num i hn, h.few, h.ok, by show (setR s.2.R i n).length ≤ 1000; rw [setR_len]; exact h.rl⟩, hm⟩
 dr {X w s} n h _ hn := by
  obtain ⟨gn, S, t, B, ⟨⟨fx, U, hW, hO, hU, hX⟩, h0⟩, h2⟩ := h.pr
  refine (wDraw hW n hn).mono ?_
  rintro v w' ⟨rfl, hW', hm⟩
  obtain ⟨hP, hm⟩ := Pair.tune (c := c0.tune s.2.R c0.frame s.2.seed gn) (c' := c0.tune s.2.R c0.frame (drawD s.2.seed n).1 gn) h0 hO hU hX h.ap rfl hW' hm
  exact ⟨⟨_, rfl⟩, ⟨⟨_, S, t, B, hP, h2⟩, h.ap, h.num, h.few, h.ok, h.rl⟩, hm⟩
 add {X w s} x h hx hc := by
  obtain ⟨gn, S, t, B, hP, h3⟩ := h.pr
  obtain ⟨e1, e2⟩ := add_num (og := og) (n := o.L.length) (most := o.most) (s := s.2) (x := x)
  refine (add_any hL h1 h2 h6 og hP hmo h.few hx hc).mono ?_
  rintro v w' ⟨⟨hP', hf⟩, hm⟩
  exact ⟨⟨⟨gn, S, t, B, by show Pair (c0.tune (nbAdd og o.L.length o.most s.2 x).R c0.frame (nbAdd og o.L.length o.most s.2 x).seed gn) _ _ _ _ _ _ _ _ _ _; rw [e1, e2]; exact hP', h3⟩, h.ap, by show numL (nbAdd og o.L.length o.most s.2 x).R; rw [e1]; exact h.num, hf, h.ok, by show (nbAdd og o.L.length o.most s.2 x).R.length ≤ 1000; rw [e1]; exact h.rl⟩, hm⟩
 get64 h hq := getV_ok h.ok hq
 res64 {X w s i v} h hv := by
  have hv : getR s.2.R i = some v := hv
  unfold getR at hv
  split at hv
  ·cases hv
  ·exact h.num v (List.mem_of_getElem? hv)
 fr64 _ := hfr
 dr64 s n := drawD64 _ _
 in64 := ⟨hi0, hi1, hwho⟩
 cset s c i n := Nat.le_succ _
 casg s i n := Nat.le_succ _
 cdr s n := Nat.le_succ _
 cadd s x := add_cost _ _ _ _ _
end
end
section
attribute [local irreducible] kO kB kStr kInt kN kG kIf kfld kld kldN kst knew kmap kbld kbldS kext kcnv klenStr klen kcap kprt kprtN kbool kint kstr keq kun ksl kix kiv kta kmk kmm ksem ksemU kextf kcallV kcallM kcall kL
section
variable {pr : Nat → Prop} {Sa : Nat → Addr} {w : World}
theorem nilEntity (hL : LaidP pr Sa w) (h2' : pr 2) (x : Value) : Meets Tryz.prog 84 #[.pointer none, x] w fun v w' => (∃ e, v = .tuple #[entV 0 0, e] ∧ ErrX Sa 2 w.heap.size e w') ∧ Same w w' := by
 refine f84_ok ?_
 unfold f84
 refine knew_of fun w2 h2 hs2 hb2 => ?_
 rw [keq_ptr_nil ptWor]
 refine kB_at ?_
 refine kIf_T rfl ?_
 refine kbld_of (cs := [.int .i64 0, .int .i64 0]) rfl ?_
 refine kld_err (hL.same h2) h2' rfl rfl ?_
 refine kcall_of (wWrong (ErrX.sent Sa 2 w2.heap.size w2) (Nat.le_refl _)) ?_
 rintro v w8 ⟨hE, h8⟩
 refine kst_of (vs := [.int .i64 0, .int .i64 0]) (h8.get hb2 (fun h => h)) rfl rfl rfl (by simp) (by simp) fun w9 h9 hs9 hb9 => ?_
 have hb9 : blk w9 w.heap.size = some (.cells #[.int .i64 0, .int .i64 0] 160) := hb9
 refine kldN_at hb9 rfl (by omega) ?_
 have hz := lt_of_blk hb2
 exact ⟨⟨_, rfl, (hE.mod h9 fun k h1 h2 e => by omega).mono h2.size⟩, (h2.trans h8).trans' (h9.mono fun k _ e => .inr (by omega))⟩
theorem nilResource (w : World) (i : Value) : Meets Tryz.prog 139 #[.pointer none, i] w fun v w' => v = .tuple #[nV 0, .bool false] ∧ w' = w := by
 refine f139_ok ?_
 unfold f139
 rw [keq_ptr_nil ptWor]
 refine kB_at ?_
 refine kIf_T rfl ?_
 exact ⟨rfl, rfl⟩
theorem nilFrame (w : World) : Meets Tryz.prog 140 #[.pointer none] w fun v w' => v = nV 0 ∧ w' = w := by
 refine f140_ok ?_
 unfold f140
 rw [keq_ptr_nil ptWor]
 refine kB_at ?_
 refine kIf_T rfl ?_
 exact ⟨rfl, rfl⟩
theorem nilDraw (hL : LaidP pr Sa w) (h2 : pr 2) (n : Value) : Meets Tryz.prog 141 #[.pointer none, n] w fun v w' => (∃ e, v = .tuple #[nV 0, e]) ∧ Same w w' := by
 refine f141_ok ?_
 unfold f141
 rw [keq_ptr_nil ptWor]
 refine kB_at ?_
 refine kIf_T rfl ?_
 refine kld_err hL h2 rfl rfl ?_
 refine kcall_of (wWrong (ErrX.sent Sa 2 w.heap.size w) (Nat.le_refl _)) ?_
 rintro v w5 ⟨hE, h5⟩
 exact ⟨⟨_, rfl⟩, h5⟩
theorem nilAssign (hL : LaidP pr Sa w) (h2 : pr 2) (i n : Value) : Meets Tryz.prog 143 #[.pointer none, i, n] w fun v w' => Same w w' := by
 refine f143_ok ?_
 unfold f143
 rw [keq_ptr_nil ptWor]
 refine kB_at ?_
 refine kIf_T rfl ?_
 refine kld_err hL h2 rfl rfl ?_
 refine kcall_of (wWrong (ErrX.sent Sa 2 w.heap.size w) (Nat.le_refl _)) ?_
 rintro v w5 ⟨hE, h5⟩
 exact h5
end
def noW (og : Bool) (n most : Nat) : WM NB where
 get _ _ := none
 res _ _ := none
 fr _ := 0
 set s _ _ _ := s
 asg s _ _ := s
 dr s _ := (s, 0)
 add := nbAdd og n most
structure NoI (c : WC) (w0 : World) (o : OC) (S : SM) (t : Nat) (B : BdM) (X : Nat → Prop) (w : World) (s : NB) : Prop where
 pr : Pair c w0 o X w S t B s.l s.gv s.dr
 ap : ∀ k, X k → ¬ c.mine k
 few : s.l.length ≤ s.gv
def noH (o : OC) (og : Bool) (i0 i1 who : Int) : HC := ⟨none, if og = true then some ⟨o.bo, 0, none⟩ else none, i0, i1, who⟩
theorem no_host {pr : Nat → Prop} {Sa : Nat → Addr} {c : WC} {w0 : World} (hL : LaidP pr Sa w0) (h1 : pr 1) (h2 : pr 2) (h6 : pr 6) {o : OC} {S : SM} {t : Nat} {B : BdM} (og : Bool) {i0 i1 who : Int} (hi0 : I64 i0) (hi1 : I64 i1) (hwho : I64 who) (hmo : o.most ≤ 1000000) :
  WI (noW og o.L.length o.most) (noH o og i0 i1 who) w0 nbCost (NoI c w0 o S t B) where
 base h := h.pr.same0
 lt h := fun k hk => h.pr.lt hk
 loc h m := ⟨h.pr.loc m, h.ap, h.few⟩
 less h hs := ⟨h.pr.less hs, fun k hk => h.ap k (hs k hk), h.few⟩
 grow h m hf := by
  have hP := h.pr
  obtain ⟨⟨fx, U, hW, _⟩, _⟩ := id hP
  refine ⟨hP.grow m fun k hk => ⟨hf k hk, h.ap k (hf k hk)⟩, fun k hk => ?_, h.few⟩
  rcases hk with hk | hk
  ·exact h.ap k hk
  ·intro e
   have := (hW.A.lt (hW.fm k e)).2
   omega
 get {X w s} c h hc := by
  refine (wGet_fail (Sa := Sa) (k := 2) fun w2 m => nilEntity (hL.same (h.pr.same0.trans m)) h2 _).mono ?_
  rintro v w' ⟨⟨e, rfl, hE⟩, h'⟩
  exact ⟨⟨_, e, rfl, .inr ⟨rfl, hE⟩⟩, h'⟩
 res i h := by
  refine (nilResource _ _).mono ?_
  rintro v w' ⟨rfl, rfl⟩
  exact ⟨⟨_, rfl⟩, Mod.refl _ _⟩
 fr h := by
  refine (nilFrame _).mono ?_
  rintro v w' ⟨rfl, rfl⟩
  exact ⟨rfl, Mod.refl _ _⟩
 set {X w s} c i n h hc _ _ := by
  refine (wSet_fail (Sa := Sa) (k := 2) (nilEntity (hL.same h.pr.same0) h2 _)).mono ?_
  intro v w' h'
  exact ⟨⟨h.pr.loc h', h.ap, h.few⟩, Mod.of_same h'⟩
 asg {X w s} i n h _ _ := by
  refine (nilAssign (hL.same h.pr.same0) h2 _ _).mono ?_
  intro v w' h'
  exact ⟨⟨h.pr.loc h', h.ap, h.few⟩, Mod.of_same h'⟩
 dr {X w s} n h _ _ := by
  refine (nilDraw (hL.same h.pr.same0) h2 _).mono ?_
  rintro v w' ⟨⟨e, rfl⟩, h'⟩
  exact ⟨⟨e, rfl⟩, ⟨h.pr.loc h', h.ap, h.few⟩, Mod.of_same h'⟩
 add {X w s} x h hx hc := by
  refine (add_any hL h1 h2 h6 og h.pr hmo h.few hx hc).mono ?_
  rintro v w' ⟨⟨hP, hf⟩, hm⟩
  exact ⟨⟨hP, h.ap, hf⟩, hm⟩
 get64 h hq := by cases hq
 res64 h hv := by cases hv
 fr64 _ := I64_0
 dr64 s n := I64_0
 in64 := ⟨hi0, hi1, hwho⟩
 cset s c i n := Nat.le_succ _
 casg s i n := Nat.le_succ _
 cdr s n := Nat.le_succ _
 cadd s x := add_cost _ _ _ _ _
end
section
attribute [local irreducible] kO kB kStr kInt kN kG kIf kfld kld kldN kst knew kmap kbld kbldS kext kcnv klenStr klen kcap kprt kprtN kbool kint kstr keq kun ksl kix kiv kta kmk kmm ksem ksemU kextf kcallV kcallM kcall kL
def rbC (m : Nat) (q : Part) : Bool := decide (m &&& bitF q.comp ≠ 0)
theorem state1_spec {c : WC} {w : World} (h : blk w c.bw = some (.cells c.cells 106)) (hr : c.rolled < 4294967296) {b1 : Nat} (hb : blk w b1 = some (.cells #[.pointer (some ⟨c.bw, 0, none⟩)] 35)) (q : Part) (hq : I64 q.comp) :
  Meets Tryz.prog 57 #[.agg q.cells.toArray, .pointer (some ⟨b1, 0, none⟩)] w fun v w' => v = .bool (!rbC c.rolled q) ∧ Same w w' := by
 refine f57_ok ?_
 unfold f57
 refine knew_of fun w2 h2 hs2 hb2 => ?_
 have hb2 : blk w2 w.heap.size = some (.cells q.cells.toArray 49) := hb2
 have md : Same w2 w2.drew := (Mod.refl (fun _ => False) _).drew
 have m2 := h2.trans md
 have hbd := md.get hb2 (fun h => h)
 generalize w2.drew = wd at *
 refine kld_of (v := .pointer (some ⟨c.bw, 0, none⟩)) (m2.get hb (fun h => h)) rfl ?_
 refine kG_of rfl ?_
 refine kN_at ?_
 refine kfld_of ?_
 refine kld_of (v := msk c.rolled) (m2.get h (fun h => h)) rfl ?_
 refine kG_of rfl ?_
 refine kfld_of ?_
 refine kld_of (v := .int .i64 q.comp) hbd (by simp [Part.cells]) ?_
 refine kG_of rfl ?_
 refine kcall_of (has_spec c.rolled q.comp hr hq.1 hq.2 _) ?_
 rintro v w9 ⟨rfl, rfl⟩
 refine not_at ?_
 exact ⟨rfl, m2⟩
structure StV where
 frame : Int
 next : Nat
 seed : Int
 xa : Option Addr
 xc : Nat
 bl : List BeV
 ra : Option Addr
 rc : Nat
 R : List Int
def StV.cells (s : StV) : List Value := [.int .i64 s.frame, natV s.next, .int .i64 s.seed, .slice s.xa s.bl.length s.xc, .slice s.ra s.R.length s.rc]
def StV.val (s : StV) : Value := .agg s.cells.toArray
structure StM where
 frame : Int
 next : Nat
 seed : Int
 beings : List (Nat × List Part)
 R : List Int
def StV.m (s : StV) : StM := ⟨s.frame, s.next, s.seed, s.bl.map BeV.key, s.R⟩
def rbV (m : Nat) (V : List (Nat × List Part)) : List (Nat × List Part) := V.map fun y => (y.1, y.2.filter (rbC m))
def stM (c : WC) (V : List (Nat × List Part)) (nx : Nat) : StM := ⟨c.frame, nx, c.seed, rbV c.rolled V, c.R⟩
structure StAt (lo : Nat) (w : World) (s : StV) : Prop where
 xs : SlIs w s.xa s.bl.length 2 (s.bl.flatMap BeV.cells)
 ps : ∀ b ∈ s.bl, SlIs w b.pa b.parts.length 6 (b.parts.flatMap Part.cells)
 rs : SlIs w s.ra s.R.length 1 (s.R.map (Value.int .i64))
 xlo : ∀ k f, s.xa = some ⟨k, f, none⟩ → lo ≤ k
 plo : ∀ b ∈ s.bl, ∀ k f, b.pa = some ⟨k, f, none⟩ → lo ≤ k
 rlo : ∀ k f, s.ra = some ⟨k, f, none⟩ → lo ≤ k
theorem StAt.mod {lo : Nat} {fp : Nat → Prop} {w w' : World} {s : StV} (h : StAt lo w s) (m : Mod fp w w') (hf : ∀ k, lo ≤ k → ¬ fp k) : StAt lo w' s :=
 ⟨h.xs.mod m fun k f e => hf k (h.xlo k f e), fun b hb => (h.ps b hb).mod m fun k f e => hf k (h.plo b hb k f e), h.rs.mod m fun k f e => hf k (h.rlo k f e), h.xlo, h.plo, h.rlo⟩
theorem StAt.same {lo : Nat} {w w' : World} {s : StV} (h : StAt lo w s) (m : Same w w') : StAt lo w' s := h.mod m fun _ _ h => h
theorem upd_list {α : Type} (f : α → α) (V : List α) (i : Nat) (hi : i < V.length) : ((V.take i).map f ++ V.drop i).set i (f V[i]) = (V.take (i + 1)).map f ++ V.drop (i + 1) := by
 have hl : ((V.take i).map f).length = i := by rw [List.length_map, List.length_take]; omega
 rw [List.set_append_right _ _ (by omega), hl, Nat.sub_self, List.drop_eq_getElem_cons hi, List.set_cons_zero, List.take_succ_eq_append_getElem hi, List.map_append]
 simp
theorem own_sl {w : World} {a : Option Addr} {n c sz : Nat} {vs : List Value} (h : Own w (.slice a n c) sz vs) : SlIs w a n sz vs := by
 obtain ⟨a', n', c', e, h, _⟩ := h.is
 cases e
 exact h
theorem flat_be : ∀ (l : List BeV) (i : Nat) (hi : i < l.length) (b : BeV), (l[i]).id = b.id → (l.flatMap BeV.cells).set (i * 2 + 1) (.slice b.pa b.parts.length b.pc) = (l.set i b).flatMap BeV.cells
 | y :: l, 0, hi, b, e => by
  have e : y.id = b.id := e
  show natV y.id :: Value.slice b.pa b.parts.length b.pc :: l.flatMap BeV.cells = natV b.id :: Value.slice b.pa b.parts.length b.pc :: l.flatMap BeV.cells
  rw [e]
 | y :: l, i + 1, hi, b, e => by
  have ih := flat_be l i (by simpa using hi) b e
  rw [show (i + 1) * 2 + 1 = (i * 2 + 1) + 2 by omega]
  show natV y.id :: Value.slice y.pa y.parts.length y.pc :: (l.flatMap BeV.cells).set (i * 2 + 1) _ = natV y.id :: Value.slice y.pa y.parts.length y.pc :: (l.set i b).flatMap BeV.cells
  rw [ih]
theorem wState {c : WC} {w0 : World} {fx : Nat → Prop} {w : World} {S : SM} {t : Nat} {B : BdM} (h : WdAt c w0 fx w S t B) (hle : B.l.length ≤ 64) (hR : c.R.length ≤ 1000000) :
  Meets Tryz.prog 19 #[.pointer (some ⟨c.bw, 0, none⟩)] w fun v w' => ∃ s : StV, v = s.val ∧ StAt w.heap.size w' s ∧ s.m = stM c (viewS S B) B.nx ∧ Same w w' := by
 have hvl := viewS_len S B
 have hfits : ∀ y ∈ viewS S B, ∀ q ∈ y.2, 0 ≤ q.comp ∧ q.comp < 16 := by
  intro y hy q hq
  obtain ⟨x, hx, rfl⟩ := List.mem_map.1 hy
  obtain ⟨i, hi, hg⟩ := h.link.live x hx
  obtain ⟨o, p, U, C, _⟩ := h.A
  obtain ⟨n, r, _, _, _, _, _, _, _, hf, _⟩ := parts_ok C.sp C.gs hg
  have hq : q ∈ partsOf S x.2.i.toNat := hq
  rw [hi, Int.toNat_natCast] at hq
  obtain ⟨cc, h1, h2, _⟩ := hf q hq
  have h3 := h.good.len
  rw [h.cs] at h2
  omega
 have hlen : ∀ y ∈ viewS S B, y.2.length ≤ 1000 := by
  intro y hy
  obtain ⟨x, hx, rfl⟩ := List.mem_map.1 hy
  obtain ⟨i, hi, hg⟩ := h.link.live x hx
  obtain ⟨o, p, U, C, _⟩ := h.A
  obtain ⟨n, r, _, _, _, _, _, _, hm, _⟩ := parts_ok C.sp C.gs hg
  have e := congrArg List.length hm
  rw [List.length_map, List.length_map] at e
  have := listF_len S.masks[n]
  show (partsOf S x.2.i.toNat).length ≤ 1000
  rw [hi, Int.toNat_natCast]
  omega
 refine f19_ok ?_
 unfold f19
 refine knew_of fun w2 h2 hs2 hb2 => ?_
 have hb2 : blk w2 w.heap.size = some (.cells #[.pointer (some ⟨c.bw, 0, none⟩)] 35) := hb2
 refine knew_of fun w4 h4 hs4 hb4 => ?_
 have hb4 : blk w4 w2.heap.size = some (.cells #[.int .i64 0, .int .i64 0, .int .i64 0, .slice none 0 0, .slice none 0 0] 61) := hb4
 have m4 := h2.trans h4
 have hb24 := h4.get hb2 (fun h => h)
 refine kld_of (v := .pointer (some ⟨c.bw, 0, none⟩)) hb24 rfl ?_
 rw [keq_ptr_nil ptWor]
 refine kB_at ?_
 refine kIf_F rfl ?_
 unfold f19_0
 refine kld_of (v := .pointer (some ⟨c.bw, 0, none⟩)) hb24 rfl ?_
 refine kcall_of (wView (h.loc m4) hle) ?_
 rintro v w13 ⟨bl0, hB0, hk0, h13⟩
 obtain ⟨xa, xn, xc, rfl, hxs, _⟩ := hB0.own.is
 have hfb := flat_len BeV.cells 2 (fun _ => rfl) bl0
 have hbl0 : bl0.length = (viewS S B).length := by have := congrArg List.length hk0; rw [List.length_map] at this; exact this
 have hxn : xn = (viewS S B).length := by have h1 := hxs.1; omega
 subst hxn
 have m13 := m4.trans h13
 have hbwl := lt_of_blk h.here
 have hz4 := m4.size
 refine klen_at ?_
 refine kL1_of (viewS S B).length (fun i y wr => y = .int .i64 i ∧ ∃ bl, bl.length = (viewS S B).length ∧ BsAt w4.heap.size wr (.slice xa (viewS S B).length xc) bl ∧ bl.map BeV.key = ((viewS S B).take i).map (fun y => (y.1, y.2.filter (rbC c.rolled))) ++ (viewS S B).drop i ∧ Mod (fun k => w4.heap.size ≤ k) w13 wr) ⟨lI1_0 ⟨rfl, bl0, hbl0, hB0, by simpa using hk0, Mod.refl _ _⟩, fun y wr hx => ?_⟩
 obtain ⟨i, hi, ⟨rfl, bl, hbl, hB, hkk, hmr⟩, hJ⟩ := lI1_step hx
 have s0r : Same w4 wr := h13.trans' (hmr.mono fun k _ e => .inr e)
 have swr : Same w wr := m4.trans s0r
 unfold f19_1
 refine lss_at ?_
 refine kB_at ?_
 refine kIf_dec (fun hlt => ?_) (fun hge => ?_)
 ·have hlt : i < (viewS S B).length := by omega
  have hib : i < bl.length := by omega
  have hVi : (bl[i]).key = (viewS S B)[i] := by
   have e := congrArg (fun l : List (Nat × List Part) => l[i]?) hkk
   have hl : (((viewS S B).take i).map (fun y => (y.1, y.2.filter (rbC c.rolled)))).length = i := by rw [List.length_map, List.length_take]; omega
   simp only [List.getElem?_map, List.getElem?_eq_getElem hib, Option.map_some] at e
   rw [List.getElem?_append_right (by omega), hl, Nat.sub_self, List.getElem?_drop, Nat.add_zero, List.getElem?_eq_getElem hlt] at e
   exact Option.some.inj e
  have hmemV := List.getElem_mem hlt
  have hbm := List.getElem_mem hib
  obtain ⟨bx, cp, arr, tt, e0, hbx, s1, s2, s3⟩ := hB.own.viewF (F := BeV.cells) (sz := 2) (fun _ => rfl) (by omega) (show 0 < bl.length by omega)
  rw [hbl] at e0 s1 s2
  cases e0
  have hsi := s3 i hib
  have hfits' := hfits _ hmemV
  have hlen' := hlen _ hmemV
  rw [← hVi] at hfits' hlen'
  have hupd := upd_list (fun y : Nat × List Part => (y.1, y.2.filter (rbC c.rolled))) (viewS S B) i hlt
  rw [← hVi, ← hkk] at hupd
  have hset : bl.set i bl[i] = bl := List.set_getElem_self hib
  generalize hbi : bl[i] = b at *
  have hOb := hB.parts b hbm
  have hne := hB.ne b hbm
  have hplo := hB.plo b hbm
  unfold f19_2
  rw [kix_slice]
  refine kG_of (by omega) ?_
  rw [add_mk, Nat.zero_add, Int.toNat_natCast]
  refine kN_at ?_
  refine kfld_of ?_
  have hsg := segL_spec _ _ _ _ hsi
  rw [Array.length_toList] at hsg
  have hcell : arr[i * 2 + 1]? = some (.slice b.pa b.parts.length b.pc) := by
   have := congrArg (fun l : List Value => l[1]?) hsg.2
   rw [← Array.getElem?_toList]
   simpa [List.getElem?_take, List.getElem?_drop, BeV.cells] using this
  refine kld_of (v := .slice b.pa b.parts.length b.pc) hbx hcell ?_
  have hTells : Tells (.slice b.pa b.parts.length b.pc) wr 57 #[.pointer (some ⟨w.heap.size, 0, none⟩)] b.parts (fun q => !rbC c.rolled q) := by
   intro q hq w1 m1
   have keep : ∀ k, k < w4.heap.size → ¬ vblk (.slice b.pa b.parts.length b.pc) k := fun k hk hv => by have := hplo k hv; omega
   have hq' := hfits' q hq
   exact state1_spec (m1.get (swr.get h.here (fun h => h)) (keep _ (by omega))) h.rl (m1.get (s0r.get hb24 (fun h => h)) (keep _ (by omega))) q (by unfold I64; omega)
  refine kcall_of (deleteG_spec hOb hTells (by have : b.parts.length ≤ 1000 := hlen'; omega)) ?_
  rintro v' w21 ⟨hO21, m21, hv21⟩
  have hfe : (b.parts.filter fun q => !(!rbC c.rolled q)) = b.parts.filter (rbC c.rolled) := by
   congr 1; funext q; rw [Bool.not_not]
  rw [hfe] at hO21
  obtain ⟨pa, pn, pc, rfl, hps, _⟩ := hO21.is
  have hflp := flat_len Part.cells 6 (fun _ => rfl) (b.parts.filter (rbC c.rolled))
  have hpn : pn = (b.parts.filter (rbC c.rolled)).length := by have h1 := hps.1; omega
  subst hpn
  have hxv : vblk (.slice (some ⟨bx, 0, none⟩) (viewS S B).length xc) bx := ⟨0, _, _, rfl⟩
  have hbx21 := m21.get hbx (fun hk => hne _ hk hxv)
  refine kN_at ?_
  refine kfld_of ?_
  refine kst1_of hbx21 rfl rfl (by omega) fun w23 h23 hs23 hb23 => ?_
  unfold f19_3
  refine add_at (by omega) (by omega) ?_
  rw [cast_succ]
  have hxlo := hB.xlo bx hxv
  have m2123 : Mod (fun k => w4.heap.size ≤ k) wr w23 := (m21.mono fun k _ hk => hplo k hk).trans (h23.mono fun k _ e => by omega)
  have key : ∀ b' ∈ bl.set i (⟨b.id, pa, pc, b.parts.filter (rbC c.rolled)⟩ : BeV), b' = ⟨b.id, pa, pc, b.parts.filter (rbC c.rolled)⟩ ∨ (b' ∈ bl ∧ ∀ k, vblk b'.pv k → ¬ vblk b.pv k) := fun b' hb' => by
   obtain ⟨j, hj, e⟩ := List.mem_iff_getElem.1 hb'
   rw [List.length_set] at hj
   rw [List.getElem_set] at e
   by_cases hij : i = j
   ·rw [if_pos hij] at e; exact .inl e.symm
   ·rw [if_neg hij] at e
    refine .inr ⟨e ▸ List.getElem_mem hj, fun k hk hk' => ?_⟩
    have hap := List.pairwise_iff_getElem.1 hB.apart
    rcases Nat.lt_or_ge i j with h | h
    ·have := hap i j hib hj h
     rw [hbi, e] at this
     exact this k hk' hk
    ·have := hap j i hj hib (by omega)
     rw [hbi, e] at this
     exact this k hk hk'
  have hpv : ∀ k, vblk (⟨b.id, pa, pc, b.parts.filter (rbC c.rolled)⟩ : BeV).pv k → vblk b.pv k := hv21
  refine hJ _ _ hlt ⟨rfl, bl.set i ⟨b.id, pa, pc, b.parts.filter (rbC c.rolled)⟩, by rw [List.length_set, hbl], ⟨?_, fun b' hb' => ?_, hB.xlo, fun b' hb' k hk => ?_, fun b' hb' k hk => ?_, ?_⟩, ?_, hmr.trans m2123⟩
  ·have hO : Own w21 (.slice (some ⟨bx, 0, none⟩) (viewS S B).length xc) 2 (bl.flatMap BeV.cells) := hB.own.mod m21 fun k hx hk => hne k hk hx
   have h1 := Own.set1 hO hbx21 hb23 (j := i * 2 + 1) (by rw [flat_len BeV.cells 2 (fun _ => rfl)]; omega)
   have e1 := flat_be bl i hib ⟨b.id, pa, pc, b.parts.filter (rbC c.rolled)⟩ (by rw [hbi])
   rw [← e1]; exact h1
  ·rcases key b' hb' with rfl | ⟨hb', hap⟩
   ·exact hO21.mod h23 fun k hk e => by rw [e] at hk; exact hne _ (hv21 _ hk) hxv
   ·exact ((hB.parts b' hb').mod m21 fun k hk hk' => hap k hk hk').mod h23 fun k hk e => by rw [e] at hk; exact hB.ne b' hb' _ hk hxv
  ·rcases key b' hb' with rfl | ⟨hb', hap⟩
   ·exact hplo k (hpv k hk)
   ·exact hB.plo b' hb' k hk
  ·rcases key b' hb' with rfl | ⟨hb', hap⟩
   ·exact hne k (hpv k hk)
   ·exact hB.ne b' hb' k hk
  ·rw [List.pairwise_iff_getElem]
   intro p q hp hq hpq k hk hk'
   rw [List.length_set] at hp hq
   have hap := List.pairwise_iff_getElem.1 hB.apart p q hp hq hpq
   rw [List.getElem_set] at hk hk'
   by_cases h1 : i = p
   ·rw [if_pos h1] at hk
    rw [if_neg (by omega)] at hk'
    subst h1
    rw [hbi] at hap
    exact hap k (hpv k hk) hk'
   ·rw [if_neg h1] at hk
    by_cases h2 : i = q
    ·rw [if_pos h2] at hk'
     subst h2
     rw [hbi] at hap
     exact hap k hk (hpv k hk')
    ·rw [if_neg h2] at hk'
     exact hap k hk hk'
  ·rw [List.map_set]; exact hupd
 ·have : i = (viewS S B).length := by omega
  subst this
  rw [List.take_length, List.drop_length, List.append_nil] at hkk
  unfold f19_4
  have md : Same wr wr.drew := (Mod.refl (fun _ => False) _).drew
  have hW := h.loc (swr.trans md)
  have hBd := hB.same md
  have hb1 := (s0r.trans md).get hb24 (fun h => h)
  have hb4d := (s0r.trans md).get hb4 (fun h => h)
  have swd := swr.trans md
  have hzd := (s0r.trans md).size
  generalize wr.drew = wd at *
  have kx : ∀ {w1 : World}, Same wd w1 → blk w1 w.heap.size = some (.cells #[.pointer (some ⟨c.bw, 0, none⟩)] 35) := fun m => m.get hb1 (fun h => h)
  have kw : ∀ {w1 : World}, Same wd w1 → blk w1 c.bw = some (.cells c.cells 106) := fun m => m.get hW.here (fun h => h)
  have m0 : Same wd wd := Mod.refl _ _
  refine kld_of (v := .pointer (some ⟨c.bw, 0, none⟩)) hb1 rfl ?_
  refine kG_of rfl ?_
  refine kN_at ?_
  refine kfld_of ?_
  refine kld_of (v := .int .i64 c.frame) hW.here rfl ?_
  refine kG_of rfl ?_
  refine kld_of (v := .pointer (some ⟨c.bw, 0, none⟩)) hb1 rfl ?_
  refine kG_of rfl ?_
  refine kN_at ?_
  refine kfld_of ?_
  refine kld_of (v := .pointer (some ⟨c.bb, 0, none⟩)) hW.here rfl ?_
  refine kG_of rfl ?_
  obtain ⟨o, p, U, C, hb, hU, hfx⟩ := id hW.A
  refine kcall_of (bdNext hb) ?_
  rintro v w32 ⟨rfl, rfl⟩
  refine kG_of (kld_of (v := .int .i64 c.frame) hW.here rfl ⟨rfl, rfl⟩) ?_
  refine kG_of (kld_of (v := .pointer (some ⟨c.bw, 0, none⟩)) hb1 rfl ⟨rfl, rfl⟩) ?_
  refine kld_of (v := .pointer (some ⟨c.bw, 0, none⟩)) hb1 rfl ?_
  refine kG_of rfl ?_
  refine kG_of (kld_of (v := .pointer (some ⟨c.bw, 0, none⟩)) hb1 rfl ⟨rfl, rfl⟩) ?_
  refine kN_at ?_
  refine kfld_of ?_
  refine kld_of (v := .int .i64 c.seed) hW.here rfl ?_
  refine kG_of rfl ?_
  refine kG_of (kld_of (v := .int .i64 c.seed) hW.here rfl ⟨rfl, rfl⟩) ?_
  refine kld_of (v := .pointer (some ⟨c.bw, 0, none⟩)) hb1 rfl ?_
  refine kG_of rfl ?_
  refine kG_of (kld_of (v := .pointer (some ⟨c.bw, 0, none⟩)) hb1 rfl ⟨rfl, rfl⟩) ?_
  refine kN_at ?_
  refine kfld_of ?_
  refine kld_of (v := .pointer (some ⟨c.bg, 0, none⟩)) hW.here rfl ?_
  refine kG_of rfl ?_
  refine kG_of (kld_of (v := .pointer (some ⟨c.bg, 0, none⟩)) hW.here rfl ⟨rfl, rfl⟩) ?_
  refine kcall_of (gAll hW.gh hW.go hR) ?_
  rintro v w40 ⟨hO40, hk40, h40⟩
  refine kG_of (kld_of (v := .int .i64 c.seed) (kw h40) rfl ⟨rfl, rfl⟩) ?_
  refine kG_of (kld_of (v := .pointer (some ⟨c.bw, 0, none⟩)) (kx h40) rfl ⟨rfl, rfl⟩) ?_
  refine kG_of (kld_of (v := .int .i64 c.frame) (kw h40) rfl ⟨rfl, rfl⟩) ?_
  refine kG_of (kld_of (v := .pointer (some ⟨c.bw, 0, none⟩)) (kx h40) rfl ⟨rfl, rfl⟩) ?_
  obtain ⟨ra, rn, rc, rfl, hrs, _⟩ := hO40.is
  have hrn : rn = c.R.length := by have h1 := hrs.1; rw [List.length_map] at h1; omega
  subst hrn
  refine kbld_of (cs := [.int .i64 c.frame, natV B.nx, .int .i64 c.seed, .slice xa (viewS S B).length xc, .slice ra c.R.length rc]) rfl ?_
  refine kst_of (vs := [.int .i64 c.frame, natV B.nx, .int .i64 c.seed, .slice xa (viewS S B).length xc, .slice ra c.R.length rc]) (h40.get hb4d (fun h => h)) rfl rfl rfl (by simp) (by simp) fun w42 h42 hs42 hb42 => ?_
  have hb42 : blk w42 w2.heap.size = some (.cells #[.int .i64 c.frame, natV B.nx, .int .i64 c.seed, .slice xa (viewS S B).length xc, .slice ra c.R.length rc] 61) := hb42
  refine kldN_at (cs := [.int .i64 c.frame, natV B.nx, .int .i64 c.seed, .slice xa (viewS S B).length xc, .slice ra c.R.length rc]) hb42 rfl (by omega) ?_
  have hz2 := h2.size
  have hlt2 := lt_of_blk hb4
  have nw : ∀ k, w4.heap.size ≤ k → ¬ k = w2.heap.size := fun k hk e => by omega
  refine ⟨⟨c.frame, B.nx, c.seed, xa, xc, bl, ra, rc, c.R⟩, ?_, ⟨?_, fun b hb => ?_, ?_, fun k f e => ?_, fun b hb k f e => ?_, fun k f e => ?_⟩, ?_, ?_⟩
  ·unfold StV.val StV.cells
   rw [hbl]
  ·have h1 := own_sl ((hBd.own.same h40).mod h42 fun k hk e => nw k (hB.xlo k hk) e)
   rw [← hbl] at h1
   exact h1
  ·exact own_sl (((hBd.parts b hb).same h40).mod h42 fun k hk e => nw k (hB.plo b hb k hk) e)
  ·exact own_sl (hO40.mod h42 fun k hk e => by have := hk40 k hk; omega)
  ·have := hB.xlo k ⟨f, _, _, by rw [show xa = some ⟨k, f, none⟩ from e]⟩; omega
  ·have := hB.plo b hb k ⟨f, b.parts.length, b.pc, by unfold BeV.pv; rw [e]⟩; omega
  ·have := hk40 k ⟨f, c.R.length, rc, by rw [show ra = some ⟨k, f, none⟩ from e]⟩; omega
  ·unfold StV.m stM rbV
   show StM.mk c.frame B.nx c.seed (bl.map BeV.key) c.R = _
   rw [hkk]
  ·exact (swd.trans h40).trans' (h42.mono fun k _ e => .inr (by omega))
end
section
def intV (n : Int) : Value := .int .i64 n
theorem kcallC_of' {P : Program} {f : FuncId} {args : List Value} {w : World} {K Q : Value → World → Prop} (h : Meets P f args.toArray w Q) (hk : ∀ v w', Q v w' → K v w') : kcallV P (.func (.func f) #[] #[]) args w K := by
 have : Meets P f (#[] ++ args.toArray ++ #[]) w K := by simpa using h.mono hk
 exact this
def EqInvW (n : Nat) (r : Nat → Bool) (w : World) (x : Value) (wr : World) : Prop := ∃ i : Nat, i ≤ n ∧ x = .int .i64 i ∧ (∀ j, j < i → r j = true) ∧ Same w wr
def rrW {α β γ : Type} [DecidableEq β] (F : α → β) (G : γ → β) (l1 : List α) (l2 : List γ) (i : Nat) : Bool := match l1[i]?, l2[i]? with
 | some a, some b => decide (F a = G b)
 | _, _ => true
theorem rrW_at {α β γ : Type} [DecidableEq β] (F : α → β) (G : γ → β) (l1 : List α) (l2 : List γ) (i : Nat) (h1 : i < l1.length) (h2 : i < l2.length) : rrW F G l1 l2 i = decide (F l1[i] = G l2[i]) := by
 unfold rrW
 rw [List.getElem?_eq_getElem h1, List.getElem?_eq_getElem h2]
theorem rrW_law {α β γ : Type} [DecidableEq β] (F : α → β) (G : γ → β) (l1 : List α) (l2 : List γ) : (decide (l1.length = l2.length) && (List.range l1.length).all (rrW F G l1 l2)) = decide (l1.map F = l2.map G) := by
 rw [Bool.eq_iff_iff, Bool.and_eq_true, decide_eq_true_eq, decide_eq_true_eq, List.all_eq_true]
 constructor
 ·rintro ⟨hl, hall⟩
  apply List.ext_getElem (by simp [hl])
  intro i h1 h2
  have h1 : i < l1.length := by simpa using h1
  have h2 : i < l2.length := by simpa using h2
  have := hall i (by simpa using h1)
  rw [rrW_at F G l1 l2 i h1 h2] at this
  simpa using this
 ·intro h
  have hl : l1.length = l2.length := by simpa using congrArg List.length h
  refine ⟨hl, fun i hi => ?_⟩
  have h1 : i < l1.length := by simpa using hi
  rw [rrW_at F G l1 l2 i h1 (by omega), decide_eq_true_eq]
  have := List.getElem_of_eq h (i := i) (by simpa using h1)
  simpa using this
theorem eqParts_spec {w : World} (l1 l2 : List Part) (k1 : ∀ p ∈ l1, p.ok) (k2 : ∀ p ∈ l2, p.ok) (a1 a2 : Option Addr) (c1 c2 : Nat) (h1 : SlIs w a1 l1.length 6 (l1.flatMap Part.cells)) (h2 : SlIs w a2 l2.length 6 (l2.flatMap Part.cells)) (hn : l1.length ≤ 1073741824) :
  Meets Tryz.prog 53 #[.slice a1 l1.length c1, .slice a2 l2.length c2] w fun v w' => v = .bool (decide (l1 = l2)) ∧ Same w w' := by
 have law := rrW_law (fun p : Part => p) (fun p : Part => p) l1 l2
 simp only [List.map_id'] at law
 rw [← law]
 clear law
 refine f53_ok ?_
 unfold f53
 rw [klen_slice, klen_slice, kint_neq, kB_bool]
 refine kIf_dec (fun hne => ?_) (fun heq => ?_)
 ·exact ⟨by rw [decide_eq_false (by omega), Bool.false_and], Mod.refl _ _⟩
 have hl : l1.length = l2.length := by omega
 rw [decide_eq_true hl, Bool.true_and]
 unfold f53_0
 rw [klen_slice]
 refine kL_of (EqInvW l1.length (rrW (fun p : Part => p) (fun p : Part => p) l1 l2) w) (fun x _ => l1.length - (RowKit.intOf x).toNat) ⟨⟨0, by omega, rfl, by simp, Mod.refl _ _⟩, ?_⟩
 rintro x wr ⟨i, hi, rfl, hr, hm⟩
 unfold f53_1
 rw [kint_lss, kB_bool]
 refine kIf_dec (fun hlt => ?_) (fun hge => ?_)
 ·have hlt : i < l1.length := by omega
  unfold f53_2
  refine kixldN_of (F := Part.cells) (fun _ => rfl) (by omega) (h1.same hm) hlt rfl ?_
  refine kG_of rfl ?_
  refine kixldN_of (F := Part.cells) (fun _ => rfl) (by omega) (h2.same hm) (show i < l2.length by omega) rfl ?_
  refine kG_of rfl ?_
  rw [keq_partN (k1 _ (List.getElem_mem hlt)) (k2 _ (List.getElem_mem (by omega)))]
  refine kG_of rfl ?_
  have hr' := rrW_at (fun p : Part => p) (fun p : Part => p) l1 l2 i hlt (by omega)
  rw [kB_bool]
  refine kIf_of (fun hb => ?_) (fun hb => ?_)
  ·refine ⟨?_, hm.drew⟩
   congr 1
   symm
   rw [List.all_eq_false]
   exact ⟨i, by simpa using hlt, by rw [hr']; simpa using hb⟩
  ·unfold f53_3
   rw [kint_add, i64_succ (by omega)]
   refine ⟨⟨i + 1, by omega, rfl, fun j hj => ?_, hm.drew⟩, by simp [RowKit.intOf]; omega⟩
   by_cases e : j = i
   ·rw [e, hr']; simpa using hb
   ·exact hr j (by omega)
 ·have : i = l1.length := by omega
  subst this
  unfold f53_4
  refine ⟨?_, hm⟩
  congr 1
  symm
  rw [List.all_eq_true]
  intro j hj
  exact hr j (by simpa using hj)
theorem eqInts_spec {w : World} (l1 l2 : List Int) (a1 a2 : Option Addr) (c1 c2 : Nat) (h1 : SlIs w a1 l1.length 1 (l1.map intV)) (h2 : SlIs w a2 l2.length 1 (l2.map intV)) (hn : l1.length ≤ 1073741824) :
  Meets Tryz.prog 55 #[.slice a1 l1.length c1, .slice a2 l2.length c2] w fun v w' => v = .bool (decide (l1 = l2)) ∧ Same w w' := by
 have law := rrW_law (fun p : Int => p) (fun p : Int => p) l1 l2
 simp only [List.map_id'] at law
 rw [← law]
 clear law
 refine f55_ok ?_
 unfold f55
 rw [klen_slice, klen_slice, kint_neq, kB_bool]
 refine kIf_dec (fun hne => ?_) (fun heq => ?_)
 ·exact ⟨by rw [decide_eq_false (by omega), Bool.false_and], Mod.refl _ _⟩
 have hl : l1.length = l2.length := by omega
 rw [decide_eq_true hl, Bool.true_and]
 unfold f55_0
 rw [klen_slice]
 refine kL_of (EqInvW l1.length (rrW (fun p : Int => p) (fun p : Int => p) l1 l2) w) (fun x _ => l1.length - (RowKit.intOf x).toNat) ⟨⟨0, by omega, rfl, by simp, Mod.refl _ _⟩, ?_⟩
 rintro x wr ⟨i, hi, rfl, hr, hm⟩
 unfold f55_1
 rw [kint_lss, kB_bool]
 refine kIf_dec (fun hlt => ?_) (fun hge => ?_)
 ·have hlt : i < l1.length := by omega
  unfold f55_2
  refine kixld_of (F := intV) (h1.same hm) hlt rfl ?_
  refine kG_of rfl ?_
  refine kixld_of (F := intV) (h2.same hm) (show i < l2.length by omega) rfl ?_
  refine kG_of rfl ?_
  rw [intV, intV, kint_neq]
  have hr' := rrW_at (fun p : Int => p) (fun p : Int => p) l1 l2 i hlt (by omega)
  rw [kB_bool]
  refine kIf_dec (fun hb => ?_) (fun hb => ?_)
  ·refine ⟨?_, hm.drew⟩
   congr 1
   symm
   rw [List.all_eq_false]
   exact ⟨i, by simpa using hlt, by rw [hr']; simpa using hb⟩
  ·unfold f55_3
   rw [kint_add, i64_succ (by omega)]
   refine ⟨⟨i + 1, by omega, rfl, fun j hj => ?_, hm.drew⟩, by simp [RowKit.intOf]; omega⟩
   by_cases e : j = i
   ·rw [e, hr']; simpa using hb
   ·exact hr j (by omega)
 ·have : i = l1.length := by omega
  subst this
  unfold f55_4
  refine ⟨?_, hm⟩
  congr 1
  symm
  rw [List.all_eq_true]
  intro j hj
  exact hr j (by simpa using hj)
def EFInv (n : Nat) (r : Nat → Bool) (w : World) (x : Value) (wr : World) : Prop := ∃ i : Nat, i ≤ n ∧ x = .int .i64 i ∧ (∀ j, j < i → r j = true) ∧ Same w wr
theorem EqualFunc_spec {w : World} (l1 l2 : List BeV) (a1 a2 : Option Addr) (c1 c2 : Nat) (h1 : SlIs w a1 l1.length 2 (l1.flatMap BeV.cells)) (h2 : SlIs w a2 l2.length 2 (l2.flatMap BeV.cells)) (hn : l1.length ≤ 1073741824) (f : FuncId) (r : Nat → Bool)
  (hf : ∀ i (i1 : i < l1.length) (i2 : i < l2.length) w', Same w w' → Meets Tryz.prog f #[.agg l1[i].cells.toArray, .agg l2[i].cells.toArray] w' fun v w'' => v = .bool (r i) ∧ Same w' w'') :
  Meets Tryz.prog 54 #[.slice a1 l1.length c1, .slice a2 l2.length c2, .func (.func f) #[] #[]] w fun v w' => v = .bool (decide (l1.length = l2.length) && (List.range l1.length).all r) ∧ Same w w' := by
 refine f54_ok ?_
 unfold f54
 rw [klen_slice, klen_slice, kint_neq, kB_bool]
 refine kIf_dec (fun hne => ?_) (fun heq => ?_)
 ·exact ⟨by rw [decide_eq_false (by omega), Bool.false_and], Mod.refl _ _⟩
 have hl : l1.length = l2.length := by omega
 rw [decide_eq_true hl, Bool.true_and]
 unfold f54_0
 rw [klen_slice]
 refine kL_of (EFInv l1.length r w) (fun x _ => l1.length - (RowKit.intOf x).toNat) ⟨⟨0, by omega, rfl, by simp, Mod.refl _ _⟩, ?_⟩
 rintro x wr ⟨i, hi, rfl, hr, hm⟩
 unfold f54_1
 rw [kint_lss, kB_bool]
 refine kIf_dec (fun hlt => ?_) (fun hge => ?_)
 ·have hlt : i < l1.length := by omega
  unfold f54_2
  refine kixldN_of (F := BeV.cells) (fun _ => rfl) (by omega) (h1.same hm) hlt rfl ?_
  refine knew_of fun w12 h12 hs12 hb12 => ?_
  refine kst_of (vs := l1[i].cells) hb12 rfl rfl rfl (by simp) (by simp [BeV.cells]) fun w13 h13 hs13 hb13 => ?_
  have hm13 : Same wr w13 := Mod.after h12 h13 (fun b hb => by omega)
  refine kixldN_of (F := BeV.cells) (fun _ => rfl) (by omega) (h2.same (hm.trans hm13)) (show i < l2.length by omega) rfl ?_
  refine knew_of fun w17 h17 hs17 hb17 => ?_
  refine kst_of (vs := (l2[i]'(by omega)).cells) hb17 rfl rfl rfl (by simp) (by simp [BeV.cells]) fun w18 h18 hs18 hb18 => ?_
  have hm18 : Same w13 w18 := Mod.after h17 h18 (fun b hb => by omega)
  have hb13' : blk w13 wr.heap.size = some (.cells l1[i].cells.toArray 46) := hb13
  have hb18' : blk w18 w13.heap.size = some (.cells (l2[i]'(by omega)).cells.toArray 46) := hb18
  refine kldN_of (cs := l1[i].cells) (hm18.get hb13' (fun h => h)) (by simp [BeV.cells]) rfl (by omega) ?_
  refine kldN_of (cs := (l2[i]'(by omega)).cells) hb18' (by simp [BeV.cells]) rfl (by omega) ?_
  have hmw := hm.trans (hm13.trans hm18)
  refine kcallC_of' (hf i hlt (by omega) w18 hmw) ?_
  rintro v w22 ⟨rfl, h22⟩
  rw [kun_not, kB_bool]
  refine kIf_of (fun hb => ?_) (fun hb => ?_)
  ·have hb : r i = false := by simpa using hb
   refine ⟨?_, hmw.trans h22⟩
   congr 1
   symm
   rw [List.all_eq_false]
   exact ⟨i, by simpa using hlt, by rw [hb]; decide⟩
  ·have hb : r i = true := by simpa using hb
   unfold f54_3
   rw [kint_add, i64_succ (by omega)]
   refine ⟨⟨i + 1, by omega, rfl, fun j hj => ?_, hmw.trans h22⟩, by simp [RowKit.intOf]; omega⟩
   by_cases e : j = i
   ·rw [e]; exact hb
   ·exact hr j (by omega)
 ·have : i = l1.length := by omega
  subst this
  unfold f54_4
  refine ⟨?_, hm⟩
  congr 1
  symm
  rw [List.all_eq_true]
  intro j hj
  exact hr j (by simpa using hj)
structure BeOk (w : World) (b : BeV) : Prop where
 ok : ∀ q ∈ b.parts, q.ok
 sl : SlIs w b.pa b.parts.length 6 (b.parts.flatMap Part.cells)
 few : b.parts.length ≤ 1073741824
theorem BeOk.same {w w' : World} {b : BeV} (h : BeOk w b) (m : Same w w') : BeOk w' b := ⟨h.ok, h.sl.same m, h.few⟩
theorem same1_spec {w : World} (x y : BeV) (hx : BeOk w x) (hy : BeOk w y) :
  Meets Tryz.prog 52 #[.agg x.cells.toArray, .agg y.cells.toArray] w fun v w' => v = .bool (decide (x.key = y.key)) ∧ Same w w' := by
 have hdec : decide (x.key = y.key) = (decide ((x.id : Int) = (y.id : Int)) && decide (x.parts = y.parts)) := by
  rw [Bool.eq_iff_iff, Bool.and_eq_true, decide_eq_true_eq, decide_eq_true_eq, decide_eq_true_eq]
  unfold BeV.key
  rw [Prod.mk.injEq]
  constructor
  ·rintro ⟨h1, h2⟩; exact ⟨by omega, h2⟩
  ·rintro ⟨h1, h2⟩; exact ⟨by omega, h2⟩
 rw [hdec]
 refine f52_ok ?_
 unfold f52
 refine knew_of fun w2 h2 hs2 hb1 => ?_
 refine knew_of fun w4 h4 hs4 hb3 => ?_
 have hb1 := h4.get hb1 (fun h => h)
 have m4 := h2.trans h4
 refine kfld_of ?_
 refine kld_of (v := .int .i64 (x.id : Int)) hb1 rfl ?_
 refine kfld_of ?_
 refine kld_of (v := .int .i64 (y.id : Int)) hb3 rfl ?_
 rw [kint_eql, kB_bool]
 refine kIf_dec (fun e => ?_) (fun e => ?_)
 ·rw [decide_eq_true e, Bool.true_and]
  refine kfld_of ?_
  refine kld_of (v := .slice x.pa x.parts.length x.pc) hb1 rfl ?_
  refine kfld_of ?_
  refine kld_of (v := .slice y.pa y.parts.length y.pc) hb3 rfl ?_
  refine kcall_of (eqParts_spec x.parts y.parts hx.ok hy.ok _ _ _ _ (hx.sl.same m4) (hy.sl.same m4) hx.few) ?_
  rintro v w' ⟨rfl, h'⟩
  exact ⟨rfl, m4.trans h'⟩
 ·exact ⟨by rw [decide_eq_false e, Bool.false_and], m4⟩
deriving instance DecidableEq for StM
def StV.ok (s : StV) : Prop := s.bl.length ≤ 1073741824 ∧ s.R.length ≤ 1073741824 ∧ ∀ b ∈ s.bl, (∀ q ∈ b.parts, q.ok) ∧ b.parts.length ≤ 1073741824
theorem Same_spec {lo lo' : Nat} {w : World} (s t : StV) (hs : StAt lo w s) (ht : StAt lo' w t) (ks : s.ok) (kt : t.ok) :
  Meets Tryz.prog 18 #[s.val, t.val] w fun v w' => v = .bool (decide (s.m = t.m)) ∧ Same w w' := by
 have hdec : decide (s.m = t.m) = (decide (s.frame = t.frame) && (decide ((s.next : Int) = (t.next : Int)) && (decide (s.seed = t.seed) && (decide (s.bl.map BeV.key = t.bl.map BeV.key) && decide (s.R = t.R))))) := by
  rw [Bool.eq_iff_iff]
  simp only [Bool.and_eq_true, decide_eq_true_eq]
  unfold StV.m
  rw [StM.mk.injEq]
  constructor
  ·rintro ⟨h1, h2, h3, h4, h5⟩; exact ⟨h1, by omega, h3, h4, h5⟩
  ·rintro ⟨h1, h2, h3, h4, h5⟩; exact ⟨h1, by omega, h3, h4, h5⟩
 have sb : ∀ {w'}, Same w w' → ∀ b ∈ s.bl, BeOk w' b := fun m b hb => ⟨(ks.2.2 b hb).1, (hs.ps b hb).same m, (ks.2.2 b hb).2⟩
 have tb : ∀ {w'}, Same w w' → ∀ b ∈ t.bl, BeOk w' b := fun m b hb => ⟨(kt.2.2 b hb).1, (ht.ps b hb).same m, (kt.2.2 b hb).2⟩
 rw [hdec]
 refine f18_ok ?_
 unfold f18
 refine knew_of fun w2 h2 hs2 hb1 => ?_
 refine knew_of fun w4 h4 hs4 hb3 => ?_
 have hb1 := h4.get hb1 (fun h => h)
 have m4 := h2.trans h4
 refine kfld_of ?_
 refine kld_of (v := .int .i64 s.frame) hb1 rfl ?_
 refine kfld_of ?_
 refine kld_of (v := .int .i64 t.frame) hb3 rfl ?_
 rw [kint_eql, kB_bool]
 refine kIf_dec (fun e => ?_) (fun e => ⟨by rw [decide_eq_false e, Bool.false_and], m4⟩)
 rw [decide_eq_true e, Bool.true_and]
 refine kfld_of ?_
 refine kld_of (v := .int .i64 (s.next : Int)) hb1 rfl ?_
 refine kfld_of ?_
 refine kld_of (v := .int .i64 (t.next : Int)) hb3 rfl ?_
 rw [kint_eql, kB_bool]
 refine kIf_dec (fun e => ?_) (fun e => ⟨by rw [decide_eq_false e, Bool.false_and], m4⟩)
 rw [decide_eq_true e, Bool.true_and]
 refine kfld_of ?_
 refine kld_of (v := .int .i64 s.seed) hb1 rfl ?_
 refine kfld_of ?_
 refine kld_of (v := .int .i64 t.seed) hb3 rfl ?_
 rw [kint_eql, kB_bool]
 refine kIf_dec (fun e => ?_) (fun e => ⟨by rw [decide_eq_false e, Bool.false_and], m4⟩)
 rw [decide_eq_true e, Bool.true_and]
 refine kfld_of ?_
 refine kld_of (v := .slice s.xa s.bl.length s.xc) hb1 rfl ?_
 refine kfld_of ?_
 refine kld_of (v := .slice t.xa t.bl.length t.xc) hb3 rfl ?_
 refine kcall_of (EqualFunc_spec s.bl t.bl _ _ _ _ (hs.xs.same m4) (ht.xs.same m4) ks.1 52 (rrW BeV.key BeV.key s.bl t.bl) fun i i1 i2 w' hw' => ?_) ?_
 ·rw [rrW_at BeV.key BeV.key s.bl t.bl i i1 i2]
  exact same1_spec _ _ (sb (m4.trans hw') _ (List.getElem_mem i1)) (tb (m4.trans hw') _ (List.getElem_mem i2))
 rintro v w28 ⟨rfl, h28⟩
 rw [rrW_law, kB_bool]
 have m28 := m4.trans h28
 refine kIf_of (fun e => ?_) (fun e => ⟨by rw [e, Bool.false_and], m28⟩)
 rw [e, Bool.true_and]
 have hb1 := h28.get hb1 (fun h => h)
 have hb3 := h28.get hb3 (fun h => h)
 refine kfld_of ?_
 refine kld_of (v := .slice s.ra s.R.length s.rc) hb1 rfl ?_
 refine kfld_of ?_
 refine kld_of (v := .slice t.ra t.R.length t.rc) hb3 rfl ?_
 refine kcall_of (eqInts_spec s.R t.R _ _ _ _ (hs.rs.same m28) (ht.rs.same m28) ks.2.1) ?_
 rintro v w' ⟨rfl, h'⟩
 exact ⟨rfl, m28.trans h'⟩
end
section
theorem WdAt.few {c : WC} {w0 : World} {fx : Nat → Prop} {w : World} {S : SM} {t : Nat} {B : BdM} (h : WdAt c w0 fx w S t B) : ∀ y ∈ viewS S B, y.2.length ≤ 32 := by
 intro y hy
 obtain ⟨x, hx, rfl⟩ := List.mem_map.1 hy
 obtain ⟨i, hi, hg⟩ := h.link.live x hx
 obtain ⟨o, p, U, C, _⟩ := h.A
 obtain ⟨n, r, _, _, _, _, _, _, hm, _⟩ := parts_ok C.sp C.gs hg
 have e := congrArg List.length hm
 rw [List.length_map, List.length_map] at e
 have := listF_len S.masks[n]
 show (partsOf S x.2.i.toNat).length ≤ 32
 rw [hi, Int.toNat_natCast]
 omega
theorem stV_ok {c : WC} {V : ViewT} {nx : Nat} {s : StV} (hm : s.m = stM c V nx) (hV : V.length ≤ 64) (hok : okV V) (hf : ∀ y ∈ V, y.2.length ≤ 32) (hR : c.R.length ≤ 1000000) : s.ok := by
 unfold StV.m stM at hm
 rw [StM.mk.injEq] at hm
 obtain ⟨_, _, _, h4, h5⟩ := hm
 refine ⟨?_, by rw [h5]; omega, fun b hb => ?_⟩
 ·have := congrArg List.length h4
  unfold rbV at this
  rw [List.length_map, List.length_map] at this
  omega
 ·have : b.key ∈ rbV c.rolled V := h4 ▸ List.mem_map.2 ⟨b, hb, rfl⟩
  obtain ⟨y, hy, e⟩ := List.mem_map.1 this
  have e2 : y.2.filter (rbC c.rolled) = b.parts := congrArg Prod.snd e
  refine ⟨fun q hq => ?_, ?_⟩
  ·rw [← e2] at hq
   exact hok y hy q (List.mem_filter.1 hq).1
  ·rw [← e2]
   have := List.length_filter_le (rbC c.rolled) y.2
   have := hf y hy
   omega
theorem pState {c : WC} {w0 : World} {o : OC} {X : Nat → Prop} {w : World} {S : SM} {t : Nat} {B : BdM} {l : List OrdM} {gv dr : Nat} (h : Pair c w0 o X w S t B l gv dr) (hok : okV (viewS S B)) (hR : c.R.length ≤ 1000000) :
  Meets Tryz.prog 19 #[.pointer (some ⟨c.bw, 0, none⟩)] w fun v w' => ∃ s : StV, v = s.val ∧ StAt w.heap.size w' s ∧ s.m = stM c (viewS S B) B.nx ∧ s.ok ∧ Same w w' := by
 obtain ⟨⟨fx, U, hW, hO, hU, hX⟩, h0⟩ := h
 refine (wState hW hW.le hR).mono ?_
 rintro v w' ⟨s, rfl, hs, hm, h'⟩
 exact ⟨s, rfl, hs, hm, stV_ok hm (by rw [viewS_len]; exact hW.le) hok hW.few hR, h'⟩
structure PS where
 S : SM
 t : Nat
 B : BdM
 l : List OrdM
 gv : Nat
def PS.V (a : PS) : ViewT := viewS a.S a.B
def Pair.at (c : WC) (w0 : World) (o : OC) (X : Nat → Prop) (w : World) (a : PS) : Prop := Pair c w0 o X w a.S a.t a.B a.l a.gv 0
structure Two (ca cb : WC) (w0 : World) (oa ob : OC) (Xa Xb E : Nat → Prop) (w : World) (a b : PS) : Prop where
 pa : Pair.at ca w0 oa Xa w a
 pb : Pair.at cb w0 ob Xb w b
 all : ∀ k, w0.heap.size ≤ k → k < w.heap.size → Xa k ∨ Xb k
 ma : ∀ k, ca.mine k → Xb k
 mb : ∀ k, cb.mine k → Xa k
 ea : ∀ k, E k → Xa k
 eb : ∀ k, E k → Xb k
theorem Two.left {ca cb : WC} {w0 : World} {oa ob : OC} {Xa Xb E : Nat → Prop} {w w' : World} {a a' b : PS} (h : Two ca cb w0 oa ob Xa Xb E w a b) (hp : Pair.at ca w0 oa Xa w' a') (m : Mod (fun k => w0.heap.size ≤ k ∧ ¬ Xa k) w w') : Two ca cb w0 oa ob Xa (newB w w' Xb) E w' a' b where
 pa := hp
 pb := Pair.grow h.pb (fp := fun k => (w0.heap.size ≤ k ∧ ¬ Xa k) ∧ k < w.heap.size) (m.mono fun k hk e => ⟨e, hk⟩) fun k hk => ⟨(h.all k hk.1.1 hk.2).resolve_left hk.1.2, fun e => hk.1.2 (h.mb k e)⟩
 all k h1 h2 := by
  rcases Nat.lt_or_ge k w.heap.size with h3 | h3
  ·exact (h.all k h1 h3).imp id .inl
  ·exact .inr (.inr ⟨h3, h2⟩)
 ma k hk := .inl (h.ma k hk)
 mb := h.mb
 ea := h.ea
 eb k hk := .inl (h.eb k hk)
theorem Two.right {ca cb : WC} {w0 : World} {oa ob : OC} {Xa Xb E : Nat → Prop} {w w' : World} {a b b' : PS} (h : Two ca cb w0 oa ob Xa Xb E w a b) (hp : Pair.at cb w0 ob Xb w' b') (m : Mod (fun k => w0.heap.size ≤ k ∧ ¬ Xb k) w w') : Two ca cb w0 oa ob (newB w w' Xa) Xb E w' a b' where
 pa := Pair.grow h.pa (fp := fun k => (w0.heap.size ≤ k ∧ ¬ Xb k) ∧ k < w.heap.size) (m.mono fun k hk e => ⟨e, hk⟩) fun k hk => ⟨(h.all k hk.1.1 hk.2).resolve_right hk.1.2, fun e => hk.1.2 (h.ma k e)⟩
 pb := hp
 all k h1 h2 := by
  rcases Nat.lt_or_ge k w.heap.size with h3 | h3
  ·exact (h.all k h1 h3).imp .inl id
  ·exact .inl (.inr ⟨h3, h2⟩)
 ma := h.ma
 mb k hk := .inl (h.mb k hk)
 ea k hk := .inl (h.ea k hk)
 eb := h.eb
theorem Two.put {ca cb : WC} {w0 : World} {oa ob : OC} {Xa Xb E : Nat → Prop} {w w' : World} {a b : PS} (h : Two ca cb w0 oa ob Xa Xb E w a b) {fp : Nat → Prop} (m : Mod fp w w') (hf : ∀ k, fp k → E k ∧ ¬ ca.mine k ∧ ¬ cb.mine k) : Two ca cb w0 oa ob (newB w w' Xa) (newB w w' Xb) (newB w w' E) w' a b where
 pa := Pair.grow h.pa m fun k hk => ⟨h.ea k (hf k hk).1, (hf k hk).2.1⟩
 pb := Pair.grow h.pb m fun k hk => ⟨h.eb k (hf k hk).1, (hf k hk).2.2⟩
 all k h1 h2 := by
  rcases Nat.lt_or_ge k w.heap.size with h3 | h3
  ·exact (h.all k h1 h3).imp .inl .inl
  ·exact .inl (.inr ⟨h3, h2⟩)
 ma k hk := .inl (h.ma k hk)
 mb k hk := .inl (h.mb k hk)
 ea k hk := hk.imp (h.ea k) id
 eb k hk := hk.imp (h.eb k) id
theorem Two.new {ca cb : WC} {w0 w1 wb w2 w3 w4 w5 w6 : World} {oa ob : OC} {Sa Sb : SM} {Ba Bb : BdM} (ha : WdAt ca w0 ca.mine w1 Sa 0 Ba) (mb : Same w1 wb) (hb : WdAt cb wb cb.mine w2 Sb 0 Bb) (m3 : Same w2 w3) (h0a : 0 < oa.L.length) (hoa : OAt oa (fun k => w3.heap.size ≤ k) w4 [] 0 0) (m4 : Same w3 w4) (m5 : Same w4 w5) (h0b : 0 < ob.L.length) (hob : OAt ob (fun k => w5.heap.size ≤ k) w6 [] 0 0) (m6 : Same w5 w6) :
  ∃ Xa Xb, Two ca cb w0 oa ob Xa Xb (fun _ => False) w6 ⟨Sa, 0, Ba, [], 0⟩ ⟨Sb, 0, Bb, [], 0⟩ := by
 have s01 := ha.A.same0
 have sb2 := hb.A.same0
 have z01 := s01.size
 have z1b := mb.size
 have zb2 := sb2.size
 have z23 := m3.size
 have z34 := m4.size
 have z45 := m5.size
 have z56 := m6.size
 have ha3 := ha.ext (mb.trans (sb2.trans m3))
 have pa4 := Pair.new h0a ha3 m4 hoa
 have pa6 := pa4.grow (m5.trans m6) fun k hk => hk.elim
 have hb2 := hb.base (s01.trans mb)
 have hb5 := hb2.ext (m3.trans (m4.trans m5))
 have pb6 := Pair.new h0b hb5 m6 hob
 refine ⟨_, _, pa6, pb6, fun k h1 h2 => ?_, fun k hk => ?_, fun k hk => ?_, fun k hk => hk.elim, fun k hk => hk.elim⟩
 ·rcases Nat.lt_or_ge k wb.heap.size with h3 | h3
  ·exact .inr (.inl (.inr ⟨h1, h3⟩))
  ·rcases Nat.lt_or_ge k w3.heap.size with h4 | h4
   ·exact .inl (.inl (.inr ⟨by omega, h4⟩))
   ·rcases Nat.lt_or_ge k w5.heap.size with h5 | h5
    ·exact .inr (.inr ⟨by omega, h5⟩)
    ·exact .inl (.inr ⟨by omega, h2⟩)
 ·have := ha.A.lt hk
  exact .inl (.inr ⟨this.1, by omega⟩)
 ·have := hb.A.lt hk
  exact .inl (.inr ⟨by omega, by omega⟩)
end
section
attribute [local irreducible] kO kB kStr kInt kN kG kIf kfld kld kldN kst knew kmap kbld kbldS kext kcnv klenStr klen kcap kprt kprtN kbool kint kstr keq kun ksl kix kiv kta kmk kmm ksem ksemU kextf kcallV kcallM kcall kL
theorem Pair.base {c : WC} {w00 w0 : World} {o : OC} {X : Nat → Prop} {w : World} {S : SM} {t : Nat} {B : BdM} {l : List OrdM} {gv dr : Nat} (h : Pair c w0 o X w S t B l gv dr) (m : Same w00 w0) : Pair c w00 o (fun k => X k ∨ (w00.heap.size ≤ k ∧ k < w0.heap.size)) w S t B l gv dr := by
 obtain ⟨⟨fx, U, hW, hO, hU, hX⟩, h0⟩ := h
 refine ⟨⟨_, U, hW.base m, hO, fun k hk => ⟨.inl (hU k hk).1, fun hx => ?_, (hU k hk).2.2⟩, fun k hk => hk.imp (hX k) id⟩, h0⟩
 rcases hx with hx | hx
 ·exact (hU k hk).2.1 hx
 ·have := (hW.A.lt (hU k hk).1).1
  omega
theorem ErrN.cases {Sa : Nat → Addr} {k lo : Nat} {e : Value} {w : World} (h : ErrN Sa k lo e w) : (k = 0 ∧ e = .nilIface) ∨ (k ≠ 0 ∧ ∃ t y, e = .iface t y) := by
 unfold ErrN at h
 split at h
 ·rename_i hk; exact .inl ⟨hk, h⟩
 ·rename_i hk; exact .inr ⟨hk, h.if⟩
theorem stepF_zero {σ : Type} {H : HostM σ} {l : List IN} {m : MS σ} (h : (stepF H l m).2.1 = true) : (stepF H l m).2.2 = 0 := by
 by_cases ho : overF l.length m = true
 ·rw [stepF_over ho]
 ·cases hx : l[m.place]? with
  | none => rw [stepF_none ho hx]
  | some x =>
   rw [stepF_at ho hx] at h ⊢
   split at h
   ·cases h
   ·rename_i hn
    rw [if_neg hn]
section
variable {σ : Type} {H : HostM σ} {ha hb : HC} {w0 : World} {ca cb : σ → Nat} {Ia Ib : (Nat → Prop) → World → σ → Prop} {p : Nat → Prop} {Sa : Nat → Addr} {l : List IN} {w1 w2 : World} {Xa Xb : Nat → Prop} {bha bhb : Nat} {s : σ}
theorem same_run (ht : Tld p Sa w0) (hha : HostI H ha w0 okIN ca Ia) (hhb : HostI H hb w0 okIN cb Ib) {la : Option Addr} {lc : Nat} (hs : SlIs w0 la l.length 3 (l.flatMap IN.cells)) (hl : l.length ≤ 1000000) (hok : ∀ x ∈ l, okIN x) (hia : Ia Xa w2 s) (hib : Ib Xb w2 s) (hza : w0.heap.size ≤ bha ∧ bha < w1.heap.size) (hzb : w1.heap.size ≤ bhb ∧ bhb < w2.heap.size)
  (hXa : ∀ k, (w1.heap.size ≤ k ∧ k < w2.heap.size) ∨ k = bha → Xa k) (hXb : ∀ k, (w0.heap.size ≤ k ∧ k < w1.heap.size) ∨ k = bhb → Xb k) (fuel : Int) (hca : ca s + 4096 ≤ 4999) (hcb : cb s + 4096 ≤ 4999)
  (hba : blk w2 bha = some (.cells ha.cells.toArray 38)) (hbb : blk w2 bhb = some (.cells hb.cells.toArray 38)) (bx : Nat) {Q : PQ}
  (hQ : ∀ w3 Xa' Xb' s', Ia Xa' w3 s' → Ib Xb' w3 s' → blk w3 bha = some (.cells ha.cells.toArray 38) → blk w3 bhb = some (.cells hb.cells.toArray 38) → f4_9 (.pointer (some ⟨bx, 0, none⟩)) (.pointer (some ⟨bha, 0, none⟩)) (.pointer (some ⟨bhb, 0, none⟩)) Q w3) :
  f4_3 (.slice la l.length lc) (.int .i64 fuel) (.pointer (some ⟨bx, 0, none⟩)) (.pointer (some ⟨bha, 0, none⟩)) (.pointer (some ⟨bhb, 0, none⟩)) Q w2 := by
 have hf0 := fuel0_le fuel
 have hz12 : w1.heap.size ≤ w2.heap.size := by omega
 unfold f4_3
 refine kN_at ?_
 refine kldN_at (cs := ha.cells) hba rfl (by omega) ?_
 refine kcall_of (mlRun (c := lc) ht hha (hs.same (hha.base hia)) hl hok hia (E := fun k => (w1.heap.size ≤ k ∧ k < w2.heap.size) ∨ k = bha) hXa fuel (by omega)) ?_
 rintro v27 w28 ⟨⟨e, rfl, hE⟩, ⟨X2, hia2, hE2⟩, hm28⟩
 have hz28 := hm28.size
 refine kext_at rfl ?_
 refine kext_at rfl ?_
 have hib28 := hhb.grow (fp := fun k => (w0.heap.size ≤ k ∧ ¬ ((w1.heap.size ≤ k ∧ k < w2.heap.size) ∨ k = bha)) ∧ k < w2.heap.size) hib (hm28.mono fun k hk hn => ⟨hn, hk⟩) fun k hk => hXb k (.inl ⟨hk.1.1, by omega⟩)
 have hbb28 := hm28.get hbb (fun hk => hk.2 (.inl hzb))
 have hba28 := hm28.get hba (fun hk => hk.2 (.inr rfl))
 refine kN_at ?_
 refine kldN_at (cs := hb.cells) hbb28 rfl (by omega) ?_
 refine kcall_of (mlNew hb l (hs.same (hhb.base hib28)) hl fuel) ?_
 rintro v w33 ⟨bM, rfl, hbM, h33, hMl⟩
 have hz33 := h33.size
 have hE3 : ∀ k, ((w0.heap.size ≤ k ∧ k < w1.heap.size) ∨ (w2.heap.size ≤ k ∧ k < w28.heap.size) ∨ k = bhb) → newB w2 w28 Xb k := by
  rintro k (hk | hk | hk)
  ·exact .inl (hXb k (.inl hk))
  ·exact .inr hk
  ·exact .inl (hXb k (.inr hk))
 have hM33 : MI hb l bM (fun k => (w0.heap.size ≤ k ∧ k < w1.heap.size) ∨ (w2.heap.size ≤ k ∧ k < w28.heap.size) ∨ k = bhb) Ib (newB w28 w33 (newB w2 w28 Xb)) w33 (MS.first fuel s) :=
  ⟨hMl s _ _ fun k hk => (hhb.lt hib28 k (hE3 k hk)).2, hhb.grow (fp := fun _ => False) hib28 h33 (fun k hk => hk.elim), fun k hk => .inl (hE3 k hk)⟩
 refine kL2_of (fuel0 fuel + 1) (fun i x y wr => (x = .nilIface ∧ y = .bool true ∧ i ≤ fuel0 fuel ∧ RunI hb w0 H cb Ib l bM (fun k => (w0.heap.size ≤ k ∧ k < w1.heap.size) ∨ (w2.heap.size ≤ k ∧ k < w28.heap.size) ∨ k = bhb) w28 (MS.first fuel s) i wr) ∨
   (y = .bool false ∧ ErrN Sa (runF H l (fuel0 fuel + 1) (MS.first fuel s)).2 w28.heap.size x wr ∧ ∃ X, MI hb l bM (fun k => (w0.heap.size ≤ k ∧ k < w1.heap.size) ∨ (w2.heap.size ≤ k ∧ k < w28.heap.size) ∨ k = bhb) Ib X wr (runF H l (fuel0 fuel + 1) (MS.first fuel s)).1 ∧ Mod (fun k => w0.heap.size ≤ k ∧ ¬ ((w0.heap.size ≤ k ∧ k < w1.heap.size) ∨ (w2.heap.size ≤ k ∧ k < w28.heap.size) ∨ k = bhb)) w28 wr)) ⟨lI2_0 (.inl ⟨rfl, rfl, Nat.zero_le _, _, _, hM33, ⟨Nat.zero_le _, Nat.zero_le _, hf0⟩, rfl, by show cb s + fuel0 fuel ≤ 4999; omega, (fun v hv => absurd hv List.not_mem_nil), rfl, Mod.of_same h33⟩), fun x y wr hx => ?_⟩
 obtain ⟨i, hi, hI, hJ⟩ := lI2_step hx
 unfold f4_4
 rcases hI with ⟨rfl, rfl, hi0, X1, m, hM, hg, hfu, hco, hnum, hrun, hmod⟩ | ⟨rfl, hEb, X3, hM3, hm3⟩
 ·refine kB_at ?_
  refine kIf_T rfl ?_
  rw [keq_nil_nil ifErr]
  unfold f4_5
  refine kB_at ?_
  refine kIf_T rfl ?_
  unfold f4_6
  refine kcall_of (mlStep ht hhb hM hg hl hok (by omega) hnum) ?_
  rintro v w7 ⟨⟨e7, rfl, he⟩, ⟨X2', hM7⟩, hm7⟩
  obtain ⟨g1, g2, g3⟩ := stepF_good H hhb.rdo l m hg
  have gc := stepF_cost (cost := cb) hhb.costw hhb.costd l m
  have hz : w28.heap.size ≤ wr.heap.size := hmod.size
  have er : runF H l (m.fuel + 1) m = if (stepF H l m).2.1 = true then runF H l m.fuel (stepF H l m).1 else ((stepF H l m).1, (stepF H l m).2.2) := rfl
  refine kext_at rfl ?_
  refine kext_at rfl ?_
  by_cases hb' : (stepF H l m).2.1 = true
  ·rw [hb', if_pos rfl] at er
   have g3' := g3 hb'
   rw [stepF_zero hb'] at he
   have e70 : e7 = .nilIface := by
    rcases he.cases with ⟨_, e⟩ | ⟨h0, _⟩
    ·exact e
    ·exact absurd rfl h0
   subst e70
   rw [hb']
   have hff : (MS.first fuel s).fuel = fuel0 fuel := rfl
   refine hJ _ _ _ (by omega) (.inl ⟨rfl, rfl, by omega, X2', _, hM7, g1, by omega, by omega, stepF_num hhb.dr64 (fun x hx v hv => hhb.rd64 hM.hi (hok x hx) hv) hnum, by rw [g3', ← er, hrun], hmod.trans hm7⟩)
  ·have hb' : (stepF H l m).2.1 = false := by simpa using hb'
   rw [hb', if_neg Bool.false_ne_true] at er
   rw [er] at hrun
   have er2 : runF H l (fuel0 fuel + 1) (MS.first fuel s) = ((stepF H l m).1, (stepF H l m).2.2) := hrun.symm
   rw [hb']
   refine hJ _ _ _ (by omega) (.inr ⟨rfl, ?_, X2', ?_, hmod.trans hm7⟩)
   ·rw [er2]; exact he.mono hz
   ·rw [er2]; exact hM7
 ·refine kB_at ?_
  refine kIf_F rfl ?_
  unfold f4_5
  refine kB_at ?_
  refine kIf_F rfl ?_
  unfold f4_7
  have md : Same wr wr.drew := (Mod.refl (fun _ => False) _).drew
  have hM4 := hM3.same hhb md
  have hEb := hEb.same md
  have hmd := hm3.trans (Mod.of_same md)
  generalize wr.drew = wd at *
  refine kcall_of (mlFuel hM4.ml) ?_
  rintro v w42 ⟨rfl, rfl⟩
  refine neq_at ?_
  rw [decF (by omega)]
  refine kB_at ?_
  refine kIf_T rfl ?_
  have fin : f4_8 (.pointer (some ⟨bx, 0, none⟩)) (.pointer (some ⟨bha, 0, none⟩)) (.pointer (some ⟨bhb, 0, none⟩)) (.bool false) Q w42 := by
   unfold f4_8
   refine kB_at ?_
   refine kIf_F rfl ?_
   refine hQ _ _ _ _ (hha.grow (fp := fun k => (w0.heap.size ≤ k ∧ ¬ ((w0.heap.size ≤ k ∧ k < w1.heap.size) ∨ (w2.heap.size ≤ k ∧ k < w28.heap.size) ∨ k = bhb)) ∧ k < w28.heap.size) hia2 (hmd.mono fun k hk hn => ⟨hn, hk⟩) fun k hk => hE2 k (.inl ⟨by omega, by omega⟩)) hM4.hi (hmd.get hba28 (fun hk => hk.2 (.inl hza))) (hmd.get hbb28 (fun hk => hk.2 (.inr (.inr rfl))))
  rcases hE.cases with ⟨h0, rfl⟩ | ⟨h0, t1, y1, rfl⟩
  ·rcases hEb.cases with ⟨_, rfl⟩ | ⟨h1, _⟩
   ·rw [keq_nil_nil ifErr]
    refine kG_of rfl ?_
    rw [keq_nil_nil ifErr]
    refine kG_of rfl ?_
    rw [kbool_neq]
    exact fin
   ·exact absurd h0 h1
  ·rcases hEb.cases with ⟨h1, _⟩ | ⟨_, t2, y2, rfl⟩
   ·exact absurd h1 h0
   ·rw [keq_if_nil ifErr]
    refine kG_of rfl ?_
    rw [keq_if_nil ifErr]
    refine kG_of rfl ?_
    rw [kbool_neq]
    exact fin
end
end
section
attribute [local irreducible] kO kB kStr kInt kN kG kIf kfld kld kldN kst knew kmap kbld kbldS kext kcnv klenStr klen kcap kprt kprtN kbool kint kstr keq kun ksl kix kiv kta kmk kmm ksem ksemU kextf kcallV kcallM kcall kL
def laidL (M : List Nat) (seed : Int) : LS := (laidV M (min M.length 20), ⟨[5, 0], seed, [], 0, 0⟩)
section
variable {w w' : World} {M : List Nat} {i0 i1 who seed : Int} {wd og : Bool} {many bh : Nat} {c : WC} {o : OC} {X : Nat → Prop}
theorem Laid.lv (h : Laid w M i0 i1 who seed wd og many bh c o X w') : LvI c w o (min M.length 20 + 1) X w' (laidL M seed) where
 pr := by
  obtain ⟨S, t, B, hP, hv, hnx, hg, ht⟩ := h.pr
  refine ⟨c.gn, S, t, B, ?_, hv, hnx⟩
  have e : c.tune (laidL M seed).2.R c.frame (laidL M seed).2.seed c.gn = c := by
   show c.tune [5, 0] c.frame seed c.gn = c
   rw [← h.cR, ← h.cs]; rfl
  rw [e]; exact hP
 ap := h.ap
 num := by
  intro v hv
  have hv : v ∈ [(5 : Int), 0] := hv
  simp at hv
  rcases hv with rfl | rfl <;> (unfold I64; omega)
 few := Nat.le_refl _
 ok := laidV_ok M (by omega)
 rl := by show 2 ≤ 1000; omega
theorem LvI.base {nx : Nat} {w0 w00 : World} {s : LS} (h : LvI c w0 o nx X w s) (m : Same w00 w0) : LvI c w00 o nx (fun k => X k ∨ (w00.heap.size ≤ k ∧ k < w0.heap.size)) w s := by
 obtain ⟨gn, S, t, B, hP, h2⟩ := id h.pr
 refine ⟨⟨gn, S, t, B, hP.base m, h2⟩, fun k hk => ?_, h.num, h.few, h.ok, h.rl⟩
 rcases hk with hk | hk
 ·exact h.ap k hk
 ·intro e
  obtain ⟨⟨fx, U, hW, _⟩, _⟩ := hP
  have := (hW.A.lt (hW.fm k e)).1
  omega
theorem LvI.same {nx : Nat} {w0 : World} {s : LS} (h : LvI c w0 o nx X w s) (m : Same w w') : LvI c w0 o nx (newB w w' X) w' s := by
 obtain ⟨gn, S, t, B, hP, h2⟩ := id h.pr
 exact ⟨⟨gn, S, t, B, hP.grow m fun k hk => hk.elim, h2⟩, h.ap', h.num, h.few, h.ok, h.rl⟩
theorem LvI.state {nx : Nat} {w0 : World} {s : LS} (h : LvI c w0 o nx X w s) : Meets Tryz.prog 19 #[.pointer (some ⟨c.bw, 0, none⟩)] w fun v w' => ∃ z : StV, v = z.val ∧ StAt w.heap.size w' z ∧ z.m = ⟨c.frame, nx, s.2.seed, rbV c.rolled s.1, s.2.R⟩ ∧ z.ok ∧ Same w w' := by
 obtain ⟨gn, S, t, B, hP, hv, hnx⟩ := h.pr
 have := pState hP (by rw [hv]; exact h.ok) (by show s.2.R.length ≤ _; have := h.rl; omega)
 refine Meets.mono (show Meets _ _ #[.pointer (some ⟨c.bw, 0, none⟩)] _ _ from this) ?_
 rintro v w' ⟨z, rfl, h1, h2, h3, h4⟩
 refine ⟨z, rfl, h1, ?_, h3, h4⟩
 rw [h2, hv, hnx]; rfl
end
section
variable {w : World} {p : Nat → Prop} {Sa : Nat → Addr}
theorem NoI.of {w w' : World} {M : List Nat} {i0 i1 who seed : Int} {wd og : Bool} {many bh : Nat} {c : WC} {o : OC} {X : Nat → Prop} (h : Laid w M i0 i1 who seed wd og many bh c o X w') : ∃ S t B, NoI c w o S t B X w' ⟨[], 0, [], 0, 0⟩ := by
 obtain ⟨S, t, B, hP, _⟩ := h.pr
 exact ⟨S, t, B, hP, h.ap, Nat.le_refl _⟩
theorem NoI.base {c : WC} {w0 w00 : World} {o : OC} {S : SM} {t : Nat} {B : BdM} {X : Nat → Prop} {w : World} {s : NB} (h : NoI c w0 o S t B X w s) (m : Same w00 w0) : NoI c w00 o S t B (fun k => X k ∨ (w00.heap.size ≤ k ∧ k < w0.heap.size)) w s := by
 refine ⟨h.pr.base m, fun k hk => ?_, h.few⟩
 rcases hk with hk | hk
 ·exact h.ap k hk
 ·intro e
  obtain ⟨⟨fx, U, hW, _⟩, _⟩ := h.pr
  have := (hW.A.lt (hW.fm k e)).1
  omega
theorem NoI.same {c : WC} {w0 : World} {o : OC} {S : SM} {t : Nat} {B : BdM} {X : Nat → Prop} {w w' : World} {s : NB} (h : NoI c w0 o S t B X w s) (m : Same w w') : NoI c w0 o S t B (newB w w' X) w' s := by
 refine ⟨h.pr.grow m fun k hk => hk.elim, fun k hk => ?_, h.few⟩
 rcases hk with hk | hk
 ·exact h.ap k hk
 ·intro e
  obtain ⟨⟨fx, U, hW, _⟩, _⟩ := h.pr
  have := (hW.A.lt (hW.fm k e)).2
  omega
theorem same17_spec (ht : Tld p Sa w) (k1 : p 1) (k2 : p 2) (k6 : p 6) (k7 : p 7) (k17 : p 17) (hD : DeAt w) {a : Option Addr} {cp : Nat} {M : List Nat} (hs : SlIs w a M.length 1 (M.map msk)) (hM : ∀ m ∈ M, m < 4294967296) {i0 i1 who seed : Int} (hi0 : I64 i0) (hi1 : I64 i1) (hwho : I64 who) (wd og : Bool) {la : Option Addr} {lc : Nat} {l : List IN} (hl : SlIs w la l.length 3 (l.flatMap IN.cells)) (hok : ∀ x ∈ l, okIN x) (fuel : Int) :
  Meets Tryz.prog 4 #[.agg (layC a M.length cp i0 i1 who seed wd og).toArray, .slice la l.length lc, .int .i64 fuel] w fun v w' => v = .bool true ∧ Same w w' := by
 refine f4_ok ?_
 unfold f4
 refine knew_of fun w2 h2 hs2 hb2 => ?_
 have hb2 : blk w2 w.heap.size = some (.cells (layC a M.length cp i0 i1 who seed wd og).toArray 26) := hb2
 refine kcall_of (awake17_spec (ht.same h2)) ?_
 rintro v w4 ⟨rfl, h4⟩
 refine not_at ?_
 refine kB_at ?_
 refine kIf_F rfl ?_
 have m4 := h2.trans h4
 unfold f4_0
 refine klen_at ?_
 refine gtr_at ?_
 refine kB_at ?_
 refine kIf_dec (fun hgt => ⟨rfl, m4⟩) (fun hgt => ?_)
 have hb4 := h4.get hb2 (fun h => h)
 have ht4 := ht.same m4
 unfold f4_1
 refine kldN_at (cs := layC a M.length cp i0 i1 who seed wd og) hb4 rfl (by omega) ?_
 refine kcall_of (laid_spec ht4.hL k6 (hD.same m4) (hs.same m4) hM i0 i1 who seed wd og (many := 6) (by omega)) ?_
 rintro v w11 ⟨bha, ca, oa, Xa, vv, uv, rfl, hLa⟩
 obtain ⟨Sa', ta, Ba, hPa, _⟩ := hLa.pr
 have h11 := hPa.same0
 have hza := hPa.lt hLa.xb
 clear hPa
 refine kext_at rfl ?_
 refine kext_at rfl ?_
 refine kext_at rfl ?_
 refine kldN_at (cs := layC a M.length cp i0 i1 who seed wd og) (h11.get hb4 (fun h => h)) rfl (by omega) ?_
 have m11 := m4.trans h11
 refine kcall_of (laid_spec (ht.same m11).hL k6 (hD.same m11) (hs.same m11) hM i0 i1 who seed wd og (many := 6) (by omega)) ?_
 rintro v w17 ⟨bhb, cb, ob, Xb, vv2, uv2, rfl, hLb⟩
 obtain ⟨Sb', tb, Bb, hPb, _⟩ := hLb.pr
 have h17 := hPb.same0
 have hzb := hPb.lt hLb.xb
 clear hPb
 refine kext_at rfl ?_
 refine kext_at rfl ?_
 refine kext_at rfl ?_
 rw [keq_ptr_nil ptHost]
 refine kB_at ?_
 refine kIf_T rfl ?_
 rw [keq_ptr_nil ptHost]
 unfold f4_2
 refine kB_at ?_
 refine kIf_F rfl ?_
 have hba17 := h17.get hLa.hb (fun h => h)
 have hbb17 := hLb.hb
 have hXa : ∀ k, (w11.heap.size ≤ k ∧ k < w17.heap.size) ∨ k = bha → newB w11 w17 Xa k := by
  rintro k (hk | rfl)
  ·exact .inr hk
  ·exact .inl hLa.xb
 have hXb : ∀ k, (w4.heap.size ≤ k ∧ k < w11.heap.size) ∨ k = bhb → (Xb k ∨ (w4.heap.size ≤ k ∧ k < w11.heap.size)) := by
  rintro k (hk | rfl)
  ·exact .inr hk
  ·exact .inl hLb.xb
 cases wd with
 | false =>
  obtain ⟨S1, t1, B1, hNa⟩ := NoI.of hLa
  obtain ⟨S2, t2, B2, hNb⟩ := NoI.of hLb
  have ha := host_of (no_host (c := ca) (w0 := w4) (o := oa) (S := S1) (t := t1) (B := B1) ht4.hL k1 k2 k6 og hi0 hi1 hwho (by rw [hLa.om]; omega))
  have hb := host_of (no_host (c := cb) (w0 := w4) (o := ob) (S := S2) (t := t2) (B := B2) ht4.hL k1 k2 k6 og hi0 hi1 hwho (by rw [hLb.om]; omega))
  rw [hLa.oL, hLa.om] at ha
  rw [hLb.oL, hLb.om] at hb
  refine same_run (lc := lc) (H := mkHost (noW og plainC.length 6) (noH oa og i0 i1 who)) (hb := noH ob og i0 i1 who) ht4 ha hb (hl.same m4) (by omega) hok (hNa.same h17) (hNb.base h11) hza hzb hXa hXb fuel (by show 0 + 0 + 4096 ≤ 4999; omega) (by show 0 + 0 + 4096 ≤ 4999; omega) hba17 hbb17 w.heap.size ?_
  intro w3 Xa' Xb' s' hA hB _ _
  have h3 := ha.base hA
  have md : Same w3 w3.drew := (Mod.refl (fun _ => False) _).drew
  have hb3 := md.get (h3.get hb4 (fun h => h)) (fun h => h)
  have m3 := (m4.trans h3).trans md
  unfold f4_9
  generalize w3.drew = we at *
  refine kfld_of ?_
  refine kld_at (v := .bool false) hb3 rfl ?_
  refine kG_of rfl ?_
  refine not_at ?_
  refine kB_at ?_
  refine kIf_F rfl ?_
  exact ⟨rfl, m3⟩
 | true =>
  have ha := host_of (lv_host (c0 := ca) (w0 := w4) (o := oa) (nx := min M.length 20 + 1) ht4.hL k1 k2 k6 k7 k17 og hi0 hi1 hwho (by rw [hLa.om]; omega) (by rw [hLa.cf]; unfold I64; omega))
  have hb := host_of (lv_host (c0 := cb) (w0 := w4) (o := ob) (nx := min M.length 20 + 1) ht4.hL k1 k2 k6 k7 k17 og hi0 hi1 hwho (by rw [hLb.om]; omega) (by rw [hLb.cf]; unfold I64; omega))
  rw [hLa.oL, hLa.om, hLa.cL, hLa.cf] at ha
  rw [hLb.oL, hLb.om, hLb.cL, hLb.cf] at hb
  refine same_run (lc := lc) (H := mkHost (lvW plainC og plainC.length 6 1 who) (nbH ca oa og i0 i1 who)) (hb := nbH cb ob og i0 i1 who) ht4 ha hb (hl.same m4) (by omega) hok (hLa.lv.same h17) (hLb.lv.base h11) hza hzb hXa hXb fuel (by show 0 + 0 + 4096 ≤ 4999; omega) (by show 0 + 0 + 4096 ≤ 4999; omega) hba17 hbb17 w.heap.size ?_
  intro w3 Xa' Xb' s' hA hB hba3 hbb3
  have h3 := ha.base hA
  have md : Same w3 w3.drew := (Mod.refl (fun _ => False) _).drew
  have hb3 := md.get (h3.get hb4 (fun h => h)) (fun h => h)
  have hba3 := md.get hba3 (fun h => h)
  have hbb3 := md.get hbb3 (fun h => h)
  have m3 := (m4.trans h3).trans md
  have hA := ha.loc hA md
  have hB := hb.loc hB md
  unfold f4_9
  generalize w3.drew = we at *
  refine kfld_of ?_
  refine kld_at (v := .bool true) hb3 rfl ?_
  refine kG_of rfl ?_
  refine not_at ?_
  refine kB_at ?_
  refine kIf_T rfl ?_
  refine kN_at ?_
  refine kfld_of ?_
  refine kld_at (v := .pointer (some ⟨ca.bw, 0, none⟩)) hba3 rfl ?_
  refine kG_of rfl ?_
  refine kcall_of hA.state ?_
  rintro v w57 ⟨z1, rfl, hz1, em1, ok1, h57⟩
  refine kN_at ?_
  refine kfld_of ?_
  refine kld_at (v := .pointer (some ⟨cb.bw, 0, none⟩)) (h57.get hbb3 (fun h => h)) rfl ?_
  refine kG_of rfl ?_
  refine kG_of (kld_at (v := .pointer (some ⟨cb.bw, 0, none⟩)) hbb3 rfl ⟨rfl, rfl⟩) ?_
  refine kcall_of (hb.loc hB h57).state ?_
  rintro v w61 ⟨z2, rfl, hz2, em2, ok2, h61⟩
  refine kcall_of (Same_spec z1 z2 (hz1.same h61) hz2 ok1 ok2) ?_
  rintro v w63 ⟨rfl, h63⟩
  refine ⟨?_, ((m3.trans h57).trans h61).trans h63⟩
  rw [decide_eq_true]
  rw [em1, em2, hLa.cf, hLb.cf, hLa.cr, hLb.cr]
end
end
end Go.Proofs.YtmdcoaljjnbhlaaGreatDoor
namespace Go.Proofs.YtmdcoaljjnbhlaaGreatDoor
open Go Go.Ev Go.RowKit Go.ChangeShapes Go.WideShapes Go.ChangeAt
section
namespace ST
theorem door_met (os : Os) (args : Array Value) : laidMetH Tryz.prog Rows.millSameRow.laid ((World.doorLaid Tryz.prog 407 os).forCall (fun _ _ => 0) ⟨#[], args, []⟩).memory :=
 laidMetH_of_parts3 (fuel := 8) (laidMet_of_run' 8 (by kernel_rfl) (by kernel_rfl)) (by kernel_rfl) (by kernel_rfl)
theorem lifted (os : Os) (started : os.Started) (H : Type) (enc : TypeId × Value → H) :
  ReturnsInHanded {} Tryz.checked os 4 .any (fun w args => (Rows.millSameSpec.pre enc Tryz.prog Tryz.f4 [] false w args ∧ laidMetH Tryz.prog Rows.millSameRow.laid w) ∧ sizedMet enc Tryz.prog Tryz.f4 (OpenSpec.ofChange Rows.millSameSpec) false w args)
   (Rows.millSameSpec.post enc Tryz.prog Tryz.f4 false true false false) := by
 refine returnsInHanded_of_change_and (C := Tryz.checked) (X := fun w _ => laidMetH Tryz.prog Rows.millSameRow.laid w) (fun _ _ _ hh h => h.of_heap hh) own started (by kernel_rfl) Tryz.func4
  (ChangeSpec.witness_shaped (enc := enc) (C := Tryz.checked) (os := os) (X := fun w _ => laidMetH Tryz.prog Rows.millSameRow.laid w) false (World.doorLaid Tryz.prog 407 os) #[.agg #[.slice none 0 0, .int .i64 0, .int .i64 0, .int .i64 0, .int .i64 0, .bool false, .bool false], .slice none 0 0, .int .i64 0] 8 rfl (World.shaped_of_RefB (by kernel_rfl) (by kernel_rfl)) (by kernel_rfl) (by kernel_rfl) (by kernel_rfl) (door_met os _)) ?_
 intro W base args ds gs before hval0 hW _ _ hL _
 have hval : ∀ (j : Nat) t v, Tryz.f4.params[j]? = some t → args[j]? = some v → Value.okWide Tryz.prog W .any base t v := hval0
 have hW' := hW
 obtain ⟨p, q, hA0, hV, rfl, hfz, hnd⟩ := hW
 have hA : DataW.TrodAll enc Tryz.prog W 0 (fun _ => true) true Tryz.f4.params.toList args.toList ds p := hA0
 rw [Tryz.params4] at hA hval
 obtain ⟨v0, vs0, d0, ds0, p0, q0, hargs, rfl, rfl, h0, r0⟩ := trodAll_cons hA
 obtain ⟨v1, vs1, d1, ds1, p1, q1, rfl, rfl, rfl, h1, r1⟩ := trodAll_cons r0
 obtain ⟨v2, vs2, d2, ds2, p2, q2, rfl, rfl, rfl, h2, r2⟩ := trodAll_cons r1
 obtain ⟨rfl, rfl, rfl⟩ := trodAll_nil r2
 obtain rfl : args = #[v0, v1, v2] := by cases args; simp_all
 obtain ⟨rfl, rfl⟩ := trodVars_none hV
 have hlt : ∀ x ∈ p0 ++ (p1 ++ (p2 ++ [])) ++ [], x.block < W.heap.size := fun x hx => hW'.lt x hx
 obtain ⟨fuel, rfl, rfl, rfl, w2⟩ := open_int Tryz.underlying3 (hval 2 3 v2 rfl rfl) h2
 obtain ⟨cs0, e0, _⟩ := okWide_struct Tryz.underlying26 (hval 0 26 v0 rfl rfl)
 obtain ⟨ma, M, mc, i0, i1, who, seed, wd, og, ex, hM, hMs, hi0, hi1, hwho⟩ := lay_of (rd_of_Trod h0 9)
 obtain rfl : v0 = .agg (layC ma M.length mc i0 i1 who seed wd og).toArray := agg_of e0 ex
 obtain ⟨a4, n4, c4', e4⟩ := okWide_slice Tryz.underlying27 (hval 1 27 v1 rfl rfl)
 obtain ⟨ta, la, ca, ea, hok, hap⟩ := ins_of (rd_of_Trod h1 9)
 obtain rfl : v1 = .slice ta la.length ca := by
  subst e4
  simpa [Value.cells] using ea
 obtain ⟨⟨S, hS⟩, hD⟩ := laid_of hL
 have hmet := same17_spec hS (by decide) (by decide) (by decide) (by decide) (by decide) hD (cp := mc) hMs hM hi0 hi1 (seed := seed) hwho wd og (lc := ca) hap hok fuel
 refine hmet.2.mono fun e W' he => ?_
 obtain ⟨v, rfl, rfl, hsame⟩ := he
 have bel := hsame.below
 exact ⟨_, rfl, _, _, _, [], _, [], hW', trodAll_mk1 (shut_bool Tryz.underlying4 _),
  trodAll_cons_mk (Below.trod laidOut (by kernel_rfl) (of_decide_eq_true (by kernel_rfl)) h0 bel fun x hx => hlt x (by simp [hx]))
   (trodAll_cons_mk (Below.trod laidOut (by kernel_rfl) (of_decide_eq_true (by kernel_rfl)) h1 bel fun x hx => hlt x (by simp [hx])) (trodAll_cons_mk (shut_int Tryz.underlying3 w2) trodAll_mk0)), rfl, bel.frame _, fun h => by cases h⟩
end ST
end
end Go.Proofs.YtmdcoaljjnbhlaaGreatDoor
