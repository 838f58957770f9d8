/- The law DigestBook: its walk, from the facts on the tables. -/
import Derived.Test.YtbaeddppihjgfaaDoorBookWalk
import Derived.Test.YtbaeddppihjgfaaDoorRows
import Derived.Test.YtbaeddppihjgfaaDoorCards
import Derived.Test.YtbaeddppihjgfaaDoorTie
import Derived.WalkKit
import Derived.ProofKit
import Derived.OpenShut
import Derived.ShutString
import Derived.ChangeOld
import Derived.Below
import Derived.SizedLaws
import Derived.Deep.DeepHandedRow
import Derived.JoinedCond
import Derived.Lib.LaidTab
import Derived.LaidSub
import Derived.Test.YtbaeddppihjgfaaDoorOpen
import Derived.Test.YtbaeddppihjgfaaDoorOpenRows
namespace Go.Proofs.YtbaeddppihjgfaaDoor.Sg
open Go Go.RowKit Go.Proofs.YtbaeddppihjgfaaDoorW.PrintWords
theorem book_all (w : World) (ls : LL) (A : Option Addr) (c : Nat) (hr : Rbs w A ls) (hc : ls.length ≤ c) (hn : ls.length ≤ 5864062014634) (hl : ∀ l ∈ ls, l.length ≤ 140737488351232) (hK : KAt w) (hF : FirstAt w) (hQ : KeysAt w) :
    Calls Tryd.prog 16 #[.slice A ls.length c] w fun e w' => e = .returned (.bool true) ∧ Fr No w w' :=
  book_raw w ls ls.length rfl A c hr hc hn hl ⟨fun _ hf => hK.fr hf id, fun _ hf j hj => hf.cell (hF j hj) id, fun _ hf j hj => hf.cell (hQ j hj) id⟩
end Go.Proofs.YtbaeddppihjgfaaDoor.Sg
namespace Go.Proofs.YtbaeddppihjgfaaDoor.digestBook
open Go.ChangeShapes Go.WideShapes Go.ChangeAt Go.RowKit Go.Proofs.YtbaeddppihjgfaaDoor.Sg
open Go.ChangeMaps (open_string shut_string)
set_option linter.unusedVariables false
theorem own : ownKnob Tryd.prog.godebug = none := by kernel_rfl
theorem laidOut : laidOutB Tryd.prog = true := by kernel_rfl
theorem gTab0 : Tryd.prog.globalNamed "sigil/digest.k" = some 3 := by kernel_rfl
theorem gType0 : (Tryd.prog.globals[3]?).map (·.type) = some 110 := by kernel_rfl
theorem cellsT0 : Tryd.prog.cellsOf 110 = 64 := by kernel_rfl
theorem cellsE0 : Tryd.prog.cellsOf 76 = 1 := by kernel_rfl
def tab0 : List Int := [1116352408, 1899447441, 3049323471, 3921009573, 961987163, 1508970993, 2453635748, 2870763221, 3624381080, 310598401, 607225278, 1426881987, 1925078388, 2162078206, 2614888103, 3248222580, 3835390401, 4022224774, 264347078, 604807628, 770255983, 1249150122, 1555081692, 1996064986, 2554220882, 2821834349, 2952996808, 3210313671, 3336571891, 3584528711, 113926993, 338241895, 666307205, 773529912, 1294757372, 1396182291, 1695183700, 1986661051, 2177026350, 2456956037, 2730485921, 2820302411, 3259730800, 3345764771, 3516065817, 3600352804, 4094571909, 275423344, 430227734, 506948616, 659060556, 883997877, 958139571, 1322822218, 1537002063, 1747873779, 1955562222, 2024104815, 2227730452, 2361852424, 2428436474, 2756734187, 3204031479, 3329325298]
theorem gTab1 : Tryd.prog.globalNamed "sigil/digest.first" = some 1 := by kernel_rfl
theorem gType1 : (Tryd.prog.globals[1]?).map (·.type) = some 83 := by kernel_rfl
theorem cellsT1 : Tryd.prog.cellsOf 83 = 8 := by kernel_rfl
theorem cellsE1 : Tryd.prog.cellsOf 76 = 1 := by kernel_rfl
def tab1 : List Int := [1779033703, 3144134277, 1013904242, 2773480762, 1359893119, 2600822924, 528734635, 1541459225]
theorem gTab2 : Tryd.prog.globalNamed "sigil/sigilref3.keys" = some 2 := by kernel_rfl
theorem gType2 : (Tryd.prog.globals[2]?).map (·.type) = some 80 := by kernel_rfl
theorem cellsT2 : Tryd.prog.cellsOf 80 = 64 := by kernel_rfl
theorem cellsE2 : Tryd.prog.cellsOf 3 = 1 := by kernel_rfl
def tab2 : List Int := [1116352408, 1899447441, 3049323471, 3921009573, 961987163, 1508970993, 2453635748, 2870763221, 3624381080, 310598401, 607225278, 1426881987, 1925078388, 2162078206, 2614888103, 3248222580, 3835390401, 4022224774, 264347078, 604807628, 770255983, 1249150122, 1555081692, 1996064986, 2554220882, 2821834349, 2952996808, 3210313671, 3336571891, 3584528711, 113926993, 338241895, 666307205, 773529912, 1294757372, 1396182291, 1695183700, 1986661051, 2177026350, 2456956037, 2730485921, 2820302411, 3259730800, 3345764771, 3516065817, 3600352804, 4094571909, 275423344, 430227734, 506948616, 659060556, 883997877, 958139571, 1322822218, 1537002063, 1747873779, 1955562222, 2024104815, 2227730452, 2361852424, 2428436474, 2756734187, 3204031479, 3329325298]
theorem table0 {W : World} (h : laidMetH Tryd.prog Rows.digestBookRow.laid W) : Lib.TabIs Tryd.prog W "sigil/digest.k" .u32 tab0 := by
  have h1 := laidMetH.filter (fun x => x.1 == "sigil/digest.k") h
  have e : (Rows.digestBookRow.laid.filter fun x => x.1 == "sigil/digest.k") = [("sigil/digest.k", Lib.tabData .u32 tab0)] := by kernel_rfl
  rw [e] at h1
  exact Lib.tabIs_of_head (rest := []) gTab0 gType0 Tryd.underlying110 Tryd.underlying76 cellsE0 cellsT0 h1
theorem table1 {W : World} (h : laidMetH Tryd.prog Rows.digestBookRow.laid W) : Lib.TabIs Tryd.prog W "sigil/digest.first" .u32 tab1 := by
  have h1 := laidMetH.filter (fun x => x.1 == "sigil/digest.first") h
  have e : (Rows.digestBookRow.laid.filter fun x => x.1 == "sigil/digest.first") = [("sigil/digest.first", Lib.tabData .u32 tab1)] := by kernel_rfl
  rw [e] at h1
  exact Lib.tabIs_of_head (rest := []) gTab1 gType1 Tryd.underlying83 Tryd.underlying76 cellsE1 cellsT1 h1
theorem table2 {W : World} (h : laidMetH Tryd.prog Rows.digestBookRow.laid W) : Lib.TabIs Tryd.prog W "sigil/sigilref3.keys" .i64 tab2 := by
  have h1 := laidMetH.filter (fun x => x.1 == "sigil/sigilref3.keys") h
  have e : (Rows.digestBookRow.laid.filter fun x => x.1 == "sigil/sigilref3.keys") = [("sigil/sigilref3.keys", Lib.tabData .i64 tab2)] := by kernel_rfl
  rw [e] at h1
  exact Lib.tabIs_of_head (rest := []) gTab2 gType2 Tryd.underlying80 Tryd.underlying3 cellsE2 cellsT2 h1
theorem KAt_of {W : World} (h : laidMetH Tryd.prog Rows.digestBookRow.laid W) : KAt W := fun j hj => by
  have h1 := (table0 h).cell gTab0 j hj
  have h2 : ∀ j : Fin 64, tab0.getD j.val 0 = un (kL.getD j.val 0) := by decide
  rw [h1]; exact congrArg (fun z => some (Value.int .u32 z)) (h2 ⟨j, hj⟩)
theorem FirstAt_of {W : World} (h : laidMetH Tryd.prog Rows.digestBookRow.laid W) : FirstAt W := fun j hj => by
  have h1 := (table1 h).cell gTab1 j hj
  have h2 : ∀ j : Fin 8, tab1.getD j.val 0 = un (firstL.getD j.val 0) := by decide
  rw [h1]; exact congrArg (fun z => some (Value.int .u32 z)) (h2 ⟨j, hj⟩)
theorem KeysAt_of {W : World} (h : laidMetH Tryd.prog Rows.digestBookRow.laid W) : KeysAt W := fun j hj => by
  have h1 := (table2 h).cell gTab2 j hj
  have h2 : ∀ j : Fin 64, tab2.getD j.val 0 = un (kL.getD j.val 0) := by decide
  rw [h1]; exact congrArg (fun z => some (Value.int .i64 z)) (h2 ⟨j, hj⟩)
set_option maxRecDepth 100000 in
/-- What the walk gives, for every argument and every world that holds what the row lists. -/
theorem contract (H : Type) (enc : TypeId × Value → H) (W : World) (base : Nat) (args : Array Value) (ds gs : List (DataW H)) (before : List MemPlace)
    (hval : ∀ (j : Nat) t v, Tryd.f16.params[j]? = some t → args[j]? = some v → Value.okWide Tryd.prog W .any base t v)
    (hW : DataW.Whole enc Tryd.prog Tryd.f16.params.toList Rows.digestBookSpec.vars false W args.toList ds gs before)
    (hsz : (DataW.weightsEach Tryd.prog (Tryd.f16.params.toList ++ Rows.digestBookSpec.plain.varTypes Tryd.prog) (ds ++ gs)).all (· ≤ reachBytes) = true) (hL : laidMetH Tryd.prog Rows.digestBookRow.laid W) :
    Calls Tryd.prog 16 args W fun e W' => ∃ v, e = .returned v ∧ Rows.digestBookSpec.post enc Tryd.prog Tryd.f16 false true false false W args v W' := by
  have hW' := hW
  obtain ⟨p, q, hA0, hV, rfl, hfz, hnd⟩ := hW
  have hA : DataW.TrodAll enc Tryd.prog W 0 (fun _ => true) true Tryd.f16.params.toList args.toList ds p := hA0
  rw [Tryd.params16] at hA hval hsz
  obtain ⟨v0, vs0, d0, ds0, p0, q0, hargs, rfl, rfl, h0, r0⟩ := trodAll_cons hA
  obtain ⟨rfl, rfl, rfl⟩ := trodAll_nil r0
  obtain rfl : args = #[v0] := by cases args; simp_all
  obtain ⟨rfl, rfl⟩ := trodVars_none hV
  have k0 := h0
  have lt0 : ∀ x ∈ p0, x.block < W.heap.size := by obtain ⟨m, hm⟩ := k0; exact DataW.trod_lt m _ _ _ hm
  obtain ⟨a0, l0, c0, rfl, hr0, hc0, hl0⟩ := open_rows (hval 0 34 v0 rfl rfl) hsz (j := 0) rfl rfl h0
  clear hA0 hsz
  refine (book_all W l0 a0 c0 hr0 hc0 hl0.1 hl0.2 (KAt_of hL) (FirstAt_of hL) (KeysAt_of hL)).mono fun e W' ⟨he, hfr⟩ => ?_
  have bel := hfr.below
  subst he
  exact ⟨_, rfl, _, _, _, [], _, [], hW', trodAll_mk1 (shut_bool Tryd.underlying4 _), (trodAll_cons_mk (Below.trod laidOut (by kernel_rfl) (of_decide_eq_true (by kernel_rfl)) k0 bel lt0) trodAll_mk0), rfl, bel.frame _, fun h => by cases h⟩
noncomputable def laidWorld (os : Os) : World :=
  { World.holding Tryd.prog os ⟨#[], #[], []⟩ with heap := ((((World.holding Tryd.prog os ⟨#[], #[], []⟩).heap.modify 3 fun
    | .cells _ t frozen => .cells #[.int .u32 1116352408, .int .u32 1899447441, .int .u32 3049323471, .int .u32 3921009573, .int .u32 961987163, .int .u32 1508970993, .int .u32 2453635748, .int .u32 2870763221, .int .u32 3624381080, .int .u32 310598401, .int .u32 607225278, .int .u32 1426881987, .int .u32 1925078388, .int .u32 2162078206, .int .u32 2614888103, .int .u32 3248222580, .int .u32 3835390401, .int .u32 4022224774, .int .u32 264347078, .int .u32 604807628, .int .u32 770255983, .int .u32 1249150122, .int .u32 1555081692, .int .u32 1996064986, .int .u32 2554220882, .int .u32 2821834349, .int .u32 2952996808, .int .u32 3210313671, .int .u32 3336571891, .int .u32 3584528711, .int .u32 113926993, .int .u32 338241895, .int .u32 666307205, .int .u32 773529912, .int .u32 1294757372, .int .u32 1396182291, .int .u32 1695183700, .int .u32 1986661051, .int .u32 2177026350, .int .u32 2456956037, .int .u32 2730485921, .int .u32 2820302411, .int .u32 3259730800, .int .u32 3345764771, .int .u32 3516065817, .int .u32 3600352804, .int .u32 4094571909, .int .u32 275423344, .int .u32 430227734, .int .u32 506948616, .int .u32 659060556, .int .u32 883997877, .int .u32 958139571, .int .u32 1322822218, .int .u32 1537002063, .int .u32 1747873779, .int .u32 1955562222, .int .u32 2024104815, .int .u32 2227730452, .int .u32 2361852424, .int .u32 2428436474, .int .u32 2756734187, .int .u32 3204031479, .int .u32 3329325298] t frozen
    | o => o).modify 1 fun
    | .cells _ t frozen => .cells #[.int .u32 1779033703, .int .u32 3144134277, .int .u32 1013904242, .int .u32 2773480762, .int .u32 1359893119, .int .u32 2600822924, .int .u32 528734635, .int .u32 1541459225] t frozen
    | o => o).modify 2 fun
    | .cells _ t frozen => .cells #[.int .i64 1116352408, .int .i64 1899447441, .int .i64 3049323471, .int .i64 3921009573, .int .i64 961987163, .int .i64 1508970993, .int .i64 2453635748, .int .i64 2870763221, .int .i64 3624381080, .int .i64 310598401, .int .i64 607225278, .int .i64 1426881987, .int .i64 1925078388, .int .i64 2162078206, .int .i64 2614888103, .int .i64 3248222580, .int .i64 3835390401, .int .i64 4022224774, .int .i64 264347078, .int .i64 604807628, .int .i64 770255983, .int .i64 1249150122, .int .i64 1555081692, .int .i64 1996064986, .int .i64 2554220882, .int .i64 2821834349, .int .i64 2952996808, .int .i64 3210313671, .int .i64 3336571891, .int .i64 3584528711, .int .i64 113926993, .int .i64 338241895, .int .i64 666307205, .int .i64 773529912, .int .i64 1294757372, .int .i64 1396182291, .int .i64 1695183700, .int .i64 1986661051, .int .i64 2177026350, .int .i64 2456956037, .int .i64 2730485921, .int .i64 2820302411, .int .i64 3259730800, .int .i64 3345764771, .int .i64 3516065817, .int .i64 3600352804, .int .i64 4094571909, .int .i64 275423344, .int .i64 430227734, .int .i64 506948616, .int .i64 659060556, .int .i64 883997877, .int .i64 958139571, .int .i64 1322822218, .int .i64 1537002063, .int .i64 1747873779, .int .i64 1955562222, .int .i64 2024104815, .int .i64 2227730452, .int .i64 2361852424, .int .i64 2428436474, .int .i64 2756734187, .int .i64 3204031479, .int .i64 3329325298] t frozen
    | o => o) }
theorem laid_met (os : Os) : laidMet Tryd.prog Rows.digestBookRow.laid ((laidWorld os).forCall (fun _ _ => 0) ⟨#[], #[.slice none 0 0], []⟩).memory :=
  laidMet_of_run' 8 (by kernel_rfl) (by kernel_rfl)
theorem reads (os : Os) {H : Type} (enc : TypeId × Value → H) : ∃ places, DataW.whole enc Tryd.prog ((laidWorld os).forCall (fun _ _ => 0) ⟨#[], #[.slice none 0 0], []⟩).memory Tryd.f16.params.toList Rows.digestBookSpec.vars false (#[.slice none 0 0] : Array Value).toList 8 = some ([.nil], [], places) :=
  ⟨[], by kernel_rfl⟩
set_option maxRecDepth 100000 in
theorem lifted (os : Os) (started : os.Started) (H : Type) (enc : TypeId × Value → H) (F : Stop.Interp) :
    ReturnsInHanded {} Tryd.checked os 16 .any ((OpenSpec.ofChange Rows.digestBookSpec).preRow enc Tryd.prog Tryd.f16 Rows.digestBookRow.domain false Rows.digestBookRow.laid) (((OpenSpec.ofChange Rows.digestBookSpec).at F).post enc Tryd.prog Tryd.f16 false true false false) := by
  obtain ⟨places, hx⟩ := reads os enc
  refine returnsInHanded_of_row (C := Tryd.checked) (s := (OpenSpec.ofChange Rows.digestBookSpec)) own started (by kernel_rfl) Tryd.func16
    (witness_row_at (enc := enc) (C := Tryd.checked) false (laidWorld os) #[.slice none 0 0] rfl (by kernel_rfl) (by kernel_rfl) (by kernel_rfl)
      (OpenSpec.preRow_of_cond 8 hx (by kernel_rfl) (fun k hk => by cases hk) (by kernel_rfl) (laid_met os))) ?_
  intro W base args ds gs before hval hW _ _ hsz hL _ _
  exact contract H enc W base args ds gs before hval hW hsz hL
theorem said : Rows.DigestBookSaid :=
  OpenClaim.holds_of_cond 16 Tryd.f16 rfl rfl rfl rfl rfl rfl rfl ⟨rfl, rfl, rfl, rfl, rfl⟩ rfl rfl rfl rfl rfl (by kernel_rfl) Tryd.func16 (by kernel_rfl)
    (of_decide_eq_true (by kernel_rfl)) (by unfold Func.isWrapper; first | (rw [if_pos (by decide +kernel)]; kernel_rfl) | (rw [if_neg (by decide +kernel)]; exact ⟨rfl, rfl⟩))
    (fun os started H enc _ F => by rw [OpenClaim.pre_eq_preRow]; exact lifted os started H enc F)
theorem plain (f : FuncId) (fn : Func) (hf : Tryd.pinned.checked.prog.funcNamed "sigil/sigillaw3.DigestBook" = some f) (hfn : Tryd.pinned.checked.prog.funcs[f]? = some fn) :
    false = Tryd.pinned.checked.prog.looks [] ∧ ∀ (j : Nat) t, fn.params[j]? = some t → Tryd.pinned.checked.prog.wantsStandIn t = false := by
  obtain rfl : f = 16 := Option.some.inj ((show Tryd.prog.funcNamed "sigil/sigillaw3.DigestBook" = some 16 by kernel_rfl).symm.trans hf) |>.symm
  obtain rfl : fn = Tryd.f16 := (Option.some.inj (Tryd.func16.symm.trans hfn)).symm
  refine ⟨by kernel_rfl, fun j t ht => ?_⟩
  rw [Tryd.params16] at ht
  have hm := Array.mem_of_getElem? ht
  simp only [List.mem_toArray, List.mem_cons, List.not_mem_nil, or_false] at hm
  rcases hm with rfl
  · exact (show Tryd.prog.wantsStandIn 34 = false by kernel_rfl)
theorem card : Rows.DigestBookCardSaid :=
  Claim7.holds_tied_plain_at .later [] _ _ _ _ said (fun _ h => by cases h) (by kernel_rfl) (fun _ h => by cases h) digestBook_row_tie rfl ⟨rfl, rfl⟩ (by kernel_rfl) rfl plain (by kernel_rfl)
#print axioms card
end Go.Proofs.YtbaeddppihjgfaaDoor.digestBook
