/- From the machine's arguments to the walk of RingBytes, and back. -/
import Derived.Test.YtmebclfkkloccaaGreatDoorLibB
import Derived.Test.YtmebclfkkloccaaGreatDoorLibC
import Derived.Test.YtmebclfkkloccaaGreatDoorRbC0
import Derived.Test.YtmebclfkkloccaaGreatDoorTie
namespace Go.Proofs.YtmebclfkkloccaaGreatDoor.ringBytes
set_option linter.unusedSimpArgs false
set_option linter.unusedVariables false
set_option linter.unusedSectionVars false
set_option linter.unnecessarySimpa false
open Go.ChangeShapes Go.WideShapes Go.ChangeAt Go.RowKit Go.Shade
set_option maxRecDepth 100000
set_option linter.unusedVariables false

def rowsNone : List (List Int) := [[768, 879], [8203, 8207], [65024, 65039]]
def rowsWide : List (List Int) := [[4352, 4447], [11904, 12350], [12353, 42191], [44032, 55203], [63744, 64255], [65072, 65135], [65280, 65376], [65504, 65510], [127744, 128591], [131072, 262141]]
theorem own : ownKnob Tryz.prog.godebug = none := by kernel_rfl
theorem laidOut : laidOutB Tryz.prog = true := by kernel_rfl
theorem gN : Tryz.prog.globalNamed "spyglass/utf.none" = some 0 := by kernel_rfl
theorem gW : Tryz.prog.globalNamed "spyglass/utf.wide" = some 1 := by kernel_rfl
theorem u3 : Tryz.prog.underlying 3 = some (.int .i64) := by kernel_rfl
theorem u45 : Tryz.prog.underlying 45 = some (.int .u64) := by kernel_rfl
theorem u46 : Tryz.prog.underlying 46 = some (.slice 5) := by kernel_rfl
theorem u5 : Tryz.prog.underlying 5 = some (.int .u8) := by kernel_rfl
theorem c5 : Tryz.prog.cellsOf 5 = 1 := by kernel_rfl
theorem u4 : Tryz.prog.underlying 4 = some .bool := by kernel_rfl
theorem params4 : Tryz.f4.params = #[3, 45, 45, 46, 46] := by kernel_rfl

theorem tables {W : World} (h : laidMetH Tryz.prog Rows.ringBytesRow.laid W) : (∃ e fz c, W.heap[0]? = some (.cells c e fz) ∧ c.toList = valsT tabNone) ∧ ∃ e fz c, W.heap[1]? = some (.cells c e fz) ∧ c.toList = valsT tabWide := by
  have h0 : laidMet Tryz.prog (("spyglass/utf.none", .agg (rowsNone.map (Lib.tabData .i32))) :: [("spyglass/utf.wide", .agg (rowsWide.map (Lib.tabData .i32)))]) W := h
  obtain ⟨ps, h1, _⟩ := h0
  obtain ⟨a, q, h2⟩ := tab2_cells gN (t := 208) (by kernel_rfl) (n := 3) (e := 207) (by kernel_rfl) (m := 2) (f := 21) (by kernel_rfl) (by kernel_rfl) (by kernel_rfl) (by kernel_rfl) (by kernel_rfl) ⟨ps, h1⟩ (by decide) (by decide)
  obtain ⟨b, _⟩ := tab2_cells gW (t := 209) (by kernel_rfl) (n := 10) (e := 207) (by kernel_rfl) (m := 2) (f := 21) (by kernel_rfl) (by kernel_rfl) (by kernel_rfl) (by kernel_rfl) (by kernel_rfl) ⟨q, h2⟩ (by decide) (by decide)
  exact ⟨a, b⟩

theorem valsT_atomic (t : Tab) : ∀ v ∈ valsT t, atomic v = true := by
  intro v hv
  simp only [valsT, List.mem_map] at hv
  obtain ⟨p, _, rfl⟩ := hv
  rfl

theorem walk {W : World} (hL : laidMetH Tryz.prog Rows.ringBytesRow.laid W) {v : Int} {base n : Nat} (hb : base < 2 ^ 64) (hn : n < 2 ^ 64) {x y : Value} {dl rl : List Nat} (hx : BArg W x dl) (hy : BArg W y rl) (bx : ∀ z ∈ dl, z < 256) (bY : ∀ z ∈ rl, z < 256) :
    Calls Tryz.prog 4 #[.int .i64 v, .int .u64 (base : Int), .int .u64 (n : Int), x, y] W fun e w' => e = .returned (.bool true) ∧ Below W.heap.size W w' := by
  obtain ⟨⟨e0, z0, c0, h0, l0⟩, e1, z1, c1, h1, l1⟩ := tables hL
  obtain ⟨a, code, l, has, ha⟩ := hx.abs 4
  obtain ⟨a2, code2, l2, has2, ha2⟩ := hy.abs 5
  let sz : Nat → Nat := fun b => if b = 0 then 6 else 20
  let m := mapOf Tryz.prog.globals.size sz [l, l2]
  let H := setB (setB (heapOf ovRing.tabs) 4 has dl) 5 has2 rl
  have m4 : m 4 = some l := by show mapOf Tryz.prog.globals.size sz [l, l2] 4 = _; rw [gS]; rfl
  have m5 : m 5 = some l2 := by show mapOf Tryz.prog.globals.size sz [l, l2] 5 = _; rw [gS]; rfl
  have hrel : HRel m H W W.heap.size := by
    refine HRel.init fun b o hg => ?_
    rcases setB_get hg with ⟨rfl, hh, rfl⟩ | hg
    · obtain ⟨_, q1, c, e, fz, q2, q3, q4, q5⟩ := ha2.yes hh
      exact ⟨_, _, l2, c, e, fz, rfl, m5, q1, q2, q3, by simpa [u8s_length] using q4, q5 m⟩
    · rcases setB_get hg with ⟨rfl, hh, rfl⟩ | hg
      · obtain ⟨_, q1, c, e, fz, q2, q3, q4, q5⟩ := ha.yes hh
        exact ⟨_, _, l, c, e, fz, rfl, m4, q1, q2, q3, by simpa [u8s_length] using q4, q5 m⟩
      · obtain ⟨t, ht, rfl⟩ := heapOf_get hg
        simp only [ovRing, List.mem_cons, List.not_mem_nil, or_false, Prod.mk.injEq] at ht
        rcases ht with ⟨rfl, rfl⟩ | ⟨rfl, rfl⟩
        · refine ⟨_, _, ⟨0, 0, 6, 0⟩, c0, e0, z0, rfl, by show mapOf Tryz.prog.globals.size sz [l, l2] 0 = _; rw [gS]; rfl, rfl, h0, ?_, ?_, atoms_row l0 (valsT_atomic _)⟩
          · have := congrArg List.length l0; simpa [valsT, tabNone] using this
          · simp [valsT, tabNone]
        · refine ⟨_, _, ⟨1, 0, 20, 0⟩, c1, e1, z1, rfl, by show mapOf Tryz.prog.globals.size sz [l, l2] 1 = _; rw [gS]; rfl, rfl, h1, ?_, ?_, atoms_row l1 (valsT_atomic _)⟩
          · have := congrArg List.length l1; simpa [valsT, tabWide] using this
          · simp [valsT, tabWide]
  have g4 : has = true → H.get 4 = some (.cells (u8s dl) false [] 0) := by
    intro hh
    show (setB _ 5 has2 rl).get 4 = _
    rw [setB_ne (by decide)]
    subst hh
    exact Tr.get_set_eq _ _ _
  have g5 : has2 = true → H.get 5 = some (.cells (u8s rl) false [] 0) := by
    intro hh
    show (setB _ 5 has2 rl).get 5 = _
    subst hh
    exact Tr.get_set_eq _ _ _
  have htab : ∀ b t, (b, t) ∈ ovRing.tabs → b < 6 ∧ True ∧ ∃ rw old esz, H.get b = some (.cells (valsT t) rw old esz) := by
    intro b t ht
    simp only [ovRing, List.mem_cons, List.not_mem_nil, or_false, Prod.mk.injEq] at ht
    rcases ht with ⟨rfl, rfl⟩ | ⟨rfl, rfl⟩
    · refine ⟨by decide, trivial, false, [], 0, ?_⟩
      show (setB (setB (heapOf ovRing.tabs) 4 has dl) 5 has2 rl).get 0 = _
      rw [setB_ne (by decide), setB_ne (by decide)]; rfl
    · refine ⟨by decide, trivial, false, [], 0, ?_⟩
      show (setB (setB (heapOf ovRing.tabs) 4 has dl) 5 has2 rl).get 1 = _
      rw [setB_ne (by decide), setB_ne (by decide)]; rfl
  obtain ⟨o, n', H', δ, e, _, _, _, w, rfl, rfl⟩ := ringBytes_ok (lf := 131072) (Nat.le_refl _) (v := v) hb hn ⟨6, fun _ => True, fun _ => False⟩ H (ha.sl trivial (by decide) g4) (ha2.sl trivial (by decide) g5) bx bY htab (Nat.le_refl _) 0 [] (Nat.zero_le _)
  exact calls_of_evO ovRing pok ringRan e hrel (mapOf_glob sz [l, l2]) (fun b hb => mapOf_fresh b (by rw [gS]; simpa using hb))
    (.cons (.atom rfl) (.cons (.atom rfl) (.cons (.atom rfl) (.cons (ha.rel m m4) (.cons (ha2.rel m m5) .nil)))))

variable {H : Type} {enc : TypeId × Value → H} {P : Program} in
theorem post_of_below {f : Func} {s : ChangeSpec} {apart fresh handsOn again : Bool} {W W' : World} {args : Array Value} {v : Value} {ds gs : List (DataW H)} {before pa pv : List MemPlace}
    (hW : DataW.Whole enc P f.params.toList s.vars apart W args.toList ds gs before)
    (hres : ∀ (b : Nat) (sp : Nat → Bool) (hd : Bool), DataW.TrodAll enc P W' b sp hd f.resultTypes.toList (v.resultList f.resultTypes.size) (s.fn H (ds ++ gs)).results [])
    (hargs : ∀ sp : Nat → Bool, (∀ p ∈ before, sp p.block = true) → DataW.TrodAll enc P W' 0 sp true f.params.toList args.toList (s.fn H (ds ++ gs)).args pa)
    (hvars : ∀ sp : Nat → Bool, (∀ p ∈ before, sp p.block = true) → DataW.TrodVars enc P W' sp s.vars (s.fn H (ds ++ gs)).vars pv)
    (hps : before = pa ++ pv) (hB : Below W.heap.size W W')
    (hok : ∀ (j : Nat) (t : TypeId) (r : Value), f.resultTypes[j]? = some t → (v.resultList f.resultTypes.size)[j]? = some r → Value.okWide P W' .any 0 t r) :
    s.post enc P f apart fresh handsOn again W args v W' := by
  have hold : ∀ p ∈ before, (fun b => decide (b < W.heap.size)) p.block = true := fun p hp => by simpa using hW.lt p hp
  have hlt := hW.lt
  refine ⟨ds, gs, before, [], pa, pv, hW, hres _ _ _, hargs _ hold, hvars _ hold, World.keptBut_mono (fun p hp => ⟨hp, ?_⟩) (hB.frame (· ∈ before)), fun _ => ?_⟩
  · rw [hps, List.mem_append] at hp
    exact Or.inr hp
  · obtain ⟨_, _, _, _, _, hz, hn⟩ := hW
    refine ⟨hok, _, _, ([] ++ pa) ++ pv, ⟨[] ++ pa, pv, trodAll_append (hargs _ (fun _ _ => rfl)) (hres _ _ _), hvars _ (fun _ _ => rfl), rfl, ?_, ?_⟩, ?_⟩
    · intro b off hp
      have hp' : MemPlace.cell b off ∈ before := by rw [hps]; simpa using hp
      rw [hB.frozen (p := ⟨b, off, none⟩) (by simpa [MemPlace.block] using hlt _ hp')]
      exact hz b off hp'
    · intro ha
      have := hn ha
      rw [hps] at this
      simpa using this
    · intro p hp _
      rw [hps]
      simpa using hp

theorem contract (H : Type) (enc : TypeId × Value → H) (W : World) (base : Nat) (args : Array Value) (ds gs : List (DataW H)) (before : List MemPlace)
    (hval : ∀ (j : Nat) t v, Tryz.f4.params[j]? = some t → args[j]? = some v → Value.okWide Tryz.prog W .any base t v)
    (hW : DataW.Whole enc Tryz.prog Tryz.f4.params.toList Rows.ringBytesSpec.vars false W args.toList ds gs before) (hL : laidMetH Tryz.prog Rows.ringBytesRow.laid W) :
    Calls Tryz.prog 4 args W fun e W' => ∃ v, e = .returned v ∧ Rows.ringBytesSpec.post enc Tryz.prog Tryz.f4 false true false false W args v W' := by
  have hW' := hW
  obtain ⟨p, q, hA0, hV, rfl, hfz, hnd⟩ := hW
  have hA : DataW.TrodAll enc Tryz.prog W 0 (fun _ => true) true Tryz.f4.params.toList args.toList ds p := hA0
  rw [params4] at hA hval
  obtain ⟨v0, vs0, d0, ds0, p0, q0, hargs, rfl, rfl, h0, r0⟩ := trodAll_cons hA
  obtain ⟨v1, vs1, d1, ds1, p1, q1, rfl, rfl, rfl, h1, r1⟩ := trodAll_cons r0
  obtain ⟨v2, vs2, d2, ds2, p2, q2, rfl, rfl, rfl, h2, r2⟩ := trodAll_cons r1
  obtain ⟨v3, vs3, d3, ds3, p3, q3, rfl, rfl, rfl, h3, r3⟩ := trodAll_cons r2
  obtain ⟨v4, vs4, d4, ds4, p4, q4, rfl, rfl, rfl, h4, r4⟩ := trodAll_cons r3
  obtain ⟨rfl, rfl, rfl⟩ := trodAll_nil r4
  obtain rfl : args = #[v0, v1, v2, v3, v4] := by cases args; simp_all
  obtain ⟨rfl, rfl⟩ := trodVars_none hV
  clear hA0
  simp only [List.append_nil] at hW'
  obtain ⟨z0, rfl, _, _, _⟩ := open_int u3 (hval 0 3 v0 rfl rfl) h0
  obtain ⟨z1, rfl, _, _, w1⟩ := open_int u45 (hval 1 45 v1 rfl rfl) h1
  obtain ⟨z2, rfl, _, _, w2⟩ := open_int u45 (hval 2 45 v2 rfl rfl) h2
  obtain ⟨dl, hd, bd⟩ := bytes_arg u46 u5 c5 (okWide_slice u46 (hval 3 46 v3 rfl rfl)) h3
  obtain ⟨rl, hr, br⟩ := bytes_arg u46 u5 c5 (okWide_slice u46 (hval 4 46 v4 rfl rfl)) h4
  have r1 : 0 ≤ z1 ∧ z1 < 18446744073709551616 := by simp [Lit.wf, IntKind.min, IntKind.max, IntKind.bits, IntKind.signed] at w1; omega
  have r2 : 0 ≤ z2 ∧ z2 < 18446744073709551616 := by simp [Lit.wf, IntKind.min, IntKind.max, IntKind.bits, IntKind.signed] at w2; omega
  obtain ⟨b1, rfl⟩ : ∃ b : Nat, z1 = (b : Int) := ⟨z1.toNat, by omega⟩
  obtain ⟨b2, rfl⟩ : ∃ b : Nat, z2 = (b : Int) := ⟨z2.toNat, by omega⟩
  have hlt : ∀ x ∈ p0 ++ (p1 ++ (p2 ++ (p3 ++ p4))), x.block < W.heap.size := fun x hx => by simpa using hW'.lt x (by simpa using hx)
  refine (walk hL (v := z0) (base := b1) (n := b2) (by omega) (by omega) hd hr bd br).mono fun e W' ⟨he, hB⟩ => ?_
  subst he
  have tr : ∀ {t : TypeId} {v : Value} {d : DataW H} {ps : List MemPlace} (hr : Tryz.prog.readableRec t = true) (ht : t < Tryz.prog.types.size) (h : DataW.Trod enc Tryz.prog W 0 (fun _ => true) true t v d ps) (sp : Nat → Bool), (∀ x ∈ ps, sp x.block = true) → (∀ x ∈ ps, x.block < W.heap.size) → DataW.Trod enc Tryz.prog W' 0 sp true t v d ps :=
    fun hr ht h sp h1 h2 => WideElems.Trod_stays laidOut hr ht h (fun x hx => hB.same (h2 x hx)) (fun x hx => h1 x hx)
  refine ⟨_, rfl, post_of_below (pa := p0 ++ (p1 ++ (p2 ++ (p3 ++ (p4 ++ []))))) (pv := []) hW' (fun _ _ _ => trodAll_cons_mk (shut_bool u4 _) trodAll_mk0) (fun sp hsp => ?_) (fun _ _ => rfl) (by simp) hB (ok_one (by kernel_rfl) rfl (okWide_bool_mk u4 _))⟩
  rw [params4]
  exact trodAll_cons_mk (tr (by kernel_rfl) (of_decide_eq_true (by kernel_rfl)) h0 sp (fun x hx => hsp x (by simp [hx])) (fun x hx => hlt x (by simp [hx])))
    (trodAll_cons_mk (tr (by kernel_rfl) (of_decide_eq_true (by kernel_rfl)) h1 sp (fun x hx => hsp x (by simp [hx])) (fun x hx => hlt x (by simp [hx])))
    (trodAll_cons_mk (tr (by kernel_rfl) (of_decide_eq_true (by kernel_rfl)) h2 sp (fun x hx => hsp x (by simp [hx])) (fun x hx => hlt x (by simp [hx])))
    (trodAll_cons_mk (tr (by kernel_rfl) (of_decide_eq_true (by kernel_rfl)) h3 sp (fun x hx => hsp x (by simp [hx])) (fun x hx => hlt x (by simp [hx])))
    (trodAll_cons_mk (tr (by kernel_rfl) (of_decide_eq_true (by kernel_rfl)) h4 sp (fun x hx => hsp x (by simp [hx])) (fun x hx => hlt x (by simp [hx]))) trodAll_mk0))))
end Go.Proofs.YtmebclfkkloccaaGreatDoor.ringBytes
