/- The walks of the numbers' bytes, laid. Written by wip/shade/sk.py from wip/rb/rb1.plan. -/
import Derived.Test.YtmebclfkkloccaaGreatDoorLibC
import Derived.Test.YtmebclfkkloccaaGreatDoorRbF
namespace Go.Proofs.YtmebclfkkloccaaGreatDoor
open Go.Shade
set_option maxRecDepth 100000
set_option linter.unusedVariables false
set_option linter.unusedSimpArgs false
theorem ref1Copy_ok {lf : Nat} {a : Option Addr} {m code : Nat} {l : List Nat} (c : Cx) (H : Tr AObj) (hs : Sl c.R c.n0 H 1 a m code (u8s l)) (hm : m ≤ 2 ^ 30) :
    FnOK Tryz.prog lf 1 20 [.slice a m code] c H (fun v n' H' => ∃ a' code', v = .slice a' m code' ∧ New c.n0 n' H' 1 a' m code' (u8s l)) := by
  have hlen : l.length = m := by simpa [u8s_length] using hs.length
  refine fn_enter Tryz.func20 rfl fun d hd => ?_   -- spyglass/spyglassref01.Copy params [46] results [46]
  refine go_seq ?_
  refine go_region ?_   -- region 0 ref.go:31
  refine go_assign rfl rfl rfl rfl rfl rfl  ?_
  refine go_end ?_
  refine gon_seq ?_
  refine go_seq ?_
  refine go_region ?_   -- region 1 ref.go:32
  refine go_move rfl rfl rfl rfl rfl rfl  ?_
  refine go_len rfl rfl rfl rfl rfl  rfl rfl rfl und_S_uint8 ?_
  refine go_makeSlice rfl rfl rfl rfl rfl rfl rfl rfl rfl eltA_S_uint8 (Nat.le_refl _) (by omega) (by omega) rfl ?_
  refine go_assign rfl rfl rfl rfl rfl rfl  ?_
  refine go_end ?_
  refine gon_seq ?_
  refine go_seq ?_
  refine go_region ?_   -- region 2 ref.go:33
  refine go_move rfl rfl rfl rfl rfl rfl  ?_
  refine go_move rfl rfl rfl rfl rfl rfl  ?_
  refine go_copy (fun _ => False) (fun H' => New c.n0 (c.n0 + 1) H' 1 (some ⟨c.n0, 0, none⟩) m (2 * m + 1) (u8s l)) rfl rfl rfl rfl rfl rfl rfl rfl eltK_S_uint8 (Nat.le_refl _) rfl (new := u8s l)
    ?_ (by simp [u8s_length, hlen]) (u8s_one _) (fun b h1 h2 => by cases h1; exact absurd h2 (Nat.lt_irrefl _)) (fun _ h => h.elim)
    (fun hz => ⟨_, 0, _, u8s l, _, _, rfl, by omega, Tr.get_set_eq _ _ _, by simp, ?_, ?_⟩) (fun hz => ?_) (fun H' hX => ?_)
  · have h := hs.frame (R' := c.R) (n' := c.n0 + 1) (H' := H.set c.n0 (.cells (zeros [.int .u8 0] m) true [] 1)) (Nat.le_succ _) (fun _ h => h) (fun b _ hb => Tr.get_set_ne _ _ (by omega))
    simpa using h.rd (c := c) (fun b h _ => .inl h)
  · rw [zeros_one, putAt_some _ _ _ (by simp [u8s_length, hlen])]; simp [u8s_length, hlen]
  · exact New.of_mk (Nat.le_refl _) (by omega) (Tr.get_set_eq _ _ _) (by simp [u8s_length, hlen])
  · have : m = 0 := by omega
    subst this
    have hl0 : l = [] := by simpa using hlen
    subst hl0
    exact New.of_mk (Nat.le_refl _) (by omega) (Tr.get_set_eq _ _ _) rfl
  refine go_end ?_
  refine gon_seq ?_
  refine go_seq ?_
  refine go_region ?_   -- region 3 ref.go:34
  refine go_move rfl rfl rfl rfl rfl rfl  ?_
  refine go_assign rfl rfl rfl rfl rfl rfl  ?_
  refine go_end ?_
  refine gon_seq ?_
  refine go_ret ?_
  refine go_result ?_
  refine gov_tmp rfl ?_
  refine gov_nil ?_
  exact ⟨_, _, rfl, hX⟩
theorem ref1Same_ok {lf : Nat} (hlf : 2 ^ 17 ≤ lf) {a a2 : Option Addr} {m m2 code code2 : Nat} {l l2 : List Nat} (c : Cx) (H : Tr AObj) (hs : Sl c.R c.n0 H 1 a m code (u8s l)) (hs2 : Sl c.R c.n0 H 1 a2 m2 code2 (u8s l2)) (hm : m ≤ 2 ^ 16) :
    FnOK Tryz.prog lf 1 28 [.slice a m code, .slice a2 m2 code2] c H (fun v n' H' => v = .bool (decide (l = l2)) ∧ n' = c.n0 ∧ H' = H) := by
  have hlen : l.length = m := by simpa [u8s_length] using hs.length
  have hlen2 : l2.length = m2 := by simpa [u8s_length] using hs2.length
  refine fn_enter Tryz.func28 rfl fun d hd => ?_   -- spyglass/spyglassref01.Same params [46, 46] results [4]
  refine go_seq ?_
  refine go_region ?_   -- region 0 ref.go:5
  refine go_assign rfl rfl rfl rfl rfl rfl  ?_
  refine go_end ?_
  refine gon_seq ?_
  refine go_seq ?_
  refine go_seq ?_
  refine go_region ?_   -- region 1 ref.go:6
  refine go_move rfl rfl rfl rfl rfl rfl  ?_
  refine go_len rfl rfl rfl rfl rfl  rfl rfl rfl und_S_uint8 ?_
  refine go_move rfl rfl rfl rfl rfl rfl  ?_
  refine go_len rfl rfl rfl rfl rfl  rfl rfl rfl und_S_uint8 ?_
  refine go_bin rfl rfl rfl rfl rfl rfl rfl rfl i_neq ?_
  refine go_end ?_
  refine gon_seq ?_
  refine go_cond rfl (fun hc1 => ?_) (fun hc1 => ?_)
  · skip
    refine go_seq ?_
    refine go_region ?_   -- region 2 ref.go:7
    refine go_assign rfl rfl rfl rfl rfl rfl  ?_
    refine go_end ?_
    refine gon_seq ?_
    refine go_ret ?_
    refine go_result ?_
    refine gov_tmp rfl ?_
    refine gov_nil ?_
    refine ⟨?_, rfl, rfl⟩
    have : l ≠ l2 := fun e => by subst e; simp at hc1; omega
    simp [tupled, this]
  · skip
    refine go_skip ?_
    refine gon_seq ?_
    refine go_seq ?_
    refine go_seq ?_
    refine go_region ?_   -- region 3 ref.go:9
    refine go_move rfl rfl rfl rfl rfl rfl  ?_
    refine go_len rfl rfl rfl rfl rfl  rfl rfl rfl und_S_uint8 ?_
    refine go_move rfl rfl rfl rfl rfl rfl  ?_
    refine go_end ?_
    refine gon_seq ?_
    refine go_block ?_
    have hmm : m = m2 := by simp at hc1; omega
    subst hmm
    refine go_loop (X := Nat) (fun x => [(0, .slice a m code), (1, .slice a2 m code2), (12, .int .i64 (m : Int)), (13, .int .i64 (x : Int))])
      (fun x n' H' => n' = c.n0 ∧ H' = H ∧ x ≤ m ∧ l.take x = l2.take x) (fun x => m - x) 0 (by repeat' (first | exact trivial | rfl | (exact congrArg some (congrArg (Value.int _) (by omega))) | apply And.intro)) ?_ ?_ ?_
    · exact ⟨rfl, rfl, Nat.zero_le _, by simp⟩
    · show m - 0 < lf
      omega
    · rintro x n' H' hle hfr ⟨rfl, rfl, hx, hpre⟩
      dsimp only at *
      refine go_seq ?_
      refine go_region ?_   -- region 4 ref.go:9
      refine go_bin rfl rfl rfl rfl rfl rfl rfl rfl i_lss ?_
      refine go_end ?_
      refine gon_seq ?_
      refine go_seq ?_
      refine go_cond rfl (fun hc3 => ?_) (fun hc3 => ?_)
      · skip
        refine go_skip ?_
        refine gon_seq ?_
        refine go_seq ?_
        refine go_block ?_
        refine go_seq ?_
        refine go_region ?_   -- region 5 ref.go:9
        refine go_move rfl rfl rfl rfl rfl rfl  ?_
        refine go_assign rfl rfl rfl rfl rfl rfl  ?_
        refine go_end ?_
        refine gon_seq ?_
        refine go_seq ?_
        refine go_region ?_   -- region 6 DRAW ref.go:10
        refine go_moveD rfl rfl rfl rfl rfl rfl  ?_
        refine go_moveD rfl rfl rfl rfl rfl rfl  ?_
        have hxm : x < m := by simp at hc3; omega
        obtain ⟨b, i, cs, rw1, old, esz, ha, hb1, hb2, hb3, hb4⟩ := hs.at hxm
        obtain ⟨b', i', cs', rw1', old', esz', ha', hb1', hb2', hb3', hb4'⟩ := hs2.at hxm
        refine go_indexAddrD (j := x) rfl rfl rfl rfl rfl rfl rfl eltK_S_uint8 ha rfl hxm ?_
        refine go_loadD rfl rfl rfl rfl rfl rfl agg_uint8 hb2 hb3 (v := .int .u8 ((l[x]'(by omega) : Nat) : Int)) (by rw [hb4 _ (by omega), Nat.mul_one, u8s_get, List.getElem?_eq_getElem (by omega)]; rfl) (fun _ => .inl hb1) ?_
        refine go_moveD rfl rfl rfl rfl rfl rfl  ?_
        refine go_moveD rfl rfl rfl rfl rfl rfl  ?_
        refine go_indexAddrD (j := x) rfl rfl rfl rfl rfl rfl rfl eltK_S_uint8 ha' rfl hxm ?_
        refine go_loadD rfl rfl rfl rfl rfl rfl agg_uint8 hb2' hb3' (v := .int .u8 ((l2[x]'(by omega) : Nat) : Int)) (by rw [hb4' _ (by omega), Nat.mul_one, u8s_get, List.getElem?_eq_getElem (by omega)]; rfl) (fun _ => .inl hb1') ?_
        refine go_binD rfl rfl rfl rfl rfl rfl rfl rfl i_neq ?_
        refine go_endD (.inl (by simp [quietP] <;> omega)) ?_
        refine gon_seq ?_
        refine go_cond rfl (fun hc4 => ?_) (fun hc4 => ?_)
        · skip
          refine go_seq ?_
          refine go_region ?_   -- region 7 ref.go:11
          refine go_assign rfl rfl rfl rfl rfl rfl  ?_
          refine go_end ?_
          refine gon_seq ?_
          refine go_ret ?_
          refine go_result ?_
          refine gov_tmp rfl ?_
          refine gov_nil ?_
          refine ⟨?_, rfl, rfl⟩
          have : l ≠ l2 := fun e => by subst e; simp at hc4
          simp [tupled, this]
        · skip
          refine go_skip ?_
          refine gon_block ?_
          refine gon_seq ?_
          refine go_region ?_   -- region 8 ref.go:9
          refine go_bin rfl rfl rfl rfl rfl rfl rfl rfl (i_add' (wrap_i64 (by omega) (by omega))) ?_
          refine go_move rfl rfl rfl rfl rfl rfl  ?_
          refine go_end ?_
          refine gon_loop ⟨x + 1, (by repeat' (first | exact trivial | rfl | (exact congrArg some (congrArg (Value.int _) (by omega))) | apply And.intro)), by show m - (x + 1) < m - x; omega, ?_⟩
          refine ⟨rfl, rfl, hxm, ?_⟩
          have : l[x]'(by omega) = l2[x]'(by omega) := by simp at hc4; omega
          rw [List.take_add_one, List.take_add_one, hpre, List.getElem?_eq_getElem (by omega), List.getElem?_eq_getElem (by omega), this]
      · skip
        refine go_exit ?_
        refine gox_seq ?_
        refine gox_loop ?_
        refine gox_out ?_
        refine gon_seq ?_
        refine go_seq ?_
        refine go_region ?_   -- region 9 ref.go:14
        refine go_assign rfl rfl rfl rfl rfl rfl  ?_
        refine go_end ?_
        refine gon_seq ?_
        refine go_ret ?_
        refine go_result ?_
        refine gov_tmp rfl ?_
        refine gov_nil ?_
        refine ⟨?_, rfl, rfl⟩
        have hxm : x = m := by simp at hc3; omega
        have : l = l2 := by rw [← List.take_length (l := l), ← List.take_length (l := l2), hlen, hlen2, ← hxm, hpre]
        simp [tupled, this]
theorem wireNum_ok {lf : Nat} (hlf : 2 ^ 17 ≤ lf) (a : Nat) (k : Int) (ha : a < 2 ^ 64) (c : Cx) (H : Tr AObj) :
    FnOK Tryz.prog lf 1 58 [.int .u64 a, .int .i64 k] c H (fun v n' H' => ∃ ad code, v = .slice ad (numM a k).length code ∧ New c.n0 n' H' 1 ad (numM a k).length code (u8s (numM a k))) := by
  refine fn_enter Tryz.func58 rfl fun d hd => ?_   -- spyglass/wire.Num params [45, 3] results [46]
  refine go_seq ?_
  refine go_region ?_   -- region 0 wire.go:7
  refine go_assign rfl rfl rfl rfl rfl rfl  ?_
  refine go_end ?_
  refine gon_seq ?_
  refine go_seq ?_
  refine go_seq ?_
  refine go_region ?_   -- region 1 wire.go:8
  refine go_move rfl rfl rfl rfl rfl rfl  ?_
  refine go_bin rfl rfl rfl rfl rfl rfl rfl rfl i_lss ?_
  refine go_move rfl rfl rfl rfl rfl rfl  ?_
  refine go_moveG rfl rfl rfl rfl rfl rfl rfl rfl rfl rfl (fun _ => rfl)  ?_
  refine go_binG rfl rfl rfl rfl rfl rfl rfl rfl rfl rfl (fun h => h) rfl (fun _ => rfl) rfl i_gtr ?_
  refine go_pick_or rfl rfl rfl rfl rfl rfl rfl rfl (fun h => pick_r rfl h) ?_
  refine go_end ?_
  refine gon_seq ?_
  refine go_cond rfl (fun hc1 => ?_) (fun hc1 => ?_)
  · skip
    refine go_seq ?_
    refine go_region ?_   -- region 2 wire.go:9
    refine go_assign rfl rfl rfl rfl rfl rfl  ?_
    refine go_end ?_
    refine gon_seq ?_
    refine go_ret ?_
    refine go_result ?_
    refine gov_tmp rfl ?_
    refine gov_nil ?_
    have : numM a k = [] := by simp at hc1; simp [numM, hc1]
    rw [this]
    exact ⟨_, _, rfl, .nil⟩
  · skip
    refine go_skip ?_
    refine gon_seq ?_
    refine go_seq ?_
    refine go_region ?_   -- region 3 wire.go:11
    refine go_move rfl rfl rfl rfl rfl rfl  ?_
    obtain ⟨q, rfl, hq1, hq8⟩ : ∃ q : Nat, k = (q : Int) ∧ 1 ≤ q ∧ q ≤ 8 := by
      simp at hc1; exact ⟨k.toNat, by omega, by omega, by omega⟩
    have hM : numM a q = numB a q := by simp [numM]; omega
    refine go_makeSlice rfl rfl rfl rfl rfl rfl rfl rfl rfl eltA_S_uint8 (Nat.le_refl _) (by omega) (by omega) rfl ?_
    refine go_assign rfl rfl rfl rfl rfl rfl  ?_
    refine go_end ?_
    refine gon_seq ?_
    refine go_seq ?_
    refine go_seq ?_
    refine go_region ?_   -- region 4 wire.go:12
    refine go_move rfl rfl rfl rfl rfl rfl  ?_
    refine go_bin rfl rfl rfl rfl rfl rfl rfl rfl (i_sub' (wrap_i64 (by omega) (by omega))) ?_
    refine go_assign rfl rfl rfl rfl rfl rfl  ?_
    refine go_end ?_
    refine gon_seq ?_
    refine go_block ?_
    refine go_loop (X := Nat × Nat × List Nat) (fun x => [(0, .int .u64 (x.2.1 : Int)), (5, .slice (some ⟨c.n0, 0, none⟩) q (2 * q + 1)), (6, .int .i64 ((x.1 : Int) - 1))])
      (fun x n' H' => c.n0 < n' ∧ x.1 ≤ q ∧ numB x.2.1 x.1 ++ x.2.2 = numB a q ∧ x.1 + x.2.2.length = q ∧ x.2.1 < 2 ^ 64 ∧ H'.get c.n0 = some (.cells (List.replicate x.1 (.int .u8 0) ++ u8s x.2.2) true [] 1)) (fun x => x.1) (q, a, []) (by repeat' (first | exact trivial | rfl | (exact congrArg some (congrArg (Value.int _) (by omega))) | apply And.intro)) ?_ ?_ ?_
    · refine ⟨by simp, Nat.le_refl _, by simp, by simp, ha, ?_⟩
      rw [Tr.get_set_eq, zeros_one]
      simp [u8s]
    · show q < lf
      omega
    · rintro ⟨r, cur, tail⟩ n' H' hle hfr ⟨hn', hr, he, hl, hcur, hh⟩
      dsimp only at *
      refine go_seq ?_
      refine go_seq ?_
      refine go_region ?_   -- region 5 wire.go:12
      refine go_move rfl rfl rfl rfl rfl rfl  ?_
      refine go_bin rfl rfl rfl rfl rfl rfl rfl rfl i_geq ?_
      refine go_end ?_
      refine gon_seq ?_
      refine go_cond rfl (fun hc3 => ?_) (fun hc3 => ?_)
      · obtain ⟨r, rfl⟩ : ∃ r', r = r' + 1 := ⟨r - 1, by simp at hc3; omega⟩
        skip
        refine go_skip ?_
        refine gon_seq ?_
        refine go_seq ?_
        refine go_block ?_
        refine go_seq ?_
        refine go_region ?_   -- region 7 wire.go:13
        refine go_move rfl rfl rfl rfl rfl rfl  ?_
        refine go_move rfl rfl rfl rfl rfl rfl  ?_
        refine go_move rfl rfl rfl rfl rfl rfl  ?_
        refine go_conv rfl rfl rfl rfl rfl rfl und_uint64 und_uint8 wrap_u8_nat ?_
        refine go_indexAddr (j := r) rfl rfl rfl rfl rfl rfl rfl eltK_S_uint8 rfl (by omega) (by omega) ?_
        refine go_store (cs' := List.replicate r (.int .u8 0) ++ u8s (cur % 256 :: tail)) rfl rfl rfl rfl rfl siz_uint8 rfl (by omega) (by repeat (first | assumption | exact Tr.get_set_eq _ _ _ | rw [Tr.get_set_ne _ _ (by omega)])) ?_ rfl (fun h => by first | exact absurd h (by simp only [Nat.not_lt]; omega) | assumption) ?_
        · rw [List.replicate_succ', List.append_assoc]
          exact putAt_one (by simp)
        refine go_end ?_
        refine gon_seq ?_
        refine go_region ?_   -- region 8 wire.go:14
        refine go_move rfl rfl rfl rfl rfl rfl  ?_
        refine go_shift rfl rfl rfl rfl rfl rfl rfl (.inr ⟨rfl, rfl⟩) (u_shr (b := 8) rfl rfl (by decide)) ?_
        refine go_assign rfl rfl rfl rfl rfl rfl  ?_
        refine go_end ?_
        refine gon_block ?_
        refine gon_seq ?_
        refine go_region ?_   -- region 6 wire.go:12
        refine go_move rfl rfl rfl rfl rfl rfl  ?_
        refine go_bin rfl rfl rfl rfl rfl rfl rfl rfl (i_sub' (wrap_i64 (by omega) (by omega))) ?_
        refine go_assign rfl rfl rfl rfl rfl rfl  ?_
        refine go_end ?_
        refine gon_loop ⟨(r, cur / 2 ^ 8, cur % 256 :: tail), (by repeat' (first | exact trivial | rfl | (exact congrArg some (congrArg (Value.int _) (by omega))) | apply And.intro)), Nat.lt_succ_self _, ?_⟩
        refine ⟨hn', by omega, ?_, by simp; omega, by show cur / 2 ^ 8 < 2 ^ 64; omega, Tr.get_set_eq _ _ _⟩
        rw [← he]; simp [numB]
      · skip
        refine go_exit ?_
        refine gox_seq ?_
        refine gox_loop ?_
        refine gox_out ?_
        refine gon_seq ?_
        refine go_seq ?_
        refine go_region ?_   -- region 9 wire.go:16
        refine go_move rfl rfl rfl rfl rfl rfl  ?_
        refine go_assign rfl rfl rfl rfl rfl rfl  ?_
        refine go_end ?_
        refine gon_seq ?_
        refine go_ret ?_
        refine go_result ?_
        refine gov_tmp rfl ?_
        refine gov_nil ?_
        obtain rfl : r = 0 := by simp at hc3; omega
        simp only [numB, List.nil_append, List.replicate_zero] at he hh hl
        obtain rfl : q = tail.length := by omega
        rw [hM, ← he]
        exact ⟨_, _, rfl, New.of_mk (Nat.le_refl _) hn' hh (by simp [u8s_length])⟩
theorem wireVar_ok {lf : Nat} (hlf : 2 ^ 17 ≤ lf) (x : Nat) (hx : x < 2 ^ 64) (c : Cx) (H : Tr AObj) :
    FnOK Tryz.prog lf 1 59 [.int .u64 x] c H (fun v n' H' => ∃ ad code, v = .slice ad (varB x).length code ∧ New c.n0 n' H' 1 ad (varB x).length code (u8s (varB x))) := by
  have h10 := varB_10 hx
  refine fn_enter Tryz.func59 rfl fun d hd => ?_   -- spyglass/wire.Var params [45] results [46]
  refine go_seq ?_
  refine go_region ?_   -- region 0 wire.go:20
  refine go_assign rfl rfl rfl rfl rfl rfl  ?_
  refine go_end ?_
  refine gon_seq ?_
  refine go_seq ?_
  refine go_region ?_   -- region 1 wire.go:21
  refine go_assign rfl rfl rfl rfl rfl rfl  ?_
  refine go_end ?_
  refine gon_seq ?_
  refine go_seq ?_
  refine go_block ?_
  refine go_loop (X := Nat × List Nat × Nat × Option Addr × Nat) (fun y => [(0, .int .u64 (y.1 : Int)), (3, .slice y.2.2.2.1 y.2.2.1 y.2.2.2.2)])
    (fun y n' H' => New c.n0 n' H' 1 y.2.2.2.1 y.2.2.1 y.2.2.2.2 (u8s y.2.1) ∧ y.2.1 ++ varB y.1 = varB x ∧ y.1 < 2 ^ 64 ∧ y.2.1.length = y.2.2.1) (fun y => (varB y.1).length) (x, [], 0, none, 0) (by repeat' (first | exact trivial | rfl | (exact congrArg some (congrArg (Value.int _) (by omega))) | apply And.intro)) ?_ ?_ ?_
  · exact ⟨.nil, by simp, hx, rfl⟩
  · show (varB x).length < lf
    omega
  · rintro ⟨cur, acc, m, a, code⟩ n' H' hle hfr ⟨hnew, hacc, hcur, hm⟩
    dsimp only at *
    have hml : m + (varB cur).length = (varB x).length := by rw [← hacc, List.length_append, hm]
    refine go_seq ?_
    refine go_seq ?_
    refine go_region ?_   -- region 2 wire.go:22
    refine go_move rfl rfl rfl rfl rfl rfl  ?_
    refine go_bin rfl rfl rfl rfl rfl rfl rfl rfl i_geq ?_
    refine go_end ?_
    refine gon_seq ?_
    refine go_cond rfl (fun hc2 => ?_) (fun hc2 => ?_)
    · skip
      refine go_skip ?_
      refine gon_seq ?_
      refine go_block ?_
      refine go_seq ?_
      refine go_region ?_   -- region 3 wire.go:23
      refine go_move rfl rfl rfl rfl rfl rfl  ?_
      refine go_move rfl rfl rfl rfl rfl rfl  ?_
      refine go_conv rfl rfl rfl rfl rfl rfl und_uint64 und_uint8 wrap_u8_nat ?_
      have h128 : ¬ cur < 128 := by simp at hc2; omega
      refine go_bin rfl rfl rfl rfl rfl rfl rfl rfl (u_or (b := 128) rfl rfl rfl (by show _ < 256; omega) (by show _ < 256; omega) (or128 (by omega))) ?_
      refine go_buildSlice rfl rfl rfl rfl rfl eltA_S_uint8 rfl rfl rfl rfl ?_
      refine go_appendN rfl rfl rfl rfl rfl rfl rfl rfl (.inl ⟨_, und_S_uint8⟩) eltA_S_uint8 rfl rfl (.row (by omega) (fun h => absurd h (by simp only [Nat.not_lt]; omega)) (Tr.get_set_eq _ _ _) rfl)
        (hnew.mono (Nat.le_succ _) (Nat.le_refl _) (fun b _ hb => Tr.get_set_ne _ _ (by omega))) (u8s_one _) rfl (by decide) (by decide) (by decide) (by omega) rfl (by omega) (Nat.le_refl _) (fun a2 code2 n2 H2 hle2 hfr2 hnew2 hblk2 => ?_)
      refine go_assign rfl rfl rfl rfl rfl rfl  ?_
      refine go_end ?_
      refine gon_seq ?_
      refine go_region ?_   -- region 4 wire.go:24
      refine go_move rfl rfl rfl rfl rfl rfl  ?_
      refine go_shift rfl rfl rfl rfl rfl rfl rfl (.inr ⟨rfl, rfl⟩) (u_shr (b := 7) rfl rfl (by decide)) ?_
      refine go_assign rfl rfl rfl rfl rfl rfl  ?_
      refine go_end ?_
      refine gon_block ?_
      refine gon_loop ⟨(cur / 2 ^ 7, acc ++ [cur % 128 + 128], m + 1, a2, code2), (by repeat' (first | exact trivial | rfl | (exact congrArg some (congrArg (Value.int _) (by omega))) | apply And.intro)), ?_, ?_, ?_, by show cur / 2 ^ 7 < _; omega, by simp [hm]⟩
      · show (varB (cur / 128)).length < (varB cur).length
        rw [varB_hi h128]; exact Nat.lt_succ_self _
      · rw [u8s_append]
        rw [show cur % 256 % 128 = cur % 128 by omega] at hnew2
        exact hnew2
      · rw [← hacc, varB_hi h128]
        simp
    · skip
      refine go_exit ?_
      refine gox_seq ?_
      refine gox_loop ?_
      refine gox_out ?_
      refine gon_seq ?_
      refine go_seq ?_
      refine go_region ?_   -- region 5 wire.go:26
      refine go_move rfl rfl rfl rfl rfl rfl  ?_
      refine go_move rfl rfl rfl rfl rfl rfl  ?_
      refine go_conv rfl rfl rfl rfl rfl rfl und_uint64 und_uint8 wrap_u8_nat ?_
      have h128 : cur < 128 := by simp at hc2; omega
      refine go_buildSlice rfl rfl rfl rfl rfl eltA_S_uint8 rfl rfl rfl rfl ?_
      refine go_appendN rfl rfl rfl rfl rfl rfl rfl rfl (.inl ⟨_, und_S_uint8⟩) eltA_S_uint8 rfl rfl (.row (by omega) (fun h => absurd h (by simp only [Nat.not_lt]; omega)) (Tr.get_set_eq _ _ _) rfl)
        (hnew.mono (Nat.le_succ _) (Nat.le_refl _) (fun b _ hb => Tr.get_set_ne _ _ (by omega))) (u8s_one _) rfl (by decide) (by decide) (by decide) (by omega) rfl (by omega) (Nat.le_refl _) (fun a2 code2 n2 H2 hle2 hfr2 hnew2 hblk2 => ?_)
      refine go_assign rfl rfl rfl rfl rfl rfl  ?_
      refine go_end ?_
      refine gon_seq ?_
      refine go_ret ?_
      refine go_result ?_
      refine gov_tmp rfl ?_
      refine gov_nil ?_
      rw [varB_lo h128] at hacc hml
      rw [← hacc]
      refine ⟨a2, code2, by simp [tupled, hm], ?_⟩
      rw [u8s_append, List.length_append, hm]
      rw [show cur % 256 = cur by omega] at hnew2
      exact hnew2
theorem ref1Var_ok {lf : Nat} (hlf : 2 ^ 17 ≤ lf) (x : Nat) (hx : x < 2 ^ 64) (c : Cx) (H : Tr AObj) :
    FnOK Tryz.prog lf 1 60 [.int .u64 x] c H (fun v n' H' => ∃ ad code, v = .slice ad (varB x).length code ∧ New c.n0 n' H' 1 ad (varB x).length code (u8s (varB x))) := by
  have h10 := varB_10 hx
  refine fn_enter Tryz.func60 rfl fun d hd => ?_   -- spyglass/spyglassref01.Var params [45] results [46]
  refine go_seq ?_
  refine go_region ?_   -- region 0 ref.go:51
  refine go_assign rfl rfl rfl rfl rfl rfl  ?_
  refine go_end ?_
  refine gon_seq ?_
  refine go_seq ?_
  refine go_region ?_   -- region 1 ref.go:52
  refine go_buildSlice rfl rfl rfl rfl rfl eltA_S_uint8 rfl rfl rfl rfl ?_
  refine go_assign rfl rfl rfl rfl rfl rfl  ?_
  refine go_end ?_
  refine gon_seq ?_
  refine go_block ?_
  refine go_loop (X := Nat × List Nat × Nat × Option Addr × Nat) (fun y => [(0, .int .u64 (y.1 : Int)), (3, .slice y.2.2.2.1 y.2.2.1 y.2.2.2.2)])
    (fun y n' H' => New c.n0 n' H' 1 y.2.2.2.1 y.2.2.1 y.2.2.2.2 (u8s y.2.1) ∧ y.2.1 ++ varB y.1 = varB x ∧ y.1 < 2 ^ 64 ∧ y.2.1.length = y.2.2.1) (fun y => (varB y.1).length) (x, [], 0, some ⟨c.n0, 0, none⟩, 1) (by repeat' (first | exact trivial | rfl | (exact congrArg some (congrArg (Value.int _) (by omega))) | apply And.intro)) ?_ ?_ ?_
  · exact ⟨New.of_mk (Nat.le_refl _) (Nat.lt_succ_self _) (Tr.get_set_eq _ _ _) rfl, by simp, hx, rfl⟩
  · show (varB x).length < lf
    omega
  · rintro ⟨cur, acc, m, a, code⟩ n' H' hle hfr ⟨hnew, hacc, hcur, hm⟩
    dsimp only at *
    have hml : m + (varB cur).length = (varB x).length := by rw [← hacc, List.length_append, hm]
    have hpos := varB_pos cur
    refine go_block ?_
    refine go_seq ?_
    refine go_seq ?_
    refine go_region ?_   -- region 2 ref.go:54
    refine go_move rfl rfl rfl rfl rfl rfl  ?_
    refine go_bin rfl rfl rfl rfl rfl rfl rfl rfl (u_quo (b := 128) rfl rfl rfl (by omega) (by show _ < 18446744073709551616; omega)) ?_
    refine go_bin rfl rfl rfl rfl rfl rfl rfl rfl i_eql ?_
    refine go_end ?_
    refine gon_seq ?_
    refine go_cond rfl (fun hc2 => ?_) (fun hc2 => ?_)
    · skip
      refine go_seq ?_
      refine go_region ?_   -- region 3 ref.go:55
      refine go_move rfl rfl rfl rfl rfl rfl  ?_
      refine go_move rfl rfl rfl rfl rfl rfl  ?_
      refine go_conv rfl rfl rfl rfl rfl rfl und_uint64 und_uint8 wrap_u8_nat ?_
      have h128 : cur < 128 := by simp at hc2; omega
      refine go_buildSlice rfl rfl rfl rfl rfl eltA_S_uint8 rfl rfl rfl rfl ?_
      refine go_appendN rfl rfl rfl rfl rfl rfl rfl rfl (.inl ⟨_, und_S_uint8⟩) eltA_S_uint8 rfl rfl (.row (by omega) (fun h => absurd h (by simp only [Nat.not_lt]; omega)) (Tr.get_set_eq _ _ _) rfl)
        (hnew.mono (Nat.le_succ _) (Nat.le_refl _) (fun b _ hb => Tr.get_set_ne _ _ (by omega))) (u8s_one _) rfl (by decide) (by decide) (by decide) (by omega) rfl (by omega) (Nat.le_refl _) (fun a2 code2 n2 H2 hle2 hfr2 hnew2 hblk2 => ?_)
      refine go_assign rfl rfl rfl rfl rfl rfl  ?_
      refine go_end ?_
      refine gon_seq ?_
      refine go_ret ?_
      refine go_result ?_
      refine gov_tmp rfl ?_
      refine gov_nil ?_
      rw [varB_lo h128] at hacc hml
      rw [← hacc]
      refine ⟨a2, code2, by simp [tupled, hm], ?_⟩
      rw [u8s_append, List.length_append, hm]
      rw [show cur % 256 = cur by omega] at hnew2
      exact hnew2
    · skip
      refine go_skip ?_
      refine gon_seq ?_
      refine go_seq ?_
      refine go_region ?_   -- region 4 ref.go:57
      refine go_move rfl rfl rfl rfl rfl rfl  ?_
      refine go_move rfl rfl rfl rfl rfl rfl  ?_
      have h128 : ¬ cur < 128 := by simp at hc2; omega
      refine go_bin rfl rfl rfl rfl rfl rfl rfl rfl (u_rem (b := 128) rfl rfl rfl (by omega)) ?_
      refine go_bin rfl rfl rfl rfl rfl rfl rfl rfl (u_add (b := 128) rfl rfl rfl (by show _ < 18446744073709551616; omega)) ?_
      refine go_conv rfl rfl rfl rfl rfl rfl und_uint64 und_uint8 wrap_u8_nat ?_
      refine go_buildSlice rfl rfl rfl rfl rfl eltA_S_uint8 rfl rfl rfl rfl ?_
      refine go_appendN rfl rfl rfl rfl rfl rfl rfl rfl (.inl ⟨_, und_S_uint8⟩) eltA_S_uint8 rfl rfl (.row (by omega) (fun h => absurd h (by simp only [Nat.not_lt]; omega)) (Tr.get_set_eq _ _ _) rfl)
        (hnew.mono (Nat.le_succ _) (Nat.le_refl _) (fun b _ hb => Tr.get_set_ne _ _ (by omega))) (u8s_one _) rfl (by decide) (by decide) (by decide) (by omega) rfl (by omega) (Nat.le_refl _) (fun a2 code2 n2 H2 hle2 hfr2 hnew2 hblk2 => ?_)
      refine go_assign rfl rfl rfl rfl rfl rfl  ?_
      refine go_end ?_
      refine gon_seq ?_
      refine go_region ?_   -- region 5 ref.go:58
      refine go_move rfl rfl rfl rfl rfl rfl  ?_
      refine go_bin rfl rfl rfl rfl rfl rfl rfl rfl (u_quo (b := 128) rfl rfl rfl (by omega) (by show _ < 18446744073709551616; omega)) ?_
      refine go_assign rfl rfl rfl rfl rfl rfl  ?_
      refine go_end ?_
      refine gon_block ?_
      refine gon_loop ⟨(cur / 128, acc ++ [cur % 128 + 128], m + 1, a2, code2), (by repeat' (first | exact trivial | rfl | (exact congrArg some (congrArg (Value.int _) (by omega))) | apply And.intro)), ?_, ?_, ?_, by show cur / 128 < _; omega, by simp [hm]⟩
      · show (varB (cur / 128)).length < (varB cur).length
        rw [varB_hi h128]; exact Nat.lt_succ_self _
      · rw [u8s_append]
        rw [show (cur % 128 + 128) % 256 = cur % 128 + 128 by omega] at hnew2
        exact hnew2
      · rw [← hacc, varB_hi h128]
        simp
theorem ref1Num_ok {lf : Nat} (hlf : 2 ^ 17 ≤ lf) (a : Nat) (k : Int) (ha : a < 2 ^ 64) (c : Cx) (H : Tr AObj) :
    FnOK Tryz.prog lf 1 61 [.int .u64 a, .int .i64 k] c H (fun v n' H' => ∃ ad code, v = .slice ad (numM a k).length code ∧ New c.n0 n' H' 1 ad (numM a k).length code (u8s (numM a k))) := by
  refine fn_enter Tryz.func61 rfl fun d hd => ?_   -- spyglass/spyglassref01.Num params [45, 3] results [46]
  refine go_seq ?_
  refine go_region ?_   -- region 0 ref.go:38
  refine go_assign rfl rfl rfl rfl rfl rfl  ?_
  refine go_end ?_
  refine gon_seq ?_
  refine go_seq ?_
  refine go_seq ?_
  refine go_region ?_   -- region 1 ref.go:39
  refine go_move rfl rfl rfl rfl rfl rfl  ?_
  refine go_bin rfl rfl rfl rfl rfl rfl rfl rfl i_lss ?_
  refine go_move rfl rfl rfl rfl rfl rfl  ?_
  refine go_moveG rfl rfl rfl rfl rfl rfl rfl rfl rfl rfl (fun _ => rfl)  ?_
  refine go_binG rfl rfl rfl rfl rfl rfl rfl rfl rfl rfl (fun h => h) rfl (fun _ => rfl) rfl i_gtr ?_
  refine go_pick_or rfl rfl rfl rfl rfl rfl rfl rfl (fun h => pick_r rfl h) ?_
  refine go_end ?_
  refine gon_seq ?_
  refine go_cond rfl (fun hc1 => ?_) (fun hc1 => ?_)
  · skip
    refine go_seq ?_
    refine go_region ?_   -- region 2 ref.go:40
    refine go_assign rfl rfl rfl rfl rfl rfl  ?_
    refine go_end ?_
    refine gon_seq ?_
    refine go_ret ?_
    refine go_result ?_
    refine gov_tmp rfl ?_
    refine gov_nil ?_
    have : numM a k = [] := by simp at hc1; simp [numM, hc1]
    rw [this]
    exact ⟨_, _, rfl, .nil⟩
  · skip
    refine go_skip ?_
    refine gon_seq ?_
    refine go_seq ?_
    refine go_region ?_   -- region 3 ref.go:42
    refine go_move rfl rfl rfl rfl rfl rfl  ?_
    obtain ⟨q, rfl, hq1, hq8⟩ : ∃ q : Nat, k = (q : Int) ∧ 1 ≤ q ∧ q ≤ 8 := by
      simp at hc1; exact ⟨k.toNat, by omega, by omega, by omega⟩
    have hM : numM a q = numB a q := by simp [numM]; omega
    refine go_makeSlice rfl rfl rfl rfl rfl rfl rfl rfl rfl eltA_S_uint8 (Nat.le_refl _) (by omega) (by omega) rfl ?_
    refine go_assign rfl rfl rfl rfl rfl rfl  ?_
    refine go_end ?_
    refine gon_seq ?_
    refine go_seq ?_
    refine go_seq ?_
    refine go_region ?_   -- region 4 ref.go:43
    refine go_assign rfl rfl rfl rfl rfl rfl  ?_
    refine go_end ?_
    refine gon_seq ?_
    refine go_block ?_
    refine go_loop (X := Nat × Nat × List Nat) (fun x => [(0, .int .u64 (x.2.1 : Int)), (1, .int .i64 (q : Int)), (5, .slice (some ⟨c.n0, 0, none⟩) q (2 * q + 1)), (6, .int .i64 ((q : Int) - (x.1 : Int)))])
      (fun x n' H' => c.n0 < n' ∧ x.1 ≤ q ∧ numB x.2.1 x.1 ++ x.2.2 = numB a q ∧ x.1 + x.2.2.length = q ∧ x.2.1 < 2 ^ 64 ∧ H'.get c.n0 = some (.cells (List.replicate x.1 (.int .u8 0) ++ u8s x.2.2) true [] 1)) (fun x => x.1) (q, a, []) (by repeat' (first | exact trivial | rfl | (exact congrArg some (congrArg (Value.int _) (by omega))) | apply And.intro)) ?_ ?_ ?_
    · refine ⟨by simp, Nat.le_refl _, by simp, by simp, ha, ?_⟩
      rw [Tr.get_set_eq, zeros_one]
      simp [u8s]
    · show q < lf
      omega
    · rintro ⟨r, cur, tail⟩ n' H' hle hfr ⟨hn', hr, he, hl, hcur, hh⟩
      dsimp only at *
      refine go_seq ?_
      refine go_seq ?_
      refine go_region ?_   -- region 5 ref.go:43
      refine go_move rfl rfl rfl rfl rfl rfl  ?_
      refine go_move rfl rfl rfl rfl rfl rfl  ?_
      refine go_bin rfl rfl rfl rfl rfl rfl rfl rfl i_lss ?_
      refine go_end ?_
      refine gon_seq ?_
      refine go_cond rfl (fun hc3 => ?_) (fun hc3 => ?_)
      · skip
        refine go_skip ?_
        refine gon_seq ?_
        refine go_seq ?_
        refine go_block ?_
        refine go_seq ?_
        refine go_region ?_   -- region 7 ref.go:44
        refine go_move rfl rfl rfl rfl rfl rfl  ?_
        refine go_move rfl rfl rfl rfl rfl rfl  ?_
        refine go_bin rfl rfl rfl rfl rfl rfl rfl rfl (i_sub' (wrap_i64 (by omega) (by omega))) ?_
        refine go_move rfl rfl rfl rfl rfl rfl  ?_
        refine go_bin rfl rfl rfl rfl rfl rfl rfl rfl (i_sub' (wrap_i64 (by omega) (by omega))) ?_
        refine go_move rfl rfl rfl rfl rfl rfl  ?_
        obtain ⟨r, rfl⟩ : ∃ r', r = r' + 1 := ⟨r - 1, by simp at hc3; omega⟩
        refine go_bin rfl rfl rfl rfl rfl rfl rfl rfl (u_rem (b := 256) rfl rfl rfl (by omega)) ?_
        refine go_conv rfl rfl rfl rfl rfl rfl und_uint64 und_uint8 wrap_u8_nat ?_
        refine go_indexAddr (j := r) rfl rfl rfl rfl rfl rfl rfl eltK_S_uint8 rfl (by omega) (by omega) ?_
        refine go_store (cs' := List.replicate r (.int .u8 0) ++ u8s (cur % 256 :: tail)) rfl rfl rfl rfl rfl siz_uint8 rfl (by omega) (by repeat (first | assumption | exact Tr.get_set_eq _ _ _ | rw [Tr.get_set_ne _ _ (by omega)])) ?_ rfl (fun h => by first | exact absurd h (by simp only [Nat.not_lt]; omega) | assumption) ?_
        · rw [List.replicate_succ', List.append_assoc, show cur % 256 % 256 = cur % 256 by omega]
          exact putAt_one (by simp)
        refine go_end ?_
        refine gon_seq ?_
        refine go_region ?_   -- region 8 ref.go:45
        refine go_move rfl rfl rfl rfl rfl rfl  ?_
        refine go_bin rfl rfl rfl rfl rfl rfl rfl rfl (u_quo (b := 256) rfl rfl rfl (by omega) (by show _ < 18446744073709551616; omega)) ?_
        refine go_assign rfl rfl rfl rfl rfl rfl  ?_
        refine go_end ?_
        refine gon_block ?_
        refine gon_seq ?_
        refine go_region ?_   -- region 6 ref.go:43
        refine go_move rfl rfl rfl rfl rfl rfl  ?_
        refine go_bin rfl rfl rfl rfl rfl rfl rfl rfl (i_add' (wrap_i64 (by omega) (by omega))) ?_
        refine go_assign rfl rfl rfl rfl rfl rfl  ?_
        refine go_end ?_
        refine gon_loop ⟨(r, cur / 256, cur % 256 :: tail), (by repeat' (first | exact trivial | rfl | (exact congrArg some (congrArg (Value.int _) (by omega))) | apply And.intro)), Nat.lt_succ_self _, ?_⟩
        refine ⟨hn', by omega, ?_, by simp; omega, by show cur / 256 < _; omega, Tr.get_set_eq _ _ _⟩
        rw [← he]; simp [numB]
      · skip
        refine go_exit ?_
        refine gox_seq ?_
        refine gox_loop ?_
        refine gox_out ?_
        refine gon_seq ?_
        refine go_seq ?_
        refine go_region ?_   -- region 9 ref.go:47
        refine go_move rfl rfl rfl rfl rfl rfl  ?_
        refine go_assign rfl rfl rfl rfl rfl rfl  ?_
        refine go_end ?_
        refine gon_seq ?_
        refine go_ret ?_
        refine go_result ?_
        refine gov_tmp rfl ?_
        refine gov_nil ?_
        obtain rfl : r = 0 := by simp at hc3; omega
        simp only [numB, List.nil_append, List.replicate_zero] at he hh hl
        obtain rfl : q = tail.length := by omega
        rw [hM, ← he]
        exact ⟨_, _, rfl, New.of_mk (Nat.le_refl _) hn' hh (by simp [u8s_length])⟩
end Go.Proofs.YtmebclfkkloccaaGreatDoor

