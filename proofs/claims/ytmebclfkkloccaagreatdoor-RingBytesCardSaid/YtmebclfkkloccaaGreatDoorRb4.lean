/- The walk of the reference's Get. Written by wip/shade/sk.py from wip/rb/rb4.plan. -/
import Derived.Test.YtmebclfkkloccaaGreatDoorRb3
namespace Go.Proofs.YtmebclfkkloccaaGreatDoor
open Go.Shade
set_option maxRecDepth 100000
set_option linter.unusedVariables false
set_option linter.unusedSimpArgs false
theorem ref25Get_ok {lf : Nat} (hlf : 2 ^ 17 ≤ lf) {v : Int} {a : Option Addr} {m code : Nat} {l : List Nat} (c : Cx) (H : Tr AObj) (hs : Sl c.R c.n0 H 1 a m code (u8s l)) (hm : m ≤ 2 ^ 20) (hby : ∀ x ∈ l, x < 256) :
    FnOK Tryz.prog lf 2 27 [.int .i64 v, .slice a m code] c H (fun r n' H' => ∃ a' code', r = .tuple #[.int .u64 ((getM v l).1 : Int), .int .u64 ((getM v l).2.1 : Int), .slice a' (getM v l).2.2.1.length code', .int .i64 ((getM v l).2.2.2 : Int)] ∧ New c.n0 n' H' 1 a' (getM v l).2.2.1.length code' (u8s (getM v l).2.2.1)) := by
  have hlen : l.length = m := by simpa [u8s_length] using hs.length
  subst hlen
  refine fn_enter Tryz.func27 rfl fun d hd => ?_   -- spyglass/spyglassref25.Get params [3, 46] results [45, 45, 46, 3]
  refine go_seq ?_
  refine go_region ?_   -- region 0 ref.go:24
  refine go_assign rfl rfl rfl rfl rfl rfl  ?_
  refine go_assign rfl rfl rfl rfl rfl rfl  ?_
  refine go_assign rfl rfl rfl rfl rfl rfl  ?_
  refine go_assign rfl rfl rfl rfl rfl rfl  ?_
  refine go_end ?_
  refine gon_seq ?_
  refine go_seq ?_
  refine go_seq ?_
  refine go_region ?_   -- region 1 ref.go:25
  refine go_move rfl rfl rfl rfl rfl rfl  ?_
  refine go_bin rfl rfl rfl rfl rfl rfl rfl rfl i_lss ?_
  refine go_move rfl rfl rfl rfl rfl rfl  ?_
  refine go_moveG rfl rfl rfl rfl rfl rfl rfl rfl rfl rfl (fun _ => rfl)  ?_
  refine go_binG rfl rfl rfl rfl rfl rfl rfl rfl rfl rfl (fun h => h) rfl (fun _ => rfl) rfl i_gtr ?_
  refine go_pick_or rfl rfl rfl rfl rfl rfl rfl rfl (fun h => pick_r rfl h) ?_
  refine go_end ?_
  refine gon_seq ?_
  refine go_cond rfl (fun hc1 => ?_) (fun hc1 => ?_)
  · skip
    refine go_seq ?_
    refine go_region ?_   -- region 2 ref.go:26
    refine go_assign rfl rfl rfl rfl rfl rfl  ?_
    refine go_assign rfl rfl rfl rfl rfl rfl  ?_
    refine go_assign rfl rfl rfl rfl rfl rfl  ?_
    refine go_assign rfl rfl rfl rfl rfl rfl  ?_
    refine go_end ?_
    refine gon_seq ?_
    refine go_ret ?_
    refine go_result ?_
    refine gov_tmp rfl ?_
    refine gov_tmp rfl ?_
    refine gov_tmp rfl ?_
    refine gov_tmp rfl ?_
    refine gov_nil ?_
    have hM : getM v l = (0, 0, [], 1) := by simp only [getM]; rw [if_pos (by simpa using hc1)]
    rw [hM]
    exact ⟨none, 0, rfl, .nil⟩
  · skip
    refine go_skip ?_
    refine gon_seq ?_
    refine go_seq ?_
    refine go_region ?_   -- region 3 ref.go:28
    refine go_move rfl rfl rfl rfl rfl rfl  ?_
    refine go_build rfl rfl rfl rfl rfl  zer_spyglassref01_Reader bld_spyglassref01_Reader rfl rfl ?_
    refine go_alloc rfl rfl rfl rfl rfl zer_spyglassref01_Reader rfl ?_
    have hgv : ¬ (v < 1 ∨ v > 3) := by simpa using hc1
    have hle0 : ∀ s : RS, s.at' ≤ l.length → (getS v l s).2.at' ≤ l.length := by
      intro s h
      unfold getS
      split
      · unfold rNum
        split
        · exact h
        · split
          · exact h
          · split
            · exact h
            · show s.at' + _ ≤ _; omega
      · have hu : ∀ (l : List Nat) (i n e x u : Nat), rVarF i n l = (e, x, u) → e = 0 → u ≤ i + l.length := by
          intro l
          induction l with
          | nil => intro i n e x u h he; simp [rVarF] at h; omega
          | cons d l ih =>
            intro i n e x u h he
            simp only [rVarF] at h
            split at h
            · simp at h; omega
            · split at h
              · simp at h; simp; omega
              · have := ih _ _ _ _ _ h he; simp; omega
        unfold rVar
        split
        · exact h
        · split
          · rename_i n u he
            have := hu _ _ _ _ _ _ he rfl
            simp at this
            show s.at' + u ≤ _; omega
          · exact h
    refine go_store rfl rfl rfl rfl rfl siz_spyglassref01_Reader rfl (by omega) (by repeat (first | assumption | exact Tr.get_set_eq _ _ _ | rw [Tr.get_set_ne _ _ (by omega)])) rfl rfl (fun h => by first | exact absurd h (by simp only [Nat.not_lt]; omega) | assumption) ?_
    refine go_end ?_
    refine gon_seq ?_
    refine go_seq ?_
    refine go_region ?_   -- region 4 ref.go:29
    refine go_buildA rfl rfl rfl rfl rfl  zer_A2_uint64 arrK_A2_uint64 rfl rfl ?_
    refine go_alloc rfl rfl rfl rfl rfl zer_A2_uint64 rfl ?_
    refine go_store rfl rfl rfl rfl rfl siz_A2_uint64 rfl (by omega) (by repeat (first | assumption | exact Tr.get_set_eq _ _ _ | rw [Tr.get_set_ne _ _ (by omega)])) rfl rfl (fun h => by first | exact absurd h (by simp only [Nat.not_lt]; omega) | assumption) ?_
    refine go_end ?_
    refine gon_seq ?_
    refine go_seq ?_
    refine go_seq ?_
    refine go_region ?_   -- region 5 ref.go:30
    refine go_assign rfl rfl rfl rfl rfl rfl  ?_
    refine go_end ?_
    refine gon_seq ?_
    refine go_block ?_
    refine go_loop (X := Nat × RS × Nat × Nat) (fun x => [(0, .int .i64 v), (1, .slice a l.length code), (8, .pointer (some ⟨c.n0, 0, none⟩)), (9, .pointer (some ⟨c.n0 + 1, 0, none⟩)), (10, .int .i64 (x.1 : Int))])
      (fun x n' H' => c.n0 + 2 ≤ n' ∧ H'.get c.n0 = some (.cells [.slice a l.length code, .int .i64 (x.2.1.at' : Int), .int .i64 (x.2.1.err : Int)] true [] 0) ∧ H'.get (c.n0 + 1) = some (.cells [.int .u64 (x.2.2.1 : Int), .int .u64 (x.2.2.2 : Int)] true [] 0) ∧ (∀ b, b < c.n0 → H'.get b = H.get b) ∧
        x.1 ≤ 2 ∧ x.2.1.at' ≤ l.length ∧ (x.1 = 0 → x.2.1 = ⟨0, 0⟩) ∧ (x.1 = 1 → getS v l ⟨0, 0⟩ = (x.2.2.1, x.2.1)) ∧ (x.1 = 2 → getS v l ⟨0, 0⟩ = (x.2.2.1, (getS v l ⟨0, 0⟩).2) ∧ getS v l (getS v l ⟨0, 0⟩).2 = (x.2.2.2, x.2.1))) (fun x => 2 - x.1) (0, ⟨0, 0⟩, 0, 0) (by repeat' (first | exact trivial | rfl | (exact congrArg some (congrArg (Value.int _) (by omega))) | apply And.intro)) ?_ ?_ ?_
    · refine ⟨by omega, ?_, Tr.get_set_eq _ _ _, fun b hb => ?_, Nat.zero_le _, Nat.zero_le _, fun _ => rfl, fun h => by simp at h, fun h => by simp at h⟩
      · rw [Tr.get_set_ne _ _ (by omega), Tr.get_set_ne _ _ (by omega)]; exact Tr.get_set_eq _ _ _
      · rw [Tr.get_set_ne _ _ (by omega), Tr.get_set_ne _ _ (by omega), Tr.get_set_ne _ _ (by omega), Tr.get_set_ne _ _ (by omega)]
    · show 2 - 0 < lf
      omega
    · rintro ⟨i, s, p, q⟩ n' H' hle hfr ⟨hn', hcell, harr, hoth, hi2, hat, hi0, hi1, hi22⟩
      dsimp only at *
      refine go_seq ?_
      refine go_seq ?_
      refine go_region ?_   -- region 6 ref.go:30
      refine go_move rfl rfl rfl rfl rfl rfl  ?_
      refine go_bin rfl rfl rfl rfl rfl rfl rfl rfl i_lss ?_
      refine go_end ?_
      refine gon_seq ?_
      refine go_cond rfl (fun hc3 => ?_) (fun hc3 => ?_)
      · skip
        refine go_skip ?_
        refine gon_seq ?_
        refine go_seq ?_
        refine go_block ?_
        refine go_seq ?_
        refine go_region ?_   -- region 8 ref.go:31
        refine go_move rfl rfl rfl rfl rfl rfl  ?_
        refine go_bin rfl rfl rfl rfl rfl rfl rfl rfl i_eql ?_
        refine go_end ?_
        refine gon_seq ?_
        refine go_cond rfl (fun hc4 => ?_) (fun hc4 => ?_)
        · skip
          refine go_seq ?_
          refine go_region ?_   -- region 9 ref.go:32
          have hv1 : v = 1 := by simpa using hc4
          have hilt : i < 2 := by simp at hc3; omega
          have hgs : ∀ s, getS v l s = rNum l 8 s := fun s => by simp [getS, hv1]
          have hle1 := hle0 s hat
          refine go_loadA rfl rfl rfl rfl rfl rfl agg_spyglassref01_Reader siz_spyglassref01_Reader (by omega) (by repeat (first | assumption | exact Tr.get_set_eq _ _ _ | rw [Tr.get_set_ne _ _ (by omega)])) rfl (fun h => by first | exact absurd h (by simp only [Nat.not_lt]; omega) | exact .inl (by assumption) | exact .inr (by assumption)) ?_
          -- call (spyglass/spyglassref01.Reader).Num
          refine go_call c.R (fun _ => False) rfl rfl rfl rfl rfl rfl rfl rfl rfl (refNum_ok (s := s) hlf (by omega) ⟨_, c.R, (fun _ => False)⟩ _ (hs.frame (n' := n') (H' := H') (by omega) (fun _ h => h) (fun b _ hb => hoth b hb)) hat (by omega) hby d hd) (fun _ _ h => .inl h) (fun _ _ h => h.elim) (fun v1 n1 H1 hle1' hfr1 hp1 => ?_)
          subst hp1
          have c1 : H1.get c.n0 = some (.cells [.slice a l.length code, .int .i64 (s.at' : Int), .int .i64 (s.err : Int)] true [] 0) := by rw [hfr1 _ (by omega) (fun h => h)]; exact hcell
          have c2 : H1.get (c.n0 + 1) = some (.cells [.int .u64 (p : Int), .int .u64 (q : Int)] true [] 0) := by rw [hfr1 _ (by omega) (fun h => h)]; exact harr
          refine go_move rfl rfl rfl rfl rfl rfl  ?_
          refine go_extract rfl rfl rfl rfl rfl rfl rfl ?_
          refine go_extract rfl rfl rfl rfl rfl rfl rfl ?_
          refine go_alloc rfl rfl rfl rfl rfl zer_spyglassref01_Reader rfl ?_
          refine go_assign rfl rfl rfl rfl rfl rfl  ?_
          refine go_store rfl rfl rfl rfl rfl siz_spyglassref01_Reader rfl (by omega) (by repeat (first | assumption | exact Tr.get_set_eq _ _ _ | rw [Tr.get_set_ne _ _ (by omega)])) rfl rfl (fun h => by first | exact absurd h (by simp only [Nat.not_lt]; omega) | assumption) ?_
          refine go_end ?_
          refine gon_seq ?_
          refine go_seq ?_
          refine go_region ?_   -- region 10 ref.go:33
          refine go_move rfl rfl rfl rfl rfl rfl  ?_
          refine go_move rfl rfl rfl rfl rfl rfl  ?_
          refine go_indexAddrA rfl rfl rfl rfl rfl rfl rfl arrK_A2_uint64 (j := i) rfl hilt ?_
          refine go_store (cs' := if i = 0 then [.int .u64 ((rNum l 8 s).1 : Int), .int .u64 (q : Int)] else [.int .u64 (p : Int), .int .u64 ((rNum l 8 s).1 : Int)]) rfl rfl rfl rfl rfl siz_uint64 rfl (by omega) (by repeat (first | assumption | exact Tr.get_set_eq _ _ _ | rw [Tr.get_set_ne _ _ (by omega)])) ?_ rfl (fun h => by first | exact absurd h (by simp only [Nat.not_lt]; omega) | assumption) ?_
          · have : i = 0 ∨ i = 1 := by omega
            rcases this with rfl | rfl <;> rfl
          refine go_end ?_
          refine gon_seq ?_
          refine go_region ?_   -- region 11 ref.go:34
          refine go_loadA rfl rfl rfl rfl rfl rfl agg_spyglassref01_Reader siz_spyglassref01_Reader (by omega) (by repeat (first | assumption | exact Tr.get_set_eq _ _ _ | rw [Tr.get_set_ne _ _ (by omega)])) rfl (fun h => by first | exact absurd h (by simp only [Nat.not_lt]; omega) | exact .inl (by assumption) | exact .inr (by assumption)) ?_
          refine go_store rfl rfl rfl rfl rfl siz_spyglassref01_Reader rfl (by omega) (by repeat (first | assumption | exact Tr.get_set_eq _ _ _ | rw [Tr.get_set_ne _ _ (by omega)])) rfl rfl (fun h => by first | exact absurd h (by simp only [Nat.not_lt]; omega) | assumption) ?_
          refine go_end ?_
          refine gon_block ?_
          refine gon_seq ?_
          refine go_region ?_   -- region 7 ref.go:30
          refine go_move rfl rfl rfl rfl rfl rfl  ?_
          refine go_bin rfl rfl rfl rfl rfl rfl rfl rfl (i_add' (wrap_i64 (by omega) (by omega))) ?_
          refine go_assign rfl rfl rfl rfl rfl rfl  ?_
          refine go_end ?_
          refine gon_loop ⟨(i + 1, (rNum l 8 s).2, if i = 0 then (rNum l 8 s).1 else p, if i = 0 then q else (rNum l 8 s).1), (by repeat' (first | exact trivial | rfl | (exact congrArg some (congrArg (Value.int _) (by omega))) | apply And.intro)), by show 2 - (i + 1) < 2 - i; omega, by show c.n0 + 2 ≤ _; omega, ?_⟩
          refine ⟨Tr.get_set_eq _ _ _, ?_, fun b hb => ?_, hilt, by rw [← hgs]; exact hle1, fun h => by simp at h, fun h => ?_, fun h => ?_⟩
          · rw [Tr.get_set_ne _ _ (by omega), Tr.get_set_eq]
            by_cases h0 : i = 0 <;> simp [h0]
          · rw [Tr.get_set_ne _ _ (by omega), Tr.get_set_ne _ _ (by omega), Tr.get_set_ne _ _ (by omega), Tr.get_set_ne _ _ (by omega), hfr1 b (by omega) (fun h => h), hoth b hb]
          · obtain rfl : i = 0 := by simpa using h
            rw [hi0 rfl, hgs]; rfl
          · obtain rfl : i = 1 := by simpa using h
            have e := hi1 rfl
            simp only [e]
            rw [hgs]; exact ⟨rfl, rfl⟩
        · skip
          refine go_seq ?_
          refine go_region ?_   -- region 12 ref.go:36
          have hv1 : v ≠ 1 := by simpa using hc4
          have hilt : i < 2 := by simp at hc3; omega
          have hgs : ∀ s, getS v l s = rVar l s := fun s => by simp [getS, hv1]
          have hle1 := hle0 s hat
          refine go_loadA rfl rfl rfl rfl rfl rfl agg_spyglassref01_Reader siz_spyglassref01_Reader (by omega) (by repeat (first | assumption | exact Tr.get_set_eq _ _ _ | rw [Tr.get_set_ne _ _ (by omega)])) rfl (fun h => by first | exact absurd h (by simp only [Nat.not_lt]; omega) | exact .inl (by assumption) | exact .inr (by assumption)) ?_
          -- call (spyglass/spyglassref01.Reader).Var
          refine go_call c.R (fun _ => False) rfl rfl rfl rfl rfl rfl rfl rfl rfl (refVar_ok (s := s) hlf ⟨_, c.R, (fun _ => False)⟩ _ (hs.frame (n' := n') (H' := H') (by omega) (fun _ h => h) (fun b _ hb => hoth b hb)) hat (by omega) hby d hd) (fun _ _ h => .inl h) (fun _ _ h => h.elim) (fun v1 n1 H1 hle1' hfr1 hp1 => ?_)
          subst hp1
          have c1 : H1.get c.n0 = some (.cells [.slice a l.length code, .int .i64 (s.at' : Int), .int .i64 (s.err : Int)] true [] 0) := by rw [hfr1 _ (by omega) (fun h => h)]; exact hcell
          have c2 : H1.get (c.n0 + 1) = some (.cells [.int .u64 (p : Int), .int .u64 (q : Int)] true [] 0) := by rw [hfr1 _ (by omega) (fun h => h)]; exact harr
          refine go_move rfl rfl rfl rfl rfl rfl  ?_
          refine go_extract rfl rfl rfl rfl rfl rfl rfl ?_
          refine go_extract rfl rfl rfl rfl rfl rfl rfl ?_
          refine go_alloc rfl rfl rfl rfl rfl zer_spyglassref01_Reader rfl ?_
          refine go_assign rfl rfl rfl rfl rfl rfl  ?_
          refine go_store rfl rfl rfl rfl rfl siz_spyglassref01_Reader rfl (by omega) (by repeat (first | assumption | exact Tr.get_set_eq _ _ _ | rw [Tr.get_set_ne _ _ (by omega)])) rfl rfl (fun h => by first | exact absurd h (by simp only [Nat.not_lt]; omega) | assumption) ?_
          refine go_end ?_
          refine gon_seq ?_
          refine go_seq ?_
          refine go_region ?_   -- region 13 ref.go:37
          refine go_move rfl rfl rfl rfl rfl rfl  ?_
          refine go_move rfl rfl rfl rfl rfl rfl  ?_
          refine go_indexAddrA rfl rfl rfl rfl rfl rfl rfl arrK_A2_uint64 (j := i) rfl hilt ?_
          refine go_store (cs' := if i = 0 then [.int .u64 ((rVar l s).1 : Int), .int .u64 (q : Int)] else [.int .u64 (p : Int), .int .u64 ((rVar l s).1 : Int)]) rfl rfl rfl rfl rfl siz_uint64 rfl (by omega) (by repeat (first | assumption | exact Tr.get_set_eq _ _ _ | rw [Tr.get_set_ne _ _ (by omega)])) ?_ rfl (fun h => by first | exact absurd h (by simp only [Nat.not_lt]; omega) | assumption) ?_
          · have : i = 0 ∨ i = 1 := by omega
            rcases this with rfl | rfl <;> rfl
          refine go_end ?_
          refine gon_seq ?_
          refine go_region ?_   -- region 14 ref.go:38
          refine go_loadA rfl rfl rfl rfl rfl rfl agg_spyglassref01_Reader siz_spyglassref01_Reader (by omega) (by repeat (first | assumption | exact Tr.get_set_eq _ _ _ | rw [Tr.get_set_ne _ _ (by omega)])) rfl (fun h => by first | exact absurd h (by simp only [Nat.not_lt]; omega) | exact .inl (by assumption) | exact .inr (by assumption)) ?_
          refine go_store rfl rfl rfl rfl rfl siz_spyglassref01_Reader rfl (by omega) (by repeat (first | assumption | exact Tr.get_set_eq _ _ _ | rw [Tr.get_set_ne _ _ (by omega)])) rfl rfl (fun h => by first | exact absurd h (by simp only [Nat.not_lt]; omega) | assumption) ?_
          refine go_end ?_
          refine gon_block ?_
          refine gon_seq ?_
          refine go_region ?_   -- region 7 ref.go:30
          refine go_move rfl rfl rfl rfl rfl rfl  ?_
          refine go_bin rfl rfl rfl rfl rfl rfl rfl rfl (i_add' (wrap_i64 (by omega) (by omega))) ?_
          refine go_assign rfl rfl rfl rfl rfl rfl  ?_
          refine go_end ?_
          refine gon_loop ⟨(i + 1, (rVar l s).2, if i = 0 then (rVar l s).1 else p, if i = 0 then q else (rVar l s).1), (by repeat' (first | exact trivial | rfl | (exact congrArg some (congrArg (Value.int _) (by omega))) | apply And.intro)), by show 2 - (i + 1) < 2 - i; omega, by show c.n0 + 2 ≤ _; omega, ?_⟩
          refine ⟨Tr.get_set_eq _ _ _, ?_, fun b hb => ?_, hilt, by rw [← hgs]; exact hle1, fun h => by simp at h, fun h => ?_, fun h => ?_⟩
          · rw [Tr.get_set_ne _ _ (by omega), Tr.get_set_eq]
            by_cases h0 : i = 0 <;> simp [h0]
          · rw [Tr.get_set_ne _ _ (by omega), Tr.get_set_ne _ _ (by omega), Tr.get_set_ne _ _ (by omega), Tr.get_set_ne _ _ (by omega), hfr1 b (by omega) (fun h => h), hoth b hb]
          · obtain rfl : i = 0 := by simpa using h
            rw [hi0 rfl, hgs]; rfl
          · obtain rfl : i = 1 := by simpa using h
            have e := hi1 rfl
            simp only [e]
            rw [hgs]; exact ⟨rfl, rfl⟩
      · skip
        refine go_exit ?_
        refine gox_seq ?_
        refine gox_loop ?_
        refine gox_out ?_
        refine gon_seq ?_
        refine go_seq ?_
        refine go_seq ?_
        refine go_region ?_   -- region 15 ref.go:41
        refine go_fieldAddr rfl rfl rfl rfl rfl rfl fo_spyglassref01_Reader_2 ?_
        obtain rfl : i = 2 := by simp at hc3; omega
        obtain ⟨g1, g2⟩ := hi22 rfl
        refine go_load rfl rfl rfl rfl rfl rfl agg_int (by omega) (by repeat (first | assumption | exact Tr.get_set_eq _ _ _ | rw [Tr.get_set_ne _ _ (by omega)])) rfl (fun h => by first | exact absurd h (by simp only [Nat.not_lt]; omega) | exact .inl (by assumption) | exact .inr (by assumption)) ?_
        refine go_bin rfl rfl rfl rfl rfl rfl rfl rfl i_neq ?_
        refine go_end ?_
        refine gon_seq ?_
        refine go_cond rfl (fun hc5 => ?_) (fun hc5 => ?_)
        · skip
          refine go_seq ?_
          refine go_region ?_   -- region 16 DRAW ref.go:42
          refine go_fieldAddrD rfl rfl rfl rfl rfl rfl fo_spyglassref01_Reader_2 ?_
          refine go_loadD rfl rfl rfl rfl rfl rfl agg_int (by omega) (by repeat (first | assumption | exact Tr.get_set_eq _ _ _ | rw [Tr.get_set_ne _ _ (by omega)])) rfl (fun h => by first | exact absurd h (by simp only [Nat.not_lt]; omega) | exact .inl (by assumption) | exact .inr (by assumption)) ?_
          refine go_assignD rfl rfl rfl rfl rfl rfl  ?_
          refine go_assignD rfl rfl rfl rfl rfl rfl  ?_
          refine go_assignD rfl rfl rfl rfl rfl rfl  ?_
          refine go_assignD rfl rfl rfl rfl rfl rfl  ?_
          refine go_endD (.inl (by simp [quietP] <;> omega)) ?_
          refine gon_seq ?_
          refine go_ret ?_
          refine go_result ?_
          refine gov_tmp rfl ?_
          refine gov_tmp rfl ?_
          refine gov_tmp rfl ?_
          refine gov_tmp rfl ?_
          refine gov_nil ?_
          have he : s.err ≠ 0 := by simp at hc5; omega
          have hM : getM v l = (0, 0, [], s.err) := by simp only [getM]; rw [if_neg hgv, if_pos (by rw [g2]; exact he), g2]
          rw [hM]
          exact ⟨none, 0, rfl, .nil⟩
        · skip
          refine go_skip ?_
          refine gon_seq ?_
          refine go_seq ?_
          refine go_region ?_   -- region 17 DRAW ref.go:44
          have he : s.err = 0 := by simp at hc5; omega
          have hM : getM v l = (p, q, l.drop s.at', 0) := by
            simp only [getM]; rw [if_neg hgv, if_neg (by rw [g2]; simpa using he), g2]
            have := congrArg Prod.fst g1
            simp only at this
            rw [this]
          refine go_indexAddrAD rfl rfl rfl rfl rfl rfl rfl arrK_A2_uint64 (j := 0) rfl (by decide) ?_
          refine go_loadD rfl rfl rfl rfl rfl rfl agg_uint64 (by omega) (by repeat (first | assumption | exact Tr.get_set_eq _ _ _ | rw [Tr.get_set_ne _ _ (by omega)])) rfl (fun h => by first | exact absurd h (by simp only [Nat.not_lt]; omega) | exact .inl (by assumption) | exact .inr (by assumption)) ?_
          refine go_indexAddrAD rfl rfl rfl rfl rfl rfl rfl arrK_A2_uint64 (j := 1) rfl (by decide) ?_
          refine go_loadD rfl rfl rfl rfl rfl rfl agg_uint64 (by omega) (by repeat (first | assumption | exact Tr.get_set_eq _ _ _ | rw [Tr.get_set_ne _ _ (by omega)])) rfl (fun h => by first | exact absurd h (by simp only [Nat.not_lt]; omega) | exact .inl (by assumption) | exact .inr (by assumption)) ?_
          refine go_moveD rfl rfl rfl rfl rfl rfl  ?_
          refine go_fieldAddrD rfl rfl rfl rfl rfl rfl fo_spyglassref01_Reader_1 ?_
          refine go_loadD rfl rfl rfl rfl rfl rfl agg_int (by omega) (by repeat (first | assumption | exact Tr.get_set_eq _ _ _ | rw [Tr.get_set_ne _ _ (by omega)])) rfl (fun h => by first | exact absurd h (by simp only [Nat.not_lt]; omega) | exact .inl (by assumption) | exact .inr (by assumption)) ?_
          refine go_sliceD (l := s.at') (h := l.length) rfl rfl rfl rfl rfl rfl eltK_S_uint8 rfl rfl rfl rfl hs.cap hat (Nat.le_refl _) (fun a1 code1 hcap hsub => ?_)
          have hs1 := (hs.narrow.frame (n' := n') (H' := H') (by omega) (fun _ h => h) (fun b _ hb => hoth b hb)).sub hat (Nat.le_refl _) hcap hsub
          rw [u8s_sub, List.take_of_length_le (by simp)] at hs1
          -- call spyglass/spyglassref01.Copy
          refine go_callD (fun b => c.R b ∧ b < c.n0) (fun _ => False) rfl rfl rfl rfl rfl rfl rfl rfl rfl (ref1Copy_ok ⟨n', (fun b => c.R b ∧ b < c.n0), (fun _ => False)⟩ _ hs1 (by omega) d hd) (fun _ _ h => .inl h.1) (fun _ _ h => h.elim) (fun v7 n7 H7 hle7 hfr7 hp7 => ?_)
          obtain ⟨a7, code7, rfl, hnew7⟩ := hp7
          dsimp only at hnew7
          refine go_assignD rfl rfl rfl rfl rfl rfl  ?_
          refine go_assignD rfl rfl rfl rfl rfl rfl  ?_
          refine go_assignD rfl rfl rfl rfl rfl rfl  ?_
          refine go_assignD rfl rfl rfl rfl rfl rfl  ?_
          refine go_endD (.inl (by simp [quietP]; repeat' (first | assumption | omega | apply And.intro | (intro b _ h; omega)))) ?_
          refine gon_seq ?_
          refine go_ret ?_
          refine go_result ?_
          refine gov_tmp rfl ?_
          refine gov_tmp rfl ?_
          refine gov_tmp rfl ?_
          refine gov_tmp rfl ?_
          refine gov_nil ?_
          rw [hM]
          refine ⟨a7, code7, by simp [tupled], ?_⟩
          simpa using hnew7.mono (Nat.le_refl _) (by omega) (fun _ _ _ => rfl)
end Go.Proofs.YtmebclfkkloccaaGreatDoor

